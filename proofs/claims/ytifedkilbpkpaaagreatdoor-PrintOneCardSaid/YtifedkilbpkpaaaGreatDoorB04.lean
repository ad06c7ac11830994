/- Layer 1: the exponent's number is walked. -/
import Derived.Test.YtifedkilbpkpaaaGreatDoorB01
import Derived.Test.YtifedkilbpkpaaaGreatDoorB03
import Derived.Lib.DecodeN
import Derived.Lib.ValidLaws
import Derived.Shelf.Strings.SlTrimAscii
import Derived.Deep.DeepCutAuto
import Derived.Deep.CutBlock
import Derived.Lib.IndexMore
import Derived.Lib.IndexAny
import Derived.Lib.IndexLaws
import Derived.Lib.Atoi
import Derived.Lib.AtoiErrMem
/- What the language's own reading of a string's characters finds: a character's bytes are read as it; what is read, and is not the invalid one, stands there as its bytes. No program in sight. -/
set_option linter.unusedVariables false
set_option linter.unusedSimpArgs false
namespace Go.Proofs.YtifedkilbpkpaaaGreatDoor
open Go.RowKit Rn
theorem byte_eq {b : UInt8} {z : Int} (h0 : 0 ≤ z) (h1 : z < 256) (h : (b.toNat : Int) = z) : z.toNat.toUInt8 = b := by
  apply UInt8.toNat_inj.1
  rw [b_of z h0 h1]; omega
theorem take_two (l : List UInt8) (i : Nat) (h : i + 1 < l.length) : (l.drop i).take 2 = [l[i]?.getD 0, l[i + 1]?.getD 0] := by
  rw [List.getElem?_eq_getElem (by omega), List.getElem?_eq_getElem h, List.drop_eq_getElem_cons (by omega), List.drop_eq_getElem_cons h]; rfl
theorem take_three (l : List UInt8) (i : Nat) (h : i + 2 < l.length) : (l.drop i).take 3 = [l[i]?.getD 0, l[i + 1]?.getD 0, l[i + 2]?.getD 0] := by
  rw [List.getElem?_eq_getElem (by omega), List.getElem?_eq_getElem (show i + 1 < l.length by omega), List.getElem?_eq_getElem h, List.drop_eq_getElem_cons (by omega), List.drop_eq_getElem_cons (show i + 1 < l.length by omega), List.drop_eq_getElem_cons h]; rfl
theorem take_four (l : List UInt8) (i : Nat) (h : i + 3 < l.length) : (l.drop i).take 4 = [l[i]?.getD 0, l[i + 1]?.getD 0, l[i + 2]?.getD 0, l[i + 3]?.getD 0] := by
  rw [List.getElem?_eq_getElem (by omega), List.getElem?_eq_getElem (show i + 1 < l.length by omega), List.getElem?_eq_getElem (show i + 2 < l.length by omega), List.getElem?_eq_getElem h, List.drop_eq_getElem_cons (by omega), List.drop_eq_getElem_cons (show i + 1 < l.length by omega), List.drop_eq_getElem_cons (show i + 2 < l.length by omega), List.drop_eq_getElem_cons h]; rfl
/-- what is read and is not wrong stands there -/
theorem decode_enc' (l : List UInt8) (i : Nat) (h : i < l.length) (hne : ¬ ((Utf8.decode (bytesOf l) i).1 = 65533 ∧ (Utf8.decode (bytesOf l) i).2 = 1)) :
    isB ((Utf8.decode (bytesOf l) i).1 : Int) = true ∧ i + (Utf8.decode (bytesOf l) i).2 ≤ l.length ∧ (l.drop i).take (Utf8.decode (bytesOf l) i).2 = Lib.encodeRune ((Utf8.decode (bytesOf l) i).1 : Int) := by
  rw [Lib.decode_at, bytesOf_size] at *
  rw [bytesOf_get, bytesOf_get, bytesOf_get, bytesOf_get] at *
  have b0 := UInt8.toNat_lt (l[i]?.getD 0)
  have b1 := UInt8.toNat_lt (l[i + 1]?.getD 0)
  have b2 := UInt8.toNat_lt (l[i + 2]?.getD 0)
  have b3 := UInt8.toNat_lt (l[i + 3]?.getD 0)
  have t1 : (l.drop i).take 1 = [l[i]?.getD 0] := by
    rw [List.getElem?_eq_getElem h, List.drop_eq_getElem_cons h]; rfl
  have t2 := take_two l i
  have t3 := take_three l i
  have t4 := take_four l i
  generalize hc0 : l[i]?.getD 0 = c0 at *
  generalize hc1 : l[i + 1]?.getD 0 = c1 at *
  generalize hc2 : l[i + 2]?.getD 0 = c2 at *
  generalize hc3 : l[i + 3]?.getD 0 = c3 at *
  revert hne
  unfold Lib.decodeN
  split
  · intro _
    have e : Lib.encodeRune (c0.toNat : Int) = [c0] := by
      have : Lib.encodeRune (c0.toNat : Int) = [((c0.toNat : Int)).toNat.toUInt8] := by simp [Lib.encodeRune, Lib.encodeRuneZ_one (by omega : (0 : Int) ≤ c0.toNat) (by omega : (c0.toNat : Int) ≤ 127)]
      rw [this, byte_eq (by omega) (by omega) rfl]
    refine ⟨?_, by omega, ?_⟩
    · unfold isB; simp; omega
    · rw [t1, e]
  · split
    · split
      · rename_i h1 h2 h3
        intro _
        refine ⟨?_, by simp only; omega, ?_⟩
        · unfold isB; simp only [decide_eq_true_eq]; omega
        · simp only
          rw [t2 (by omega)]
          unfold Lib.encodeRune
          rw [Lib.encodeRuneZ_two (r := ((c0.toNat % 32 * 64 + c1.toNat % 64 : Nat) : Int)) (by omega) (by omega)]
          simp only [List.map_cons, List.map_nil]
          rw [byte_eq (b := c0) (by omega) (by omega) (by omega), byte_eq (b := c1) (by omega) (by omega) (by omega)]
      · intro h; exact absurd ⟨rfl, rfl⟩ h
    · split
      · split
        · rename_i h1 h2 h3 h4
          intro _
          refine ⟨?_, by simp only; omega, ?_⟩
          · unfold isB; simp only [decide_eq_true_eq]; omega
          · simp only
            rw [t3 (by omega)]
            unfold Lib.encodeRune
            rw [Lib.encodeRuneZ_three (r := ((c0.toNat % 16 * 4096 + c1.toNat % 64 * 64 + c2.toNat % 64 : Nat) : Int)) (by omega)]
            simp only [List.map_cons, List.map_nil]
            rw [byte_eq (b := c0) (by omega) (by omega) (by omega), byte_eq (b := c1) (by omega) (by omega) (by omega), byte_eq (b := c2) (by omega) (by omega) (by omega)]
        · intro h; exact absurd ⟨rfl, rfl⟩ h
      · split
        · split
          · rename_i h1 h2 h3 h4 h5
            intro _
            refine ⟨?_, by simp only; omega, ?_⟩
            · unfold isB; simp only [decide_eq_true_eq]; omega
            · simp only
              rw [t4 (by omega)]
              unfold Lib.encodeRune
              rw [Lib.encodeRuneZ_four (r := ((c0.toNat % 8 * 262144 + c1.toNat % 64 * 4096 + c2.toNat % 64 * 64 + c3.toNat % 64 : Nat) : Int)) (by omega) (by omega)]
              simp only [List.map_cons, List.map_nil]
              rw [byte_eq (b := c0) (by omega) (by omega) (by omega), byte_eq (b := c1) (by omega) (by omega) (by omega), byte_eq (b := c2) (by omega) (by omega) (by omega), byte_eq (b := c3) (by omega) (by omega) (by omega)]
          · intro h; exact absurd ⟨rfl, rfl⟩ h
        · intro h; exact absurd ⟨rfl, rfl⟩ h
/-- what is read and is not the invalid one stands there -/
theorem decode_enc (l : List UInt8) (i : Nat) (h : i < l.length) (hne : (Utf8.decode (bytesOf l) i).1 ≠ 65533) :
    isB ((Utf8.decode (bytesOf l) i).1 : Int) = true ∧ i + (Utf8.decode (bytesOf l) i).2 ≤ l.length ∧ (l.drop i).take (Utf8.decode (bytesOf l) i).2 = Lib.encodeRune ((Utf8.decode (bytesOf l) i).1 : Int) := decode_enc' l i h (fun e => hne e.1)
theorem isB_range' {c : Int} (h : isB c = true) : 0 ≤ c ∧ c ≤ 1114111 := by unfold isB at h; simp at h; omega
end Go.Proofs.YtifedkilbpkpaaaGreatDoor
/- Layer 4: a text's characters: which bytes are UTF-8, as the library and the language read them. No program in sight. -/
set_option linter.unusedVariables false
set_option linter.unusedSimpArgs false
namespace Go.Proofs.YtifedkilbpkpaaaGreatDoor
open Go.RowKit Rn
namespace Tp
/-- the characters of a text that is UTF-8 -/
def utfF : Nat → List UInt8 → Option (List Int)
  | 0, _ => some []
  | n + 1, l => if l = [] then some [] else if (Lib.decodeL l).1 = 65533 ∧ (Lib.decodeL l).2 = 1 then none else (utfF n (l.drop (Lib.decodeL l).2)).map (((Lib.decodeL l).1 : Int) :: ·)
def utfP (l : List UInt8) : Option (List Int) := utfF l.length l
end Tp
open Tp
theorem decL_at (l : List UInt8) : Lib.decodeL l = Utf8.decode (bytesOf l) 0 := rfl
theorem decL_N (l : List UInt8) : Lib.decodeL l = Lib.decodeN l.length (l[0]?.getD 0).toNat (l[1]?.getD 0).toNat (l[2]?.getD 0).toNat (l[3]?.getD 0).toNat := by
  rw [decL_at, Lib.decode_at, bytesOf_size, bytesOf_get, bytesOf_get, bytesOf_get, bytesOf_get]; rfl
theorem decL_pos {l : List UInt8} (h : l ≠ []) : 1 ≤ (Lib.decodeL l).2 := by
  rw [decL_N]
  unfold Lib.decodeN
  (repeat' split) <;> simp
theorem decL_enc {l : List UInt8} (hne : l ≠ []) (h : ¬ ((Lib.decodeL l).1 = 65533 ∧ (Lib.decodeL l).2 = 1)) :
    isB ((Lib.decodeL l).1 : Int) = true ∧ (Lib.decodeL l).2 ≤ l.length ∧ l.take (Lib.decodeL l).2 = Lib.encodeRune ((Lib.decodeL l).1 : Int) := by
  have hl := List.length_pos_iff.2 hne
  rw [decL_at] at *
  have := decode_enc' l 0 hl h
  rw [Nat.zero_add, List.drop_zero] at this
  exact this
theorem decL_write (c : Int) (hc : isB c = true) (rest : List UInt8) : Lib.decodeL (Lib.encodeRune c ++ rest) = (c.toNat, (Lib.encodeRune c).length) := by
  have hc' : 0 ≤ c ∧ c ≤ 1114111 ∧ (c < 55296 ∨ 57343 < c) := by simpa [isB] using hc
  obtain ⟨h0, h1, h2⟩ := hc'
  by_cases c1 : c < 128
  · have e : Lib.encodeRune c = [c.toNat.toUInt8] := by simp [Lib.encodeRune, Lib.encodeRuneZ_one h0 (by omega : c ≤ 127)]
    rw [e]
    have g0 := b_of c h0 (by omega)
    generalize c.toNat.toUInt8 = b0 at *
    rw [decL_N]
    unfold Lib.decodeN
    simp
    rw [if_pos (by omega), g0]
  · by_cases c2 : c < 2048
    · have e : Lib.encodeRune c = [(192 + c / 64).toNat.toUInt8, (128 + c % 64).toNat.toUInt8] := by simp [Lib.encodeRune, Lib.encodeRuneZ_two (by omega : 128 ≤ c) (by omega)]
      rw [e]
      have g0 := b_of (192 + c / 64) (by omega) (by omega)
      have g1 := b_of (128 + c % 64) (by omega) (by omega)
      generalize (192 + c / 64).toNat.toUInt8 = b0 at *
      generalize (128 + c % 64).toNat.toUInt8 = b1 at *
      rw [decL_N]
      unfold Lib.decodeN
      simp
      rw [if_neg (by omega), if_pos (by omega), if_pos (by omega)]
      simp; omega
    · by_cases c3 : c < 65536
      · have e : Lib.encodeRune c = [(224 + c / 4096).toNat.toUInt8, (128 + c / 64 % 64).toNat.toUInt8, (128 + c % 64).toNat.toUInt8] := by simp [Lib.encodeRune, Lib.encodeRuneZ_three (r := c) (by omega)]
        rw [e]
        have g0 := b_of (224 + c / 4096) (by omega) (by omega)
        have g1 := b_of (128 + c / 64 % 64) (by omega) (by omega)
        have g2 := b_of (128 + c % 64) (by omega) (by omega)
        generalize (224 + c / 4096).toNat.toUInt8 = b0 at *
        generalize (128 + c / 64 % 64).toNat.toUInt8 = b1 at *
        generalize (128 + c % 64).toNat.toUInt8 = b2 at *
        rw [decL_N]
        unfold Lib.decodeN
        simp
        rw [if_neg (by omega), if_neg (by omega), if_pos (by omega), if_pos (by omega)]
        simp; omega
      · have e : Lib.encodeRune c = [(240 + c / 262144).toNat.toUInt8, (128 + c / 4096 % 64).toNat.toUInt8, (128 + c / 64 % 64).toNat.toUInt8, (128 + c % 64).toNat.toUInt8] := by simp [Lib.encodeRune, Lib.encodeRuneZ_four (by omega : 65536 ≤ c) (by omega)]
        rw [e]
        have g0 := b_of (240 + c / 262144) (by omega) (by omega)
        have g1 := b_of (128 + c / 4096 % 64) (by omega) (by omega)
        have g2 := b_of (128 + c / 64 % 64) (by omega) (by omega)
        have g3 := b_of (128 + c % 64) (by omega) (by omega)
        generalize (240 + c / 262144).toNat.toUInt8 = b0 at *
        generalize (128 + c / 4096 % 64).toNat.toUInt8 = b1 at *
        generalize (128 + c / 64 % 64).toNat.toUInt8 = b2 at *
        generalize (128 + c % 64).toNat.toUInt8 = b3 at *
        rw [decL_N]
        unfold Lib.decodeN
        simp
        rw [if_neg (by omega), if_neg (by omega), if_neg (by omega), if_pos (by omega), if_pos (by omega)]
        simp; omega
theorem utfF_fuel : ∀ (n m : Nat) (l : List UInt8), l.length ≤ n → l.length ≤ m → utfF n l = utfF m l
  | 0, m, l, h, _ => by
    have : l = [] := List.eq_nil_of_length_eq_zero (by omega)
    subst this
    cases m <;> simp [utfF]
  | n + 1, 0, l, _, h => by
    have : l = [] := List.eq_nil_of_length_eq_zero (by omega)
    subst this
    simp [utfF]
  | n + 1, m + 1, l, h1, h2 => by
    by_cases hl : l = []
    · subst hl; simp [utfF]
    · have hp := decL_pos hl
      have hlen := List.length_pos_iff.2 hl
      unfold utfF
      rw [if_neg hl, if_neg hl, utfF_fuel n m (l.drop (Lib.decodeL l).2) (by rw [List.length_drop]; omega) (by rw [List.length_drop]; omega)]
theorem utfP_nil : utfP [] = some [] := rfl
theorem utfP_step {l : List UInt8} (hl : l ≠ []) : utfP l = if (Lib.decodeL l).1 = 65533 ∧ (Lib.decodeL l).2 = 1 then none else (utfP (l.drop (Lib.decodeL l).2)).map (((Lib.decodeL l).1 : Int) :: ·) := by
  have hp := decL_pos hl
  have hlen := List.length_pos_iff.2 hl
  obtain ⟨n, hn⟩ : ∃ n, l.length = n + 1 := ⟨l.length - 1, by omega⟩
  unfold utfP
  rw [hn]
  conv => lhs; unfold utfF
  rw [if_neg hl, utfF_fuel n (l.drop (Lib.decodeL l).2).length _ (by rw [List.length_drop]; omega) (Nat.le_refl _)]
theorem utf_valid (l : List UInt8) : Lib.validD l = (utfP l).isSome := by
  have key : ∀ n, ∀ l : List UInt8, l.length ≤ n → Lib.validD l = (utfP l).isSome := by
    intro n
    induction n with
    | zero =>
      intro l h
      have : l = [] := List.eq_nil_of_length_eq_zero (by omega)
      subst this; rfl
    | succ n ih =>
      intro l h
      by_cases hl : l = []
      · subst hl; rfl
      · have hp := decL_pos hl
        have hlen := List.length_pos_iff.2 hl
        rw [Lib.validD_step l hl, utfP_step hl]
        split
        · rfl
        · rw [ih _ (by rw [List.length_drop]; omega), Option.isSome_map]
  exact key _ l (Nat.le_refl _)
theorem utf_write : ∀ (cs : List Int), (∀ c ∈ cs, isB c = true) → utfP (writeP cs) = some cs
  | [], _ => by simp [writeP, utfP_nil]
  | c :: cs, h => by
    have hc := h c (by simp)
    have hw : writeP (c :: cs) = Lib.encodeRune c ++ writeP cs := by simp [writeP]
    have hd := decL_write c hc (writeP cs)
    have hr := isB_range' hc
    have hne : writeP (c :: cs) ≠ [] := by rw [hw]; exact enc_ne c _
    have hlen := (encode_len c).1
    rw [utfP_step hne, hw, hd]
    simp only
    rw [if_neg, List.drop_left, utf_write cs (fun d hd => h d (by simp [hd]))]
    · simp; omega
    · rintro ⟨e1, e2⟩
      have : c = 65533 := by omega
      subst this
      exact absurd e2 (by decide)
theorem utf_some {l : List UInt8} {cs : List Int} (h : utfP l = some cs) : l = writeP cs ∧ ∀ c ∈ cs, isB c = true := by
  have key : ∀ n, ∀ (l : List UInt8) (cs : List Int), l.length ≤ n → utfP l = some cs → l = writeP cs ∧ ∀ c ∈ cs, isB c = true := by
    intro n
    induction n with
    | zero =>
      intro l cs hl h
      have : l = [] := List.eq_nil_of_length_eq_zero (by omega)
      subst this
      rw [utfP_nil] at h
      injection h with h; subst h
      exact ⟨by simp [writeP], by simp⟩
    | succ n ih =>
      intro l cs hl h
      by_cases hne : l = []
      · subst hne
        rw [utfP_nil] at h
        injection h with h; subst h
        exact ⟨by simp [writeP], by simp⟩
      · have hp := decL_pos hne
        have hlen := List.length_pos_iff.2 hne
        rw [utfP_step hne] at h
        split at h
        · cases h
        · rename_i hbad
          obtain ⟨e1, e2, e3⟩ := decL_enc hne hbad
          cases hr : utfP (l.drop (Lib.decodeL l).2) with
          | none => rw [hr] at h; cases h
          | some r =>
            rw [hr] at h
            simp only [Option.map_some, Option.some.injEq] at h
            subst h
            obtain ⟨f1, f2⟩ := ih _ r (by rw [List.length_drop]; omega) hr
            have hw : writeP (((Lib.decodeL l).1 : Int) :: r) = Lib.encodeRune ((Lib.decodeL l).1 : Int) ++ writeP r := by simp [writeP]
            refine ⟨?_, fun c hc => ?_⟩
            · rw [hw, ← e3, ← f1, List.take_append_drop]
            · rcases List.mem_cons.1 hc with rfl | hc
              · exact e1
              · exact f2 c hc
  exact key _ l cs (Nat.le_refl _) h
end Go.Proofs.YtifedkilbpkpaaaGreatDoor
/- Layer 1: how long the decimal is with which a text begins: the program's sign, digits and Length are walked. -/
set_option linter.unusedVariables false
set_option linter.unusedSimpArgs false
namespace Go.Proofs.YtifedkilbpkpaaaGreatDoor
open Go.RowKit
namespace Fx
def isD (b : UInt8) : Bool := decide (48 ≤ b.toNat ∧ b.toNat ≤ 57)
/-- how many digits a text begins with -/
def digs (l : List UInt8) : Nat := (l.takeWhile isD).length
/-- how many bytes a sign has there -/
def sgn : List UInt8 → Nat
  | [] => 0
  | b :: _ => if b.toNat = 43 ∨ b.toNat = 45 then 1 else 0
def isE (b : Option UInt8) : Bool := match b with
  | some b => decide (b.toNat = 101 ∨ b.toNat = 69)
  | none => false
/-- how many bytes the exponent has, behind its letter -/
def expLen (l : List UInt8) : Nat := if 0 < digs (l.drop (sgn l)) then sgn l + digs (l.drop (sgn l)) else 0
/-- where the digits end, the point and the ones behind it among them -/
def bodyLen (l : List UInt8) : Nat :=
  let a := sgn l + digs (l.drop (sgn l))
  if l[a]? = some 46 ∧ 0 < digs (l.drop (a + 1)) then a + 1 + digs (l.drop (a + 1)) else a
/-- is there a digit at all? -/
def some_ (l : List UInt8) : Bool :=
  let a := sgn l + digs (l.drop (sgn l))
  decide (0 < digs (l.drop (sgn l)) ∨ (l[a]? = some 46 ∧ 0 < digs (l.drop (a + 1))))
def lenP (l : List UInt8) : Nat :=
  if some_ l = false then 0 else
  let a := bodyLen l
  if isE l[a]? = true ∧ 0 < expLen (l.drop (a + 1)) then a + 1 + expLen (l.drop (a + 1)) else a
end Fx
open Fx
theorem digs_le (l : List UInt8) : digs l ≤ l.length := by
  unfold digs
  exact (List.takeWhile_prefix isD).length_le
theorem sgn_le (l : List UInt8) : sgn l ≤ l.length ∧ sgn l ≤ 1 := by
  cases l with
  | nil => simp [sgn]
  | cons b l => simp only [sgn]; split <;> simp
def digitText : ByteArray := ⟨#[48, 49, 50, 51, 52, 53, 54, 55, 56, 57]⟩
theorem digit_in : ∀ b : Fin 256, digitText.data.toList.contains (UInt8.ofNat b.val) = isD (UInt8.ofNat b.val) := by decide +kernel
theorem digit_in' (b : UInt8) : digitText.data.toList.contains b = isD b := by
  have h := digit_in ⟨b.toNat, b.toNat_lt⟩
  have e : UInt8.ofNat b.toNat = b := by simp
  simp only [e] at h
  exact h
theorem trim_digits (l : List UInt8) : Lib.trimLeftS l digitText.data.toList = l.drop (digs l) := by
  unfold Lib.trimLeftS digs
  have : (fun b => digitText.data.toList.contains b) = isD := funext digit_in'
  rw [this]
  induction l with
  | nil => rfl
  | cons b l ih =>
    cases h : isD b with
    | true => simp [List.dropWhile_cons, List.takeWhile_cons, h, ih]
    | false => simp [List.dropWhile_cons, List.takeWhile_cons, h]

set_option maxRecDepth 100000 in
theorem fx_digits (l : List UInt8) (w : World) (hl : l.length ≤ 9223372036854775807) :
    Calls Tryz.prog 80 #[.string (bytesOf l)] w fun e w' => e = .returned (.int .i64 (digs l : Nat)) ∧ Below w.heap.size w w' := by
  have hd := digs_le l
  have hs := bytesOf_size l
  have hs2 := bytesOf_size (l.drop (digs l))
  rw [List.length_drop] at hs2
  have Hs := Lib.hid hs
  have Hs2 := Lib.hid hs2
  clear hs hs2
  go_enter Tryz.func80, Tryz.ntmps80
  go_wp2_with fail
  refine (Any.strings_TrimLeft_laid Tryz.lays161 (by kernel_rfl) (bytesOf l) digitText w (by decide) (ascii_of_all (by decide))).mono ?_
  rintro e w1 ⟨rfl, hb⟩
  rw [bytesOf_list, trim_digits]
  rw [show (⟨(List.drop (digs l) l).toArray⟩ : ByteArray) = bytesOf (l.drop (digs l)) from rfl]
  go_wp2_with fail
  go_ret
  refine ⟨ret_int ?_, hb⟩
  rw [Hs.out, Hs2.out, IntWalk.wrap64_in _ (by omega)]
  omega
set_option maxRecDepth 100000 in
theorem fx_sign (l : List UInt8) (w : World) (hl : l.length ≤ 9223372036854775807) :
    Calls Tryz.prog 79 #[.string (bytesOf l)] w fun e w' => e = .returned (.int .i64 (sgn l : Nat)) ∧ w = w' := by
  cases l with
  | nil =>
    obtain ⟨e1, e2⟩ := str_none
    go_enter Tryz.func79, Tryz.ntmps79
    go_wp2
    go_ret
    exact ⟨rfl, rfl⟩
  | cons b l =>
    have hat := str_at (P := Tryz.prog) (T := 9) Tryz.underlying9 (b :: l) .i64 0 b rfl
    rw [Int.ofNat_zero] at hat
    obtain ⟨e1, e2⟩ := str_some (l := b :: l) (by simp)
    have hv : sgn (b :: l) = if b.toNat = 43 ∨ b.toNat = 45 then 1 else 0 := rfl
    by_cases h1 : b.toNat = 43
    · rw [if_pos (.inl h1)] at hv
      have Hv := Lib.hid hv
      clear hv
      rw [h1] at hat
      go_enter Tryz.func79, Tryz.ntmps79
      go_wp2
      go_ret
      exact ⟨ret_int (by rw [Hv.out]; rfl), rfl⟩
    · by_cases h2 : b.toNat = 45
      · rw [if_pos (.inr h2)] at hv
        have Hv := Lib.hid hv
        clear hv
        rw [h2] at hat
        go_enter Tryz.func79, Tryz.ntmps79
        go_wp2
        go_ret
        exact ⟨ret_int (by rw [Hv.out]; rfl), rfl⟩
      · have hc1 : ((b.toNat : Int) == 43) = false := byte_ne h1
        have hc2 : ((b.toNat : Int) == 45) = false := byte_ne h2
        rw [if_neg (by omega)] at hv
        have Hv := Lib.hid hv
        clear hv
        go_enter Tryz.func79, Tryz.ntmps79
        go_wp2
        go_ret
        exact ⟨ret_int (by rw [Hv.out]; rfl), rfl⟩
end Go.Proofs.YtifedkilbpkpaaaGreatDoor
/- Layer 1: the document's digit and Length are walked. -/
set_option linter.unusedVariables false
set_option linter.unusedSimpArgs false
namespace Go.Proofs.YtifedkilbpkpaaaGreatDoor
open Go.RowKit Fx
namespace Fx
def isDAt (l : List UInt8) (i : Nat) : Bool := match l[i]? with
  | some b => isD b
  | none => false
end Fx
theorem isD_at {l : List UInt8} {i : Nat} (h : isDAt l i = true) : ∃ b, l[i]? = some b ∧ 48 ≤ b.toNat ∧ b.toNat ≤ 57 := by
  unfold isDAt at h
  split at h
  · rename_i b hb; exact ⟨b, hb, by simpa [isD] using h⟩
  · cases h
theorem digs_drop_yes {l : List UInt8} {i : Nat} (h : isDAt l i = true) : digs (l.drop i) = digs (l.drop (i + 1)) + 1 := by
  unfold isDAt at h
  split at h
  · rename_i b hb
    obtain ⟨hi, rfl⟩ := List.getElem?_eq_some_iff.1 hb
    unfold digs
    rw [List.drop_eq_getElem_cons hi, List.takeWhile_cons, if_pos h, List.length_cons]
  · cases h
theorem digs_drop_no {l : List UInt8} {i : Nat} (h : isDAt l i = false) : digs (l.drop i) = 0 := by
  unfold isDAt at h
  split at h
  · rename_i b hb
    obtain ⟨hi, rfl⟩ := List.getElem?_eq_some_iff.1 hb
    unfold digs
    rw [List.drop_eq_getElem_cons hi, List.takeWhile_cons, if_neg (by rw [h]; decide)]; rfl
  · rename_i hb
    rw [List.drop_eq_nil_of_le (List.getElem?_eq_none_iff.1 hb)]; rfl
theorem sgn_cases (l : List UInt8) (j : Nat) : (l.length ≤ j ∧ sgn (l.drop j) = 0) ∨ (∃ b, l[j]? = some b ∧ ((b.toNat = 43 ∧ sgn (l.drop j) = 1) ∨ (b.toNat = 45 ∧ sgn (l.drop j) = 1) ∨ (¬ b.toNat = 43 ∧ ¬ b.toNat = 45 ∧ sgn (l.drop j) = 0))) := by
  by_cases hj : j < l.length
  · refine .inr ⟨l[j], List.getElem?_eq_getElem hj, ?_⟩
    rw [List.drop_eq_getElem_cons hj]
    by_cases h1 : l[j].toNat = 43
    · exact .inl ⟨h1, if_pos (.inl h1)⟩
    · by_cases h2 : l[j].toNat = 45
      · exact .inr (.inl ⟨h2, if_pos (.inr h2)⟩)
      · exact .inr (.inr ⟨h1, h2, if_neg (by omega)⟩)
  · exact .inl ⟨by omega, by rw [List.drop_eq_nil_of_le (by omega)]; rfl⟩
theorem isE_cases (l : List UInt8) (j : Nat) : (l.length ≤ j ∧ isE l[j]? = false) ∨ (∃ b, l[j]? = some b ∧ ((b.toNat = 101 ∧ isE l[j]? = true) ∨ (b.toNat = 69 ∧ isE l[j]? = true) ∨ (¬ b.toNat = 101 ∧ ¬ b.toNat = 69 ∧ isE l[j]? = false))) := by
  cases hb : l[j]? with
  | none => exact .inl ⟨List.getElem?_eq_none_iff.1 hb, rfl⟩
  | some b =>
    refine .inr ⟨b, rfl, ?_⟩
    by_cases h1 : b.toNat = 101
    · exact .inl ⟨h1, by simp [isE, h1]⟩
    · by_cases h2 : b.toNat = 69
      · exact .inr (.inl ⟨h2, by simp [isE, h2]⟩)
      · exact .inr (.inr ⟨h1, h2, by simp [isE, h1, h2]⟩)
theorem dot_cases (l : List UInt8) (j : Nat) : (l.length ≤ j ∧ ¬ l[j]? = some 46) ∨ (∃ b, l[j]? = some b ∧ ((b.toNat = 46 ∧ l[j]? = some 46) ∨ (¬ b.toNat = 46 ∧ ¬ l[j]? = some 46))) := by
  cases hb : l[j]? with
  | none => exact .inl ⟨List.getElem?_eq_none_iff.1 hb, by simp⟩
  | some b =>
    refine .inr ⟨b, rfl, ?_⟩
    by_cases h1 : b.toNat = 46
    · exact .inl ⟨h1, by congr 1; exact UInt8.toNat_inj.1 h1⟩
    · exact .inr ⟨h1, by intro h; injection h with h; subst h; exact h1 rfl⟩
theorem isDAt_digs (l : List UInt8) (j : Nat) : isDAt l j = decide (0 < digs (l.drop j)) := by
  cases h : isDAt l j with
  | true => have := digs_drop_yes h; simp; omega
  | false => have := digs_drop_no h; simp; omega
theorem lenP_none {l : List UInt8} (h : some_ l = false) : lenP l = 0 := by simp [lenP, h]
theorem lenP_tail {l : List UInt8} {A : Nat} (h : some_ l = true) (hA : bodyLen l = A) :
    (isE l[A]? = false → lenP l = A) ∧ (isE l[A]? = true → ∀ k m, sgn (l.drop (A + 1)) = k → digs (l.drop (A + 1 + k)) = m → lenP l = if 0 < m then A + 1 + k + m else A) := by
  subst hA
  constructor
  · intro he; simp [lenP, h, he]
  · rintro he k m rfl rfl
    have hx : expLen (l.drop (bodyLen l + 1)) = if 0 < digs (l.drop (bodyLen l + 1 + sgn (l.drop (bodyLen l + 1)))) then sgn (l.drop (bodyLen l + 1)) + digs (l.drop (bodyLen l + 1 + sgn (l.drop (bodyLen l + 1)))) else 0 := by
      simp only [expLen, List.drop_drop]
    simp only [lenP, h, he, hx]
    rw [if_neg (by simp)]
    by_cases h0 : 0 < digs (l.drop (bodyLen l + 1 + sgn (l.drop (bodyLen l + 1))))
    · rw [if_pos h0, if_pos ⟨trivial, by omega⟩, if_pos h0]; omega
    · rw [if_neg h0, if_neg (by simp), if_neg h0]
theorem bodyLen_le (l : List UInt8) : bodyLen l ≤ l.length := by
  have h1 := sgn_le l
  have h2 := digs_le (l.drop (sgn l))
  rw [List.length_drop] at h2
  unfold bodyLen
  simp only []
  split
  · rename_i h
    have h3 := digs_le (l.drop (sgn l + digs (l.drop (sgn l)) + 1))
    rw [List.length_drop] at h3
    have := (List.getElem?_eq_some_iff.1 h.1).1
    omega
  · omega
end Go.Proofs.YtifedkilbpkpaaaGreatDoor
/- Layer 1: which number a decimal is, and what its loops reckon: plain laws. -/
set_option linter.unusedVariables false
set_option linter.unusedSimpArgs false
namespace Go.Proofs.YtifedkilbpkpaaaGreatDoor
open Go.RowKit Fx
namespace Fx
/-- a digit's number -/
def dv (b : UInt8) : Nat := b.toNat - 48
/-- the number of a row of digits -/
def val (l : List UInt8) : Nat := l.foldl (fun n b => 10 * n + dv b) 0
/-- the number of the first i digits of a row, noughts behind its end -/
def vA (d : List UInt8) : Nat → Nat
  | 0 => 0
  | i + 1 => 10 * vA d i + ((d[i]?).map dv).getD 0
def M : Nat := 1099511627776
def foldN (d : List UInt8) (p : Int) : Nat := min (vA d p.toNat) M
/-- an exponent's number -/
def powP (x : List UInt8) : Int :=
  if x = [] then 0 else
  let n : Nat := if x.length - sgn x ≤ 6 then val (x.drop (sgn x)) else 999999
  if x[0]? = some 45 then -(n : Int) else (n : Int)
/-- the digits ahead of the point, and those behind it -/
def intP (l : List UInt8) : List UInt8 := (l.drop (sgn l)).take (digs (l.drop (sgn l)))
def fracP (l : List UInt8) : List UInt8 :=
  let a := sgn l + digs (l.drop (sgn l))
  if l[a]? = some 46 ∧ 0 < digs (l.drop (a + 1)) then (l.drop (a + 1)).take (digs (l.drop (a + 1))) else []
/-- what stands behind the exponent's letter -/
def expP (l : List UInt8) : List UInt8 := if isE l[bodyLen l]? = true then l.drop (bodyLen l + 1) else []
def isP (l : List UInt8) : Bool := decide (l ≠ [] ∧ lenP l = l.length)
def numP (l : List UInt8) : Nat := foldN (intP l ++ fracP l) ((intP l).length + powP (expP l) + 3)
def parseP (l : List UInt8) : Int := if isP l = true then (if l[0]? = some 45 then -(numP l : Int) else (numP l : Int)) else 0
end Fx
theorem vA_succ (d : List UInt8) (i : Nat) : vA d (i + 1) = 10 * vA d i + ((d[i]?).map dv).getD 0 := rfl
theorem vA_mono (d : List UInt8) {i j : Nat} (h : i ≤ j) : vA d i ≤ vA d j := by
  obtain ⟨k, rfl⟩ := Nat.exists_eq_add_of_le h
  clear h
  induction k with
  | zero => exact Nat.le_refl _
  | succ k ih => rw [← Nat.add_assoc, vA_succ]; omega
theorem vA_past (d : List UInt8) {i : Nat} (h : d.length ≤ i) (k : Nat) : vA d (i + k) = 10 ^ k * vA d i := by
  induction k with
  | zero => simp
  | succ k ih =>
    rw [← Nat.add_assoc, vA_succ, List.getElem?_eq_none (by omega), ih, Nat.pow_succ]
    simp; rw [Nat.mul_comm (10 ^ k) 10, Nat.mul_assoc]
theorem vA_step (d : List UInt8) (i : Nat) : min (10 * min (vA d i) M + ((d[i]?).map dv).getD 0) M = min (vA d (i + 1)) M := by
  rw [vA_succ]; omega
theorem vA_full (d : List UInt8) {i j : Nat} (h : i ≤ j) (hm : M ≤ vA d i) : min (vA d j) M = M := by
  have := vA_mono d h; omega
theorem vA_nought (d : List UInt8) {i j : Nat} (h : i ≤ j) (hd : d.length ≤ i) (hm : vA d i = 0) : vA d j = 0 := by
  obtain ⟨k, rfl⟩ := Nat.exists_eq_add_of_le h
  rw [vA_past d hd, hm, Nat.mul_zero]
theorem vA_far (d : List UInt8) {i : Nat} (h : d.length + 60 ≤ i) (hm : vA d i ≠ 0) : M ≤ vA d i := by
  obtain ⟨k, rfl⟩ := Nat.exists_eq_add_of_le h
  rw [Nat.add_assoc, vA_past d (Nat.le_refl _)] at hm ⊢
  have h0 : 0 < vA d d.length := Nat.pos_of_ne_zero fun h => hm (by rw [h, Nat.mul_zero])
  calc M ≤ 10 ^ 60 := by decide
    _ ≤ 10 ^ (60 + k) := Nat.pow_le_pow_right (by omega) (by omega)
    _ ≤ 10 ^ (60 + k) * vA d d.length := Nat.le_mul_of_pos_right _ h0
theorem vA_lead0 (z t : List UInt8) (hz : ∀ b ∈ z, b = 48) : ∀ j, j ≤ z.length → vA (z ++ t) j = 0
  | 0, _ => rfl
  | j + 1, h => by
    have hj : (z ++ t)[j]? = some z[j] := by rw [List.getElem?_append_left (by omega), List.getElem?_eq_getElem (by omega)]
    rw [vA_succ, vA_lead0 z t hz j (by omega), hj]
    have := hz z[j] (List.getElem_mem _)
    simp [this, dv]
theorem vA_lead (z t : List UInt8) (hz : ∀ b ∈ z, b = 48) : ∀ j, vA (z ++ t) (z.length + j) = vA t j
  | 0 => by rw [Nat.add_zero, vA_lead0 z t hz _ (Nat.le_refl _)]; rfl
  | j + 1 => by
    rw [← Nat.add_assoc, vA_succ, vA_lead z t hz j, vA_succ, List.getElem?_append_right (by omega)]
    congr 4; omega
theorem vA_append_len (d t : List UInt8) (i : Nat) (h : i ≤ d.length) : vA (d ++ t) i = vA d i := by
  induction i with
  | zero => rfl
  | succ i ih => rw [vA_succ, vA_succ, ih (by omega), List.getElem?_append_left (by omega)]
/-- leading noughts do not count -/
theorem foldN_lead (z t : List UInt8) (hz : ∀ b ∈ z, b = 48) (p : Int) : foldN (z ++ t) p = foldN t (p - z.length) := by
  unfold foldN
  by_cases h : p ≤ z.length
  · have h1 : (p - z.length).toNat = 0 := by omega
    rw [h1, vA_lead0 z t hz _ (by omega)]; rfl
  · have h1 : p.toNat = z.length + (p - z.length).toNat := by omega
    rw [h1, vA_lead z t hz]
theorem trim_split (l : List UInt8) : ∃ z, l = z ++ l.dropWhile (· == 48) ∧ (∀ b ∈ z, b = 48) := by
  refine ⟨l.takeWhile (· == 48), (List.takeWhile_append_dropWhile).symm, ?_⟩
  intro b hb
  have := List.all_takeWhile (p := fun b : UInt8 => b == 48) (l := l)
  rw [List.all_eq_true] at this
  simpa using this b hb
theorem foldN_trim (l : List UInt8) (p : Int) : foldN l p = foldN (l.dropWhile (· == 48)) (p - (l.length - (l.dropWhile (· == 48)).length : Nat)) := by
  obtain ⟨z, h1, h2⟩ := trim_split l
  have hl : l.length - (l.dropWhile (· == 48)).length = z.length := by
    have := congrArg List.length h1
    rw [List.length_append] at this; omega
  conv => lhs; rw [h1]
  rw [foldN_lead z _ h2, hl]
theorem val_snoc (l : List UInt8) (b : UInt8) : val (l ++ [b]) = 10 * val l + dv b := by simp [val]
theorem val_vA (l : List UInt8) : ∀ i, i ≤ l.length → vA l i = val (l.take i)
  | 0, _ => by simp [vA, val]
  | i + 1, h => by
    rw [vA_succ, val_vA l i (by omega), List.take_add_one, List.getElem?_eq_getElem (by omega)]
    simp only [Option.map_some, Option.getD_some, Option.toList_some, val_snoc]
end Go.Proofs.YtifedkilbpkpaaaGreatDoor
/- Layer 3: what the scanner reads, as plain functions of what is left of the characters. -/
set_option linter.unusedVariables false
set_option linter.unusedSimpArgs false
namespace Go.Proofs.YtifedkilbpkpaaaGreatDoor
open Go.RowKit Rn
namespace Tk
/-- the character so far on; -1: there is none -/
def pk (r : List Int) (n : Nat) : Int := r[n]?.getD (-1)
/-- an escape? -/
def esc (r : List Int) : Bool := decide (pk r 0 = 92 ∧ 0 ≤ pk r 1 ∧ pk r 1 ≠ 10)
def may (r : List Int) : Bool := beginsB (pk r 0) || esc r
/-- does a name begin here? -/
def beg (r : List Int) : Bool := may r || (decide (pk r 0 = 45) && (may r.tail || decide (pk r 1 = 45)))
/-- so many hex digits at most: their number, and what is left -/
def hexes : Nat → Nat → List Int → Nat × List Int
  | 0, n, r => (n, r)
  | f + 1, n, r => if 0 ≤ hexI (pk r 0) then hexes f (16 * n + (hexI (pk r 0)).toNat) r.tail else (n, r)
def numC' (n : Nat) : Int := if n = 0 ∨ isB n = false then 65533 else n
/-- what is meant behind a backslash, and what is left -/
def meantT (r : List Int) : Int × List Int :=
  if hexI (pk r 0) < 0 then (pk r 0, r.tail) else
  let h := hexes 6 0 r
  (numC' h.1, if whiteB (pk h.2 0) = true then h.2.tail else h.2)
end Tk
open Tk
theorem pk_nil (n : Nat) : pk [] n = -1 := by simp [pk]
theorem pk_cons0 (c : Int) (r : List Int) : pk (c :: r) 0 = c := rfl
theorem pk_cons (c : Int) (r : List Int) (n : Nat) : pk (c :: r) (n + 1) = pk r n := by simp [pk]
theorem pk_tail (r : List Int) (n : Nat) : pk r.tail n = pk r (n + 1) := by cases r <;> simp [pk]
theorem pk_drop (l : List Int) (k n : Nat) : pk (l.drop k) n = pk l (k + n) := by simp [pk, List.getElem?_drop]
theorem hexes_len (f : Nat) : ∀ n r, (hexes f n r).2.length ≤ r.length := by
  induction f with
  | zero => intro n r; simp [hexes]
  | succ f ih =>
    intro n r
    unfold hexes
    split
    · have := ih (16 * n + (hexI (pk r 0)).toNat) r.tail
      rw [List.length_tail] at this; omega
    · exact Nat.le_refl _
theorem meant_len (r : List Int) : (meantT r).2.length ≤ r.length := by
  unfold meantT
  split
  · simp
  · have := hexes_len 6 0 r
    simp only []
    split
    · rw [List.length_tail]; omega
    · exact this
theorem esc_ne {r : List Int} (h : esc r = true) : r ≠ [] := by rintro rfl; simp [esc, pk] at h
theorem within_ne {r : List Int} (h : withinB (pk r 0) = true) : r ≠ [] := by rintro rfl; rw [pk_nil] at h; revert h; decide
theorem white_ne {r : List Int} (h : whiteB (pk r 0) = true) : r ≠ [] := by rintro rfl; rw [pk_nil] at h; revert h; decide
theorem tail_lt {r : List Int} (h : r ≠ []) : r.tail.length < r.length := by
  have := List.length_pos_iff.2 h
  rw [List.length_tail]; omega
theorem meant_lt {r : List Int} (h : r ≠ []) : (meantT r.tail).2.length < r.length := Nat.lt_of_le_of_lt (meant_len _) (tail_lt h)
namespace Tk
/-- a name, and what is left -/
def nameT (r : List Int) : List Int × List Int :=
  if h : esc r = true then ((meantT r.tail).1 :: (nameT (meantT r.tail).2).1, (nameT (meantT r.tail).2).2)
  else if h2 : withinB (pk r 0) = true then (pk r 0 :: (nameT r.tail).1, (nameT r.tail).2)
  else ([], r)
termination_by r.length
decreasing_by
  · exact meant_lt (esc_ne h)
  · exact tail_lt (within_ne h2)
/-- behind a comment's end -/
def skipC : List Int → List Int
  | [] => []
  | c :: r => if c = 42 ∧ pk r 0 = 47 then r.tail else skipC r
end Tk
theorem skipC_len (r : List Int) : (skipC r).length ≤ r.length := by
  induction r with
  | nil => simp [skipC]
  | cons c r ih =>
    unfold skipC
    split
    · rw [List.length_tail, List.length_cons]; omega
    · rw [List.length_cons]; omega
theorem name_len (r : List Int) : (nameT r).2.length ≤ r.length := by
  fun_induction nameT r with
  | case1 r h ih => exact Nat.le_trans ih (Nat.le_of_lt (meant_lt (esc_ne h)))
  | case2 r h h2 ih => exact Nat.le_trans ih (Nat.le_of_lt (tail_lt (within_ne h2)))
  | case3 r => exact Nat.le_refl _
namespace Tk
/-- white space and comments: is there any that is white? and what is left -/
def spacesT (r : List Int) : Bool × List Int :=
  if h : whiteB (pk r 0) = true then (true, (spacesT r.tail).2)
  else if h2 : pk r 0 = 47 ∧ pk r 1 = 42 then spacesT (skipC r.tail.tail)
  else (false, r)
termination_by r.length
decreasing_by
  · exact tail_lt (white_ne h)
  · have hne : r ≠ [] := by rintro rfl; rw [pk_nil] at h2; omega
    refine Nat.lt_of_le_of_lt (skipC_len _) ?_
    have := List.length_pos_iff.2 hne
    rw [List.length_tail, List.length_tail]; omega
/-- a text, behind its quote: its characters, whether it is bad, and what is left -/
def quoteT (e : Int) (r : List Int) : List Int × Bool × List Int :=
  match h0 : r with
  | [] => ([], false, [])
  | c :: t =>
    if c = 10 then ([], true, c :: t)
    else if c = e then ([], false, t)
    else if esc (c :: t) = true then ((meantT t).1 :: (quoteT e (meantT t).2).1, (quoteT e (meantT t).2).2)
    else if c = 92 then quoteT e t.tail
    else (c :: (quoteT e t).1, (quoteT e t).2)
termination_by r.length
decreasing_by
  · have := meant_len t; simp only [List.length_cons]; omega
  · simp only [List.length_cons, List.length_tail]; omega
  · simp
/-- a character of a decimal? -/
def numB (c : Int) : Bool := decide ((48 ≤ c ∧ c ≤ 57) ∨ c = 43 ∨ c = 45 ∨ c = 46 ∨ c = 101 ∨ c = 69)
def byteOf (c : Int) : UInt8 := UInt8.ofNat c.toNat
def numText (r : List Int) : List UInt8 := (r.takeWhile numB).map byteOf
/-- a token -/
structure Tok where
  kind : Nat
  text : List UInt8
  n : Int
deriving DecidableEq
def numberT (r : List Int) : Option (Tok × List Int) :=
  let x := numText r
  let n := Fx.lenP x
  if n = 0 then none else
  let v := Fx.parseP (x.take n)
  let s := r.drop n
  if beg s = true then some (⟨10, writeP (nameT s).1, v⟩, (nameT s).2)
  else if pk s 0 = 37 then some (⟨9, [], v⟩, s.tail)
  else some (⟨8, [], v⟩, s)
/-- a character's kind -/
def signK (c : Int) : Nat :=
  if c = 40 ∨ c = 91 ∨ c = 123 then 12 else if c = 41 ∨ c = 93 ∨ c = 125 then 13 else if c = 58 then 14 else if c = 59 then 15 else if c = 44 then 16 else 11
def signT (c : Int) : Tok := ⟨signK c, if signK c = 11 ∨ signK c = 12 ∨ signK c = 13 then writeP [c] else [], 0⟩
/-- the next token, no white space, and what is left -/
def nextT (r : List Int) : Tok × List Int :=
  let c := pk r 0
  if c = 34 ∨ c = 39 then (⟨if (quoteT c r.tail).2.1 = true then 7 else 6, writeP (quoteT c r.tail).1, 0⟩, (quoteT c r.tail).2.2)
  else if c = 35 ∧ (withinB (pk r 1) || esc r.tail) = true then (⟨5, writeP (nameT r.tail).1, 0⟩, (nameT r.tail).2)
  else match numberT r with
    | some x => x
    | none =>
      if c = 64 ∧ beg r.tail = true then (⟨4, writeP (nameT r.tail).1, 0⟩, (nameT r.tail).2)
      else if beg r = true then
        if pk (nameT r).2 0 = 40 then (⟨3, writeP (nameT r).1, 0⟩, (nameT r).2.tail) else (⟨2, writeP (nameT r).1, 0⟩, (nameT r).2)
      else (signT c, r.tail)
end Tk
theorem spaces_len (r : List Int) : (spacesT r).2.length ≤ r.length := by
  fun_induction spacesT r with
  | case1 r h ih => exact Nat.le_trans ih (Nat.le_of_lt (tail_lt (white_ne h)))
  | case2 r h h2 ih =>
    refine Nat.le_trans ih (Nat.le_trans (skipC_len _) ?_)
    rw [List.length_tail, List.length_tail]; omega
  | case3 r => exact Nat.le_refl _
theorem quoted_len (e : Int) (r : List Int) : (quoteT e r).2.2.length ≤ r.length := by
  fun_induction quoteT e r with
  | case1 => simp
  | case2 => simp
  | case3 t h => simp
  | case4 c t h h2 h3 ih => have := meant_len t; simp only [List.length_cons]; omega
  | case5 t h h2 h3 ih => simp only [List.length_cons, List.length_tail] at *; omega
  | case6 c t h h2 h3 h4 ih => simp only [List.length_cons]; omega
theorem name_some {r : List Int} (h : esc r = true ∨ withinB (pk r 0) = true) : (nameT r).2.length < r.length ∧ (nameT r).1 ≠ [] := by
  rw [nameT]
  split
  · rename_i h1
    refine ⟨Nat.lt_of_le_of_lt (name_len _) (meant_lt (esc_ne h1)), by simp⟩
  · rename_i h1
    have h2 := h.resolve_left h1
    rw [dif_pos h2]
    exact ⟨Nat.lt_of_le_of_lt (name_len _) (tail_lt (within_ne h2)), by simp⟩
theorem begins_within {c : Int} (h : beginsB c = true) : withinB c = true := by unfold withinB; rw [h]; rfl
theorem beg_first {r : List Int} (h : beg r = true) : esc r = true ∨ withinB (pk r 0) = true := by
  unfold beg may at h
  rcases hb : beginsB (pk r 0) with _ | _
  · rcases he : esc r with _ | _
    · rw [hb, he] at h
      simp at h
      right
      rw [h.1]; decide
    · exact .inl rfl
  · exact .inr (begins_within hb)
theorem next_lt {r : List Int} (h : r ≠ []) : (nextT r).2.length < r.length := by
  have ht := tail_lt h
  unfold nextT
  simp only []
  split
  · exact Nat.lt_of_le_of_lt (quoted_len _ _) ht
  · split
    · exact Nat.lt_of_le_of_lt (name_len _) ht
    · split
      · rename_i x hx
        unfold numberT at hx
        simp only [] at hx
        split at hx
        · cases hx
        · rename_i hn
          have hd : (r.drop (Fx.lenP (numText r))).length < r.length := by
            have := List.length_pos_iff.2 h
            rw [List.length_drop]; omega
          split at hx
          · cases hx
            exact Nat.lt_of_le_of_lt (name_len _) hd
          · split at hx
            · cases hx
              simp only [List.length_tail] at *; omega
            · cases hx; exact hd
      · split
        · exact Nat.lt_of_le_of_lt (name_len _) ht
        · split
          · rename_i hb
            have := (name_some (beg_first hb)).1
            split
            · simp only [List.length_tail]; omega
            · exact this
          · exact ht
namespace Tk
/-- all tokens -/
def scanT (r : List Int) : List Tok :=
  if h : (spacesT r).2 = [] then (if (spacesT r).1 = true then [⟨1, [], 0⟩] else [])
  else (if (spacesT r).1 = true then [⟨1, [], 0⟩] else []) ++ (nextT (spacesT r).2).1 :: scanT (nextT (spacesT r).2).2
termination_by r.length
decreasing_by exact Nat.lt_of_lt_of_le (next_lt h) (spaces_len r)
end Tk
end Go.Proofs.YtifedkilbpkpaaaGreatDoor
/- Layer 3: tokens as values: a token of any kind, its cells. -/
set_option linter.unusedVariables false
set_option linter.unusedSimpArgs false
namespace Go.Proofs.YtifedkilbpkpaaaGreatDoor
open Go.RowKit Rn Tk
/-- a token of any kind -/
structure GTok where
  kind : Int
  text : List UInt8
  n : Int
deriving DecidableEq
def Tk.Tok.g (t : Tok) : GTok := ⟨t.kind, t.text, t.n⟩
def cells1 (t : GTok) : List Value := [.int .i64 t.kind, .string (bytesOf t.text), .int .i64 t.n]
def cellsG (l : List GTok) : List Value := l.flatMap cells1
/-- the cells of the scanner's tokens -/
def toksV (l : List Tok) : List Value := cellsG (l.map Tok.g)
theorem toksV_snoc (l : List Tok) (t : Tok) : toksV (l ++ [t]) = toksV l ++ [.int .i64 (t.kind : Int), .string (bytesOf t.text), .int .i64 t.n] := by simp [toksV, cellsG, cells1, Tok.g]
theorem cells_new3 (w : World) (e : TypeId) (a b c : Value) : ∀ j u, [a, b, c][j]? = some u → (w.alloc (.cells #[a, b, c] e)).cell? ((⟨w.heap.size, 0, none⟩ : Addr).add j) = some u := by
  intro j u hu
  have h := ((RowAt.new w e #[a, b, c]).2 j u hu).1
  have ha : (⟨w.heap.size, 0, none⟩ : Addr).add j = ⟨w.heap.size, j, none⟩ := by unfold Addr.add; split <;> simp_all
  rw [ha]; exact h
end Go.Proofs.YtifedkilbpkpaaaGreatDoor
/- Layer 1: a decimal taken apart: plain laws. -/
set_option linter.unusedVariables false
set_option linter.unusedSimpArgs false
namespace Go.Proofs.YtifedkilbpkpaaaGreatDoor
open Go.RowKit Fx
theorem digs_all (l : List UInt8) : ∀ b ∈ l.take (digs l), isD b = true := by
  have h : l.take (digs l) = l.takeWhile isD := by
    unfold digs
    exact (List.prefix_iff_eq_take.1 (List.takeWhile_prefix isD)).symm
  rw [h]
  have := List.all_takeWhile (p := isD) (l := l)
  rwa [List.all_eq_true] at this
theorem isD_range {b : UInt8} (h : isD b = true) : 48 ≤ b.toNat ∧ b.toNat ≤ 57 := by simpa [isD] using h
/-- what a decimal is made of -/
structure Dec (l : List UInt8) (sg : List UInt8) (I : List UInt8) (P : List UInt8) (F : List UInt8) (E : List UInt8) (S2 : List UInt8) (X : List UInt8) : Prop where
  all : l = sg ++ (I ++ (P ++ F)) ++ (E ++ (S2 ++ X))
  hsg : sg = [] ∨ ∃ b, sg = [b] ∧ (b.toNat = 43 ∨ b.toNat = 45)
  hI : ∀ b ∈ I, isD b = true
  hF : ∀ b ∈ F, isD b = true
  hP : (P = [] ∧ F = []) ∨ (P = [46] ∧ F ≠ [])
  hE : (E = [] ∧ S2 = [] ∧ X = []) ∨ (∃ e, E = [e] ∧ (e.toNat = 101 ∨ e.toNat = 69) ∧ X ≠ [])
  hS : S2 = [] ∨ ∃ b, S2 = [b] ∧ (b.toNat = 43 ∨ b.toNat = 45)
  hX : ∀ b ∈ X, isD b = true
  lsg : sg = l.take (sgn l)
  lI : I = intP l
  lF : F = fracP l
  lA : bodyLen l = sg.length + I.length + P.length + F.length
  lE : S2 ++ X = expP l
  lS2 : S2 = (expP l).take (sgn (expP l))
  lX : X = (expP l).drop (sgn (expP l))
  some : I ≠ [] ∨ F ≠ []
theorem sgn_shape (l : List UInt8) : l.take (sgn l) = [] ∨ ∃ b, l.take (sgn l) = [b] ∧ (b.toNat = 43 ∨ b.toNat = 45) := by
  cases l with
  | nil => exact .inl rfl
  | cons b l =>
    unfold sgn
    simp only []
    split
    · rename_i h; exact .inr ⟨b, rfl, h⟩
    · exact .inl rfl
theorem take_full {α : Type} {l : List α} {n : Nat} (h : l.length = n) : l.take n = l := by subst h; exact List.take_length
theorem dec_of_isP {l : List UInt8} (h : isP l = true) : ∃ sg I P F E S2 X, Dec l sg I P F E S2 X := by
  have h' := of_decide_eq_true h
  obtain ⟨hne, hlen⟩ := h'
  have hpos : 0 < l.length := List.length_pos_iff.2 hne
  have hsome : some_ l = true := by
    cases hs : some_ l with
    | true => rfl
    | false => rw [lenP_none hs] at hlen; omega
  obtain ⟨A, hA⟩ : ∃ A, bodyLen l = A := ⟨_, rfl⟩
  have hAl := bodyLen_le l
  have ht := lenP_tail hsome hA
  have hk0 := sgn_le l
  have hn0 := digs_le (l.drop (sgn l))
  rw [List.length_drop] at hn0
  have hIlen : (intP l).length = digs (l.drop (sgn l)) := by
    unfold intP; rw [List.length_take, List.length_drop]; omega
  -- the body
  have hbody : ∃ P, l.take A = l.take (sgn l) ++ (intP l ++ (P ++ fracP l)) ∧ ((P = [] ∧ fracP l = []) ∨ (P = [46] ∧ fracP l ≠ [])) ∧ A = (l.take (sgn l)).length + (intP l).length + P.length + (fracP l).length := by
    have e1 : l.take (sgn l + digs (l.drop (sgn l))) = l.take (sgn l) ++ intP l := by
      rw [List.take_add]; rfl
    by_cases hd : l[sgn l + digs (l.drop (sgn l))]? = Option.some 46 ∧ 0 < digs (l.drop (sgn l + digs (l.drop (sgn l)) + 1))
    · have hF : fracP l = (l.drop (sgn l + digs (l.drop (sgn l)) + 1)).take (digs (l.drop (sgn l + digs (l.drop (sgn l)) + 1))) := by
        unfold fracP; simp only []; rw [if_pos hd]
      have hFl : (fracP l).length = digs (l.drop (sgn l + digs (l.drop (sgn l)) + 1)) := by
        have := digs_le (l.drop (sgn l + digs (l.drop (sgn l)) + 1))
        rw [hF, List.length_take]; omega
      have hA2 : A = sgn l + digs (l.drop (sgn l)) + 1 + digs (l.drop (sgn l + digs (l.drop (sgn l)) + 1)) := by
        rw [← hA]; unfold bodyLen; simp only []; rw [if_pos hd]
      refine ⟨[46], ?_, .inr ⟨rfl, ?_⟩, ?_⟩
      · rw [hA2, List.take_add, ← hF, take_snoc _ _ _ hd.1, e1]
        simp
      · intro h0; rw [h0] at hFl; simp at hFl; omega
      · rw [hFl, hIlen, List.length_take]; simp; omega
    · have hF : fracP l = [] := by unfold fracP; simp only []; rw [if_neg hd]
      have hA2 : A = sgn l + digs (l.drop (sgn l)) := by
        rw [← hA]; unfold bodyLen; simp only []; rw [if_neg hd]
      refine ⟨[], ?_, .inl ⟨rfl, hF⟩, ?_⟩
      · rw [hA2, e1, hF]; simp
      · rw [hF, hIlen, List.length_take]; simp; omega
  obtain ⟨P, hb1, hb2, hb3⟩ := hbody
  have hsplit : l = l.take A ++ l.drop A := (List.take_append_drop A l).symm
  have hItail : ∀ b ∈ intP l, isD b = true := by unfold intP; exact digs_all _
  have hFtail : ∀ b ∈ fracP l, isD b = true := by
    unfold fracP
    simp only []
    split
    · exact digs_all _
    · simp
  have hsm : intP l ≠ [] ∨ fracP l ≠ [] := by
    by_cases hd : 0 < digs (l.drop (sgn l))
    · left; intro h0; rw [h0] at hIlen; simp at hIlen; omega
    · right
      unfold some_ at hsome
      have hd2 := of_decide_eq_true hsome
      have hd3 := hd2.resolve_left hd
      intro h0
      have hF : fracP l = (l.drop (sgn l + digs (l.drop (sgn l)) + 1)).take (digs (l.drop (sgn l + digs (l.drop (sgn l)) + 1))) := by
        unfold fracP; simp only []; rw [if_pos hd3]
      have hFl : (fracP l).length = digs (l.drop (sgn l + digs (l.drop (sgn l)) + 1)) := by
        have := digs_le (l.drop (sgn l + digs (l.drop (sgn l)) + 1))
        rw [hF, List.length_take]; omega
      rw [h0] at hFl; simp at hFl; omega
  rcases isE_cases l A with ⟨hge, hE⟩ | ⟨e, he, hE3⟩
  · have hX : expP l = [] := by unfold expP; rw [hA, hE]; rfl
    refine ⟨l.take (sgn l), intP l, P, fracP l, [], [], [], ?_⟩
    exact { all := by rw [← hb1, take_full (by omega)]; simp, hsg := sgn_shape l, hI := hItail, hF := hFtail, hP := hb2, hE := .inl ⟨rfl, rfl, rfl⟩, hS := .inl rfl, hX := by simp, lsg := rfl, lI := rfl, lF := rfl, lA := by rw [hA, hb3], lE := by rw [hX]; rfl, lS2 := by rw [hX]; rfl, lX := by rw [hX]; rfl, some := hsm }
  · have hlt : A < l.length := (List.getElem?_eq_some_iff.1 he).1
    have hEt : isE l[A]? = true ∧ (e.toNat = 101 ∨ e.toNat = 69) := by
      rcases hE3 with ⟨h1, h2⟩ | ⟨h1, h2⟩ | ⟨h1, h2, h3⟩
      · exact ⟨h2, .inl h1⟩
      · exact ⟨h2, .inr h1⟩
      · have := ht.1 h3; omega
    have hL := ht.2 hEt.1 _ _ rfl rfl
    have hm2 : 0 < digs (l.drop (A + 1 + sgn (l.drop (A + 1)))) := by
      by_cases hm : 0 < digs (l.drop (A + 1 + sgn (l.drop (A + 1))))
      · exact hm
      · rw [if_neg hm] at hL; omega
    rw [if_pos hm2] at hL
    have hX : expP l = l.drop (A + 1) := by unfold expP; rw [hA, if_pos hEt.1]
    have hXd : (expP l).drop (sgn (expP l)) = l.drop (A + 1 + sgn (l.drop (A + 1))) := by rw [hX, List.drop_drop]
    refine ⟨l.take (sgn l), intP l, P, fracP l, [e], (expP l).take (sgn (expP l)), (expP l).drop (sgn (expP l)), ?_⟩
    have hda : l.drop A = [e] ++ ((expP l).take (sgn (expP l)) ++ (expP l).drop (sgn (expP l))) := by
      rw [List.take_append_drop, hX]
      obtain ⟨hi, rfl⟩ := List.getElem?_eq_some_iff.1 he
      exact List.drop_eq_getElem_cons hi
    have hXlen : (l.drop (A + 1 + sgn (l.drop (A + 1)))).length = digs (l.drop (A + 1 + sgn (l.drop (A + 1)))) := by
      rw [List.length_drop]; omega
    have hXall : ∀ b ∈ (expP l).drop (sgn (expP l)), isD b = true := by
      rw [hXd]
      have := digs_all (l.drop (A + 1 + sgn (l.drop (A + 1))))
      rwa [take_full hXlen] at this
    exact { all := by rw [← hb1, ← hda]; exact hsplit, hsg := sgn_shape l, hI := hItail, hF := hFtail, hP := hb2, hE := .inr ⟨e, rfl, hEt.2, by rw [hXd]; intro h0; have h1 := congrArg List.length h0; rw [hXlen, List.length_nil] at h1; omega⟩, hS := sgn_shape _, hX := hXall, lsg := rfl, lI := rfl, lF := rfl, lA := by rw [hA, hb3], lE := List.take_append_drop _ _, lS2 := rfl, lX := rfl, some := hsm }
end Go.Proofs.YtifedkilbpkpaaaGreatDoor
/- Layer 1: the program's Length is walked, cut where its ways meet. -/
set_option linter.unusedVariables false
set_option linter.unusedSimpArgs false
namespace Go.Proofs.YtifedkilbpkpaaaGreatDoor
open Go.RowKit Fx
set_option maxRecDepth 100000 in
set_option maxHeartbeats 8000000 in
theorem fx_length (l : List UInt8) (w : World) (hl : l.length ≤ 9223372036854775806) :
    Calls Tryz.prog 64 #[.string (bytesOf l)] w fun e w' => e = .returned (.int .i64 (lenP l : Nat)) ∧ Below w.heap.size w w' := by
  have hs := bytesOf_size l
  obtain ⟨a0, h0⟩ : ∃ a0, sgn l = a0 := ⟨_, rfl⟩
  obtain ⟨n0, hn⟩ : ∃ n0, digs (l.drop a0) = n0 := ⟨_, rfl⟩
  obtain ⟨m, hm⟩ : ∃ m, digs (l.drop (a0 + n0 + 1)) = m := ⟨_, rfl⟩
  have ha0 := sgn_le l
  have hn0 := digs_le (l.drop a0)
  rw [h0] at ha0
  rw [hn, List.length_drop] at hn0
  obtain ⟨A, hA⟩ : ∃ A, bodyLen l = A := ⟨_, rfl⟩
  have hAl := bodyLen_le l
  rw [hA] at hAl
  have HA := Lib.hid hA
  have hBody : bodyLen l = if l[a0 + n0]? = some 46 ∧ 0 < m then a0 + n0 + 1 + m else a0 + n0 := by simp only [bodyLen, h0, hn, hm]
  have hSome : some_ l = decide (0 < n0 ∨ (l[a0 + n0]? = some 46 ∧ 0 < m)) := by simp only [some_, h0, hn, hm]
  rw [hA] at hBody
  have HBody := Lib.hid hBody
  have HSome := Lib.hid hSome
  have Hdot := Lib.hid (dot_cases l (a0 + n0))
  have hf0 := str_from (P := Tryz.prog) (T := 9) Tryz.underlying9 l .i64 a0 (by omega)
  have H0 := Lib.hid h0
  have Hn := Lib.hid hn
  have Hm := Lib.hid hm
  clear hA hBody hSome h0 hn hm
  obtain ⟨D, hD⟩ : ∃ D, decide (l[a0 + n0]? = some 46) = D := ⟨_, rfl⟩
  have HD := Lib.hid hD
  clear hD
  go_enter Tryz.func64, Tryz.ntmps64
  go_wp2_with fail
  refine (fx_sign l w (by omega)).mono ?_
  rintro e w1 ⟨rfl, rfl⟩
  rw [H0.out]
  go_wp2_with fail
  refine (fx_digits (l.drop a0) w (by rw [List.length_drop]; omega)).mono ?_
  rintro e w1 ⟨rfl, hb1⟩
  rw [Hn.out]
  go_upto_region 4 with (fail)
  go_cut [26] (fun s wx => s = .bool D ∧ wx = w1)
  case first =>
    rcases Hdot.out with ⟨hge, h⟩ | ⟨b, hb, ⟨hb1, h⟩ | ⟨hb1, h⟩⟩
    · go_wp2_with fail
      go_meet
      exact ⟨by rw [← HD.out]; simp [h], rfl⟩
    · have hlt : a0 + n0 < l.length := (List.getElem?_eq_some_iff.1 hb).1
      have hix := str_at (P := Tryz.prog) (T := 9) Tryz.underlying9 l .i64 (a0 + n0) b hb
      rw [hb1] at hix
      push_cast at hix
      go_wp2_with fail
      go_meet
      exact ⟨by rw [← HD.out]; simp [h], rfl⟩
    · have hlt : a0 + n0 < l.length := (List.getElem?_eq_some_iff.1 hb).1
      have hix := str_at (P := Tryz.prog) (T := 9) Tryz.underlying9 l .i64 (a0 + n0) b hb
      push_cast at hix
      have hc1 : ((b.toNat : Int) == 46) = false := byte_ne hb1
      go_wp2_with fail
      go_meet
      exact ⟨by rw [← HD.out]; simp [h, hc1], rfl⟩
  case rest =>
    obtain ⟨rfl, rfl⟩ := hcut
    go_upto_if 26 with (fail)
    go_cut [3, 4] (fun s t wx => s = .int .i64 (A : Nat) ∧ (∃ N : Nat, t = .int .i64 (N : Nat) ∧ some_ l = decide (0 < N) ∧ N ≤ l.length) ∧ Below w.heap.size w wx)
    case first =>
      cases D with
      | true =>
        have hdot := of_decide_eq_true HD.out
        have hal := (List.getElem?_eq_some_iff.1 hdot).1
        have hf1 := str_from (P := Tryz.prog) (T := 9) Tryz.underlying9 l .i64 (a0 + n0 + 1) (by omega)
        push_cast at hf1
        have hm1 := digs_le (l.drop (a0 + n0 + 1))
        rw [Hm.out, List.length_drop] at hm1
        have Hdt := Lib.hid hdot
        clear hdot
        by_cases hm0 : 0 < m
        · have hdm : decide (0 < (m : Int)) = true := by simpa using hm0
          go_wp2_with fail
          refine (fx_digits (l.drop (a0 + n0 + 1)) _ (by rw [List.length_drop]; omega)).mono ?_
          rintro e w2 ⟨rfl, hb2⟩
          rw [Hm.out]
          go_wp2_with fail
          go_meet
          refine ⟨?_, ⟨n0 + m, by congr 1, ?_, by omega⟩, hb1.trans (hb2.mono hb1.size)⟩
          · congr 1
            rw [HBody.out, if_pos ⟨Hdt.out, hm0⟩]; omega
          · rw [HSome.out, decide_eq_decide]
            constructor
            · intro _; omega
            · intro _; exact .inr ⟨Hdt.out, hm0⟩
        · have hdm : decide (0 < (m : Int)) = false := by simpa using hm0
          go_wp2_with fail
          refine (fx_digits (l.drop (a0 + n0 + 1)) _ (by rw [List.length_drop]; omega)).mono ?_
          rintro e w2 ⟨rfl, hb2⟩
          rw [Hm.out]
          go_wp2_with fail
          go_meet
          refine ⟨?_, ⟨n0, rfl, ?_, by omega⟩, hb1.trans (hb2.mono hb1.size)⟩
          · congr 1
            rw [HBody.out, if_neg (by omega)]; omega
          · rw [HSome.out, decide_eq_decide]; omega
      | false =>
        have hdot := of_decide_eq_false HD.out
        have hN : some_ l = decide (0 < n0) := by rw [HSome.out]; simp only [hdot, false_and, or_false]
        have hAv : A = a0 + n0 := by rw [HBody.out, if_neg (by simp only [hdot, false_and, not_false_eq_true])]
        have HN := Lib.hid hN
        clear hN hdot
        go_wp2_with fail
        go_meet
        exact ⟨by congr 1; omega, ⟨n0, rfl, HN.out, by omega⟩, hb1⟩
    case rest =>
      obtain ⟨rfl, ⟨N, rfl, hS, hNl⟩, hb2⟩ := hcut
      cases hS1 : some_ l with
      | false =>
        obtain rfl : N = 0 := by rw [hS1] at hS; have := of_decide_eq_false hS.symm; omega
        have Hval := Lib.hid (lenP_none hS1)
        clear hS1 hS
        go_wp2
        go_ret
        exact ⟨ret_int (by rw [Hval.out]; rfl), hb2⟩
      | true =>
        have hN0 : 0 < N := by rw [hS1] at hS; exact of_decide_eq_true hS.symm
        have htail := Lib.hid (lenP_tail hS1 HA.out)
        have hz : ((N : Int) == 0) = false := by simp; omega
        clear hS1 hS
        go_upto_region 11 with (fail)
        go_cut [58] (fun s wx => s = .bool (isE l[A]?) ∧ wx = wc)
        case first =>
          rcases isE_cases l A with ⟨hge, h⟩ | ⟨b, hb, ⟨hb1, h⟩ | ⟨hb1, h⟩ | ⟨hb1, hb2, h⟩⟩
          · go_wp2_with fail
            go_meet
            exact ⟨by rw [h], rfl⟩
          · have hlt : A < l.length := (List.getElem?_eq_some_iff.1 hb).1
            have hix := str_at (P := Tryz.prog) (T := 9) Tryz.underlying9 l .i64 A b hb
            rw [hb1] at hix
            go_wp2_with fail
            go_meet
            exact ⟨by rw [h], rfl⟩
          · have hlt : A < l.length := (List.getElem?_eq_some_iff.1 hb).1
            have hix := str_at (P := Tryz.prog) (T := 9) Tryz.underlying9 l .i64 A b hb
            rw [hb1] at hix
            go_wp2_with fail
            go_meet
            exact ⟨by rw [h], rfl⟩
          · have hlt : A < l.length := (List.getElem?_eq_some_iff.1 hb).1
            have hix := str_at (P := Tryz.prog) (T := 9) Tryz.underlying9 l .i64 A b hb
            have hc1 : ((b.toNat : Int) == 101) = false := byte_ne hb1
            have hc2 : ((b.toNat : Int) == 69) = false := byte_ne hb2
            go_wp2_with fail
            go_meet
            exact ⟨by first | rw [h]; done | (rw [h]; simp [hc1, hc2]), rfl⟩
        case rest =>
          obtain ⟨rfl, rfl⟩ := hcut
          cases hE : isE l[A]? with
          | false =>
            have Hval := Lib.hid (htail.out.1 hE)
            clear hE
            go_wp2
            go_ret
            exact ⟨ret_int (by rw [Hval.out]), hb2⟩
          | true =>
            have hAlt : A < l.length := by
              rcases isE_cases l A with ⟨hge, h⟩ | ⟨b, hb, _⟩
              · rw [hE] at h; cases h
              · exact (List.getElem?_eq_some_iff.1 hb).1
            obtain ⟨k, hk⟩ : ∃ k, sgn (l.drop (A + 1)) = k := ⟨_, rfl⟩
            have hk1 := sgn_le (l.drop (A + 1))
            rw [hk, List.length_drop] at hk1
            obtain ⟨m2, hm2⟩ : ∃ m, digs (l.drop (A + 1 + k)) = m := ⟨_, rfl⟩
            have Hval := Lib.hid (htail.out.2 hE k m2 hk hm2)
            have hm1 := digs_le (l.drop (A + 1 + k))
            rw [hm2, List.length_drop] at hm1
            have hf2 := str_from (P := Tryz.prog) (T := 9) Tryz.underlying9 l .i64 (A + 1) (by omega)
            have hf3 := str_from (P := Tryz.prog) (T := 9) Tryz.underlying9 l .i64 (A + 1 + k) (by omega)
            push_cast at hf2 hf3
            have Hk := Lib.hid hk
            have Hm2 := Lib.hid hm2
            clear hE hk hm2
            by_cases hm0 : 0 < m2
            · have hdm : decide (0 < (m2 : Int)) = true := by simpa using hm0
              go_wp2_with fail
              refine (fx_sign (l.drop (A + 1)) _ (by rw [List.length_drop]; omega)).mono ?_
              rintro e w3 ⟨rfl, rfl⟩
              rw [Hk.out]
              go_wp2_with fail
              refine (fx_digits (l.drop (A + 1 + k)) _ (by rw [List.length_drop]; omega)).mono ?_
              rintro e w4 ⟨rfl, hb4⟩
              rw [Hm2.out]
              go_wp2
              go_ret
              exact ⟨ret_int (by rw [Hval.out, if_pos hm0] <;> omega), hb2.trans (hb4.mono hb2.size)⟩
            · have hdm : decide (0 < (m2 : Int)) = false := by simpa using hm0
              go_wp2_with fail
              refine (fx_sign (l.drop (A + 1)) _ (by rw [List.length_drop]; omega)).mono ?_
              rintro e w3 ⟨rfl, rfl⟩
              rw [Hk.out]
              go_wp2_with fail
              refine (fx_digits (l.drop (A + 1 + k)) _ (by rw [List.length_drop]; omega)).mono ?_
              rintro e w4 ⟨rfl, hb4⟩
              rw [Hm2.out]
              go_wp2
              go_ret
              exact ⟨ret_int (by rw [Hval.out, if_neg hm0] <;> omega), hb2.trans (hb4.mono hb2.size)⟩
end Go.Proofs.YtifedkilbpkpaaaGreatDoor
set_option linter.unusedVariables false
set_option linter.unusedSimpArgs false
namespace Go.Proofs.YtifedkilbpkpaaaGreatDoor
open Go.RowKit Fx
theorem bytesOf_append (a b : List UInt8) : bytesOf a ++ bytesOf b = bytesOf (a ++ b) := by
  rw [← bytesOf_eta (bytesOf a ++ bytesOf b)]
  congr 1
theorem val_foldl (l : List UInt8) : ∀ n, l.foldl (fun n b => 10 * n + dv b) n = n * 10 ^ l.length + val l := by
  induction l with
  | nil => intro n; simp [val]
  | cons b l ih =>
    intro n
    unfold val
    simp only [List.foldl_cons, List.length_cons]
    rw [ih, ih (10 * 0 + dv b), Nat.pow_succ]
    rw [Nat.add_mul]
    have : 10 * n * 10 ^ l.length = n * (10 ^ l.length * 10) := by
      rw [Nat.mul_comm 10 n, Nat.mul_assoc, Nat.mul_comm 10]
    rw [this, Nat.mul_zero, Nat.zero_add]
    omega
theorem val_cons (b : UInt8) (l : List UInt8) : val (b :: l) = dv b * 10 ^ l.length + val l := by
  show List.foldl _ (10 * 0 + dv b) l = _
  rw [val_foldl]; simp
theorem decFrom_val (l : List UInt8) (h : ∀ b ∈ l, isD b = true) : ∀ n, Lib.decFrom n l = some (l.foldl (fun n b => 10 * n + dv b) n) := by
  induction l with
  | nil => intro n; rfl
  | cons b l ih =>
    intro n
    have hb := isD_range (h b (by simp))
    have hd : Lib.digitVal b = some (dv b) := by unfold Lib.digitVal; rw [if_pos hb]; rfl
    simp only [Lib.decFrom, hd, List.foldl_cons]
    rw [ih (fun c hc => h c (by simp [hc])), Nat.mul_comm]
theorem val_trim (l : List UInt8) : val (l.dropWhile (· == 48)) = val l := by
  induction l with
  | nil => rfl
  | cons b l ih =>
    by_cases hb : b = 48
    · subst hb; rw [List.dropWhile_cons, if_pos (by rfl), ih, val_cons]; simp [dv]
    · rw [List.dropWhile_cons, if_neg (by simpa using hb)]
theorem atoi_nought (d : List UInt8) (h : ∀ b ∈ d, isD b = true) : Lib.atoi (48 :: d) = some (val d : Int) := by
  have h2 : ∀ b ∈ (48 :: d : List UInt8), isD b = true := by
    intro b hb
    rcases List.mem_cons.1 hb with rfl | hb
    · rfl
    · exact h b hb
  have : Lib.decNat (48 :: d) = some (val d) := by
    unfold Lib.decNat
    rw [if_neg (by simp), decFrom_val _ h2]
    show some (val (48 :: d)) = _
    rw [val_cons]; simp [dv]
  unfold Lib.atoi
  simp only []
  rw [if_neg (by decide), if_neg (by decide), this]
  rfl
theorem val_lt (l : List UInt8) (h : ∀ b ∈ l, isD b = true) : val l < 10 ^ l.length := by
  induction l with
  | nil => decide
  | cons b l ih =>
    have hb := isD_range (h b (by simp))
    have := ih fun c hc => h c (by simp [hc])
    have hd : dv b ≤ 9 := by unfold dv; omega
    rw [val_cons, List.length_cons, Nat.pow_succ]
    have : dv b * 10 ^ l.length ≤ 9 * 10 ^ l.length := Nat.mul_le_mul_right _ hd
    omega
theorem dropWhile_all {p q : UInt8 → Bool} {l : List UInt8} (h : ∀ b ∈ l, q b = true) : ∀ b ∈ l.dropWhile p, q b = true :=
  fun b hb => h b ((List.dropWhile_suffix p).subset hb)
set_option maxRecDepth 100000 in
set_option maxHeartbeats 2000000 in
theorem fx_power (x : List UInt8) (w : World) (hl : x.length ≤ 1000000) (hd : ∀ b ∈ x.drop (sgn x), isD b = true) :
    Calls Tryz.prog 83 #[.string (bytesOf x)] w fun e w' => e = .returned (.int .i64 (powP x)) ∧ Below w.heap.size w w' := by
  have hs := bytesOf_size x
  by_cases hx : x = []
  · subst hx
    obtain ⟨e1, e2⟩ := str_none
    go_enter Tryz.func83, Tryz.ntmps83
    go_wp2
    go_ret
    exact ⟨rfl, Below.refl _ _⟩
  · obtain ⟨e1, e2⟩ := str_some hx
    have hpos : 0 < x.length := List.length_pos_iff.2 hx
    obtain ⟨b, hb⟩ : ∃ b, x[0]? = some b := ⟨_, List.getElem?_eq_getElem hpos⟩
    have hix := str_at (P := Tryz.prog) (T := 9) Tryz.underlying9 x .i64 0 b hb
    rw [Int.ofNat_zero] at hix
    obtain ⟨k, hk⟩ : ∃ k, sgn x = k := ⟨_, rfl⟩
    have hk1 := sgn_le x
    rw [hk] at hk1 hd
    have hf := str_from (P := Tryz.prog) (T := 9) Tryz.underlying9 x .i64 k (by omega)
    have hat := atoi_nought _ (dropWhile_all (p := (· == 48)) hd)
    rw [val_trim] at hat
    have hvl := val_lt _ hd
    have hdl : ((x.drop k).dropWhile (· == 48)).length ≤ x.length - k := by
      have := (List.dropWhile_suffix (· == (48 : UInt8)) (l := x.drop k)).length_le
      rwa [List.length_drop] at this
    rw [List.length_drop] at hvl
    obtain ⟨V, hV⟩ : ∃ V, val (x.drop k) = V := ⟨_, rfl⟩
    rw [hV] at hat hvl
    have hpv : powP x = if x[0]? = some 45 then -((if x.length - k ≤ 6 then V else 999999 : Nat) : Int) else ((if x.length - k ≤ 6 then V else 999999 : Nat) : Int) := by
      unfold powP; rw [if_neg hx, hk, hV]
    have Hk := Lib.hid hk
    have Hpv := Lib.hid hpv
    have Hb := Lib.hid hb
    have HV := Lib.hid hV
    have Hat := Lib.hid hat
    clear hk hpv hb hV hat
    by_cases h6 : x.length - k ≤ 6
    · have hV6 : V < 1000000 := Nat.lt_of_lt_of_le hvl (Nat.pow_le_pow_right (n := 10) (by omega) h6)
      go_enter Tryz.func83, Tryz.ntmps83
      go_wp2_with fail
      refine (fx_sign x w (by omega)).mono ?_
      rintro e w1 ⟨rfl, rfl⟩
      rw [Hk.out]
      go_wp2_with fail
      refine (Tryz.strings_TrimLeft_one _ 48 (by decide) _).mono ?_
      rintro e w1 ⟨rfl, rfl⟩
      rw [bytesOf_list]
      rw [show (⟨(Lib.trimLeftB (x.drop k) 48).toArray⟩ : ByteArray) = bytesOf ((x.drop k).dropWhile (· == 48)) from rfl]
      have hsd := bytesOf_size ((x.drop k).dropWhile (· == 48))
      go_wp2_with fail
      rw [show (⟨#[48]⟩ : ByteArray) = bytesOf [48] from rfl, bytesOf_append]
      refine (Tryz.strconv_Atoi _ (V : Int) (by rw [bytesOf_size]; simp; omega) (by rw [bytesOf_list]; exact Hat.out) _).mono ?_
      rintro e w2 ⟨rfl, t, rfl⟩
      have hbw := Lib.bytesWorld_below w1 5 t
      by_cases hm : b.toNat = 45
      · have hv : powP x = -(V : Int) := by
          rw [Hpv.out, if_pos h6, if_pos]
          rw [Hb.out]; congr 1; exact UInt8.toNat_inj.1 hm
        have Hv := Lib.hid hv
        clear hv
        rw [hm] at hix
        go_wp2
        go_ret
        exact ⟨ret_int (by rw [Hv.out]), hbw⟩
      · have hv : powP x = (V : Int) := by
          rw [Hpv.out, if_pos h6, if_neg]
          rw [Hb.out]; intro h; injection h with h; subst h; exact hm rfl
        have Hv := Lib.hid hv
        have hc := byte_ne hm
        clear hv
        go_wp2
        go_ret
        exact ⟨ret_int (by rw [Hv.out]), hbw⟩
    · go_enter Tryz.func83, Tryz.ntmps83
      go_wp2_with fail
      refine (fx_sign x w (by omega)).mono ?_
      rintro e w1 ⟨rfl, rfl⟩
      rw [Hk.out]
      go_wp2_with fail
      refine (Tryz.strings_TrimLeft_one _ 48 (by decide) _).mono ?_
      rintro e w1 ⟨rfl, rfl⟩
      rw [bytesOf_list]
      rw [show (⟨(Lib.trimLeftB (x.drop k) 48).toArray⟩ : ByteArray) = bytesOf ((x.drop k).dropWhile (· == 48)) from rfl]
      by_cases hm : b.toNat = 45
      · have hv : powP x = -(999999 : Int) := by
          rw [Hpv.out, if_neg h6, if_pos]
          · rfl
          rw [Hb.out]; congr 1; exact UInt8.toNat_inj.1 hm
        have Hv := Lib.hid hv
        clear hv
        rw [hm] at hix
        go_wp2
        go_ret
        exact ⟨ret_int (by rw [Hv.out]), Below.refl _ _⟩
      · have hv : powP x = (999999 : Int) := by
          rw [Hpv.out, if_neg h6, if_neg]
          · rfl
          rw [Hb.out]; intro h; injection h with h; subst h; exact hm rfl
        have Hv := Lib.hid hv
        have hc := byte_ne hm
        clear hv
        go_wp2
        go_ret
        exact ⟨ret_int (by rw [Hv.out]), Below.refl _ _⟩
end Go.Proofs.YtifedkilbpkpaaaGreatDoor
