/- runes.Write and runes.Lower, runes.Hex are walked. -/
import Derived.Test.YthimfoonalfoeaaDoorB02
import Derived.Lib.RuneBytes
import Derived.Test.YthimfoonalfoeaaDoorB01
import Derived.Laws.BytesArg
import Derived.Lib.ConvBytes
/- Plain laws of layer 2's reference: which bytes begin a character's, against what runes.next finds. No program in sight. -/
set_option linter.unusedVariables false
set_option linter.unusedSimpArgs false
namespace Go.Proofs.YthimfoonalfoeaaDoor
open Go.RowKit Rn
namespace Rn
def begR (bs : List UInt8) (long : Nat) : Bool :=
  let lo := (spanR bs long).1
  let hi := (spanR bs long).2
  if lo < 0 then false else
  let least : Int := if long = 4 then 65536 else if long = 3 then 2048 else 128
  let low := max lo least
  let high := min hi 1114111
  let low := if 55296 ≤ low ∧ low ≤ 57343 then 57344 else low
  decide (low ≤ high)
end Rn
theorem spanF_range (bs : List UInt8) : ∀ (f k : Nat) (lo hi : Int), 1 ≤ k → k + f ≤ 4 → 0 ≤ lo → lo ≤ hi → hi ≤ most k →
    spanF bs f k lo hi = (-1, -1) ∨ (0 ≤ (spanF bs f k lo hi).1 ∧ (spanF bs f k lo hi).1 ≤ (spanF bs f k lo hi).2 ∧ (spanF bs f k lo hi).2 ≤ 8388607)
  | 0, k, lo, hi, h1, h2, h3, h4, h5 => .inr ⟨h3, h4, Int.le_trans h5 (most_le k)⟩
  | f + 1, k, lo, hi, h1, h2, h3, h4, h5 => by
    have hm := most_step k h1 (by omega)
    unfold spanF
    cases hb : bs[k]? with
    | none => exact spanF_range bs f (k + 1) _ _ (by omega) (by omega) (by omega) (by omega) (by omega)
    | some b =>
      simp only
      split
      · exact .inl rfl
      · exact spanF_range bs f (k + 1) _ _ (by omega) (by omega) (by omega) (by omega) (by omega)
theorem spanR_range (bs : List UInt8) (long : Nat) (h2 : 2 ≤ long) (h4 : long ≤ 4) :
    spanR bs long = (-1, -1) ∨ (0 ≤ (spanR bs long).1 ∧ (spanR bs long).1 ≤ (spanR bs long).2 ∧ (spanR bs long).2 ≤ 8388607) := by
  unfold spanR
  simp only
  split
  · exact .inl rfl
  · rename_i h
    refine spanF_range bs (long - 1) 1 _ _ (by omega) (by omega) (by omega) (by omega) ?_
    unfold lowOf most
    (repeat' split) <;> omega

/-- With the explicit bytes: begR says just whether the length is the first byte's and every further byte may stand. -/
theorem beg1 (b0 : UInt8) (long : Nat) (h0 : 128 ≤ b0.toNat) (h2 : 2 ≤ long) (h4 : long ≤ 4) : begR [b0] long = true ↔ long = bN b0.toNat := by
  have := b0.toNat_lt
  obtain rfl | rfl | rfl : long = 2 ∨ long = 3 ∨ long = 4 := by omega
  all_goals
    simp only [begR, spanR, lowOf, List.getElem?_cons_zero, Option.getD_some]
    generalize b0.toNat = x at *
    simp [spanF]
    unfold bN
    (repeat' split) <;> simp <;> omega
set_option maxHeartbeats 1000000 in
theorem beg2 (b0 b1 : UInt8) (long : Nat) (h0 : 128 ≤ b0.toNat) (hk : 2 ≤ long) (h4 : long ≤ 4) : begR [b0, b1] long = true ↔ long = bN b0.toNat ∧ (bLo b0.toNat ≤ b1.toNat ∧ b1.toNat ≤ bHi b0.toNat) := by
  have h0 := b0.toNat_lt; have h1 := b1.toNat_lt
  obtain rfl | rfl | rfl : long = 2 ∨ long = 3 ∨ long = 4 := by omega
  all_goals
    simp only [begR, spanR, lowOf, List.getElem?_cons_zero, Option.getD_some]
    simp [spanF]
    generalize b0.toNat = x0 at *
    generalize b1.toNat = x1 at *
    unfold bN bLo bHi
    (repeat' split) <;> simp <;> omega
set_option maxHeartbeats 1000000 in
theorem beg3 (b0 b1 b2 : UInt8) (long : Nat) (h0 : 128 ≤ b0.toNat) (hk : 3 ≤ long) (h4 : long ≤ 4) : begR [b0, b1, b2] long = true ↔ long = bN b0.toNat ∧ (bLo b0.toNat ≤ b1.toNat ∧ b1.toNat ≤ bHi b0.toNat) ∧ (128 ≤ b2.toNat ∧ b2.toNat ≤ 191) := by
  have h0 := b0.toNat_lt; have h1 := b1.toNat_lt; have h2 := b2.toNat_lt
  obtain rfl | rfl : long = 3 ∨ long = 4 := by omega
  all_goals
    simp only [begR, spanR, lowOf, List.getElem?_cons_zero, Option.getD_some]
    simp [spanF]
    generalize b0.toNat = x0 at *
    generalize b1.toNat = x1 at *
    generalize b2.toNat = x2 at *
    unfold bN bLo bHi
    (repeat' split) <;> simp <;> omega
set_option maxHeartbeats 1000000 in
theorem beg4 (b0 b1 b2 b3 : UInt8) (long : Nat) (h0 : 128 ≤ b0.toNat) (hk : 4 ≤ long) (h4 : long ≤ 4) : begR [b0, b1, b2, b3] long = true ↔ long = bN b0.toNat ∧ (bLo b0.toNat ≤ b1.toNat ∧ b1.toNat ≤ bHi b0.toNat) ∧ (128 ≤ b2.toNat ∧ b2.toNat ≤ 191) ∧ (128 ≤ b3.toNat ∧ b3.toNat ≤ 191) := by
  have h0 := b0.toNat_lt; have h1 := b1.toNat_lt; have h2 := b2.toNat_lt; have h3 := b3.toNat_lt
  obtain rfl : long = 4 := by omega
  all_goals
    simp only [begR, spanR, lowOf, List.getElem?_cons_zero, Option.getD_some]
    simp [spanF]
    generalize b0.toNat = x0 at *
    generalize b1.toNat = x1 at *
    generalize b2.toNat = x2 at *
    generalize b3.toNat = x3 at *
    unfold bN bLo bHi
    (repeat' split) <;> simp <;> omega

theorem scan_ge_iff (bs : List UInt8) (lo hi : Nat) : ∀ (f k0 k : Nat), k ≤ k0 + f → (k ≤ scan bs lo hi f k0 ↔ ∀ j, k0 ≤ j → j < k → okAt bs lo hi j = true)
  | 0, k0, k, h => ⟨fun _ j h1 h2 => by omega, fun _ => by simpa [scan] using h⟩
  | f + 1, k0, k, h => by
    unfold scan
    cases hk : okAt bs lo hi k0 with
    | false =>
      simp only [Bool.false_eq_true, if_false]
      constructor
      · intro h1 j h2 h3; omega
      · intro h1
        rcases Nat.lt_or_ge k0 k with h2 | h2
        · have := h1 k0 (Nat.le_refl _) h2; rw [hk] at this; cases this
        · exact h2
    | true =>
      simp only [if_true]
      rw [scan_ge_iff bs lo hi f (k0 + 1) k (by omega)]
      constructor
      · intro h1 j h2 h3
        rcases Nat.eq_or_lt_of_le h2 with e | e
        · rw [← e]; exact hk
        · exact h1 j e h3
      · intro h1 j h2 h3; exact h1 j (by omega) h3
theorem stop_ge (bs : List UInt8) (k : Nat) (h : k ≤ bN (bs[0]?.getD 0).toNat) (h1 : 1 ≤ k) : k ≤ stopP bs ↔ ∀ j, 1 ≤ j → j < k → okAt bs (bLo (bs[0]?.getD 0).toNat) (bHi (bs[0]?.getD 0).toNat) j = true := by
  unfold stopP
  exact scan_ge_iff bs _ _ _ 1 k (by omega)
theorem okAt_iff {bs : List UInt8} {c k : Nat} {b : UInt8} (h : bs[k]? = some b) : okAt bs (bLo c) (bHi c) k = true ↔ (loAt c k ≤ b.toNat ∧ b.toNat ≤ hiAt c k) := by
  rw [okAt_some h]; simp

theorem beg_take (bs : List UInt8) (k long : Nat) (h0 : 128 ≤ (bs[0]?.getD 0).toNat) (h1 : 1 ≤ k) (hkl : k ≤ long) (h2 : 2 ≤ long) (h4 : long ≤ 4) (hk : k ≤ bs.length) :
    begR (bs.take k) long = true ↔ long = bN (bs[0]?.getD 0).toNat ∧ k ≤ stopP bs := by
  have key : long = bN (bs[0]?.getD 0).toNat → (k ≤ stopP bs ↔ ∀ j, 1 ≤ j → j < k → okAt bs (bLo (bs[0]?.getD 0).toNat) (bHi (bs[0]?.getD 0).toNat) j = true) := fun h => stop_ge bs k (by omega) h1
  rw [and_congr_right key]
  clear key
  have g : ∀ j (h : j < bs.length), bs[j]? = some bs[j] := fun j h => List.getElem?_eq_getElem h
  obtain ⟨b0, r0, rfl⟩ := List.exists_cons_of_length_pos (l := bs) (by omega)
  simp only [List.getElem?_cons_zero, Option.getD_some] at h0 ⊢
  obtain rfl | rfl | rfl | rfl : k = 1 ∨ k = 2 ∨ k = 3 ∨ k = 4 := by omega
  · simp only [List.take_succ_cons, List.take_zero]
    rw [beg1 b0 long h0 h2 h4]
    constructor
    · intro h; exact ⟨h, fun j _ _ => by omega⟩
    · intro h; exact h.1
  · obtain ⟨b1, r1, rfl⟩ := List.exists_cons_of_length_pos (l := r0) (by simp at hk; omega)
    simp only [List.take_succ_cons, List.take_zero]
    rw [beg2 b0 b1 long h0 hkl h4]
    refine and_congr_right fun _ => ?_
    have e1 := okAt_iff (bs := b0 :: b1 :: r1) (c := b0.toNat) (k := 1) (b := b1) rfl
    simp only [loAt, hiAt, if_true] at e1
    rw [← e1]
    constructor
    · intro h j h1 h2; obtain rfl : j = 1 := by omega
      exact h
    · intro h; exact h 1 (by omega) (by omega)
  · obtain ⟨b1, r1, rfl⟩ := List.exists_cons_of_length_pos (l := r0) (by simp at hk; omega)
    obtain ⟨b2, r2, rfl⟩ := List.exists_cons_of_length_pos (l := r1) (by simp at hk; omega)
    simp only [List.take_succ_cons, List.take_zero]
    rw [beg3 b0 b1 b2 long h0 hkl h4]
    refine and_congr_right fun _ => ?_
    have e1 := okAt_iff (bs := b0 :: b1 :: b2 :: r2) (c := b0.toNat) (k := 1) (b := b1) rfl
    have e2 := okAt_iff (bs := b0 :: b1 :: b2 :: r2) (c := b0.toNat) (k := 2) (b := b2) rfl
    simp only [loAt, hiAt, if_true, if_neg (show ¬ (2 = 1) from by omega)] at e1 e2
    rw [← e1, ← e2]
    constructor
    · rintro ⟨h1, h2⟩ j h3 h4
      obtain rfl | rfl : j = 1 ∨ j = 2 := by omega
      · exact h1
      · exact h2
    · intro h; exact ⟨h 1 (by omega) (by omega), h 2 (by omega) (by omega)⟩
  · obtain ⟨b1, r1, rfl⟩ := List.exists_cons_of_length_pos (l := r0) (by simp at hk; omega)
    obtain ⟨b2, r2, rfl⟩ := List.exists_cons_of_length_pos (l := r1) (by simp at hk; omega)
    obtain ⟨b3, r3, rfl⟩ := List.exists_cons_of_length_pos (l := r2) (by simp at hk; omega)
    simp only [List.take_succ_cons, List.take_zero]
    rw [beg4 b0 b1 b2 b3 long h0 hkl h4]
    refine and_congr_right fun _ => ?_
    have e1 := okAt_iff (bs := b0 :: b1 :: b2 :: b3 :: r3) (c := b0.toNat) (k := 1) (b := b1) rfl
    have e2 := okAt_iff (bs := b0 :: b1 :: b2 :: b3 :: r3) (c := b0.toNat) (k := 2) (b := b2) rfl
    have e3 := okAt_iff (bs := b0 :: b1 :: b2 :: b3 :: r3) (c := b0.toNat) (k := 3) (b := b3) rfl
    simp only [loAt, hiAt, if_true, if_neg (show ¬ (2 = 1) from by omega), if_neg (show ¬ (3 = 1) from by omega)] at e1 e2 e3
    rw [← e1, ← e2, ← e3]
    constructor
    · rintro ⟨h1, h2, h3⟩ j h4 h5
      obtain rfl | rfl | rfl : j = 1 ∨ j = 2 ∨ j = 3 := by omega
      · exact h1
      · exact h2
      · exact h3
    · intro h; exact ⟨h 1 (by omega) (by omega), h 2 (by omega) (by omega), h 3 (by omega) (by omega)⟩

theorem span_val (bs : List UInt8) (long : Nat) (h2 : 2 ≤ long) (h4 : long ≤ 4) (hN : long = bN (bs[0]?.getD 0).toNat) (hl : long ≤ bs.length) (hs : stopP bs = long) :
    (spanR (bs.take long) long).1 = val bs long := by
  have hok := (stop_ge bs long (by omega) (by omega)).1 (by omega)
  obtain ⟨b0, r0, rfl⟩ := List.exists_cons_of_length_pos (l := bs) (by omega)
  simp only [List.getElem?_cons_zero, Option.getD_some] at hN hok
  have hb0 := b0.toNat_lt
  have hc0 : 194 ≤ b0.toNat ∧ b0.toNat ≤ 244 := by revert hN; unfold bN; (repeat' split) <;> omega
  obtain ⟨b1, g1, l1, u1⟩ := okAt_mem (hok 1 (by omega) (by omega))
  obtain ⟨b1', r1, rfl⟩ := List.exists_cons_of_length_pos (l := r0) (by simp at hl; omega)
  obtain rfl : b1 = b1' := by simpa using g1.symm
  have hb1 : 128 ≤ b1.toNat ∧ b1.toNat ≤ 191 := by
    revert l1 u1; unfold loAt hiAt bLo bHi; (repeat' split) <;> omega
  obtain rfl | rfl | rfl : long = 2 ∨ long = 3 ∨ long = 4 := by omega
  · have h1 : 194 ≤ b0.toNat ∧ b0.toNat < 224 := by revert hN; unfold bN; (repeat' split) <;> omega
    simp only [List.take_succ_cons, List.take_zero, val, spanR, lowOf, List.getElem?_cons_zero, Option.getD_some, List.getElem?_cons_succ, if_neg (show ¬ (2 = 1) from by omega), if_true]
    simp [spanF]
    (repeat' split) <;> omega
  · have h1 : 224 ≤ b0.toNat ∧ b0.toNat < 240 := by revert hN; unfold bN; (repeat' split) <;> omega
    obtain ⟨b2, g2, l2, u2⟩ := okAt_mem (hok 2 (by omega) (by omega))
    obtain ⟨b2', r2, rfl⟩ := List.exists_cons_of_length_pos (l := r1) (by simp at hl; omega)
    obtain rfl : b2 = b2' := by simpa using g2.symm
    have hb2 : 128 ≤ b2.toNat ∧ b2.toNat ≤ 191 := by revert l2 u2; unfold loAt hiAt; (repeat' split) <;> omega
    simp only [List.take_succ_cons, List.take_zero, val, spanR, lowOf, List.getElem?_cons_zero, Option.getD_some, List.getElem?_cons_succ, if_neg (show ¬ (3 = 1) from by omega), if_neg (show ¬ (3 = 2) from by omega), if_true]
    simp [spanF]
    (repeat' split) <;> omega
  · have h1 : 240 ≤ b0.toNat ∧ b0.toNat ≤ 244 := by revert hN; unfold bN; (repeat' split) <;> omega
    obtain ⟨b2, g2, l2, u2⟩ := okAt_mem (hok 2 (by omega) (by omega))
    obtain ⟨b2', r2, rfl⟩ := List.exists_cons_of_length_pos (l := r1) (by simp at hl; omega)
    obtain rfl : b2 = b2' := by simpa using g2.symm
    obtain ⟨b3, g3, l3, u3⟩ := okAt_mem (hok 3 (by omega) (by omega))
    obtain ⟨b3', r3, rfl⟩ := List.exists_cons_of_length_pos (l := r2) (by simp at hl; omega)
    obtain rfl : b3 = b3' := by simpa using g3.symm
    have hb2 : 128 ≤ b2.toNat ∧ b2.toNat ≤ 191 := by revert l2 u2; unfold loAt hiAt; (repeat' split) <;> omega
    have hb3 : 128 ≤ b3.toNat ∧ b3.toNat ≤ 191 := by revert l3 u3; unfold loAt hiAt; (repeat' split) <;> omega
    simp only [List.take_succ_cons, List.take_zero, val, spanR, lowOf, List.getElem?_cons_zero, Option.getD_some, List.getElem?_cons_succ, if_neg (show ¬ (4 = 1) from by omega), if_neg (show ¬ (4 = 2) from by omega), if_neg (show ¬ (4 = 3) from by omega)]
    simp [spanF]
    (repeat' split) <;> omega
end Go.Proofs.YthimfoonalfoeaaDoor
set_option linter.unusedVariables false
set_option linter.unusedSimpArgs false
namespace Go.Proofs.YthimfoonalfoeaaDoor
open Go.RowKit Rn
namespace Rn
/-- the bytes of characters, of what is none those of 0xFFFD -/
def writeP (l : List Int) : List UInt8 := l.flatMap Lib.encodeRune
end Rn
theorem runeCells_b8 (r : Int) : Lib.runeCells r = (Lib.encodeRune r).map b8 := by
  unfold Lib.runeCells Lib.encodeRune
  rw [List.map_map]
  apply List.map_congr_left
  intro x hx
  have := Lib.encodeRuneZ_byte r x hx
  simp only [Function.comp, b8]
  congr 1
  have h2 : x.toNat.toUInt8.toNat = x.toNat := by simp; omega
  rw [h2]; omega
theorem encode_len (r : Int) : 1 ≤ (Lib.encodeRune r).length ∧ (Lib.encodeRune r).length ≤ 4 := by
  unfold Lib.encodeRune Lib.encodeRuneZ
  (repeat' split) <;> simp
theorem encode_bad (c : Int) (h : isB c = false) : Lib.encodeRune c = Lib.encodeRune 65533 := by
  unfold Lib.encodeRune
  rw [Lib.encodeRuneZ_bad (by unfold isB at h; simp at h; omega), Lib.encodeRuneZ_three (by omega)]
  rfl
theorem writeP_len (l : List Int) : (writeP l).length ≤ 4 * l.length := by
  induction l with
  | nil => simp [writeP]
  | cons c l ih =>
    have := (encode_len c).2
    simp only [writeP, List.flatMap_cons, List.length_append, List.length_cons] at ih ⊢
    omega
theorem writeP_snoc (l : List Int) (c : Int) : writeP (l ++ [c]) = writeP l ++ Lib.encodeRune c := by simp [writeP]

end Go.Proofs.YthimfoonalfoeaaDoor
