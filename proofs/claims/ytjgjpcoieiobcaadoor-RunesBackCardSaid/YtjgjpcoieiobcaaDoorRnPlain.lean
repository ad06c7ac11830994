/- Plain laws of layer 2: what was written is read as it was; what is read is characters; bytes parted ahead of one below 0x80 that is no 10. No program in sight. -/
import Derived.Test.YtjgjpcoieiobcaaDoorRefPlain
import Derived.Test.YtjgjpcoieiobcaaDoorRnWrite
set_option linter.unusedVariables false
set_option linter.unusedSimpArgs false
namespace Go.Proofs.YtjgjpcoieiobcaaDoor
open Go.RowKit Rn

theorem b_of (z : Int) (h0 : 0 ≤ z) (h1 : z < 256) : (z.toNat.toUInt8).toNat = z.toNat := by simp; omega

theorem scan_le_add (bs : List UInt8) (lo hi : Nat) : ∀ f k, scan bs lo hi f k ≤ k + f
  | 0, k => Nat.le_refl _
  | f + 1, k => by
    unfold scan; split
    · exact Nat.le_trans (scan_le_add bs lo hi f (k + 1)) (by omega)
    · omega
theorem stop_le (bs : List UInt8) {n : Nat} (h : bN (bs[0]?.getD 0).toNat = n) (h0 : 1 ≤ n) : stopP bs ≤ n := by
  have := scan_le_add bs (bLo (bs[0]?.getD 0).toNat) (bHi (bs[0]?.getD 0).toNat) (bN (bs[0]?.getD 0).toNat - 1) 1
  unfold stopP
  simp only
  omega
/-- The bytes of a character are read as it, whatever stands behind. -/
theorem next_enc (c : Int) (hc : isB c = true) (rest : List UInt8) : nextC (Lib.encodeRune c ++ rest) = c ∧ nextN (Lib.encodeRune c ++ rest) = (Lib.encodeRune c).length := by
  have hc' : 0 ≤ c ∧ c ≤ 1114111 ∧ (c < 55296 ∨ 57343 < c) := by simpa [isB] using hc
  clear hc
  obtain ⟨h0, h1, h2⟩ := hc'
  by_cases c1 : c < 128
  · have e : Lib.encodeRune c = [c.toNat.toUInt8] := by simp [Lib.encodeRune, Lib.encodeRuneZ_one h0 (by omega : c ≤ 127)]
    rw [e]
    have hb : bN (((([c.toNat.toUInt8] ++ rest)[0]?).getD 0).toNat) = 1 := by
      show bN (c.toNat.toUInt8).toNat = 1
      rw [b_of c h0 (by omega)]; unfold bN; rw [if_pos (by omega)]
    have hst : stopP ([c.toNat.toUInt8] ++ rest) = 1 := by unfold stopP; simp only; rw [hb]; rfl
    have hx := next_full (bs := [c.toNat.toUInt8] ++ rest) (by omega) (by rw [hst, hb])
    rw [hb] at hx
    refine ⟨?_, hx.2⟩
    rw [hx.1]
    simp only [val, if_true]
    show (((c.toNat.toUInt8).toNat : Nat) : Int) = c
    rw [b_of c h0 (by omega)]; omega
  · by_cases c2 : c < 2048
    · have e : Lib.encodeRune c = [(192 + c / 64).toNat.toUInt8, (128 + c % 64).toNat.toUInt8] := by simp [Lib.encodeRune, Lib.encodeRuneZ_two (by omega : 128 ≤ c) (by omega)]
      rw [e]
      have g0 := b_of (192 + c / 64) (by omega) (by omega)
      have g1 := b_of (128 + c % 64) (by omega) (by omega)
      generalize (192 + c / 64).toNat.toUInt8 = b0 at *
      generalize (128 + c % 64).toNat.toUInt8 = b1 at *
      have hb : bN (((([b0, b1] ++ rest)[0]?).getD 0).toNat) = 2 := by
        show bN b0.toNat = 2
        unfold bN; rw [if_neg (by omega), if_neg (by omega), if_pos (by omega)]
      have hst : 2 ≤ stopP ([b0, b1] ++ rest) := by
        rw [stop_ge _ 2 (by omega) (by omega)]
        intro j j1 j2
        obtain rfl : j = 1 := by omega
        rw [okAt_iff (b := b1) rfl]
        show loAt b0.toNat 1 ≤ b1.toNat ∧ b1.toNat ≤ hiAt b0.toNat 1
        unfold loAt hiAt bLo bHi
        (repeat' split) <;> omega
      have hst2 : stopP ([b0, b1] ++ rest) ≤ 2 := stop_le _ hb (by omega)
      have hx := next_full (bs := [b0, b1] ++ rest) (by omega) (by omega)
      rw [hb] at hx
      refine ⟨?_, hx.2⟩
      rw [hx.1]
      simp only [val, if_true, if_neg (show ¬ (2 = 1) from by omega)]
      show ((b0.toNat % 32 * 64 + b1.toNat % 64 : Nat) : Int) = c
      omega
    · by_cases c3 : c < 65536
      · have e : Lib.encodeRune c = [(224 + c / 4096).toNat.toUInt8, (128 + c / 64 % 64).toNat.toUInt8, (128 + c % 64).toNat.toUInt8] := by simp [Lib.encodeRune, Lib.encodeRuneZ_three (r := c) (by omega)]
        rw [e]
        have g0 := b_of (224 + c / 4096) (by omega) (by omega)
        have g1 := b_of (128 + c / 64 % 64) (by omega) (by omega)
        have g2 := b_of (128 + c % 64) (by omega) (by omega)
        generalize (224 + c / 4096).toNat.toUInt8 = b0 at *
        generalize (128 + c / 64 % 64).toNat.toUInt8 = b1 at *
        generalize (128 + c % 64).toNat.toUInt8 = b2 at *
        have hb : bN (((([b0, b1, b2] ++ rest)[0]?).getD 0).toNat) = 3 := by
          show bN b0.toNat = 3
          unfold bN; rw [if_neg (by omega), if_neg (by omega), if_neg (by omega), if_pos (by omega)]
        have hst : 3 ≤ stopP ([b0, b1, b2] ++ rest) := by
          rw [stop_ge _ 3 (by omega) (by omega)]
          intro j j1 j2
          obtain rfl | rfl : j = 1 ∨ j = 2 := by omega
          · rw [okAt_iff (b := b1) rfl]
            show loAt b0.toNat 1 ≤ b1.toNat ∧ b1.toNat ≤ hiAt b0.toNat 1
            unfold loAt hiAt bLo bHi
            (repeat' split) <;> omega
          · rw [okAt_iff (b := b2) rfl]
            show loAt b0.toNat 2 ≤ b2.toNat ∧ b2.toNat ≤ hiAt b0.toNat 2
            unfold loAt hiAt
            (repeat' split) <;> omega
        have hst2 : stopP ([b0, b1, b2] ++ rest) ≤ 3 := stop_le _ hb (by omega)
        have hx := next_full (bs := [b0, b1, b2] ++ rest) (by omega) (by omega)
        rw [hb] at hx
        refine ⟨?_, hx.2⟩
        rw [hx.1]
        simp only [val, if_true, if_neg (show ¬ (3 = 1) from by omega), if_neg (show ¬ (3 = 2) from by omega)]
        show ((b0.toNat % 16 * 4096 + b1.toNat % 64 * 64 + b2.toNat % 64 : Nat) : Int) = c
        omega
      · have e : Lib.encodeRune c = [(240 + c / 262144).toNat.toUInt8, (128 + c / 4096 % 64).toNat.toUInt8, (128 + c / 64 % 64).toNat.toUInt8, (128 + c % 64).toNat.toUInt8] := by simp [Lib.encodeRune, Lib.encodeRuneZ_four (by omega : 65536 ≤ c) h1]
        rw [e]
        have g0 := b_of (240 + c / 262144) (by omega) (by omega)
        have g1 := b_of (128 + c / 4096 % 64) (by omega) (by omega)
        have g2 := b_of (128 + c / 64 % 64) (by omega) (by omega)
        have g3 := b_of (128 + c % 64) (by omega) (by omega)
        generalize (240 + c / 262144).toNat.toUInt8 = b0 at *
        generalize (128 + c / 4096 % 64).toNat.toUInt8 = b1 at *
        generalize (128 + c / 64 % 64).toNat.toUInt8 = b2 at *
        generalize (128 + c % 64).toNat.toUInt8 = b3 at *
        have hb : bN (((([b0, b1, b2, b3] ++ rest)[0]?).getD 0).toNat) = 4 := by
          show bN b0.toNat = 4
          unfold bN; rw [if_neg (by omega), if_neg (by omega), if_neg (by omega), if_neg (by omega)]
        have hst : 4 ≤ stopP ([b0, b1, b2, b3] ++ rest) := by
          rw [stop_ge _ 4 (by omega) (by omega)]
          intro j j1 j2
          obtain rfl | rfl | rfl : j = 1 ∨ j = 2 ∨ j = 3 := by omega
          · rw [okAt_iff (b := b1) rfl]
            show loAt b0.toNat 1 ≤ b1.toNat ∧ b1.toNat ≤ hiAt b0.toNat 1
            unfold loAt hiAt bLo bHi
            (repeat' split) <;> omega
          · rw [okAt_iff (b := b2) rfl]
            show loAt b0.toNat 2 ≤ b2.toNat ∧ b2.toNat ≤ hiAt b0.toNat 2
            unfold loAt hiAt
            (repeat' split) <;> omega
          · rw [okAt_iff (b := b3) rfl]
            show loAt b0.toNat 3 ≤ b3.toNat ∧ b3.toNat ≤ hiAt b0.toNat 3
            unfold loAt hiAt
            (repeat' split) <;> omega
        have hst2 : stopP ([b0, b1, b2, b3] ++ rest) ≤ 4 := stop_le _ hb (by omega)
        have hx := next_full (bs := [b0, b1, b2, b3] ++ rest) (by omega) (by omega)
        rw [hb] at hx
        refine ⟨?_, hx.2⟩
        rw [hx.1]
        simp only [val, if_true, if_neg (show ¬ (4 = 1) from by omega), if_neg (show ¬ (4 = 2) from by omega), if_neg (show ¬ (4 = 3) from by omega)]
        show ((b0.toNat % 8 * 262144 + b1.toNat % 64 * 4096 + b2.toNat % 64 * 64 + b3.toNat % 64 : Nat) : Int) = c
        omega

theorem enc_ne (c : Int) (rest : List UInt8) : Lib.encodeRune c ++ rest ≠ [] := by
  intro e
  have h := (encode_len c).1
  rw [(List.append_eq_nil_iff.1 e).1] at h
  simp at h
/-- A character that a sheet may hold. -/
def Plain (c : Int) : Prop := isB c = true ∧ c ≠ 0 ∧ c ≠ 12 ∧ c ≠ 13
theorem readF_write : ∀ (l : List Int) (f : Nat), (writeP l).length ≤ f → (∀ c ∈ l, Plain c) → readF f (writeP l) = l
  | [], f, _, _ => by cases f <;> simp [readF, writeP]
  | c :: l, f, h, hl => by
    have hc := hl c (by simp)
    have hn := next_enc c hc.1 (writeP l)
    have hw : writeP (c :: l) = Lib.encodeRune c ++ writeP l := by simp [writeP]
    have h1 := (encode_len c).1
    rw [hw] at h ⊢
    rw [List.length_append] at h
    obtain ⟨g, rfl⟩ : ∃ g, f = g + 1 := ⟨f - 1, by omega⟩
    rw [readF_char g (enc_ne c _) (by rw [hn.1]; exact hc.2.1) (by rw [hn.1]; exact hc.2.2.2) (by rw [hn.1]; exact hc.2.2.1), hn.1, hn.2, List.drop_left]
    rw [readF_write l g (by omega) (fun d hd => hl d (by simp [hd]))]
theorem read_write (l : List Int) (h : ∀ c ∈ l, Plain c) : readP (writeP l) = l := readF_write l _ (Nat.le_refl _) h
end Go.Proofs.YtjgjpcoieiobcaaDoor
