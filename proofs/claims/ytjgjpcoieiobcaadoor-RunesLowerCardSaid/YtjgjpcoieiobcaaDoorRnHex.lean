/- runes.Hex is walked. -/
import Derived.Test.YtjgjpcoieiobcaaDoorRnLower
set_option linter.unusedVariables false
set_option linter.unusedSimpArgs false
namespace Go.Proofs.YtjgjpcoieiobcaaDoor
open Go.RowKit Rn
def hexText : ByteArray := ⟨#[48, 49, 50, 51, 52, 53, 54, 55, 56, 57, 97, 98, 99, 100, 101, 102]⟩
theorem hex_ascii : ∀ c : Fin 128, Lib.indexByte hexText.data.toList (low8 (UInt8.ofNat c.val)) = hexI (c.val : Int) := by decide +kernel
theorem hex_high : ∀ c : Fin 256, 128 ≤ c.val → Lib.indexByte hexText.data.toList (low8 (UInt8.ofNat c.val)) = -1 := by decide +kernel
theorem hex_first (c : Int) (hc : -2147483648 ≤ c ∧ c ≤ 2147483647) : ∃ b0, (lowerP (writeP [c]))[0]? = some b0 ∧ Lib.indexByte hexText.data.toList b0 = hexI c := by
  have hw : writeP [c] = Lib.encodeRune c := by simp [writeP]
  rw [hw]
  by_cases ha : 0 ≤ c ∧ c ≤ 127
  · refine ⟨low8 (UInt8.ofNat c.toNat), ?_, ?_⟩
    · simp only [Lib.encodeRune, Lib.encodeRuneZ_one ha.1 ha.2, lowerP, List.map_cons, List.map_nil, List.getElem?_cons_zero]
    · have := hex_ascii ⟨c.toNat, by omega⟩
      rw [this]
      have e : ((c.toNat : Nat) : Int) = c := by omega
      show hexI ((c.toNat : Nat) : Int) = hexI c
      rw [e]
  · have hx : hexI c = -1 := by unfold hexI; (repeat' split) <;> omega
    have : ∃ z : Int, 128 ≤ z ∧ z < 256 ∧ (Lib.encodeRune c)[0]? = some (UInt8.ofNat z.toNat) := by
      unfold Lib.encodeRune
      by_cases h2 : 128 ≤ c ∧ c ≤ 2047
      · rw [Lib.encodeRuneZ_two h2.1 h2.2]; exact ⟨192 + c / 64, by omega, by omega, rfl⟩
      · by_cases h3 : (2048 ≤ c ∧ c < 55296) ∨ (57343 < c ∧ c ≤ 65535)
        · rw [Lib.encodeRuneZ_three h3]; exact ⟨224 + c / 4096, by omega, by omega, rfl⟩
        · by_cases h4 : 65536 ≤ c ∧ c ≤ 1114111
          · rw [Lib.encodeRuneZ_four h4.1 h4.2]; exact ⟨240 + c / 262144, by omega, by omega, rfl⟩
          · rw [Lib.encodeRuneZ_bad (by omega)]; exact ⟨239, by omega, by omega, rfl⟩
    obtain ⟨z, z1, z2, hz⟩ := this
    refine ⟨low8 (UInt8.ofNat z.toNat), by rw [lowerP, List.getElem?_map, hz]; rfl, ?_⟩
    rw [hx]
    exact hex_high ⟨z.toNat, by omega⟩ (by simp; omega)

set_option maxRecDepth 100000 in
set_option maxHeartbeats 1000000 in
theorem rn_hex (c : Int) (w : World) (hc : -2147483648 ≤ c ∧ c ≤ 2147483647) :
    Calls Tryd.prog 24 #[.int .i32 c] w fun e w' => e = .returned (.int .i64 (hexI c)) ∧ Below w.heap.size w w' := by
  obtain ⟨b0, hb0, hx⟩ := hex_first c hc
  have Hb0 := Lib.hid hb0
  have Hx := Lib.hid hx
  clear hb0 hx
  go_enter Tryd.func24, Tryd.ntmps24
  go_wp2_with fail
  have hrow : RowAt (w.alloc (.cells #[.int .i32 c] 21)) w.heap.size ([c].map r32) := RowAt.new _ _ _
  have hr := (hrow.reads (B := w.heap.size + 1) (by omega))
  have hsz : (w.alloc (.cells #[.int .i32 c] 21)).heap.size = w.heap.size + 1 := by simp
  refine (rn_write [c] _ 1 1 _ (by rw [hsz]; exact hr) (by intro d hd; simp at hd; subst hd; exact hc) (by omega)).mono ?_
  rintro e w1 ⟨v, rfl, hown, hb1⟩
  obtain ⟨A, cp, rfl, _, _⟩ := own_form hown
  have hrd := Reads.of_own hown
  have hstr := run_str (P := Tryd.prog) (src := 22) (dst := 9) Tryd.underlying22 Tryd.underlying5 Tryd.underlying9 cp hrd
  have hbw : Below w.heap.size w w1 := ((Below.refl _ _).alloc (Nat.le_refl _) _).trans (hb1.mono (by rw [hsz]; omega))
  have hlen := writeP_len [c]
  clear hrd hown hrow hr hb1
  go_wp2_with fail
  refine (rn_lower (bytesOf (writeP [c])) _ (by rw [bytesOf_size]; simp at hlen; omega)).mono ?_
  rintro e w2 ⟨rfl, hb2⟩
  have hfin : Below w.heap.size w w2 := hbw.trans (hb2.mono hbw.size)
  have hS : (bytesOf (lowerP (bytesOf (writeP [c])).data.toList)).data.toList[0]? = some b0 := by simpa [bytesOf] using Hb0.out
  generalize bytesOf (lowerP (bytesOf (writeP [c])).data.toList) = S at *
  have hS0 : 0 < S.size := by
    rcases Nat.eq_zero_or_pos S.size with h | h
    · have : S.data.toList = [] := List.eq_nil_of_length_eq_zero (by rw [Array.length_toList]; exact h)
      rw [this] at hS; cases hS
    · exact h
  have hS1 : S[0]'hS0 = b0 := by
    have : S.data.toList[0]? = some (S[0]'hS0) := by
      rw [List.getElem?_eq_getElem (by rw [Array.length_toList]; exact hS0)]; rfl
    rw [this] at hS; injection hS
  have HS1 := Lib.hid hS1
  clear hS hS1 hstr hbw hb2 hlen
  go_wp2_with fail
  refine (Tryd.strings_IndexByte _ _ _).mono ?_
  rintro e w3 ⟨rfl, rfl⟩
  go_wp2
  go_ret
  refine ⟨ret_int ?_, hfin⟩
  rw [HS1.out]
  exact Hx.out
end Go.Proofs.YtjgjpcoieiobcaaDoor
