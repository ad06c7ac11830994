/- The laws RunesLower and RunesTell of layer 2 are walked. -/
import Derived.Test.YtjgjpcoieiobcaaDoorRnLawA
set_option linter.unusedVariables false
set_option linter.unusedSimpArgs false
namespace Go.Proofs.YtjgjpcoieiobcaaDoor
open Go.RowKit Rn

theorem low8_twice (b : UInt8) : low8 (low8 b) = low8 b := by
  have hb := b.toNat_lt
  unfold low8
  by_cases h : 65 ≤ b.toNat ∧ b.toNat ≤ 90
  · have : (b + 32).toNat = b.toNat + 32 := by rw [UInt8.toNat_add]; simp; omega
    rw [if_pos h, if_neg (by omega)]
  · rw [if_neg h, if_neg h]
theorem lowerP_twice (l : List UInt8) : lowerP (lowerP l) = lowerP l := by
  simp only [lowerP, List.map_map]
  exact List.map_congr_left fun b _ => low8_twice b

set_option maxRecDepth 100000 in
set_option maxHeartbeats 2000000 in
theorem walk_RunesLower (s : ByteArray) (w : World) (hs : s.size ≤ maxLen) (hT : Tabs w) :
    Calls Tryd.prog 6 #[.string s] w fun e w' => e = .returned (.bool true) ∧ Below w.heap.size w w' := by
  unfold maxLen at hs
  by_cases hn : s.size ≤ 2000
  · have hlow := rn_lower s w (by omega)
    have hlen : s.data.toList.length = s.size := Array.length_toList
    have hSz : (bytesOf (lowerP s.data.toList)).size = s.size := by rw [bytesOf_size, lowerP, List.length_map, hlen]
    have hSt : (bytesOf (lowerP s.data.toList)).data.toList = lowerP s.data.toList := by simp [bytesOf]
    have htw : bytesOf (lowerP (bytesOf (lowerP s.data.toList)).data.toList) = bytesOf (lowerP s.data.toList) := by rw [hSt, lowerP_twice]
    have hat : ∀ (k : Nat) (h : k < s.size) (h' : k < (bytesOf (lowerP s.data.toList)).size), (bytesOf (lowerP s.data.toList))[k]'h' = low8 (s[k]'h) := by
      intro k h h'
      have h1 : (lowerP s.data.toList)[k]? = some (low8 (s[k]'h)) := by
        rw [lowerP, List.getElem?_map, List.getElem?_eq_getElem (by rw [hlen]; exact h)]; rfl
      have h2 : (bytesOf (lowerP s.data.toList)).data.toList[k]? = some ((bytesOf (lowerP s.data.toList))[k]'h') := by
        rw [List.getElem?_eq_getElem (by rw [Array.length_toList]; exact h')]; rfl
      rw [hSt, h1] at h2
      injection h2 with h2
      exact h2.symm
    generalize bytesOf (lowerP s.data.toList) = S at *
    have Htw := Lib.hid htw
    have Hlow := Lib.hid hlow
    have Hat := Lib.hid hat
    have hSz0 : ((S.size : Int) != (s.size : Int)) = false := by simp [hSz]
    have hSz1 : S.size ≤ 2000 := by omega
    have HSz := Lib.hid hSz
    clear htw hlow hat hSz hSt hlen
    go_enter Tryd.func6, Tryd.ntmps6
    go_wp2_with fail
    refine (Hlow.out).mono ?_
    rintro e w1 ⟨rfl, hb1⟩
    go_wp2_with fail
    refine (rn_lower S w1 (by omega)).mono ?_
    rintro e w2 ⟨rfl, hb2⟩
    rw [Htw.out]
    have hb02 := hb1.trans (hb2.mono hb1.size)
    go_wp2_with fail
    go_loop [25] (fun i => ∃ k : Nat, k ≤ s.size ∧ i = .int .i64 k) (fun i => s.size - (intOf i).toNat)
    case atStart => exact ⟨0, by omega, rfl⟩
    case round =>
      obtain ⟨k, hk, rfl⟩ := hrel
      by_cases hlt : k < s.size
      · have hltS : k < S.size := by rw [HSz.out]; exact hlt
        have hx := Hat.out k hlt hltS
        have hx256 : (s[k]'hlt).toNat < 256 := UInt8.toNat_lt _
        by_cases hu1 : 65 ≤ (s[k]'hlt).toNat
        · by_cases hu2 : (s[k]'hlt).toNat ≤ 90
          · have he : (((S[k]'hltS).toNat : Int) != ((s[k]'hlt).toNat : Int) + 32) = false := by
              have : (S[k]'hltS).toNat = (s[k]'hlt).toNat + 32 := by
                rw [hx, low8, if_pos ⟨hu1, hu2⟩, UInt8.toNat_add]; simp; omega
              simp [this]
            have Hx := Lib.hid hx
            clear hx
            go_wp2
            go_round
            case rel => exact ⟨k + 1, by omega, by go_num⟩
            case measure => simp [intOf]; omega
          · have he : (((S[k]'hltS).toNat : Int) != ((s[k]'hlt).toNat : Int)) = false := by
              rw [hx, low8, if_neg (by omega)]; simp
            have Hx := Lib.hid hx
            clear hx
            go_wp2
            go_round
            case rel => exact ⟨k + 1, by omega, by go_num⟩
            case measure => simp [intOf]; omega
        · have he : (((S[k]'hltS).toNat : Int) != ((s[k]'hlt).toNat : Int)) = false := by
            rw [hx, low8, if_neg (by omega)]; simp
          have Hx := Lib.hid hx
          clear hx
          go_wp2
          go_round
          case rel => exact ⟨k + 1, by omega, by go_num⟩
          case measure => simp [intOf]; omega
      · obtain rfl : k = s.size := by omega
        go_wp2_with fail
        refine (law_awake w2 (hT.below hb02)).mono ?_
        rintro e w3 ⟨rfl, hb3⟩
        go_wp2
        go_ret
        exact ⟨rfl, hb02.trans (hb3.mono hb02.size)⟩
  · go_enter Tryd.func6, Tryd.ntmps6
    go_wp2_with fail
    refine (law_awake w hT).mono ?_
    rintro e w5 ⟨rfl, hb5⟩
    go_wp2
    go_ret
    exact ⟨rfl, hb5⟩

set_option maxRecDepth 100000 in
set_option maxHeartbeats 2000000 in
theorem walk_RunesTell (c : Int) (w : World) (hc : -2147483648 ≤ c ∧ c ≤ 2147483647) (hT : Tabs w) :
    Calls Tryd.prog 9 #[.int .i32 c] w fun e w' => e = .returned (.bool true) ∧ Below w.heap.size w w' := by
  obtain ⟨hc1, hc2⟩ := hc
  by_cases h9 : c = 9
  · have Hw := Lib.hid (show whiteB c = true by simp [whiteB, h9])
    have Hd := Lib.hid (show digitB c = false by simp [digitB, h9])
    have e9 : (c == 9) = true := by simp [h9]
    have l1 : ¬ 48 ≤ c := by omega
    have H9 := Lib.hid h9
    clear h9
    go_enter Tryd.func9, Tryd.ntmps9
    go_wp2_with fail
    refine (rn_is c w).mono ?_
    rintro e w1 ⟨rfl, rfl⟩
    go_wp2_with fail
    refine (ref_is c w (by omega) (by omega)).mono ?_
    rintro e w1 ⟨rfl, rfl⟩
    go_wp2_with fail
    refine (rn_begins c w).mono ?_
    rintro e w1 ⟨rfl, rfl⟩
    go_wp2_with fail
    refine (ref_begins c w (by omega) (by omega)).mono ?_
    rintro e w1 ⟨rfl, rfl⟩
    go_wp2_with fail
    refine (rn_within c w).mono ?_
    rintro e w1 ⟨rfl, rfl⟩
    go_wp2_with fail
    refine (ref_within c w (by omega) (by omega)).mono ?_
    rintro e w1 ⟨rfl, rfl⟩
    go_wp2_with fail
    refine (rn_hex c w ⟨by omega, by omega⟩).mono ?_
    rintro e w1 ⟨rfl, hb1⟩
    go_wp2_with fail
    refine (ref_hex c w1 (by omega) (by omega)).mono ?_
    rintro e w2 ⟨rfl, rfl⟩
    go_wp2_with fail
    refine (rn_white c w1).mono ?_
    rintro e w2 ⟨rfl, rfl⟩
    rw [Hw.out]
    go_wp2_with fail
    refine (rn_digit c w1).mono ?_
    rintro e w2 ⟨rfl, rfl⟩
    rw [Hd.out]
    go_wp2_with fail
    refine (law_awake w1 (hT.below hb1)).mono ?_
    rintro e w2 ⟨rfl, hb2⟩
    go_wp2
    go_ret
    first | exact ⟨rfl, hb1.trans (hb2.mono hb1.size)⟩ | exact ⟨ret_bool (by simp; omega), hb1.trans (hb2.mono hb1.size)⟩
  · skip
    by_cases h10 : c = 10
    · have Hw := Lib.hid (show whiteB c = true by simp [whiteB, h10])
      have Hd := Lib.hid (show digitB c = false by simp [digitB, h10])
      have e10 : (c == 10) = true := by simp [h10]
      have l1 : ¬ 48 ≤ c := by omega
      have e9 : (c == 9) = false := by simp; omega
      have H10 := Lib.hid h10
      clear h10
      go_enter Tryd.func9, Tryd.ntmps9
      go_wp2_with fail
      refine (rn_is c w).mono ?_
      rintro e w1 ⟨rfl, rfl⟩
      go_wp2_with fail
      refine (ref_is c w (by omega) (by omega)).mono ?_
      rintro e w1 ⟨rfl, rfl⟩
      go_wp2_with fail
      refine (rn_begins c w).mono ?_
      rintro e w1 ⟨rfl, rfl⟩
      go_wp2_with fail
      refine (ref_begins c w (by omega) (by omega)).mono ?_
      rintro e w1 ⟨rfl, rfl⟩
      go_wp2_with fail
      refine (rn_within c w).mono ?_
      rintro e w1 ⟨rfl, rfl⟩
      go_wp2_with fail
      refine (ref_within c w (by omega) (by omega)).mono ?_
      rintro e w1 ⟨rfl, rfl⟩
      go_wp2_with fail
      refine (rn_hex c w ⟨by omega, by omega⟩).mono ?_
      rintro e w1 ⟨rfl, hb1⟩
      go_wp2_with fail
      refine (ref_hex c w1 (by omega) (by omega)).mono ?_
      rintro e w2 ⟨rfl, rfl⟩
      go_wp2_with fail
      refine (rn_white c w1).mono ?_
      rintro e w2 ⟨rfl, rfl⟩
      rw [Hw.out]
      go_wp2_with fail
      refine (rn_digit c w1).mono ?_
      rintro e w2 ⟨rfl, rfl⟩
      rw [Hd.out]
      go_wp2_with fail
      refine (law_awake w1 (hT.below hb1)).mono ?_
      rintro e w2 ⟨rfl, hb2⟩
      go_wp2
      go_ret
      first | exact ⟨rfl, hb1.trans (hb2.mono hb1.size)⟩ | exact ⟨ret_bool (by simp; omega), hb1.trans (hb2.mono hb1.size)⟩
    · skip
      by_cases h32 : c = 32
      · have Hw := Lib.hid (show whiteB c = true by simp [whiteB, h32])
        have Hd := Lib.hid (show digitB c = false by simp [digitB, h32])
        have e32 : (c == 32) = true := by simp [h32]
        have l1 : ¬ 48 ≤ c := by omega
        have e9 : (c == 9) = false := by simp; omega
        have e10 : (c == 10) = false := by simp; omega
        have H32 := Lib.hid h32
        clear h32
        go_enter Tryd.func9, Tryd.ntmps9
        go_wp2_with fail
        refine (rn_is c w).mono ?_
        rintro e w1 ⟨rfl, rfl⟩
        go_wp2_with fail
        refine (ref_is c w (by omega) (by omega)).mono ?_
        rintro e w1 ⟨rfl, rfl⟩
        go_wp2_with fail
        refine (rn_begins c w).mono ?_
        rintro e w1 ⟨rfl, rfl⟩
        go_wp2_with fail
        refine (ref_begins c w (by omega) (by omega)).mono ?_
        rintro e w1 ⟨rfl, rfl⟩
        go_wp2_with fail
        refine (rn_within c w).mono ?_
        rintro e w1 ⟨rfl, rfl⟩
        go_wp2_with fail
        refine (ref_within c w (by omega) (by omega)).mono ?_
        rintro e w1 ⟨rfl, rfl⟩
        go_wp2_with fail
        refine (rn_hex c w ⟨by omega, by omega⟩).mono ?_
        rintro e w1 ⟨rfl, hb1⟩
        go_wp2_with fail
        refine (ref_hex c w1 (by omega) (by omega)).mono ?_
        rintro e w2 ⟨rfl, rfl⟩
        go_wp2_with fail
        refine (rn_white c w1).mono ?_
        rintro e w2 ⟨rfl, rfl⟩
        rw [Hw.out]
        go_wp2_with fail
        refine (rn_digit c w1).mono ?_
        rintro e w2 ⟨rfl, rfl⟩
        rw [Hd.out]
        go_wp2_with fail
        refine (law_awake w1 (hT.below hb1)).mono ?_
        rintro e w2 ⟨rfl, hb2⟩
        go_wp2
        go_ret
        first | exact ⟨rfl, hb1.trans (hb2.mono hb1.size)⟩ | exact ⟨ret_bool (by simp; omega), hb1.trans (hb2.mono hb1.size)⟩
      · skip
        have e9 : (c == 9) = false := by simp [h9]
        have e10 : (c == 10) = false := by simp [h10]
        have e32 : (c == 32) = false := by simp [h32]
        have Hw := Lib.hid (show whiteB c = false by simp [whiteB, h9, h10, h32])
        clear h9 h10 h32
        by_cases l1 : 48 ≤ c
        · by_cases l2 : c ≤ 57
          · have Hd := Lib.hid (show digitB c = true by simp [digitB, l1, l2])
            go_enter Tryd.func9, Tryd.ntmps9
            go_wp2_with fail
            refine (rn_is c w).mono ?_
            rintro e w1 ⟨rfl, rfl⟩
            go_wp2_with fail
            refine (ref_is c w (by omega) (by omega)).mono ?_
            rintro e w1 ⟨rfl, rfl⟩
            go_wp2_with fail
            refine (rn_begins c w).mono ?_
            rintro e w1 ⟨rfl, rfl⟩
            go_wp2_with fail
            refine (ref_begins c w (by omega) (by omega)).mono ?_
            rintro e w1 ⟨rfl, rfl⟩
            go_wp2_with fail
            refine (rn_within c w).mono ?_
            rintro e w1 ⟨rfl, rfl⟩
            go_wp2_with fail
            refine (ref_within c w (by omega) (by omega)).mono ?_
            rintro e w1 ⟨rfl, rfl⟩
            go_wp2_with fail
            refine (rn_hex c w ⟨by omega, by omega⟩).mono ?_
            rintro e w1 ⟨rfl, hb1⟩
            go_wp2_with fail
            refine (ref_hex c w1 (by omega) (by omega)).mono ?_
            rintro e w2 ⟨rfl, rfl⟩
            go_wp2_with fail
            refine (rn_white c w1).mono ?_
            rintro e w2 ⟨rfl, rfl⟩
            rw [Hw.out]
            go_wp2_with fail
            refine (rn_digit c w1).mono ?_
            rintro e w2 ⟨rfl, rfl⟩
            rw [Hd.out]
            go_wp2_with fail
            refine (law_awake w1 (hT.below hb1)).mono ?_
            rintro e w2 ⟨rfl, hb2⟩
            go_wp2
            go_ret
            first | exact ⟨rfl, hb1.trans (hb2.mono hb1.size)⟩ | exact ⟨ret_bool (by simp; omega), hb1.trans (hb2.mono hb1.size)⟩
          · have Hd := Lib.hid (show digitB c = false by simp [digitB, l1, l2])
            go_enter Tryd.func9, Tryd.ntmps9
            go_wp2_with fail
            refine (rn_is c w).mono ?_
            rintro e w1 ⟨rfl, rfl⟩
            go_wp2_with fail
            refine (ref_is c w (by omega) (by omega)).mono ?_
            rintro e w1 ⟨rfl, rfl⟩
            go_wp2_with fail
            refine (rn_begins c w).mono ?_
            rintro e w1 ⟨rfl, rfl⟩
            go_wp2_with fail
            refine (ref_begins c w (by omega) (by omega)).mono ?_
            rintro e w1 ⟨rfl, rfl⟩
            go_wp2_with fail
            refine (rn_within c w).mono ?_
            rintro e w1 ⟨rfl, rfl⟩
            go_wp2_with fail
            refine (ref_within c w (by omega) (by omega)).mono ?_
            rintro e w1 ⟨rfl, rfl⟩
            go_wp2_with fail
            refine (rn_hex c w ⟨by omega, by omega⟩).mono ?_
            rintro e w1 ⟨rfl, hb1⟩
            go_wp2_with fail
            refine (ref_hex c w1 (by omega) (by omega)).mono ?_
            rintro e w2 ⟨rfl, rfl⟩
            go_wp2_with fail
            refine (rn_white c w1).mono ?_
            rintro e w2 ⟨rfl, rfl⟩
            rw [Hw.out]
            go_wp2_with fail
            refine (rn_digit c w1).mono ?_
            rintro e w2 ⟨rfl, rfl⟩
            rw [Hd.out]
            go_wp2_with fail
            refine (law_awake w1 (hT.below hb1)).mono ?_
            rintro e w2 ⟨rfl, hb2⟩
            go_wp2
            go_ret
            first | exact ⟨rfl, hb1.trans (hb2.mono hb1.size)⟩ | exact ⟨ret_bool (by simp; omega), hb1.trans (hb2.mono hb1.size)⟩
        · have Hd := Lib.hid (show digitB c = false by simp [digitB]; omega)
          go_enter Tryd.func9, Tryd.ntmps9
          go_wp2_with fail
          refine (rn_is c w).mono ?_
          rintro e w1 ⟨rfl, rfl⟩
          go_wp2_with fail
          refine (ref_is c w (by omega) (by omega)).mono ?_
          rintro e w1 ⟨rfl, rfl⟩
          go_wp2_with fail
          refine (rn_begins c w).mono ?_
          rintro e w1 ⟨rfl, rfl⟩
          go_wp2_with fail
          refine (ref_begins c w (by omega) (by omega)).mono ?_
          rintro e w1 ⟨rfl, rfl⟩
          go_wp2_with fail
          refine (rn_within c w).mono ?_
          rintro e w1 ⟨rfl, rfl⟩
          go_wp2_with fail
          refine (ref_within c w (by omega) (by omega)).mono ?_
          rintro e w1 ⟨rfl, rfl⟩
          go_wp2_with fail
          refine (rn_hex c w ⟨by omega, by omega⟩).mono ?_
          rintro e w1 ⟨rfl, hb1⟩
          go_wp2_with fail
          refine (ref_hex c w1 (by omega) (by omega)).mono ?_
          rintro e w2 ⟨rfl, rfl⟩
          go_wp2_with fail
          refine (rn_white c w1).mono ?_
          rintro e w2 ⟨rfl, rfl⟩
          rw [Hw.out]
          go_wp2_with fail
          refine (rn_digit c w1).mono ?_
          rintro e w2 ⟨rfl, rfl⟩
          rw [Hd.out]
          go_wp2_with fail
          refine (law_awake w1 (hT.below hb1)).mono ?_
          rintro e w2 ⟨rfl, hb2⟩
          go_wp2
          go_ret
          first | exact ⟨rfl, hb1.trans (hb2.mono hb1.size)⟩ | exact ⟨ret_bool (by simp; omega), hb1.trans (hb2.mono hb1.size)⟩
end Go.Proofs.YtjgjpcoieiobcaaDoor
