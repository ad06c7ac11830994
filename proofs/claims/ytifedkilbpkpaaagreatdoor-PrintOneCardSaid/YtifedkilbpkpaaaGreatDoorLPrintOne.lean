/- The law PrintOne is walked: a token that may be, alone, printed, is scanned as it; a Bad, alone, as a String. -/
import Derived.Test.YtifedkilbpkpaaaGreatDoorB25
set_option linter.unusedVariables false
set_option linter.unusedSimpArgs false
namespace Go.Proofs.YtifedkilbpkpaaaGreatDoor
open Go.RowKit Rn Tp Tk Fx
theorem tokenP_none {t : GTok} (h : oneB t = false) : tokenP t = [] := by unfold tokenP; rw [if_neg (by rw [h]; decide)]
theorem bad_zero {t : GTok} (h : oneB t = true) (h7 : t.kind = 7) : t.n = 0 := by
  obtain ⟨e1, e2, e3, e4, e5⟩ := one_facts h
  unfold numOk at e4
  rw [h7] at e4
  simp only [decide_eq_true_eq] at e4
  rcases e4.2 with h | h
  · omega
  · exact h
set_option maxRecDepth 100000 in
set_option maxHeartbeats 8000000 in
theorem walk_PrintOne (t : GTok) (w : World) (ht : t.text.length ≤ maxLen ∧ -9223372036854775808 ≤ t.n ∧ t.n ≤ 9223372036854775807) (hT : Tabs w) (hE : Env w) (hD : Db w) :
    Calls Tryz.prog 3 #[tokG t] w fun e w' => e = .returned (.bool true) ∧ Below w.heap.size w w' := by
  obtain ⟨k, text, n⟩ := t
  simp only [] at ht
  unfold maxLen at ht
  obtain ⟨wA, hwA⟩ : ∃ wA, w.alloc (.cells #[.int .i64 k, .string (bytesOf text), .int .i64 n] 23) = wA := ⟨_, rfl⟩
  have bA : Below w.heap.size w wA := by rw [← hwA]; exact (Below.refl _ _).alloc (Nat.le_refl _) _
  have rA : RowAt wA w.heap.size [.int .i64 k, .string (bytesOf text), .int .i64 n] := by rw [← hwA]; exact RowAt.new _ _ _
  have zA : wA.heap.size = w.heap.size + 1 := by rw [← hwA]; exact Array.size_push _
  have base : ∀ {W : World}, Below wA.heap.size wA W → Below w.heap.size w W := fun h => bA.trans (h.mono bA.size)
  have cell : ∀ W : World, Below wA.heap.size wA W → W.cell? ⟨w.heap.size, 0, none⟩ = some (.int .i64 k) ∧ W.cell? ⟨w.heap.size, 1, none⟩ = some (.string (bytesOf text)) ∧ W.cell? ⟨w.heap.size, 2, none⟩ = some (.int .i64 n) := fun W h =>
    ⟨(h.cell (p := ⟨w.heap.size, 0, none⟩) (by simp; omega)).trans (rA.2 0 _ rfl).1, (h.cell (p := ⟨w.heap.size, 1, none⟩) (by simp; omega)).trans (rA.2 1 _ rfl).1, (h.cell (p := ⟨w.heap.size, 2, none⟩) (by simp; omega)).trans (rA.2 2 _ rfl).1⟩
  obtain ⟨a0, a1, a2⟩ := cell wA (Below.refl _ _)
  have cAw := fun (W : World) (h : Below wA.heap.size wA W) => tp_awake W (hT.below (base h)) (hE.below (base h)) (hD.below (base h))
  have hz := bytesOf_size text
  by_cases hbig : 100 < text.length
  · have d100 : decide ((100 : Int) < (text.length : Int)) = true := by simp; omega
    clear rA cell
    go_enter Tryz.func3, Tryz.ntmps3
    go_wp2_with fail
    refine (cAw _ (Below.refl _ _)).mono ?_
    rintro e w2 ⟨rfl, hb2⟩
    go_wp2
    go_ret
    exact ⟨rfl, base hb2⟩
  · have d100 : decide ((100 : Int) < (text.length : Int)) = false := by simp; omega
    have cO := rp_one ⟨k, text, n⟩ wA (by simp only []; omega) ht.2
    have cT := fun (W : World) (h : Below wA.heap.size wA W) => tp_token ⟨k, text, n⟩ W (by simp only []; omega) ht.2 (hT.below (base h)) (hE.below (base h)) (hD.below (base h))
    cases hone : oneB ⟨k, text, n⟩ with
    | false =>
      rw [hone] at cO
      rw [tokenP_none hone] at cT
      obtain ⟨s1, s2⟩ := str_is (l := []) rfl
      go_enter Tryz.func3, Tryz.ntmps3
      go_wp2_with fail
      refine cO.mono ?_
      rintro e w1 ⟨rfl, hb1⟩
      obtain ⟨c0, c1, c2⟩ := cell w1 hb1
      go_wp2_with fail
      refine (cT _ hb1).mono ?_
      rintro e w2 ⟨rfl, hb2⟩
      have hB2 := hb1.trans (hb2.mono hb1.size)
      go_wp2_with fail
      refine (cAw _ hB2).mono ?_
      rintro e w3 ⟨rfl, hb3⟩
      go_wp2
      go_ret
      exact ⟨rfl, base (hB2.trans (hb3.mono hB2.size))⟩
    | true =>
      rw [hone] at cO
      have hps := tokenP_short ⟨k, text, n⟩
      simp only [] at hps
      have hsc := scan_token hone
      obtain ⟨S, hS⟩ : ∃ S, tokenP ⟨k, text, n⟩ = S := ⟨_, rfl⟩
      rw [hS] at hps hsc
      simp only [hS] at cT
      simp only [] at hsc
      have hbk := gT_back hone
      have hsz : S.length ≤ 65536 := by omega
      have hkk : (k = 7 ∧ (k == 7) = true ∧ n = 0) ∨ (k ≠ 7 ∧ (k == 7) = false) := by
        by_cases h : k = 7
        · exact .inl ⟨h, by simp [h], bad_zero hone h⟩
        · exact .inr ⟨h, by simp [h]⟩
      rcases hkk with ⟨h7, e7, hn0⟩ | ⟨h7, e7⟩
      · rw [if_pos h7] at hsc
        have Hsc := Lib.hid hsc
        have Hn := Lib.hid hn0
        clear hsc hn0 h7 hbk hone hS
        go_enter Tryz.func3, Tryz.ntmps3
        go_wp2_with fail
        refine cO.mono ?_
        rintro e w1 ⟨rfl, hb1⟩
        obtain ⟨c0, c1, c2⟩ := cell w1 hb1
        go_wp2_with fail
        refine (cT _ hb1).mono ?_
        rintro e w2 ⟨rfl, hb2⟩
        have hB2 := hb1.trans (hb2.mono hb1.size)
        obtain ⟨ca, Wa, hca, hca1, hca2, hba, hra⟩ := conv_text (P := Tryz.prog) Tryz.underlying9 Tryz.underlying31 Tryz.underlying5 w2 _ S rfl (by unfold maxLen; omega)
        have hBa := hB2.trans (hba.mono hB2.size)
        have hsa := tk_scan S _ _ ca Wa hra hca1 hca2 (hT.below (base hBa)) (hE.below (base hBa))
        clear hra hca1 hca2 cT cO
        go_wp2_with fail
        refine hsa.mono ?_
        rintro e w3 ⟨hb3, hret⟩
        rw [Hsc.out] at hret
        unfold ScanRet at hret
        rw [if_neg (by simp; omega)] at hret
        obtain ⟨v, rfl, hown⟩ := hret
        have hB3 := hBa.trans (hb3.mono hBa.size)
        obtain ⟨g0, g1, g2⟩ := cell w3 hB3
        clear hsa hca hba hb3
        have hfz : w3.frozen? ⟨w.heap.size, 0, none⟩ = false := (hB3.frozen (p := ⟨w.heap.size, 0, none⟩) (by simp; omega)).trans (rA.2 0 _ rfl).2
        have hlt : w.heap.size < Wa.heap.size := by have := hBa.size; omega
        have hown2 := ownsRow_setCell_below hown (a := ⟨w.heap.size, 0, none⟩) hlt (.int .i64 6)
        have k0 := World.cell?_setCell_same w3 ⟨w.heap.size, 0, none⟩ (.int .i64 6) g0
        have k1 : (w3.setCell ⟨w.heap.size, 0, none⟩ (.int .i64 6)).cell? ⟨w.heap.size, 1, none⟩ = some (.string (bytesOf text)) := (World.cell?_setCell_other w3 _ _ _ (by simp)).trans g1
        have k2 : (w3.setCell ⟨w.heap.size, 0, none⟩ (.int .i64 6)).cell? ⟨w.heap.size, 2, none⟩ = some (.int .i64 n) := (World.cell?_setCell_other w3 _ _ _ (by simp)).trans g2
        have hBS : Below w.heap.size w (w3.setCell ⟨w.heap.size, 0, none⟩ (.int .i64 6)) := (base hB3).setCell (Nat.le_refl _) _
        obtain ⟨WS, hWS⟩ : ∃ WS, w3.setCell ⟨w.heap.size, 0, none⟩ (.int .i64 6) = WS := ⟨_, rfl⟩
        rw [hWS] at hown2 k0 k1 k2 hBS
        clear hown
        obtain ⟨A1, c1', rfl, hr1⟩ := toks_reads hown2
        rw [List.map_cons, List.map_nil, show Tok.g ⟨6, text, 0⟩ = (⟨6, text, n⟩ : GTok) from by rw [Hn.out]; rfl] at hr1
        obtain ⟨wL, hwL⟩ : ∃ wL, WS.alloc (.cells #[.int .i64 6, .string (bytesOf text), .int .i64 n] 23) = wL := ⟨_, rfl⟩
        have bL : Below WS.heap.size WS wL := by rw [← hwL]; exact (Below.refl _ _).alloc (Nat.le_refl _) _
        have hry := lit_tok WS ⟨6, text, n⟩ #[.int .i64 6, .string (bytesOf text), .int .i64 n] 23 rfl
        rw [hwL] at hry
        have hr2 := hr1.below bL
        have hBL := hBS.trans (bL.mono hBS.size)
        clear hr1 bL hown2 rA
        go_wp2_with fail
        refine (toks_same _ _ _ _ _ _ _ _ _ hr2 hry (by simp)).mono ?_
        rintro e w4 ⟨rfl, hb4⟩
        rw [decide_eq_true rfl]
        have hB4 := hBL.trans (hb4.mono hBL.size)
        go_wp2_with fail
        refine (tp_awake w4 (hT.below hB4) (hE.below hB4) (hD.below hB4)).mono ?_
        rintro e w5 ⟨rfl, hb5⟩
        go_wp2
        go_ret
        exact ⟨rfl, hB4.trans (hb5.mono hB4.size)⟩
      · rw [if_neg h7] at hsc
        have Hsc := Lib.hid hsc
        have Hbk := Lib.hid hbk
        clear hsc h7 hbk hone hS
        go_enter Tryz.func3, Tryz.ntmps3
        go_wp2_with fail
        refine cO.mono ?_
        rintro e w1 ⟨rfl, hb1⟩
        obtain ⟨c0, c1, c2⟩ := cell w1 hb1
        go_wp2_with fail
        refine (cT _ hb1).mono ?_
        rintro e w2 ⟨rfl, hb2⟩
        have hB2 := hb1.trans (hb2.mono hb1.size)
        obtain ⟨ca, Wa, hca, hca1, hca2, hba, hra⟩ := conv_text (P := Tryz.prog) Tryz.underlying9 Tryz.underlying31 Tryz.underlying5 w2 _ S rfl (by unfold maxLen; omega)
        have hBa := hB2.trans (hba.mono hB2.size)
        have hsa := tk_scan S _ _ ca Wa hra hca1 hca2 (hT.below (base hBa)) (hE.below (base hBa))
        clear hra hca1 hca2 cT cO
        go_wp2_with fail
        refine hsa.mono ?_
        rintro e w3 ⟨hb3, hret⟩
        rw [Hsc.out] at hret
        unfold ScanRet at hret
        rw [if_neg (by simp; omega)] at hret
        obtain ⟨v, rfl, hown⟩ := hret
        obtain ⟨A1, c1, rfl, hr1⟩ := toks_reads hown
        rw [List.map_cons, List.map_nil, Hbk.out] at hr1
        have hB3 := hBa.trans (hb3.mono hBa.size)
        obtain ⟨g0, g1, g2⟩ := cell w3 hB3
        clear hown hsa hca hba hb3
        obtain ⟨wL, hwL⟩ : ∃ wL, w3.alloc (.cells #[.int .i64 k, .string (bytesOf text), .int .i64 n] 23) = wL := ⟨_, rfl⟩
        have bL : Below w3.heap.size w3 wL := by rw [← hwL]; exact (Below.refl _ _).alloc (Nat.le_refl _) _
        have hry := lit_tok w3 ⟨k, text, n⟩ #[.int .i64 k, .string (bytesOf text), .int .i64 n] 23 rfl
        rw [hwL] at hry
        have hr2 := hr1.below bL
        have hBL := hB3.trans (bL.mono hB3.size)
        clear hr1 bL
        go_wp2_with fail
        refine (toks_same _ _ _ _ _ _ _ _ _ hr2 hry (by simp)).mono ?_
        rintro e w4 ⟨rfl, hb4⟩
        rw [decide_eq_true rfl]
        have hB4 := hBL.trans (hb4.mono hBL.size)
        go_wp2_with fail
        refine (cAw _ hB4).mono ?_
        rintro e w5 ⟨rfl, hb5⟩
        go_wp2
        go_ret
        exact ⟨rfl, base (hB4.trans (hb5.mono hB4.size))⟩
end Go.Proofs.YtifedkilbpkpaaaGreatDoor
