/- The law PrintPairs is walked: two tokens that may stand side by side are told apart. -/
import Derived.Test.YtifedkilbpkpaaaGreatDoorB25
set_option linter.unusedVariables false
set_option linter.unusedSimpArgs false
namespace Go.Proofs.YtifedkilbpkpaaaGreatDoor
open Go.RowKit Rn Tp Tk Fx
theorem pair_two {a b : GTok} (h : rightB [a, b] = true) : b.kind ≠ 7 := by
  unfold rightB at h
  simp only [Bool.and_eq_true] at h
  have h1 := h.1
  simp only [pairsB, Bool.and_eq_true, decide_eq_true_eq] at h1
  exact h1.2.2
set_option maxRecDepth 100000 in
set_option maxHeartbeats 8000000 in
theorem walk_PrintPairs (a b : GTok) (w : World) (ha : a.text.length ≤ maxLen ∧ -9223372036854775808 ≤ a.n ∧ a.n ≤ 9223372036854775807) (hb : b.text.length ≤ maxLen ∧ -9223372036854775808 ≤ b.n ∧ b.n ≤ 9223372036854775807) (hT : Tabs w) (hE : Env w) (hD : Db w) :
    Calls Tryz.prog 4 #[tokG a, tokG b] w fun e w' => e = .returned (.bool true) ∧ Below w.heap.size w w' := by
  obtain ⟨ka, xa, na⟩ := a
  obtain ⟨kb, xb, nb⟩ := b
  simp only [] at ha hb
  obtain ⟨wA, hwA⟩ : ∃ wA, w.alloc (.cells #[.int .i64 ka, .string (bytesOf xa), .int .i64 na] 23) = wA := ⟨_, rfl⟩
  have bA : Below w.heap.size w wA := by rw [← hwA]; exact (Below.refl _ _).alloc (Nat.le_refl _) _
  have rA : RowAt wA w.heap.size [.int .i64 ka, .string (bytesOf xa), .int .i64 na] := by rw [← hwA]; exact RowAt.new _ _ _
  have zA : wA.heap.size = w.heap.size + 1 := by rw [← hwA]; exact Array.size_push _
  obtain ⟨wB, hwB⟩ : ∃ wB, wA.alloc (.cells #[.int .i64 kb, .string (bytesOf xb), .int .i64 nb] 23) = wB := ⟨_, rfl⟩
  have bB : Below wA.heap.size wA wB := by rw [← hwB]; exact (Below.refl _ _).alloc (Nat.le_refl _) _
  have rB : RowAt wB wA.heap.size [.int .i64 kb, .string (bytesOf xb), .int .i64 nb] := by rw [← hwB]; exact RowAt.new _ _ _
  have zB : wB.heap.size = w.heap.size + 2 := by rw [← hwB, ← show wA.heap.size + 1 = w.heap.size + 2 by omega]; exact Array.size_push _
  obtain ⟨wC, hwC⟩ : ∃ wC, wB.alloc (.cells #[.int .i64 ka, .string (bytesOf xa), .int .i64 na, .int .i64 kb, .string (bytesOf xb), .int .i64 nb] 23) = wC := ⟨_, rfl⟩
  have bC : Below wB.heap.size wB wC := by rw [← hwC]; exact (Below.refl _ _).alloc (Nat.le_refl _) _
  have rC : RowAt wC wB.heap.size (cellsG [⟨ka, xa, na⟩, ⟨kb, xb, nb⟩]) := by rw [← hwC]; exact RowAt.new _ _ _
  have hbase : Below w.heap.size w wC := bA.trans ((bB.mono bA.size).trans (bC.mono (by omega)))
  have hr : ReadsT wC wC.heap.size (some ⟨w.heap.size + 2, 0, none⟩) 2 [⟨ka, xa, na⟩, ⟨kb, xb, nb⟩] := by
    rw [← zB]
    exact ⟨by rw [cellsG_len]; rfl, fun _ => ⟨wB.heap.size, 0, rfl, rC.1, fun j u hu => by rw [Nat.zero_add]; exact (rC.2 j u hu).1⟩⟩
  have a0 : wB.cell? ⟨w.heap.size, 0, none⟩ = some (.int .i64 ka) := (bB.cell (p := ⟨w.heap.size, 0, none⟩) (by simp; omega)).trans (rA.2 0 _ rfl).1
  have a1 : wB.cell? ⟨w.heap.size, 1, none⟩ = some (.string (bytesOf xa)) := (bB.cell (p := ⟨w.heap.size, 1, none⟩) (by simp; omega)).trans (rA.2 1 _ rfl).1
  have a2 : wB.cell? ⟨w.heap.size, 2, none⟩ = some (.int .i64 na) := (bB.cell (p := ⟨w.heap.size, 2, none⟩) (by simp; omega)).trans (rA.2 2 _ rfl).1
  have b0 : wB.cell? ⟨w.heap.size + 1, 0, none⟩ = some (.int .i64 kb) := by rw [← zA]; exact (rB.2 0 _ rfl).1
  have b1 : wB.cell? ⟨w.heap.size + 1, 1, none⟩ = some (.string (bytesOf xb)) := by rw [← zA]; exact (rB.2 1 _ rfl).1
  have b2 : wB.cell? ⟨w.heap.size + 1, 2, none⟩ = some (.int .i64 nb) := by rw [← zA]; exact (rB.2 2 _ rfl).1
  have bk : ∀ W : World, Below wC.heap.size wC W → W.cell? ⟨w.heap.size + 1, 0, none⟩ = some (.int .i64 kb) := fun W h => (h.cell (p := ⟨w.heap.size + 1, 0, none⟩) (by have := bC.size; simp; omega)).trans ((bC.cell (p := ⟨w.heap.size + 1, 0, none⟩) (by simp; omega)).trans b0)
  have hs : ∀ t ∈ ([⟨ka, xa, na⟩, ⟨kb, xb, nb⟩] : List GTok), t.text.length ≤ maxLen ∧ -9223372036854775808 ≤ t.n ∧ t.n ≤ 9223372036854775807 := by
    intro t ht
    rcases List.mem_cons.1 ht with rfl | ht
    · exact ha
    · obtain rfl : t = ⟨kb, xb, nb⟩ := by simpa using ht
      exact hb
  obtain ⟨l, hl⟩ : ∃ l : List GTok, [⟨ka, xa, na⟩, ⟨kb, xb, nb⟩] = l := ⟨_, rfl⟩
  have hp2 : rightB l = true → (kb == 7) = false := by
    rw [← hl]; intro h; simpa using pair_two h
  rw [hl] at hr hs
  clear hl rA rB rC ha hb
  have cF := tp_few l _ 2 2 wC hr (by omega) (fun t ht => (hs t ht).1)
  have cAw := fun (W : World) (h : Below wC.heap.size wC W) => tp_awake W (hT.below (hbase.trans (h.mono hbase.size))) (hE.below (hbase.trans (h.mono hbase.size))) (hD.below (hbase.trans (h.mono hbase.size)))
  have base : ∀ {W : World}, Below wC.heap.size wC W → Below w.heap.size w W := fun h => hbase.trans (h.mono hbase.size)
  cases hf : fewB l with
  | false =>
    rw [hf] at cF
    clear hp2
    go_enter Tryz.func4, Tryz.ntmps4
    go_wp2_with fail
    refine cF.mono ?_
    rintro e w1 ⟨rfl, rfl⟩
    go_wp2_with fail
    refine (cAw _ (Below.refl _ _)).mono ?_
    rintro e w2 ⟨rfl, hb2⟩
    go_wp2
    go_ret
    exact ⟨rfl, base hb2⟩
  | true =>
    rw [hf] at cF
    have ra := row_few hr hs hf
    have cR := rp_rights l _ 2 2 wC ra
    cases hri : rightB l with
    | false =>
      rw [hri] at cR
      clear hp2
      go_enter Tryz.func4, Tryz.ntmps4
      go_wp2_with fail
      refine cF.mono ?_
      rintro e w1 ⟨rfl, rfl⟩
      go_wp2_with fail
      refine cR.mono ?_
      rintro e w1 ⟨rfl, hb1⟩
      go_wp2_with fail
      refine (cAw _ hb1).mono ?_
      rintro e w2 ⟨rfl, hb2⟩
      go_wp2
      go_ret
      exact ⟨rfl, base (hb1.trans (hb2.mono hb1.size))⟩
    | true =>
      rw [hri] at cR
      have h7 := hp2 hri
      have cP := fun (W : World) (h : Below wC.heap.size wC W) => tp_print l _ 2 2 W (ra.more h) (hT.below (base h)) (hE.below (base h)) (hD.below (base h))
      have hps := print_short hf
      have hsc := scan_print hri
      have hbk := right_back hri
      have hll : l.length ≤ 100 := (few_facts hf).1
      obtain ⟨S, hS⟩ : ∃ S, printL l = S := ⟨_, rfl⟩
      rw [hS] at hps hsc
      simp only [hS] at cP
      have Hsc := Lib.hid hsc
      have Hbk := Lib.hid hbk
      clear hs hf hri hS hsc hbk hp2
      go_enter Tryz.func4, Tryz.ntmps4
      go_wp2_with fail
      refine cF.mono ?_
      rintro e w1 ⟨rfl, rfl⟩
      go_wp2_with fail
      refine cR.mono ?_
      rintro e w1 ⟨rfl, hb1⟩
      have bk1 := bk w1 hb1
      go_wp2_with fail
      refine (cP _ hb1).mono ?_
      rintro e w2 ⟨rfl, hb2⟩
      have hB2 := hb1.trans (hb2.mono hb1.size)
      obtain ⟨ca, Wa, hca, hca1, hca2, hba, hra⟩ := conv_text (P := Tryz.prog) Tryz.underlying9 Tryz.underlying31 Tryz.underlying5 w2 _ S rfl (by unfold maxLen; omega)
      have hBa := hB2.trans (hba.mono hB2.size)
      have hsa := tk_scan S _ _ ca Wa hra hca1 hca2 (hT.below (base hBa)) (hE.below (base hBa))
      clear hra hca1 hca2 cP cR cF
      go_wp2_with fail
      refine hsa.mono ?_
      rintro e w3 ⟨hb3, hret⟩
      rw [Hsc.out] at hret
      unfold ScanRet at hret
      rw [if_neg (by rw [List.length_map]; omega)] at hret
      obtain ⟨v, rfl, hown⟩ := hret
      obtain ⟨A1, c1, rfl, hr1⟩ := toks_reads hown
      rw [Hbk.out, List.length_map] at hr1
      have hB3 := hBa.trans (hb3.mono hBa.size)
      have hlen : l.length = 2 := hr.len
      have hry := (ra.more hB3).rd
      clear hown hsa hca hba hb3
      simp only [List.length_map, hlen] at hr1 ⊢
      go_wp2_with fail
      refine (toks_same _ _ _ _ _ _ _ _ _ hr1 hry (by omega)).mono ?_
      rintro e w4 ⟨rfl, hb4⟩
      rw [decide_eq_true rfl]
      have hB4 := hB3.trans (hb4.mono hB3.size)
      go_wp2_with fail
      refine (cAw _ hB4).mono ?_
      rintro e w5 ⟨rfl, hb5⟩
      go_wp2
      go_ret
      exact ⟨rfl, base (hB4.trans (hb5.mono hB4.size))⟩
end Go.Proofs.YtifedkilbpkpaaaGreatDoor
