/- Layer 3, the document: the next token is walked: a text, a hash, and all else. -/
import Derived.Test.YthkagpefgkpgeaaGreatDoorB18
set_option linter.unusedVariables false
set_option linter.unusedSimpArgs false
namespace Go.Proofs.YthkagpefgkpgeaaGreatDoor
open Go.RowKit Rn Tk Np
set_option maxRecDepth 100000 in
set_option maxHeartbeats 3000000 in
theorem rt_next {w : World} {B n cap : Nat} {A : Option Addr} {l : List Int} (h : RL w B A n cap l) (m : Nat) (i0 : Int) (hi0 : i0 = m) (hm : m < n) :
    Calls Tryz.prog 14 #[.slice A n cap, .int .i64 i0] w fun e w' => (∃ k' : Nat, m < k' ∧ k' ≤ n ∧ l.drop k' = (nextT (l.drop m)).2 ∧ e = .returned (.tuple #[tokV (nextT (l.drop m)).1, .int .i64 (k' : Int)])) ∧ Below w.heap.size w w' := by
  have hlen := h.len
  have hn := h.hn
  have hnn : ∀ c ∈ l.drop m, 0 ≤ c := fun c hc => (isB_range (h.ch.drop m c hc)).1
  have Hnn := Lib.hid hnn
  clear hnn
  obtain ⟨wA, hwA⟩ : ∃ wA, w.alloc (.cells #[.int .i64 0, .string ⟨#[]⟩, .int .i64 0] 31) = wA := ⟨_, rfl⟩
  have B0 : Below w.heap.size w wA := by rw [← hwA]; exact grown_below (World.grownBy_alloc _ _ _)
  have R0 : RowAt wA w.heap.size [.int .i64 0, .string ⟨#[]⟩, .int .i64 0] := by rw [← hwA]; exact RowAt.new _ _ _
  have H0 := h.mv B0
  obtain ⟨b0, off0, hA0, hcell0⟩ := H0.cell hm
  rw [pk0] at hcell0
  have hcB := pk_is (l := l) h.ch (m := m) (by omega)
  have hcr := isB_range hcB
  rw [pk0] at hcr hcB
  obtain ⟨c, hc⟩ : ∃ c, pk (l.drop m) 0 = c := ⟨_, rfl⟩
  rw [hc] at hcell0 hcr hcB
  obtain ⟨NX, hNX⟩ : ∃ x, nextT (l.drop m) = x := ⟨_, rfl⟩
  rw [hNX]
  have HNX := Lib.hid hNX
  have Hc := Lib.hid hc
  have Hi0 := Lib.hid hi0
  have y1 : (0 : Int) ≤ i0 := by omega
  have y2 : i0 < (n : Int) := by omega
  have y3 : i0.toNat = m := by omega
  have y4 : i0 ≤ 1000000 := by omega
  clear hNX hc hi0
  subst hA0
  obtain ⟨q, hq0⟩ : ∃ q, decide (c = 34 ∨ c = 39) = q := ⟨_, rfl⟩
  have Hq := Lib.hid hq0
  clear hq0
  go_enter Tryz.func14, Tryz.ntmps14
  go_upto_region 2 with (fail)
  go_cut [29] (fun x wx => x = .bool q ∧ wx = wA)
  case first =>
    by_cases h34 : c = 34
    · have t34 := eq_t h34
      have Hv : Hid (q = true) := by show _ = _; rw [← Hq.out]; simp [h34]
      clear h34
      go_wp2_with fail
      go_meet
      exact ⟨by rw [Hv.out], rfl⟩
    · have t34 := eq_f h34
      have Hv : Hid (q = (c == 39)) := by show _ = _; rw [← Hq.out, Bool.eq_iff_iff]; simp [h34]
      clear h34
      go_wp2_with fail
      go_meet
      exact ⟨by rw [Hv.out], rfl⟩
  case rest =>
    obtain ⟨rfl, hwc⟩ := hcut
    have hwc2 := hwc.symm
    subst hwc2
    clear hwc hwA hcell0
    have hrs := R0.1
    cases q
    case true =>
      have hq := of_decide_eq_true Hq.out
      have hcall := rt_quoted H0 m i0 Hi0.out hm (by rw [Hc.out]; omega)
      rw [Hc.out] at hcall
      have hres : NX = (⟨if (quoteT c (l.drop (m + 1))).2.1 = true then 7 else 6, writeP (quoteT c (l.drop (m + 1))).1, 0⟩, (quoteT c (l.drop (m + 1))).2.2) := by
        rw [← HNX.out]; unfold nextT; simp only [Hc.out]; rw [if_pos hq, List.tail_drop]
      generalize quoteT c (l.drop (m + 1)) = QT at *
      obtain ⟨Kq, hKq⟩ : ∃ K : Nat, (if QT.2.1 = true then 7 else 6) = K := ⟨_, rfl⟩
      rw [hKq] at hcall hres
      have Hres := Lib.hid hres
      clear hKq hres hq
      go_wp2_with fail
      refine hcall.mono ?_
      rintro e2 w2 ⟨⟨k', hk', hk'n, hd', rfl⟩, hb2⟩
      have R1 := row_below R0 hb2
      have B1 := B0.trans (hb2.mono B0.size)
      have H1 := H0.mv hb2
      obtain ⟨x0, z0⟩ := R1.2 0 _ rfl
      obtain ⟨x1, z1⟩ := R1.2 1 _ rfl
      obtain ⟨x2, z2⟩ := R1.2 2 _ rfl
      have hfin := ((R1.store 0 (.int .i64 Kq)).store 1 (.string (bytesOf (writeP QT.1)))).store 2 (.int .i64 0)
      have B99 := below_set (below_set (below_set B1 0 (.int .i64 Kq)) 1 (.string (bytesOf (writeP QT.1)))) 2 (.int .i64 0)
      (try unfold tokV)
      go_wp2_with fail
      (try simp only [Exit.inBlock, Exit.then])
      refine bodyPost_ret (results_tok2 rfl _ _ _ _ _ _ rfl hfin) rfl ?_
      exact ⟨⟨k', hk', hk'n, by rw [Hres.out]; exact hd', by rw [Hres.out]; rfl⟩, B99⟩
    have hq := of_decide_eq_false Hq.out
    have hnx : nextT (l.drop m) = if c = 35 ∧ (withinB (pk (l.drop m) 1) || esc (l.drop (m + 1))) = true then (⟨5, writeP (nameT (l.drop (m + 1))).1, 0⟩, (nameT (l.drop (m + 1))).2)
      else match numberT (l.drop m) with
        | some x => x
        | none =>
          if c = 64 ∧ beg (l.drop (m + 1)) = true then (⟨4, writeP (nameT (l.drop (m + 1))).1, 0⟩, (nameT (l.drop (m + 1))).2)
          else if beg (l.drop m) = true then
            if pk (nameT (l.drop m)).2 0 = 40 then (⟨3, writeP (nameT (l.drop m)).1, 0⟩, (nameT (l.drop m)).2.tail) else (⟨2, writeP (nameT (l.drop m)).1, 0⟩, (nameT (l.drop m)).2)
          else (signT c, l.drop (m + 1)) := by
      unfold nextT; simp only [Hc.out]; rw [if_neg hq, List.tail_drop]; rfl
    rw [HNX.out] at hnx
    have Hnx := Lib.hid hnx
    clear hnx hq
    have hp1 := rt_at H0 (m + 1) (i0 + 1) (by have := Hi0.out; omega) (by omega)
    have he1 := rt_escape H0 (m + 1) (i0 + 1) (by have := Hi0.out; omega) (by omega)
    have hdr := H0.range (m + 1)
    rw [pk1] at hp1 hdr
    obtain ⟨d, hd⟩ : ∃ d, pk (l.drop m) 1 = d := ⟨_, rfl⟩
    rw [hd] at hp1 hdr
    have hw1 := ref_within d wA (by omega) (by omega)
    have Hd := Lib.hid hd
    clear hd
    obtain ⟨D, hD0⟩ : ∃ D, decide (c = 35 ∧ (withinB d || esc (l.drop (m + 1))) = true) = D := ⟨_, rfl⟩
    have HD := Lib.hid hD0
    clear hD0
    go_upto_region 4 with (fail)
    go_cut [49] (fun x wx => x = .bool D ∧ wx = wA)
    case first =>
      by_cases h35 : c = 35
      · have t35 := eq_t h35
        cases hwi : withinB d with
        | true =>
          have Hv : Hid (D = true) := by show _ = _; rw [← HD.out, hwi]; simp [h35]
          rw [hwi] at hw1
          clear h35 hwi
          go_wp2_with (first
            | (go_at_call 26; with_reducible refine hp1.mono ?_; rintro e2 w' ⟨rfl, rfl⟩)
            | (go_at_call 28; with_reducible refine hw1.mono ?_; rintro e2 w' ⟨rfl, rfl⟩))
          go_meet
          exact ⟨by rw [Hv.out], rfl⟩
        | false =>
          have Hv : Hid (D = esc (l.drop (m + 1))) := by show _ = _; rw [← HD.out, hwi, Bool.eq_iff_iff]; simp [h35]
          rw [hwi] at hw1
          clear h35 hwi
          go_wp2_with (first
            | (go_at_call 26; with_reducible refine hp1.mono ?_; rintro e2 w' ⟨rfl, rfl⟩)
            | (go_at_call 28; with_reducible refine hw1.mono ?_; rintro e2 w' ⟨rfl, rfl⟩)
            | (go_at_call 29; with_reducible refine he1.mono ?_; rintro e2 w' ⟨rfl, rfl⟩))
          go_meet
          exact ⟨by rw [Hv.out], rfl⟩
      · have t35 := eq_f h35
        have Hv : Hid (D = false) := by show _ = _; rw [← HD.out]; simp [h35]
        clear h35
        go_wp2_with fail
        go_meet
        exact ⟨by rw [Hv.out], rfl⟩
    case rest =>
      obtain ⟨rfl, hwc⟩ := hcut
      have hwc2 := hwc.symm
      subst hwc2
      clear hwc hp1 he1 hw1
      go_upto_if 49 with (fail)
      go_cut [1] (fun z wx => z = .int .i64 i0 ∧ wx = wA ∧ Hid (D = false))
      case rest =>
        obtain ⟨rfl, hwc, hDf⟩ := hcut
        subst hwc
        have hn2 := Hnx.out
        rw [Hd.out, if_neg (of_decide_eq_false (HD.out.trans hDf.out))] at hn2
        have Hn2 := Lib.hid hn2
        refine ‹∀ (a : Act) (w : World), Code.wp _ _ _ a w → _› _ _ ?_
        exact rt_tail7 _ _ _ _ _ _ _ _ _ _ _ _ _ _ _ _ _ _ _ _ _ _ _ _ _ _ _ _ _ _ _ _ _ _ _ _ _ _ _ _ _ _ _ _ _ _ _ _ _ _ _ _ _ _ _ _ _ _ _ _ _ _ _ _ _ _ _ _ _ _ _ _ _ _ _ _ _ _ _ _ _ _ _ _ _ _ _ _ _ _ _ _ _ _ _ _ _ _ _ _ _ _ _ _ _ _ _ _ _ _ _ _ _ _ _ _ _ _ _ _ _ _ _ _ _ _ _ _ _ _ _ _ _ _ _ _ _ _ _ _ _ _ _ _ _ _ _ _ _ _ _ _ _ _ _ _ _ _ _ _ _ _ _ _ _ _ _ _ _ _ _ _ _ _ _ _ _ _ _ _ _ _ _ _ _ _ _ _ _ _ _ _ _ _ _ h Hi0 y1 y4 hm hcB Hc Hn2 R0 B0
      cases D
      case true =>
        have hcd := of_decide_eq_true HD.out
        have hres : NX = (⟨5, writeP (nameT (l.drop (m + 1))).1, 0⟩, (nameT (l.drop (m + 1))).2) := by rw [Hnx.out, Hd.out, if_pos hcd]
        have hcall := rt_name H0 (m + 1) (i0 + 1) (by have := Hi0.out; omega) (by omega)
        generalize nameT (l.drop (m + 1)) = NM at *
        have Hres := Lib.hid hres
        clear hres hcd
        go_wp2_with fail
        refine hcall.mono ?_
        rintro e2 w2 ⟨⟨k', hk', hk'n, hd', rfl⟩, hb2⟩
        have R1 := row_below R0 hb2
        have B1 := B0.trans (hb2.mono B0.size)
        have H1 := H0.mv hb2
        obtain ⟨x0, z0⟩ := R1.2 0 _ rfl
        obtain ⟨x1, z1⟩ := R1.2 1 _ rfl
        obtain ⟨x2, z2⟩ := R1.2 2 _ rfl
        have hfin := ((R1.store 0 (.int .i64 5)).store 1 (.string (bytesOf (writeP NM.1)))).store 2 (.int .i64 0)
        have B99 := below_set (below_set (below_set B1 0 (.int .i64 5)) 1 (.string (bytesOf (writeP NM.1)))) 2 (.int .i64 0)
        (try unfold tokV)
        go_wp2_with fail
        (try simp only [Exit.inBlock, Exit.then])
        refine bodyPost_ret (results_tok2 rfl _ _ _ _ _ _ rfl hfin) rfl ?_
        exact ⟨⟨k', by omega, hk'n, by rw [Hres.out]; exact hd', by rw [Hres.out]; rfl⟩, B99⟩
      go_wp2_with fail
      go_meet
      exact ⟨rfl, rfl, (by first | exact rfl | trivial)⟩
end Go.Proofs.YthkagpefgkpgeaaGreatDoor
