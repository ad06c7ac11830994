/- The laws RunesBack, RunesAgain, RunesParts of layer 2 are walked. -/
import Derived.Test.YtjgjpcoieiobcaaDoorRnLawA
import Derived.Test.YtjgjpcoieiobcaaDoorRnPlain2
import Derived.Maps.AppendAt
set_option linter.unusedVariables false
set_option linter.unusedSimpArgs false
namespace Go.Proofs.YtjgjpcoieiobcaaDoor
open Go.RowKit Rn

set_option maxRecDepth 100000 in
set_option maxHeartbeats 2000000 in
theorem walk_RunesBack (l : List Int) (A : Option Addr) (n cap : Nat) (w : World) (hr : Reads w w.heap.size 1 A n (l.map r32)) (hl : ∀ c ∈ l, -2147483648 ≤ c ∧ c ≤ 2147483647) (hm : n ≤ cap) (hcap : cap ≤ maxLen) (hT : Tabs w) :
    Calls Tryd.prog 5 #[.slice A n cap] w fun e w' => e = .returned (.bool true) ∧ Below w.heap.size w w' := by
  have hlen : l.length = n := by simpa using hr.len
  have hcap' := hcap
  unfold maxLen at hcap
  by_cases hn : n ≤ 500
  · have Hlen := Lib.hid hlen
    clear hlen
    have Hl := Lib.hid hl
    clear hl
    go_enter Tryd.func5, Tryd.ntmps5
    go_wp2
    go_loop [11] (fun i => ∃ k : Nat, k ≤ n ∧ i = .int .i64 k ∧ Hid (∀ c ∈ l.take k, Plain c)) (fun i => n - (intOf i).toNat)
    case atStart => exact ⟨0, by omega, rfl, fun c hc => by simp at hc⟩
    case round =>
      obtain ⟨k, hk, rfl, hpl⟩ := hrel
      by_cases hlt : k < n
      · obtain ⟨b, off, u, hA, hbw, hx, hcell⟩ := hr.at_ hlt
        subst hA
        obtain ⟨c, hc⟩ : ∃ c, l[k]? = some c := ⟨_, List.getElem?_eq_getElem (by rw [Hlen.out]; omega)⟩
        rw [List.getElem?_map, hc] at hx
        obtain rfl : u = r32 c := by simpa using hx.symm
        unfold r32 at hcell
        have hcr := Hl.out c (List.mem_of_getElem? hc)
        have Hst := Lib.hid (take_snoc l k c hc)
        have Haw := Lib.hid (law_awake w hT)
        clear hc hx
        cases his : isB c with
        | false =>
          have hnp : ¬ Plain c := fun h => by rw [h.1] at his; cases his
          have Hnp := Lib.hid hnp
          clear hnp
          go_wp2_with (first | (go_at_call 17; refine (ref_is _ _ (by omega) (by omega)).mono ?_; rintro e w' ⟨rfl, rfl⟩; rw [his]) | (go_at_call 10; refine (Haw.out).mono ?_; rintro e w5 ⟨rfl, hb5⟩))
          go_ret
          exact ⟨rfl, hb5⟩
        | true =>
          by_cases z0 : c = 0
          · have z0' : (c == 0) = true := by simp [z0]
            have hnp : ¬ Plain c := fun h => by have := h.2; omega
            have Hnp := Lib.hid hnp
            clear z0 hnp
            go_wp2_with (first | (go_at_call 17; refine (ref_is _ _ (by omega) (by omega)).mono ?_; rintro e w' ⟨rfl, rfl⟩; rw [his]) | (go_at_call 10; refine (Haw.out).mono ?_; rintro e w5 ⟨rfl, hb5⟩))
            go_ret
            exact ⟨rfl, hb5⟩
          · have z0' : (c == 0) = false := by simp [z0]
            by_cases z12 : c = 12
            · have z12' : (c == 12) = true := by simp [z12]
              have hnp : ¬ Plain c := fun h => by have := h.2; omega
              have Hnp := Lib.hid hnp
              clear z12 hnp
              go_wp2_with (first | (go_at_call 17; refine (ref_is _ _ (by omega) (by omega)).mono ?_; rintro e w' ⟨rfl, rfl⟩; rw [his]) | (go_at_call 10; refine (Haw.out).mono ?_; rintro e w5 ⟨rfl, hb5⟩))
              go_ret
              exact ⟨rfl, hb5⟩
            · have z12' : (c == 12) = false := by simp [z12]
              by_cases z13 : c = 13
              · have z13' : (c == 13) = true := by simp [z13]
                have hnp : ¬ Plain c := fun h => by have := h.2; omega
                have Hnp := Lib.hid hnp
                clear z13 hnp
                go_wp2_with (first | (go_at_call 17; refine (ref_is _ _ (by omega) (by omega)).mono ?_; rintro e w' ⟨rfl, rfl⟩; rw [his]) | (go_at_call 10; refine (Haw.out).mono ?_; rintro e w5 ⟨rfl, hb5⟩))
                go_ret
                exact ⟨rfl, hb5⟩
              · have z13' : (c == 13) = false := by simp [z13]
                have hpl : Plain c := ⟨his, z0, z12, z13⟩
                have Hpl := Lib.hid hpl
                clear hpl z0 z12 z13
                have hall : Hid (∀ d ∈ l.take (k + 1), Plain d) := by
                  show ∀ d ∈ _, _
                  rw [Hst.out]
                  intro d hd
                  rcases List.mem_append.1 hd with hd | hd
                  · exact hpl.out d hd
                  · simp at hd; subst hd; exact Hpl.out
                go_wp2_with ((go_at_call 17; refine (ref_is _ _ (by omega) (by omega)).mono ?_; rintro e w' ⟨rfl, rfl⟩; rw [his]))
                go_round
                case rel => exact ⟨k + 1, by omega, by go_num, hall⟩
                case measure => simp [intOf]; omega
      · obtain rfl : k = n := by omega
        have hall : ∀ c ∈ l, Plain c := by have := hpl.out; rwa [List.take_of_length_le (by rw [Hlen.out]; omega)] at this
        have Hall := Lib.hid hall
        have hwl := writeP_len l
        rw [Hlen.out] at hwl
        clear hall hpl
        go_wp2_with fail
        refine (rn_write l A k cap w hr Hl.out (by omega)).mono ?_
        rintro e w1 ⟨v, rfl, hown1, hb1⟩
        obtain ⟨A1, c1, rfl, h11, h12, hr1⟩ := own_reads hown1
        have hT1 := hT.below hb1
        go_wp2_with fail
        refine (rn_read (writeP l) A1 _ c1 w1 hr1 h11 h12 (by omega) hT1).mono ?_
        rintro e w2 ⟨v, rfl, hown2, hb2⟩
        rw [read_write l Hall.out] at hown2
        rw [Hlen.out] at hown2
        have hb02 := hb1.trans (hb2.mono hb1.size)
        obtain ⟨A2, c2, rfl, h21, h22, hr2⟩ := own_reads hown2
        go_wp2_with fail
        refine (law_ints l A2 _ c2 w2 hr2 Hl.out (by omega)).mono ?_
        rintro e w3 ⟨v, rfl, hown3, hb3⟩
        rw [Hlen.out] at hown3
        have hb03 := hb02.trans (hb3.mono hb02.size)
        obtain ⟨A3, c3, rfl, h31, h32, hr3⟩ := own_reads hown3
        go_wp2_with fail
        refine (law_ints l A k cap w3 ((hr.below hb03).more hb03.size) Hl.out (by omega)).mono ?_
        rintro e w4 ⟨v, rfl, hown4, hb4⟩
        rw [Hlen.out] at hown4
        have hb04 := hb03.trans (hb4.mono hb03.size)
        obtain ⟨A4, c4, rfl, h41, h42, hr4⟩ := own_reads hown4
        go_wp2_with fail
        refine (law_same l l A3 A4 _ _ c3 c4 w4 ((hr3.below hb4).more hb4.size) hr4 (by omega)).mono ?_
        rintro e w5 ⟨rfl, hb5⟩
        have hb05 := hb04.trans (hb5.mono hb04.size)
        rw [decide_eq_true rfl]
        go_wp2_with fail
        refine (law_awake w5 (hT.below hb05)).mono ?_
        rintro e w6 ⟨rfl, hb6⟩
        have hb06 := hb05.trans (hb6.mono hb05.size)
        go_wp2
        go_ret
        exact ⟨rfl, hb06⟩
  · go_enter Tryd.func5, Tryd.ntmps5
    go_wp2_with fail
    refine (law_awake w hT).mono ?_
    rintro e w5 ⟨rfl, hb5⟩
    go_wp2
    go_ret
    exact ⟨rfl, hb5⟩

set_option maxRecDepth 100000 in
set_option maxHeartbeats 2000000 in
theorem walk_RunesAgain (bs : List UInt8) (A : Option Addr) (n cap : Nat) (w : World) (hr : Reads w w.heap.size 1 A n (bs.map b8)) (hm : n ≤ cap) (hcap : cap ≤ maxLen) (hT : Tabs w) :
    Calls Tryd.prog 7 #[.slice A n cap] w fun e w' => e = .returned (.bool true) ∧ Below w.heap.size w w' := by
  have hlen : bs.length = n := by simpa using hr.len
  have hcap' := hcap
  unfold maxLen at hcap
  by_cases hn : n ≤ 2000
  · have hl := readP_len bs
    have hrg := readP_range bs
    have hpl := readP_plain bs
    have hrw := read_write (readP bs) hpl
    rw [hlen] at hl
    have Hrw := Lib.hid hrw
    have Hpl := Lib.hid hpl
    have Hrg := Lib.hid hrg
    have Hlen := Lib.hid hlen
    clear hrw hpl hrg hlen
    go_enter Tryd.func7, Tryd.ntmps7
    go_wp2_with fail
    refine (rn_read bs A n cap w hr hm hcap' (by omega) hT).mono ?_
    rintro e w1 ⟨v, rfl, hown1, hb1⟩
    obtain ⟨A1, c1, rfl, h11, h12, hr1⟩ := own_reads hown1
    generalize hL : readP bs = l at *
    clear hL
    obtain ⟨m, hm0⟩ : ∃ m, Hid (l.length = m) := ⟨_, rfl⟩
    rw [hm0.out] at hown1 hr1 hl h11
    rw [hm0.out]
    have hT1 := hT.below hb1
    go_wp2_with fail
    go_loop [14] (fun i => ∃ k : Nat, k ≤ m ∧ i = .int .i64 k) (fun i => m - (intOf i).toNat)
    case atStart => exact ⟨0, by omega, rfl⟩
    case round =>
      obtain ⟨k, hk, rfl⟩ := hrel
      by_cases hlt : k < m
      · obtain ⟨b, off, u, hA, hbw, hx, hcell⟩ := hr1.at_ hlt
        subst hA
        obtain ⟨c, hc⟩ : ∃ c, l[k]? = some c := ⟨_, List.getElem?_eq_getElem (by rw [hm0.out]; omega)⟩
        rw [List.getElem?_map, hc] at hx
        obtain rfl : u = r32 c := by simpa using hx.symm
        unfold r32 at hcell
        have hcr := Hrg.out c (List.mem_of_getElem? hc)
        have hp := Hpl.out c (List.mem_of_getElem? hc)
        have his : isB c = true := hp.1
        have z0 : (c == 0) = false := by simp [hp.2.1]
        have z12 : (c == 12) = false := by simp [hp.2.2.1]
        have z13 : (c == 13) = false := by simp [hp.2.2.2]
        clear hc hx hp
        go_wp2_with ((go_at_call 17; refine (ref_is _ _ (by omega) (by omega)).mono ?_; rintro e w' ⟨rfl, rfl⟩; rw [his]))
        go_round
        case rel => exact ⟨k + 1, by omega, by go_num⟩
        case measure => simp [intOf]; omega
      · obtain rfl : k = m := by omega
        have hwl := writeP_len l
        rw [hm0.out] at hwl
        go_wp2_with fail
        refine (rn_write l A1 k c1 w1 hr1 Hrg.out (by omega)).mono ?_
        rintro e w2 ⟨v, rfl, hown2, hb2⟩
        obtain ⟨A2, c2, rfl, h21, h22, hr2⟩ := own_reads hown2
        have hb02 := hb1.trans (hb2.mono hb1.size)
        go_wp2_with fail
        refine (rn_read (writeP l) A2 _ c2 w2 hr2 h21 h22 (by omega) (hT.below hb02)).mono ?_
        rintro e w3 ⟨v, rfl, hown3, hb3⟩
        rw [Hrw.out, hm0.out] at hown3
        have hb03 := hb02.trans (hb3.mono hb02.size)
        have hb13 := hb2.trans (hb3.mono hb2.size)
        obtain ⟨A3, c3, rfl, h31, h32, hr3⟩ := own_reads hown3
        go_wp2_with fail
        refine (law_ints l A3 _ c3 w3 hr3 Hrg.out (by omega)).mono ?_
        rintro e w4 ⟨v, rfl, hown4, hb4⟩
        rw [hm0.out] at hown4
        have hb04 := hb03.trans (hb4.mono hb03.size)
        have hb14 := hb13.trans (hb4.mono hb13.size)
        obtain ⟨A4, c4, rfl, h41, h42, hr4⟩ := own_reads hown4
        go_wp2_with fail
        refine (law_ints l A1 k c1 w4 ((hr1.below hb14).more hb14.size) Hrg.out (by omega)).mono ?_
        rintro e w5 ⟨v, rfl, hown5, hb5⟩
        rw [hm0.out] at hown5
        have hb05 := hb04.trans (hb5.mono hb04.size)
        obtain ⟨A5, c5, rfl, h51, h52, hr5⟩ := own_reads hown5
        go_wp2_with fail
        refine (law_same l l A4 A5 _ _ c4 c5 w5 ((hr4.below hb5).more hb5.size) hr5 (by omega)).mono ?_
        rintro e w6 ⟨rfl, hb6⟩
        have hb06 := hb05.trans (hb6.mono hb05.size)
        rw [decide_eq_true rfl]
        go_wp2_with fail
        refine (law_awake w6 (hT.below hb06)).mono ?_
        rintro e w7 ⟨rfl, hb7⟩
        have hb07 := hb06.trans (hb7.mono hb06.size)
        go_wp2
        go_ret
        exact ⟨rfl, hb07⟩
  · go_enter Tryd.func7, Tryd.ntmps7
    go_wp2_with fail
    refine (law_awake w hT).mono ?_
    rintro e w5 ⟨rfl, hb5⟩
    go_wp2
    go_ret
    exact ⟨rfl, hb5⟩
end Go.Proofs.YtjgjpcoieiobcaaDoor
