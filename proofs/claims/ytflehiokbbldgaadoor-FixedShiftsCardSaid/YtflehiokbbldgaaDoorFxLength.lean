/- Layer 1: the program's Length is walked, cut where its ways meet. -/
import Derived.Test.YtflehiokbbldgaaDoorFxRefLen
set_option linter.unusedVariables false
set_option linter.unusedSimpArgs false
namespace Go.Proofs.YtflehiokbbldgaaDoor
open Go.RowKit Fx
set_option maxRecDepth 100000 in
set_option maxHeartbeats 8000000 in
theorem fx_length (l : List UInt8) (w : World) (hl : l.length ≤ 9223372036854775806) :
    Calls Tryd.prog 13 #[.string (bytesOf l)] w fun e w' => e = .returned (.int .i64 (lenP l : Nat)) ∧ Below w.heap.size w w' := by
  have hs := bytesOf_size l
  obtain ⟨a0, h0⟩ : ∃ a0, sgn l = a0 := ⟨_, rfl⟩
  obtain ⟨n0, hn⟩ : ∃ n0, digs (l.drop a0) = n0 := ⟨_, rfl⟩
  obtain ⟨m, hm⟩ : ∃ m, digs (l.drop (a0 + n0 + 1)) = m := ⟨_, rfl⟩
  have ha0 := sgn_le l
  have hn0 := digs_le (l.drop a0)
  rw [h0] at ha0
  rw [hn, List.length_drop] at hn0
  obtain ⟨A, hA⟩ : ∃ A, bodyLen l = A := ⟨_, rfl⟩
  have hAl := bodyLen_le l
  rw [hA] at hAl
  have HA := Lib.hid hA
  have hBody : bodyLen l = if l[a0 + n0]? = some 46 ∧ 0 < m then a0 + n0 + 1 + m else a0 + n0 := by simp only [bodyLen, h0, hn, hm]
  have hSome : some_ l = decide (0 < n0 ∨ (l[a0 + n0]? = some 46 ∧ 0 < m)) := by simp only [some_, h0, hn, hm]
  rw [hA] at hBody
  have HBody := Lib.hid hBody
  have HSome := Lib.hid hSome
  have Hdot := Lib.hid (dot_cases l (a0 + n0))
  have hf0 := str_from (P := Tryd.prog) (T := 9) Tryd.underlying9 l .i64 a0 (by omega)
  have H0 := Lib.hid h0
  have Hn := Lib.hid hn
  have Hm := Lib.hid hm
  clear hA hBody hSome h0 hn hm
  obtain ⟨D, hD⟩ : ∃ D, decide (l[a0 + n0]? = some 46) = D := ⟨_, rfl⟩
  have HD := Lib.hid hD
  clear hD
  go_enter Tryd.func13, Tryd.ntmps13
  go_wp2_with fail
  refine (fx_sign l w (by omega)).mono ?_
  rintro e w1 ⟨rfl, rfl⟩
  rw [H0.out]
  go_wp2_with fail
  refine (fx_digits (l.drop a0) w (by rw [List.length_drop]; omega)).mono ?_
  rintro e w1 ⟨rfl, hb1⟩
  rw [Hn.out]
  go_upto_region 4 with (fail)
  go_cut [26] (fun s wx => s = .bool D ∧ wx = w1)
  case first =>
    rcases Hdot.out with ⟨hge, h⟩ | ⟨b, hb, ⟨hb1, h⟩ | ⟨hb1, h⟩⟩
    · go_wp2_with fail
      go_meet
      exact ⟨by rw [← HD.out]; simp [h], rfl⟩
    · have hlt : a0 + n0 < l.length := (List.getElem?_eq_some_iff.1 hb).1
      have hix := str_at (P := Tryd.prog) (T := 9) Tryd.underlying9 l .i64 (a0 + n0) b hb
      rw [hb1] at hix
      push_cast at hix
      go_wp2_with fail
      go_meet
      exact ⟨by rw [← HD.out]; simp [h], rfl⟩
    · have hlt : a0 + n0 < l.length := (List.getElem?_eq_some_iff.1 hb).1
      have hix := str_at (P := Tryd.prog) (T := 9) Tryd.underlying9 l .i64 (a0 + n0) b hb
      push_cast at hix
      have hc1 : ((b.toNat : Int) == 46) = false := byte_ne hb1
      go_wp2_with fail
      go_meet
      exact ⟨by rw [← HD.out]; simp [h, hc1], rfl⟩
  case rest =>
    obtain ⟨rfl, rfl⟩ := hcut
    go_upto_if 26 with (fail)
    go_cut [3, 4] (fun s t wx => s = .int .i64 (A : Nat) ∧ (∃ N : Nat, t = .int .i64 (N : Nat) ∧ some_ l = decide (0 < N) ∧ N ≤ l.length) ∧ Below w.heap.size w wx)
    case first =>
      cases D with
      | true =>
        have hdot := of_decide_eq_true HD.out
        have hal := (List.getElem?_eq_some_iff.1 hdot).1
        have hf1 := str_from (P := Tryd.prog) (T := 9) Tryd.underlying9 l .i64 (a0 + n0 + 1) (by omega)
        push_cast at hf1
        have hm1 := digs_le (l.drop (a0 + n0 + 1))
        rw [Hm.out, List.length_drop] at hm1
        have Hdt := Lib.hid hdot
        clear hdot
        by_cases hm0 : 0 < m
        · have hdm : decide (0 < (m : Int)) = true := by simpa using hm0
          go_wp2_with fail
          refine (fx_digits (l.drop (a0 + n0 + 1)) _ (by rw [List.length_drop]; omega)).mono ?_
          rintro e w2 ⟨rfl, hb2⟩
          rw [Hm.out]
          go_wp2_with fail
          go_meet
          refine ⟨?_, ⟨n0 + m, by congr 1, ?_, by omega⟩, hb1.trans (hb2.mono hb1.size)⟩
          · congr 1
            rw [HBody.out, if_pos ⟨Hdt.out, hm0⟩]; omega
          · rw [HSome.out, decide_eq_decide]
            constructor
            · intro _; omega
            · intro _; exact .inr ⟨Hdt.out, hm0⟩
        · have hdm : decide (0 < (m : Int)) = false := by simpa using hm0
          go_wp2_with fail
          refine (fx_digits (l.drop (a0 + n0 + 1)) _ (by rw [List.length_drop]; omega)).mono ?_
          rintro e w2 ⟨rfl, hb2⟩
          rw [Hm.out]
          go_wp2_with fail
          go_meet
          refine ⟨?_, ⟨n0, rfl, ?_, by omega⟩, hb1.trans (hb2.mono hb1.size)⟩
          · congr 1
            rw [HBody.out, if_neg (by omega)]; omega
          · rw [HSome.out, decide_eq_decide]; omega
      | false =>
        have hdot := of_decide_eq_false HD.out
        have hN : some_ l = decide (0 < n0) := by rw [HSome.out]; simp only [hdot, false_and, or_false]
        have hAv : A = a0 + n0 := by rw [HBody.out, if_neg (by simp only [hdot, false_and, not_false_eq_true])]
        have HN := Lib.hid hN
        clear hN hdot
        go_wp2_with fail
        go_meet
        exact ⟨by congr 1; omega, ⟨n0, rfl, HN.out, by omega⟩, hb1⟩
    case rest =>
      obtain ⟨rfl, ⟨N, rfl, hS, hNl⟩, hb2⟩ := hcut
      cases hS1 : some_ l with
      | false =>
        obtain rfl : N = 0 := by rw [hS1] at hS; have := of_decide_eq_false hS.symm; omega
        have Hval := Lib.hid (lenP_none hS1)
        clear hS1 hS
        go_wp2
        go_ret
        exact ⟨ret_int (by rw [Hval.out]; rfl), hb2⟩
      | true =>
        have hN0 : 0 < N := by rw [hS1] at hS; exact of_decide_eq_true hS.symm
        have htail := Lib.hid (lenP_tail hS1 HA.out)
        have hz : ((N : Int) == 0) = false := by simp; omega
        clear hS1 hS
        go_upto_region 11 with (fail)
        go_cut [58] (fun s wx => s = .bool (isE l[A]?) ∧ wx = wc)
        case first =>
          rcases isE_cases l A with ⟨hge, h⟩ | ⟨b, hb, ⟨hb1, h⟩ | ⟨hb1, h⟩ | ⟨hb1, hb2, h⟩⟩
          · go_wp2_with fail
            go_meet
            exact ⟨by rw [h], rfl⟩
          · have hlt : A < l.length := (List.getElem?_eq_some_iff.1 hb).1
            have hix := str_at (P := Tryd.prog) (T := 9) Tryd.underlying9 l .i64 A b hb
            rw [hb1] at hix
            go_wp2_with fail
            go_meet
            exact ⟨by rw [h], rfl⟩
          · have hlt : A < l.length := (List.getElem?_eq_some_iff.1 hb).1
            have hix := str_at (P := Tryd.prog) (T := 9) Tryd.underlying9 l .i64 A b hb
            rw [hb1] at hix
            go_wp2_with fail
            go_meet
            exact ⟨by rw [h], rfl⟩
          · have hlt : A < l.length := (List.getElem?_eq_some_iff.1 hb).1
            have hix := str_at (P := Tryd.prog) (T := 9) Tryd.underlying9 l .i64 A b hb
            have hc1 : ((b.toNat : Int) == 101) = false := byte_ne hb1
            have hc2 : ((b.toNat : Int) == 69) = false := byte_ne hb2
            go_wp2_with fail
            go_meet
            exact ⟨by first | rw [h]; done | (rw [h]; simp [hc1, hc2]), rfl⟩
        case rest =>
          obtain ⟨rfl, rfl⟩ := hcut
          cases hE : isE l[A]? with
          | false =>
            have Hval := Lib.hid (htail.out.1 hE)
            clear hE
            go_wp2
            go_ret
            exact ⟨ret_int (by rw [Hval.out]), hb2⟩
          | true =>
            have hAlt : A < l.length := by
              rcases isE_cases l A with ⟨hge, h⟩ | ⟨b, hb, _⟩
              · rw [hE] at h; cases h
              · exact (List.getElem?_eq_some_iff.1 hb).1
            obtain ⟨k, hk⟩ : ∃ k, sgn (l.drop (A + 1)) = k := ⟨_, rfl⟩
            have hk1 := sgn_le (l.drop (A + 1))
            rw [hk, List.length_drop] at hk1
            obtain ⟨m2, hm2⟩ : ∃ m, digs (l.drop (A + 1 + k)) = m := ⟨_, rfl⟩
            have Hval := Lib.hid (htail.out.2 hE k m2 hk hm2)
            have hm1 := digs_le (l.drop (A + 1 + k))
            rw [hm2, List.length_drop] at hm1
            have hf2 := str_from (P := Tryd.prog) (T := 9) Tryd.underlying9 l .i64 (A + 1) (by omega)
            have hf3 := str_from (P := Tryd.prog) (T := 9) Tryd.underlying9 l .i64 (A + 1 + k) (by omega)
            push_cast at hf2 hf3
            have Hk := Lib.hid hk
            have Hm2 := Lib.hid hm2
            clear hE hk hm2
            by_cases hm0 : 0 < m2
            · have hdm : decide (0 < (m2 : Int)) = true := by simpa using hm0
              go_wp2_with fail
              refine (fx_sign (l.drop (A + 1)) _ (by rw [List.length_drop]; omega)).mono ?_
              rintro e w3 ⟨rfl, rfl⟩
              rw [Hk.out]
              go_wp2_with fail
              refine (fx_digits (l.drop (A + 1 + k)) _ (by rw [List.length_drop]; omega)).mono ?_
              rintro e w4 ⟨rfl, hb4⟩
              rw [Hm2.out]
              go_wp2
              go_ret
              exact ⟨ret_int (by rw [Hval.out, if_pos hm0] <;> omega), hb2.trans (hb4.mono hb2.size)⟩
            · have hdm : decide (0 < (m2 : Int)) = false := by simpa using hm0
              go_wp2_with fail
              refine (fx_sign (l.drop (A + 1)) _ (by rw [List.length_drop]; omega)).mono ?_
              rintro e w3 ⟨rfl, rfl⟩
              rw [Hk.out]
              go_wp2_with fail
              refine (fx_digits (l.drop (A + 1 + k)) _ (by rw [List.length_drop]; omega)).mono ?_
              rintro e w4 ⟨rfl, hb4⟩
              rw [Hm2.out]
              go_wp2
              go_ret
              exact ⟨ret_int (by rw [Hval.out, if_neg hm0] <;> omega), hb2.trans (hb4.mono hb2.size)⟩
end Go.Proofs.YtflehiokbbldgaaDoor
