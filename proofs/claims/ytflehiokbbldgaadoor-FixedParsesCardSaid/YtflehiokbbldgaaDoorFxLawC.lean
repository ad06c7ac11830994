/- FixedParses and FixedBegins are walked. -/
import Derived.Test.YtflehiokbbldgaaDoorFxLaws
import Derived.Test.YtflehiokbbldgaaDoorFxRefParseW
import Derived.Test.YtflehiokbbldgaaDoorFxMake
set_option linter.unusedVariables false
set_option linter.unusedSimpArgs false
namespace Go.Proofs.YtflehiokbbldgaaDoor
open Go.RowKit Fx
set_option maxRecDepth 100000 in
set_option maxHeartbeats 2000000 in
theorem walk_FixedParses (s : ByteArray) (w : World) (hs : s.size ≤ maxLen) (hw : Env w) :
    Calls Tryd.prog 3 #[.string s] w fun e w' => e = .returned (.bool true) ∧ Below w.heap.size w w' := by
  obtain ⟨l, rfl⟩ : ∃ l, s = bytesOf l := ⟨s.data.toList, (bytesOf_eta s).symm⟩
  rw [bytesOf_size] at hs
  unfold maxLen at hs
  have hsz := bytesOf_size l
  by_cases hn : l.length ≤ 300
  · go_enter Tryd.func3, Tryd.ntmps3
    go_wp2_with fail
    refine (fx_parse l w (by omega) hw).mono ?_
    rintro e w1 ⟨rfl, hb1⟩
    go_wp2_with fail
    refine (rfx_parse l w1 (by omega)).mono ?_
    rintro e w2 ⟨rfl, hb2⟩
    replace hb2 := hb1.trans (hb2.mono hb1.size)
    generalize parseP l = z
    generalize isP l = z2
    go_wp2_with fail
    refine (fx_length l w2 (by omega)).mono ?_
    rintro e w3 ⟨rfl, hb3⟩
    replace hb3 := hb2.trans (hb3.mono hb2.size)
    go_wp2_with fail
    refine (rfx_length l w3 (by omega)).mono ?_
    rintro e w4 ⟨rfl, rfl⟩
    generalize (lenP l : Int) = z3
    go_wp2_with fail
    refine (fx_awake _ (hw.below hb3)).mono ?_
    rintro e w4 ⟨rfl, hb4⟩
    go_wp2
    go_ret
    exact ⟨rfl, hb3.trans (hb4.mono hb3.size)⟩
  · go_enter Tryd.func3, Tryd.ntmps3
    go_wp2_with fail
    refine (fx_awake w hw).mono ?_
    rintro e w4 ⟨rfl, hb4⟩
    go_wp2
    go_ret
    exact ⟨rfl, hb4⟩
set_option maxRecDepth 100000 in
set_option maxHeartbeats 2000000 in
theorem walk_FixedBegins (s : ByteArray) (w : World) (hs : s.size ≤ maxLen) (hw : Env w) :
    Calls Tryd.prog 6 #[.string s] w fun e w' => e = .returned (.bool true) ∧ Below w.heap.size w w' := by
  obtain ⟨l, rfl⟩ : ∃ l, s = bytesOf l := ⟨s.data.toList, (bytesOf_eta s).symm⟩
  rw [bytesOf_size] at hs
  unfold maxLen at hs
  have hsz := bytesOf_size l
  by_cases hn : l.length ≤ 300
  · have hle := lenP_le l
    have hone := begins_is l
    have hnone := begins_none l
    go_enter Tryd.func6, Tryd.ntmps6
    go_wp2_with fail
    refine (fx_length l w (by omega)).mono ?_
    rintro e w1 ⟨rfl, hb1⟩
    have hw1 := hw.below hb1
    have Hone := Lib.hid hone
    have Hnone := Lib.hid hnone
    clear hone hnone
    generalize lenP l = N at *
    have hto := str_to (P := Tryd.prog) (T := 9) Tryd.underlying9 l .i64 N hle
    go_wp2_with fail
    refine (fx_parse (l.take N) w1 (by rw [List.length_take]; omega) hw1).mono ?_
    rintro e w2 ⟨rfl, hb2⟩
    rw [Hone.out]
    have hw2 := hw1.below hb2
    replace hb2 := hb1.trans (hb2.mono hb1.size)
    generalize parseP (l.take N) = z
    clear hto
    obtain ⟨v, hv⟩ : ∃ v, decide (0 < N) = v := ⟨_, rfl⟩
    have hd : decide ((0 : Int) < N) = v := by rw [← hv]; simp
    rw [hv]
    go_upto_if 33 with (fail)
    go_cut [3] (fun k wx => k = .int .i64 (N : Nat) ∧ wx = w2)
    case first =>
      cases v
      all_goals
        go_wp2_with fail
        go_meet
        exact ⟨rfl, rfl⟩
    case rest =>
      obtain ⟨rfl, rfl⟩ := hcut
      go_wp2_with fail
      go_loopw [6] (fun k wr => ∃ i : Nat, N < i ∧ i ≤ l.length + 1 ∧ k = .int .i64 (i : Nat) ∧ Below w.heap.size w wr) (fun k _ => l.length + 1 - (intOf k).toNat)
      case atStart => exact ⟨N + 1, by omega, by omega, by simp, hb2⟩
      case round =>
        obtain ⟨i, hi1, hi2, rfl, hb⟩ := hrel
        by_cases hi : i ≤ l.length
        · have hto := str_to (P := Tryd.prog) (T := 9) Tryd.underlying9 l .i64 i hi
          go_wp2_with fail
          refine (fx_parse (l.take i) wr (by rw [List.length_take]; omega) (hw.below hb)).mono ?_
          rintro e w3 ⟨rfl, hb3⟩
          rw [Hnone.out i hi1 hi]
          generalize parseP (l.take i) = z
          go_wp2
          go_roundw
          case rel => exact ⟨i + 1, by omega, by omega, by simp, hb.trans (hb3.mono hb.size)⟩
          case measure => simp [intOf]; omega
        · go_wp2_with fail
          refine (fx_awake wr (hw.below hb)).mono ?_
          rintro e w4 ⟨rfl, hb4⟩
          go_wp2
          go_ret
          exact ⟨rfl, hb.trans (hb4.mono hb.size)⟩
  · go_enter Tryd.func6, Tryd.ntmps6
    go_wp2_with fail
    refine (fx_awake w hw).mono ?_
    rintro e w4 ⟨rfl, hb4⟩
    go_wp2
    go_ret
    exact ⟨rfl, hb4⟩
end Go.Proofs.YtflehiokbbldgaaDoor
