/- FixedShifts is walked. -/
import Derived.Test.YtflehiokbbldgaaDoorFxLaws
import Derived.Test.YtflehiokbbldgaaDoorFxRef
import Derived.Test.YtflehiokbbldgaaDoorFxPlain
import Derived.Deep.RegionWith
import Derived.Deep.RegionHeld3
set_option linter.unusedVariables false
set_option linter.unusedSimpArgs false
namespace Go.Proofs.YtflehiokbbldgaaDoor
open Go.RowKit Fx
theorem ups_bound {n : Int} (h : -1073741824 ≤ n ∧ n ≤ 1073741824) : ∀ k, k ≤ 3 → -1073741824000 ≤ ups n k ∧ ups n k ≤ 1073741824000 ∧ (k ≤ 2 → -107374182400 ≤ ups n k ∧ ups n k ≤ 107374182400) := by
  intro k hk
  have hc : k = 0 ∨ k = 1 ∨ k = 2 ∨ k = 3 := by omega
  rcases hc with rfl | rfl | rfl | rfl <;> simp only [ups] <;> omega
theorem downs_bound {n : Int} (h : -1073741824000 ≤ n ∧ n ≤ 1073741824000) : ∀ k, -1073741824000 ≤ downs n k ∧ downs n k ≤ 1073741824000 := by
  intro k
  induction k with
  | zero => exact h
  | succ k ih =>
    simp only [downs]
    rcases Int.le_total 0 (downs n k) with h0 | h0
    · rw [Int.tdiv_eq_ediv_of_nonneg h0]; omega
    · have : downs n k = -(-(downs n k)) := by omega
      rw [this, Int.neg_tdiv, Int.tdiv_eq_ediv_of_nonneg (by omega)]; omega
theorem cell_seven {l : List Value} {t : TypeId} (w : World) {k : Nat} {u : Value} (h : ∀ h, l[k]'h = u) (hk : k < l.length) : (w.alloc (.cells l.toArray t)).cell? ⟨w.heap.size, k, none⟩ = some u := by
  have h1 := (RowAt.new w t l.toArray).2 k u (by rw [List.toList_toArray, List.getElem?_eq_getElem hk, h hk])
  exact h1.1
set_option maxRecDepth 100000 in
set_option maxHeartbeats 4000000 in
theorem walk_FixedShifts (n e : Int) (w : World) (h1 : -9223372036854775808 ≤ n ∧ n ≤ 9223372036854775807) (h2 : -9223372036854775808 ≤ e ∧ e ≤ 9223372036854775807) (hw : Env w) :
    Calls Tryd.prog 5 #[.int .i64 n, .int .i64 e] w fun e w' => e = .returned (.bool true) ∧ Below w.heap.size w w' := by
  by_cases hs : (-1073741824 ≤ n ∧ n ≤ 1073741824) ∧ -3 ≤ e ∧ e ≤ 3
  · obtain ⟨hn, he1, he2⟩ := hs
    obtain ⟨u, hu⟩ : ∃ u, e.toNat = u := ⟨_, rfl⟩
    obtain ⟨d, hd⟩ : ∃ d, (-e).toNat = d := ⟨_, rfl⟩
    have m1 : max e 0 = (u : Int) := by omega
    have m2 : max (-e) 0 = (d : Int) := by omega
    have hud : u ≤ 3 ∧ d ≤ 3 := by omega
    obtain ⟨p1, p2⟩ := shift_parse n e hn.1 hn.2 he1 he2
    have hz : shiftZ n e = downs (ups n u) d := by unfold shiftZ; rw [hu, hd]
    rw [hz] at p2
    have hpl := printP_len n
    have hub := ups_bound hn
    have hdb := downs_bound ⟨(hub u hud.1).1, (hub u hud.1).2.1⟩
    have P1 := Lib.hid p1
    have P2 := Lib.hid p2
    have Hub := Lib.hid hub
    have Hdb := Lib.hid hdb
    clear p1 p2 hz hub hdb
    go_enter Tryd.func5, Tryd.ntmps5
    go_upto_block 0 with (fail)
    go_cut [5] (fun x wx => x = .int .i64 (ups n u) ∧ wx = w)
    case first =>
      go_wp2_with fail
      go_loop [5, 27] (fun x s => ∃ i : Nat, i ≤ u ∧ x = .int .i64 (ups n i) ∧ s = .int .i64 (i : Nat)) (fun _ s => u - (intOf s).toNat)
      case atStart => exact ⟨0, by omega, rfl, rfl⟩
      case round =>
        obtain ⟨i, hi, rfl, rfl⟩ := hrel
        by_cases hik : i < u
        · have hb := (Hub.out i (by omega)).2.2 (by omega)
          have hnx : ups n (i + 1) = ups n i * 10 := rfl
          have Hnx := Lib.hid hnx
          clear hnx
          generalize ups n i = x at *
          go_wp2_with fail
          exact ⟨⟨i + 1, by omega, by rw [Hnx.out], rfl⟩, by simp [intOf]; omega⟩
        · obtain rfl : i = u := by omega
          go_wp2_with fail
          go_meet
          exact ⟨rfl, rfl⟩
    case rest =>
      obtain ⟨rfl, hwc⟩ := hcut
      have hwc2 := hwc.symm
      subst hwc2
      go_upto_block 2 with (fail)
      go_cut [5] (fun x wx => x = .int .i64 (downs (ups n u) d) ∧ wx = w)
      case first =>
        go_wp2_with fail
        go_loop [5, 35] (fun x s => ∃ i : Nat, i ≤ d ∧ x = .int .i64 (downs (ups n u) i) ∧ s = .int .i64 (i : Nat)) (fun _ s => d - (intOf s).toNat)
        case atStart => exact ⟨0, by omega, rfl, rfl⟩
        case round =>
          obtain ⟨i, hi, rfl, rfl⟩ := hrel
          by_cases hik : i < d
          · have hb := Hdb.out i
            have hnx : downs (ups n u) (i + 1) = (downs (ups n u) i).tdiv 10 := rfl
            have Hnx := Lib.hid hnx
            clear hnx
            generalize downs (ups n u) i = x at *
            go_wp2_with fail
            exact ⟨⟨i + 1, by omega, by rw [Hnx.out], rfl⟩, by simp [intOf]; omega⟩
          · obtain rfl : i = d := by omega
            go_wp2_with fail
            go_meet
            exact ⟨rfl, rfl⟩
      case rest =>
        obtain ⟨rfl, hwc3⟩ := hcut
        have hwc4 := hwc3.symm
        subst hwc4
        clear hwc hwc3
        have hzb := Hdb.out d
        generalize downs (ups n u) d = z at *
        clear Hub Hdb
        go_upto_region 12 with (fail)
        go_cut [6] (fun x wx => x = .string (bytesOf (printP n ++ 101 :: expT e)) ∧ Below w.heap.size w wx)
        case first =>
          have hpz := bytesOf_size (printP n)
          have hw0 : Env w.drew := hw.below (Below.refl _ _).drew
          obtain ⟨L, hL⟩ : ∃ L, printP n = L := ⟨_, rfl⟩
          have HL := Lib.hid hL
          rw [hL] at hpl hpz
          clear hL P1 P2
          have hcase : e = -3 ∨ e = -2 ∨ e = -1 ∨ e = 0 ∨ e = 1 ∨ e = 2 ∨ e = 3 := by omega
          obtain ⟨X, hX⟩ : ∃ X, expT e = X := ⟨_, rfl⟩
          have hXl : X.length ≤ 2 := by rw [← hX]; unfold expT; (repeat' split) <;> simp
          have hXz := bytesOf_size X
          have hat : ∀ h, ([Value.string ⟨#[45, 51]⟩, Value.string ⟨#[45, 50]⟩, Value.string ⟨#[45, 49]⟩, Value.string ⟨#[48]⟩, Value.string ⟨#[43, 49]⟩, Value.string ⟨#[50]⟩, Value.string ⟨#[51]⟩] : List Value)[(e + 3).toNat]'h = .string (bytesOf X) := by
            intro h
            subst hX
            rcases hcase with rfl | rfl | rfl | rfl | rfl | rfl | rfl <;> rfl
          have HX := Lib.hid hX
          clear hX hcase
          have hi1 : (0 : Int) ≤ e + 3 := by omega
          have hi2 : e + 3 < (7 : Int) := by omega
          have hi3 : IntKind.i64.wrap (e + 3) = e + 3 := by rw [IntKind.wrap_i64]; omega
          have hb0 : Below w.heap.size w w.drew := (Below.refl _ _).drew
          have hsz0 : w.drew.heap.size = w.heap.size := rfl
          generalize hW0 : w.drew = w0 at *
          have hcs := cell_seven (t := 9) w0 hat (by simp; omega)
          have hwa := hw0.below ((Below.refl w0.heap.size w0).alloc (Nat.le_refl _) (Obj.cells #[Value.string ⟨#[45, 51]⟩, Value.string ⟨#[45, 50]⟩, Value.string ⟨#[45, 49]⟩, Value.string ⟨#[48]⟩, Value.string ⟨#[43, 49]⟩, Value.string ⟨#[50]⟩, Value.string ⟨#[51]⟩] 9))
          have hba := hb0.alloc hb0.size (Obj.cells #[Value.string ⟨#[45, 51]⟩, Value.string ⟨#[45, 50]⟩, Value.string ⟨#[45, 49]⟩, Value.string ⟨#[48]⟩, Value.string ⟨#[43, 49]⟩, Value.string ⟨#[50]⟩, Value.string ⟨#[51]⟩] 9)
          have hza : w.heap.size ≤ (w0.alloc (Obj.cells #[Value.string ⟨#[45, 51]⟩, Value.string ⟨#[45, 50]⟩, Value.string ⟨#[45, 49]⟩, Value.string ⟨#[48]⟩, Value.string ⟨#[43, 49]⟩, Value.string ⟨#[50]⟩, Value.string ⟨#[51]⟩] 9)).heap.size := hba.size
          have hzl : w0.heap.size < (w0.alloc (Obj.cells #[Value.string ⟨#[45, 51]⟩, Value.string ⟨#[45, 50]⟩, Value.string ⟨#[45, 49]⟩, Value.string ⟨#[48]⟩, Value.string ⟨#[43, 49]⟩, Value.string ⟨#[50]⟩, Value.string ⟨#[51]⟩] 9)).heap.size := by simp
          go_wp2_with fail
          go_region_with (first
            | (go_at_call 15; refine (fx_print n w0 h1.1 h1.2 hw0).mono ?_; rintro e' w7 ⟨rfl, hb7⟩; rw [HL.out]; have hfin := (hb0.trans (hb7.mono hb0.size)).alloc (hb0.trans (hb7.mono hb0.size)).size (Obj.cells #[Value.string ⟨#[45, 51]⟩, Value.string ⟨#[45, 50]⟩, Value.string ⟨#[45, 49]⟩, Value.string ⟨#[48]⟩, Value.string ⟨#[43, 49]⟩, Value.string ⟨#[50]⟩, Value.string ⟨#[51]⟩] 9))
            | (go_at_call 15; refine (fx_print n (w0.alloc (Obj.cells #[Value.string ⟨#[45, 51]⟩, Value.string ⟨#[45, 50]⟩, Value.string ⟨#[45, 49]⟩, Value.string ⟨#[48]⟩, Value.string ⟨#[43, 49]⟩, Value.string ⟨#[50]⟩, Value.string ⟨#[51]⟩] 9)) h1.1 h1.2 hwa).mono ?_; rintro e' w7 ⟨rfl, hb7⟩; rw [HL.out]; have hfin := hba.trans (hb7.mono hza); have hc7 := (hb7.cell hzl).trans hcs; rw [hsz0] at hc7))
          all_goals
            go_wp2_with fail
            go_meet
            refine ⟨congrArg Value.string ?_, hfin⟩
            rw [HX.out, HL.out, show (⟨#[101]⟩ : ByteArray) = bytesOf [101] from rfl]
            simp only [bytesOf_append]; simp
        case rest =>
          obtain ⟨rfl, hb⟩ := hcut
          have hel : (expT e).length ≤ 2 := by unfold expT; (repeat' split) <;> simp
          go_wp2_with fail
          refine (fx_parse _ wc (by simp; omega) (hw.below hb)).mono ?_
          rintro e w4 ⟨rfl, hb4⟩
          rw [P1.out, P2.out]
          replace hb4 := hb.trans (hb4.mono hb.size)
          go_wp2_with fail
          refine (rfx_stop z w4 (by omega) (by omega)).mono ?_
          rintro e w5 ⟨rfl, rfl⟩
          generalize stopZ z = y
          go_wp2_with fail
          refine (fx_awake _ (hw.below hb4)).mono ?_
          rintro e w5 ⟨rfl, hb5⟩
          go_wp2
          go_ret
          exact ⟨rfl, hb4.trans (hb5.mono hb4.size)⟩
  · have key : (n < -1073741824) ∨ (¬ n < -1073741824 ∧ 1073741824 < n) ∨ (¬ n < -1073741824 ∧ ¬ 1073741824 < n ∧ e < -3) ∨ (¬ n < -1073741824 ∧ ¬ 1073741824 < n ∧ ¬ e < -3 ∧ 3 < e) := by omega
    clear hs
    rcases key with k1 | ⟨k1, k2⟩ | ⟨k1, k2, k3⟩ | ⟨k1, k2, k3, k4⟩
    all_goals
      go_enter Tryd.func5, Tryd.ntmps5
      go_wp2_with fail
      refine (fx_awake w hw).mono ?_
      rintro e w4 ⟨rfl, hb4⟩
      go_wp2
      go_ret
      exact ⟨rfl, hb4⟩
end Go.Proofs.YtflehiokbbldgaaDoor
