/- Layer 3: is a character one of a decimal's? The library's ContainsRune at the program's text of ASCII characters, for every character. -/
import Derived.Test.YtifedkilbpkpaaaGreatDoorB06
import Derived.Laws.RangeString
import Derived.WalkMore
import Derived.Deep.RegionWith
import Derived.Lib.ConvBytes
set_option linter.unusedVariables false
set_option linter.unusedSimpArgs false
namespace Go.Proofs.YtifedkilbpkpaaaGreatDoor
open Go.RowKit Rn Tk
def numS : ByteArray := ⟨#[48, 49, 50, 51, 52, 53, 54, 55, 56, 57, 43, 45, 46, 101, 69]⟩
theorem numS_ascii : ∀ c : Fin 128, decide (0 ≤ Lib.indexByte numS.data.toList (c.val : Int).toNat.toUInt8) = numB (c.val : Int) := by decide +kernel
theorem numS_at : ∀ i : Fin 15, (numS[i.val]'(Nat.lt_of_lt_of_le i.isLt (by decide))).toNat < 128 := by decide +kernel
theorem numS_high : ∀ (i : Fin 5) (b : Fin 128), Lib.indexByte (numS.data.toList.drop i.val) (UInt8.ofNat (128 + b.val)) = -1 := by decide +kernel
set_option maxRecDepth 100000 in
set_option maxHeartbeats 2000000 in
theorem str_bad (w : World) :
    Calls Tryz.prog 69 #[.string numS, .int .i32 65533] w fun e w' => e = .returned (.int .i64 (-1)) ∧ w.grownBy w' none := by
  have hsz : numS.size = 15 := rfl
  go_enter Tryz.func69, Tryz.ntmps69
  go_wp2_with fail
  go_loopw [5, 6] (fun x y w' => ∃ (pos : Nat), w' = w.iter numS pos ∧ pos ≤ 15) (fun _ _ w' => 15 - w'.iterPos w.heap.size)
  case atStart => exact ⟨0, rfl, by omega⟩
  case round =>
    obtain ⟨pos, rfl, hp⟩ := hrel
    by_cases hlt : pos < numS.size
    · have ha := numS_at ⟨pos, by omega⟩
      simp only [] at ha
      have hnx : ∀ ty, (Instr.next (.pointer (some ⟨w.heap.size, 0, none⟩)) true ty).run Tryz.prog (w.iter numS pos) = _ := fun ty => run_next_ascii w numS pos ty hlt ha
      have hne : (((numS[pos]'hlt).toNat : Int) == 65533) = false := by simp; omega
      generalize ((numS[pos]'hlt).toNat : Int) = z at *
      go_wp2_with fail
      go_roundw
      case rel => exact ⟨pos + 1, rfl, by omega⟩
      case measure => simp; omega
    · have hnx : ∀ ty, (Instr.next (.pointer (some ⟨w.heap.size, 0, none⟩)) true ty).run Tryz.prog (w.iter numS pos) = _ := fun ty => run_next_end w numS pos ty hlt
      go_wp2_with fail
      go_ret
      exact ⟨rfl, World.grownBy_alloc _ _ _⟩
def numL : List UInt8 := [48, 49, 50, 51, 52, 53, 54, 55, 56, 57, 43, 45, 46, 101, 69]
theorem gdrew' (W : World) : W.grownBy W.drew none := ⟨rfl, rfl, rfl, Nat.le_refl _, fun _ _ _ => rfl⟩
theorem numL_low : ∀ i : Fin 15, (numL[i.val]'(Nat.lt_of_lt_of_le i.isLt (by decide))).toNat < 128 := by decide
theorem valid_is {r : Int} (h : isB r = true) : Lib.validRune r = true ∧ Utf8.valid r = true := by
  unfold isB at h
  have h := of_decide_eq_true h
  constructor
  · unfold Lib.validRune; simp; omega
  · unfold Utf8.valid; simp; omega
set_option maxRecDepth 100000 in
set_option maxHeartbeats 2000000 in
theorem str_high (r : Int) (w : World) (h : 128 ≤ r) (hb : isB r = true) (hne : r ≠ 65533) :
    Calls Tryz.prog 69 #[.string numS, .int .i32 r] w fun e w' => e = .returned (.int .i64 (-1)) ∧ w.grownBy w' none := by
  have hr := isB_range hb
  obtain ⟨hv1, hv2⟩ := valid_is hb
  obtain ⟨f1, f2, f3⟩ := encode_facts r hv2 h
  have t1 : decide (r < 128) = false := by simp; omega
  have t0 : decide ((0 : Int) ≤ r) = true := by simp; omega
  have tb := eq_f hne
  obtain ⟨E, hE⟩ : ∃ E, Utf8.encode r = E := ⟨_, rfl⟩
  obtain ⟨i, hi⟩ : ∃ i, E.size = i + 1 := ⟨E.size - 1, by rw [hE] at f1; omega⟩
  rw [hE] at f1 f2 f3
  have hi3 : 1 ≤ i ∧ i ≤ 3 := by omega
  have hEl : E = bytesOf E.data.toList := (bytesOf_eta E).symm
  have hll : E.data.toList.length = i + 1 := by rw [← bytesOf_size, ← hEl]; exact hi
  obtain ⟨b, hbt⟩ : ∃ b, E.data.toList[i]? = some b := ⟨_, List.getElem?_eq_getElem (by omega)⟩
  have hb128 : 128 ≤ b.toNat := by
    have h3 := f3 (by omega)
    have he : E[E.size - 1]'(by omega) = b := by
      have : E.data.toList[i]? = some (E[E.size - 1]'(by omega)) := by
        rw [List.getElem?_eq_getElem (by omega)]
        congr 1
        show E.data.toList[i]'_ = E.data[E.size - 1]'_
        simp [hi]
      rw [hbt] at this; injection this with this; exact this.symm
    rw [he] at h3; exact h3
  have hb256 := b.toNat_lt
  have hS : numS = bytesOf numL := rfl
  obtain ⟨d, hd⟩ : ∃ d, numL[i]? = some d := ⟨numL[i]'(by show i < 15; omega), List.getElem?_eq_getElem _⟩
  have hd128 : d.toNat < 128 := by
    have := numL_low ⟨i, by omega⟩
    have e : numL[i]'(by show i < 15; omega) = d := by rw [List.getElem?_eq_getElem (by show i < 15; omega)] at hd; injection hd
    simp only [e] at this; exact this
  have x1 := str_at (P := Tryz.prog) (T := 9) Tryz.underlying9 numL .i64 i d hd
  have x2 := str_at (P := Tryz.prog) (T := 9) Tryz.underlying9 E.data.toList .i64 i b hbt
  rw [← hEl] at x2
  have x3 := str_from (P := Tryz.prog) (T := 9) Tryz.underlying9 numL .i64 (i + 1) (by show i + 1 ≤ 15; omega)
  rw [← hS] at x1 x3
  push_cast at x3
  have hix : Lib.indexByte (bytesOf (numL.drop (i + 1))).data.toList (b.toNat : Int).toNat.toUInt8 = -1 := by
    rw [bytesOf_list]
    have := numS_high ⟨i + 1, by omega⟩ ⟨b.toNat - 128, by omega⟩
    have e : UInt8.ofNat (128 + (b.toNat - 128)) = (b.toNat : Int).toNat.toUInt8 := by
      rw [Int.toNat_natCast, show 128 + (b.toNat - 128) = b.toNat by omega]
    rw [← e]; exact this
  have Hix := Lib.hid hix
  have hsz : numS.size = 15 := rfl
  have hEs : (E.size : Int) - 1 = (i : Int) := by omega
  have hlt : (i : Int) < 15 := by omega
  have hwr : IntKind.i64.wrap ((i : Int) + 1) = (i : Int) + 1 := by rw [IntKind.wrap_i64]; omega
  have hneq : ((d.toNat : Int) != (b.toNat : Int)) = true := by simp; omega
  clear hix hbt hd hEl hS f3 hll hi f1 f2
  go_enter Tryz.func69, Tryz.ntmps69
  go_wp2_with fail
  refine (Tryz.utf8_ValidRune r w).mono ?_
  rintro e w1 ⟨rfl, rfl⟩
  rw [hv1]
  go_wp2_with fail
  go_step3
  go_wp2_with fail
  go_loopw [9, 10] (fun x y wr => x = .int .i64 (i : Nat) ∧ y = .int .i64 0 ∧ wr = w1) (fun _ _ _ => 0)
  case atStart => exact ⟨rfl, rfl, rfl⟩
  case round =>
    obtain ⟨rfl, rfl, rfl⟩ := hrel
    go_wp2_with fail
    go_step3
    go_wp2_with fail
    go_quiet (fail)
    go_wp2_with fail
    go_region_with (go_at_call 86; refine (Tryz.strings_IndexByte _ _ _).mono ?_; rintro e w2 ⟨rfl, rfl⟩; rw [Hix.out])
    all_goals
      go_wp2_with fail
      rw [Exit.noGoto_ret]
      simp only [Exit.inBlock]
      (show Exit.noGoto _ Exit.ret _ _)
      rw [Exit.noGoto_ret]
      simp only [Exit.inBlock, Exit.then]
      rw [Exit.noGoto_ret]
      go_ret
      exact ⟨rfl, (grown_drewN _ _).trans (gdrew' _)⟩
theorem numB_high {r : Int} (h : 128 ≤ r) : numB r = false := by unfold numB; simp; omega
set_option maxRecDepth 100000 in
theorem str_contains (r : Int) (w : World) (hb : isB r = true) :
    Calls Tryz.prog 50 #[.string numS, .int .i32 r] w fun e w' => e = .returned (.bool (numB r)) ∧ w.grownBy w' none := by
  have hr := isB_range hb
  by_cases h : r < 128
  · refine (Tryz.strings_ContainsRune_ascii numS r w hr.1 h).mono ?_
    rintro e w1 ⟨rfl, rfl⟩
    have := numS_ascii ⟨r.toNat, by omega⟩
    have e : ((r.toNat : Nat) : Int) = r := by omega
    simp only [e] at this
    exact ⟨by rw [this], World.grownBy.refl _ _⟩
  · rw [numB_high (by omega)]
    have hcall : Calls Tryz.prog 69 #[.string numS, .int .i32 r] w fun e w' => e = .returned (.int .i64 (-1)) ∧ w.grownBy w' none := by
      by_cases hne : r = 65533
      · subst hne; exact str_bad w
      · exact str_high r w (by omega) hb hne
    go_enter Tryz.func50, Tryz.ntmps50
    go_wp2_with fail
    refine hcall.mono ?_
    rintro e w1 ⟨rfl, g⟩
    go_wp2
    go_ret
    exact ⟨rfl, g⟩
end Go.Proofs.YtifedkilbpkpaaaGreatDoor
