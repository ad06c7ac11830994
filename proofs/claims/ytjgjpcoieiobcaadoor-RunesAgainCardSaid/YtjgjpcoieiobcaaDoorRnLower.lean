/- runes.Lower and runes.Hex are walked. -/
import Derived.Test.YtjgjpcoieiobcaaDoorRnWrite
set_option linter.unusedVariables false
set_option linter.unusedSimpArgs false
namespace Go.Proofs.YtjgjpcoieiobcaaDoor
open Go.RowKit Rn
namespace Rn
def low8 (b : UInt8) : UInt8 := if 65 ≤ b.toNat ∧ b.toNat ≤ 90 then b + 32 else b
def lowerP (bs : List UInt8) : List UInt8 := bs.map low8
end Rn
/-- []byte(s): a new block. -/
theorem conv_bytes {P : Program} {src dst e : TypeId} (hs : P.underlying src = some .string) (hd : P.underlying dst = some (.slice e)) (he : P.underlying e = some (.int .u8)) (w : World) (s : ByteArray) :
    ∃ c W1, (convert src dst (.string s)).run P w = .ok (.slice (some ⟨w.heap.size, 0, none⟩) s.size c) W1 ∧ s.size ≤ c ∧ Below w.heap.size w W1 ∧ RowAt W1 w.heap.size (s.data.toList.map b8) := by
  refine ⟨_, _, run_bytes_of_string w src dst e s hs hd he, grownCap_ge _ _ _ _, ((Below.refl _ _).drew).alloc (Nat.le_refl _) _, by simp, fun j u hu => ?_⟩
  have hj : j < s.data.toList.length := by
    have := (List.getElem?_eq_some_iff.1 hu).1
    simpa using this
  have hu' : u = b8 s.data.toList[j] := by
    rw [List.getElem?_map, List.getElem?_eq_getElem hj] at hu
    simpa using hu.symm
  subst hu'
  have hj2 : j < s.data.size := by simpa using hj
  have hj3 : j < s.size := hj2
  refine ⟨?_, ?_⟩
  · simp only [World.cell?, World.drew, World.alloc]
    simp [bytesRow, Array.getElem?_append, b8]
    rw [if_pos hj3, Array.getElem?_eq_getElem hj2]
    rfl
  · simp only [World.frozen?, World.drew, World.alloc]
    simp [bytesRow]
    omega

def LowRel (s : List UInt8) (g B : Nat) (w : World) (i : Value) (wr : World) : Prop := ∃ k : Nat, k ≤ s.length ∧ i = .int .i64 k ∧ RowAt wr g ((lowerP (s.take k) ++ s.drop k).map b8) ∧ Below B w wr
set_option maxRecDepth 100000 in
set_option maxHeartbeats 1000000 in
theorem rn_lower (s : ByteArray) (w : World) (hs : s.size ≤ 1000000) :
    Calls Tryd.prog 18 #[.string s] w fun e w' => e = .returned (.string (bytesOf (lowerP s.data.toList))) ∧ Below w.heap.size w w' := by
  obtain ⟨c, W1, hconv, hc, hb1, hrow⟩ := conv_bytes (P := Tryd.prog) Tryd.underlying9 Tryd.underlying22 Tryd.underlying5 w s
  have hlen : s.data.toList.length = s.size := Array.length_toList
  have Hlen := Lib.hid hlen
  have Hrow := Lib.hid hrow
  clear hlen hrow
  go_enter Tryd.func18, Tryd.ntmps18
  go_wp2
  clear hconv
  go_loopw [10] (fun i wr => LowRel s.data.toList w.heap.size w.heap.size w i wr) (fun i _ => s.size - (intOf i).toNat)
  case atStart => exact ⟨0, by omega, rfl, by simpa [lowerP] using Hrow.out, hb1⟩
  case round =>
    obtain ⟨k, hk, rfl, hrow, hb⟩ := hrel
    rw [Hlen.out] at hk
    by_cases hlt : k < s.size
    · obtain ⟨x, hx⟩ : ∃ x, s.data.toList[k]? = some x := ⟨_, List.getElem?_eq_getElem (by rw [Hlen.out]; exact hlt)⟩
      have hkl : (lowerP (s.data.toList.take k)).length = k := by rw [lowerP, List.length_map, List.length_take, Hlen.out]; omega
      have hat : ((lowerP (s.data.toList.take k) ++ s.data.toList.drop k).map b8)[k]? = some (b8 x) := by
        rw [List.getElem?_map, List.getElem?_append_right (by omega), hkl, Nat.sub_self, List.getElem?_drop, Nat.add_zero, hx]; rfl
      obtain ⟨hcell, hfr⟩ := hrow.2 k _ hat
      have hnew : ∀ y, y = low8 x → RowAt (wr.setCell ⟨w.heap.size, k, none⟩ (b8 y)) w.heap.size ((lowerP (s.data.toList.take (k + 1)) ++ s.data.toList.drop (k + 1)).map b8) := by
        intro y hy
        have h1 := hrow.store k (b8 y)
        rw [← List.map_set, List.set_append_right _ _ (by omega), hkl, Nat.sub_self] at h1
        have hd : s.data.toList.drop k = x :: s.data.toList.drop (k + 1) := by
          rw [List.drop_eq_getElem_cons (by rw [Hlen.out]; exact hlt)]
          rw [List.getElem?_eq_getElem (by rw [Hlen.out]; exact hlt)] at hx
          injection hx with hx; rw [hx]
        rw [hd, List.set_cons_zero] at h1
        rw [take_snoc _ k x hx, lowerP, List.map_append, hy] at *
        simpa [lowerP] using h1
      have hsame : low8 x = x → RowAt wr w.heap.size ((lowerP (s.data.toList.take (k + 1)) ++ s.data.toList.drop (k + 1)).map b8) := by
        intro hy
        have hd : s.data.toList.drop k = x :: s.data.toList.drop (k + 1) := by
          rw [List.drop_eq_getElem_cons (by rw [Hlen.out]; exact hlt)]
          rw [List.getElem?_eq_getElem (by rw [Hlen.out]; exact hlt)] at hx
          injection hx with hx; rw [hx]
        rw [hd] at hrow
        rw [take_snoc _ k x hx, lowerP, List.map_append]
        simpa [lowerP, hy] using hrow
      unfold b8 at hcell
      have hx256 : x.toNat < 256 := x.toNat_lt
      have Hnew := Lib.hid hnew
      have Hsame := Lib.hid hsame
      clear hnew hsame hat hkl hrow hx
      by_cases hup : 65 ≤ x.toNat ∧ x.toNat ≤ 90
      · obtain ⟨u1, u2⟩ := hup
        have hy : (b8 (x + 32)) = .int .u8 ((x.toNat : Int) + 32) := by
          unfold b8; congr 1
          have : (x + 32).toNat = x.toNat + 32 := by rw [UInt8.toNat_add]; simp; omega
          rw [this]; rfl
        have hfin := Hnew.out (x + 32) (by simp [low8, u1, u2])
        rw [hy] at hfin
        have Hfin := Lib.hid hfin
        clear hy hfin Hnew Hsame
        have hbn : Below w.heap.size w (wr.setCell ⟨w.heap.size, k, none⟩ (.int .u8 ((x.toNat : Int) + 32))) := hb.setCell (Nat.le_refl _) _
        go_wp2
        go_roundw
        case rel => exact ⟨k + 1, by rw [Hlen.out]; omega, by go_num, Hfin.out, hbn⟩
        case measure => simp [intOf]; omega
      · have hfin := Hsame.out (by simp [low8]; omega)
        have Hfin := Lib.hid hfin
        clear hfin Hnew Hsame
        by_cases u1 : 65 ≤ x.toNat
        all_goals
          go_wp2
          go_roundw
          case rel => exact ⟨k + 1, by rw [Hlen.out]; omega, by go_num, Hfin.out, hb⟩
          case measure => simp [intOf]; omega
    · obtain rfl : k = s.size := by omega
      have hfull : RowAt wr w.heap.size ((lowerP s.data.toList).map b8) := by
        rw [List.take_of_length_le (by rw [Hlen.out]; omega), List.drop_of_length_le (by rw [Hlen.out]; omega), List.append_nil] at hrow
        exact hrow
      have hrd := hfull.reads (B := w.heap.size + 1) (by omega)
      rw [List.length_map, show (lowerP s.data.toList).length = s.size from by rw [lowerP, List.length_map]; exact Hlen.out] at hrd
      have hback := run_str (P := Tryd.prog) (src := 22) (dst := 9) Tryd.underlying22 Tryd.underlying5 Tryd.underlying9 c hrd
      clear hrow hfull hrd
      go_wp2
      go_ret
      exact ⟨rfl, hb⟩
end Go.Proofs.YtjgjpcoieiobcaaDoor
