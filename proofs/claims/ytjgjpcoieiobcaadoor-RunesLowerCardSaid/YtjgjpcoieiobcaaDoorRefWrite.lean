/- The reference's Bytes and Write of layer 2 are walked; Write answers what runes.Write answers. -/
import Derived.Test.YtjgjpcoieiobcaaDoorRnWrite
set_option linter.unusedVariables false
set_option linter.unusedSimpArgs false
namespace Go.Proofs.YtjgjpcoieiobcaaDoor
open Go.RowKit Rn
theorem byte_info : (Tryd.prog.info? 5).map (fun i => (i.zero, i.size, i.bytes)) = some (some (.int .u8 0), 1, 1) := by kernel_rfl

theorem enc_cells (c : Int) : ((Lib.encodeRune c).map b8).toArray = ((Lib.encodeRuneZ c).map (fun x => Value.int .u8 x)).toArray := by
  rw [← runeCells_b8]; rfl
set_option maxRecDepth 100000 in
set_option maxHeartbeats 1000000 in
theorem ref_bytes (c : Int) (w : World) (hc : isB c = true) :
    Calls Tryd.prog 31 #[.int .i64 c] w fun e w' => e = .returned (.slice (some ⟨w.heap.size, 0, none⟩) (Lib.encodeRune c).length (Lib.encodeRune c).length) ∧ w' = w.alloc (.cells ((Lib.encodeRune c).map b8).toArray 5) := by
  have hc' : 0 ≤ c ∧ c ≤ 1114111 ∧ (c < 55296 ∨ 57343 < c) := by simpa [isB] using hc
  clear hc
  obtain ⟨h0, h1, h2⟩ := hc'
  have hl : (Lib.encodeRune c).length = (Lib.encodeRuneZ c).length := by simp [Lib.encodeRune]
  rw [hl]
  by_cases c1 : c < 128
  · have hz := Lib.hid (Lib.encodeRuneZ_one h0 (by omega : c ≤ 127))
    go_enter Tryd.func31, Tryd.ntmps31
    go_wp2
    go_ret
    rw [enc_cells, hz.out]
    exact ⟨rfl, rfl⟩
  · by_cases c2 : c < 2048
    · have hz := Lib.hid (Lib.encodeRuneZ_two (by omega : 128 ≤ c) (by omega))
      go_enter Tryd.func31, Tryd.ntmps31
      go_wp2
      go_ret
      rw [enc_cells, hz.out]
      exact ⟨rfl, rfl⟩
    · by_cases c3 : c < 65536
      · have hz := Lib.hid (Lib.encodeRuneZ_three (r := c) (by omega))
        go_enter Tryd.func31, Tryd.ntmps31
        go_wp2
        go_ret
        rw [enc_cells, hz.out]
        exact ⟨rfl, rfl⟩
      · have hz := Lib.hid (Lib.encodeRuneZ_four (by omega : 65536 ≤ c) h1)
        go_enter Tryd.func31, Tryd.ntmps31
        go_wp2
        go_ret
        rw [enc_cells, hz.out]
        exact ⟨rfl, rfl⟩

theorem enc_row (w : World) (c : Int) : ∀ j u, ((Lib.encodeRune c).map b8)[j]? = some u → (w.alloc (.cells ((Lib.encodeRune c).map b8).toArray 5)).cell? ((⟨w.heap.size, 0, none⟩ : Addr).add j) = some u := by
  refine World.news_of_block (t := 5) (fr := (0, 0)) (cs := ((Lib.encodeRune c).map b8).toArray) ?_ 
  exact heap_alloc_new w _

set_option maxRecDepth 100000 in
set_option maxHeartbeats 1000000 in
theorem ref_write (l : List Int) (A : Option Addr) (n cap : Nat) (w : World) (hr : Reads w w.heap.size 1 A n (l.map n64)) (hl : ∀ c ∈ l, -2147483648 ≤ c ∧ c ≤ 2147483647) (hn : n ≤ 1000000) :
    Calls Tryd.prog 16 #[.slice A n cap] w fun e w' => ∃ v, e = .returned v ∧ w'.ownsRow w.heap.size 5 1 v (writeP l).length ((writeP l).map b8) ∧ Below w.heap.size w w' := by
  have hlen : l.length = n := by simpa using hr.len
  obtain ⟨i0, hi, hz0, hz1, hz2⟩ := info_parts byte_info
  have Hlen := Lib.hid hlen
  have Hl := Lib.hid hl
  clear hlen hl
  go_enter Tryd.func16, Tryd.ntmps16
  go_wp2
  go_loopw [3, 4] (fun o i wr => ∃ k : Nat, k ≤ n ∧ i = .int .i64 k ∧ wr.ownsRow w.heap.size 5 1 o (writeP (l.take k)).length ((writeP (l.take k)).map b8) ∧ Below w.heap.size w wr) (fun _ i _ => n - (intOf i).toNat)
  case atStart => exact ⟨0, by omega, rfl, World.ownsRow_nil _ _ _ _, Below.refl _ _⟩
  case round =>
    obtain ⟨k, hk, rfl, hown, hb⟩ := hrel
    have hs2 := hb.size
    by_cases hlt : k < n
    · obtain ⟨b, off, u, hA, hbw, hx, hcell0⟩ := hr.at_ hlt
      subst hA
      obtain ⟨c, hc⟩ : ∃ c, l[k]? = some c := ⟨_, List.getElem?_eq_getElem (by rw [Hlen.out]; omega)⟩
      rw [List.getElem?_map, hc] at hx
      obtain rfl : u = n64 c := by simpa using hx.symm
      unfold n64 at hcell0
      have hcell : wr.cell? ⟨b, off + k, none⟩ = some (.int .i64 c) := (hb.cell (p := ⟨b, off + k, none⟩) hbw).trans hcell0
      have hcr := Hl.out c (List.mem_of_getElem? hc)
      have hwl := writeP_len (l.take k)
      rw [List.length_take] at hwl
      have hst : writeP (l.take (k + 1)) = writeP (l.take k) ++ Lib.encodeRune c := by rw [take_snoc l k c hc, writeP_snoc]
      have hel := encode_len c
      have hel2 := encode_len 65533
      have Hst := Lib.hid hst
      have Hc := Lib.hid hc
      clear hst hc hx hcell0
      by_cases his : isB c = true
      · have Hrow := Lib.hid (enc_row wr c)
        have Hby := Lib.hid (ref_bytes c wr his)
        go_wp2_with (first | (go_at_call 17; refine (ref_is _ _ (by omega) (by omega)).mono ?_; rintro e w' ⟨rfl, rfl⟩; rw [his]) | (go_at_call 31; refine (Hby.out).mono ?_; rintro e w2 ⟨rfl, rfl⟩) | (at_builtin; refine wpList_append_own _ rfl _ _ 22 rfl w.heap.size 5 i0 (.int .u8 0) 1 1 Tryd.underlying22 hi hz0 hz1 hz2 rfl (by decide) _ _ _ rfl (hown.alloc _) ⟨wr.heap.size, 0, none⟩ _ _ ((Lib.encodeRune c).map b8) rfl (by simp) ?c1 ?c2 ?c3 ?c4 ?c5 ?_))
        case c1 => exact Hrow.out
        case c2 => intro u hu; simp at hu; obtain ⟨x, _, rfl⟩ := hu; rfl
        case c3 => unfold maxLen; omega
        case c4 => omega
        case c5 => simp; omega
        intro v' w2 hown' hgrow _
        have hbn := push_below hb hs2 hown hgrow
        rw [← List.map_append, ← List.length_append, ← Hst.out] at hown'
        clear hgrow hown hb
        go_wp2
        go_roundw
        case rel => exact ⟨k + 1, by omega, by go_num, hown', hbn⟩
        case measure => simp [intOf]; omega
      · have his' : isB c = false := by simpa using his
        have Hbad := Lib.hid (encode_bad c his')
        have Hrow := Lib.hid (enc_row wr 65533)
        have Hby := Lib.hid (ref_bytes 65533 wr (by decide))
        go_wp2_with (first | (go_at_call 17; refine (ref_is _ _ (by omega) (by omega)).mono ?_; rintro e w' ⟨rfl, rfl⟩; rw [his']) | (go_at_call 31; refine (Hby.out).mono ?_; rintro e w2 ⟨rfl, rfl⟩) | (at_builtin; refine wpList_append_own _ rfl _ _ 22 rfl w.heap.size 5 i0 (.int .u8 0) 1 1 Tryd.underlying22 hi hz0 hz1 hz2 rfl (by decide) _ _ _ rfl (hown.alloc _) ⟨wr.heap.size, 0, none⟩ _ _ ((Lib.encodeRune 65533).map b8) rfl (by simp) ?d1 ?d2 ?d3 ?d4 ?d5 ?_))
        case d1 => exact Hrow.out
        case d2 => intro u hu; simp at hu; obtain ⟨x, _, rfl⟩ := hu; rfl
        case d3 => unfold maxLen; omega
        case d4 => omega
        case d5 => simp; omega
        intro v' w2 hown' hgrow _
        have hbn := push_below hb hs2 hown hgrow
        rw [← List.map_append, ← List.length_append, ← Hbad.out, ← Hst.out] at hown'
        clear hgrow hown hb
        go_wp2
        go_roundw
        case rel => exact ⟨k + 1, by omega, by go_num, hown', hbn⟩
        case measure => simp [intOf]; omega
    · obtain rfl : k = n := by omega
      go_wp2
      go_ret
      rw [List.take_of_length_le (by rw [Hlen.out]; omega)] at hown
      exact ⟨_, rfl, hown, hb⟩
end Go.Proofs.YtjgjpcoieiobcaaDoor
