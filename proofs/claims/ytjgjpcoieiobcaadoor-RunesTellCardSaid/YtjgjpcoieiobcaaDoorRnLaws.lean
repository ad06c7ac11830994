/- The laws' own helpers of layer 2 are walked: ints, same, awake. -/
import Derived.Test.YtjgjpcoieiobcaaDoorRnHex
import Derived.Test.YtjgjpcoieiobcaaDoorRefRead
import Derived.Lib.SlBytesConst
set_option linter.unusedVariables false
set_option linter.unusedSimpArgs false
namespace Go.Proofs.YtjgjpcoieiobcaaDoor
open Go.RowKit Rn
theorem below_drewN {B : Nat} {a w : World} (h : Below B a w) (n : Nat) : Below B a (w.drewN n) := ⟨h.os, h.tape, h.output, h.size, h.block⟩

set_option maxRecDepth 100000 in
set_option maxHeartbeats 1000000 in
theorem law_ints (l : List Int) (A : Option Addr) (n cap : Nat) (w : World) (hr : Reads w w.heap.size 1 A n (l.map r32)) (hl : ∀ c ∈ l, -2147483648 ≤ c ∧ c ≤ 2147483647) (hn : n ≤ 1000000) :
    Calls Tryd.prog 12 #[.slice A n cap] w fun e w' => ∃ v, e = .returned v ∧ w'.ownsRow w.heap.size 3 1 v l.length (l.map n64) ∧ Below w.heap.size w w' := by
  have hlen : l.length = n := by simpa using hr.len
  obtain ⟨i0, hi, hz0, hz1, hz2⟩ := info_parts int_info
  have Hlen := Lib.hid hlen
  have Hl := Lib.hid hl
  clear hlen hl
  go_enter Tryd.func12, Tryd.ntmps12
  go_wp2
  go_loopw [3, 8] (fun o i wr => ∃ k : Nat, k ≤ n ∧ i = .int .i64 k ∧ wr.ownsRow w.heap.size 3 1 o k ((l.take k).map n64) ∧ Below w.heap.size w wr) (fun _ i _ => n - (intOf i).toNat)
  case atStart => exact ⟨0, by omega, rfl, World.ownsRow_nil _ _ _ _, Below.refl _ _⟩
  case round =>
    obtain ⟨k, hk, rfl, hown, hb⟩ := hrel
    have hs2 := hb.size
    by_cases hlt : k < n
    · obtain ⟨b, off, u, hA, hbw, hx, hcell0⟩ := hr.at_ hlt
      subst hA
      obtain ⟨c, hc⟩ : ∃ c, l[k]? = some c := ⟨_, List.getElem?_eq_getElem (by rw [Hlen.out]; omega)⟩
      rw [List.getElem?_map, hc] at hx
      obtain rfl : u = r32 c := by simpa using hx.symm
      unfold r32 at hcell0
      have hcell : wr.cell? ⟨b, off + k, none⟩ = some (.int .i32 c) := (hb.cell (p := ⟨b, off + k, none⟩) hbw).trans hcell0
      have hcr := Hl.out c (List.mem_of_getElem? hc)
      have Hst := Lib.hid (take_snoc l k c hc)
      clear hc hx hcell0
      go_wp2_with (at_builtin; refine wpList_append_own _ rfl _ _ 25 rfl w.heap.size 3 i0 (.int .i64 0) 1 8 Tryd.underlying25 hi hz0 hz1 hz2 rfl (by decide) _ _ _ rfl (hown.alloc _) ⟨wr.heap.size, 0, none⟩ 1 1 [.int .i64 c] rfl rfl ?c1 ?c2 ?c3 ?c4 ?c5 ?_)
      case c1 => exact cell_one_new _ _ _
      case c2 => intro u hu; simp at hu; subst hu; rfl
      case c3 => unfold maxLen; omega
      case c4 => omega
      case c5 => simp; omega
      intro v' w2 hown' hgrow _
      have hbn := push_below hb hs2 hown hgrow
      have hown2 : w2.ownsRow w.heap.size 3 1 v' (k + 1) ((l.take (k + 1)).map n64) := by rw [Hst.out, List.map_append, List.map_take]; exact hown'
      clear hgrow hown hb hown'
      go_wp2
      go_roundw
      case rel => exact ⟨k + 1, by omega, by go_num, hown2, hbn⟩
      case measure => simp [intOf]; omega
    · obtain rfl : k = n := by omega
      go_wp2
      go_ret
      rw [List.take_of_length_le (by rw [Hlen.out]; omega)] at hown
      rw [Hlen.out]
      exact ⟨_, rfl, hown, hb⟩

set_option maxRecDepth 100000 in
set_option maxHeartbeats 1000000 in
theorem law_same (xs ys : List Int) (A A' : Option Addr) (n m c c' : Nat) (w : World) (hx : Reads w w.heap.size 1 A n (xs.map n64)) (hy : Reads w w.heap.size 1 A' m (ys.map n64)) (hn : n ≤ 1000000) :
    Calls Tryd.prog 11 #[.slice A n c, .slice A' m c'] w fun e w' => e = .returned (.bool (decide (xs = ys))) ∧ Below w.heap.size w w' := by
  have hlx : xs.length = n := by simpa using hx.len
  have hly : ys.length = m := by simpa using hy.len
  have Hlx := Lib.hid hlx
  have Hly := Lib.hid hly
  clear hlx hly
  by_cases hnm : n = m
  · have hb0 : ((n : Int) != (m : Int)) = false := by simp [hnm]
    have Hnm := Lib.hid hnm
    clear hnm
    go_enter Tryd.func11, Tryd.ntmps11
    go_wp2
    go_loopw [13] (fun i wr => ∃ k : Nat, k ≤ n ∧ i = .int .i64 k ∧ Hid (xs.take k = ys.take k) ∧ Below w.heap.size w wr) (fun i _ => n - (intOf i).toNat)
    case atStart => exact ⟨0, by omega, rfl, rfl, Below.refl _ _⟩
    case round =>
      obtain ⟨k, hk, rfl, heq, hb⟩ := hrel
      by_cases hlt : k < n
      · obtain ⟨b, off, u, hA, hbl, hx1, hcell⟩ := hx.at_ hlt
        obtain ⟨b', off', u', hA', hbl', hy1, hcell'⟩ := hy.at_ (k := k) (by have := Hnm.out; omega)
        subst hA hA'
        have hkm : k < m := by have := Hnm.out; omega
        have hki : (k : Int) < (n : Int) := by omega
        have hki' : (k : Int) < (m : Int) := by omega
        have hk0 : (0 : Int) ≤ (k : Int) := by omega
        obtain ⟨x, hxk⟩ : ∃ x, xs[k]? = some x := ⟨_, List.getElem?_eq_getElem (by rw [Hlx.out]; omega)⟩
        obtain ⟨y, hyk⟩ : ∃ y, ys[k]? = some y := ⟨_, List.getElem?_eq_getElem (by rw [Hly.out]; omega)⟩
        rw [List.getElem?_map, hxk] at hx1
        rw [List.getElem?_map, hyk] at hy1
        obtain rfl : u = n64 x := by simpa using hx1.symm
        obtain rfl : u' = n64 y := by simpa using hy1.symm
        unfold n64 at hcell hcell'
        have hc1 : wr.cell? ⟨b, off + k, none⟩ = some (.int .i64 x) := (hb.cell (p := ⟨b, off + k, none⟩) hbl).trans hcell
        have hc2 : wr.cell? ⟨b', off' + k, none⟩ = some (.int .i64 y) := (hb.cell (p := ⟨b', off' + k, none⟩) hbl').trans hcell'
        have Hxk := Lib.hid hxk
        have Hyk := Lib.hid hyk
        clear hxk hyk hx1 hy1 hcell hcell'
        by_cases hxy : x = y
        · have hb1 : (x != y) = false := by simp [hxy]
          have Hxy := Lib.hid hxy
          clear hxy
          go_wp2
          go_quiet (fail)
          go_wp2
          go_roundw
          case rel => exact ⟨k + 1, by omega, by go_num, by show _ = _; rw [take_snoc _ _ _ Hxk.out, take_snoc _ _ _ Hyk.out, heq.out, Hxy.out], below_drewN hb _⟩
          case measure => simp [intOf]; omega
        · have hb1 : (x != y) = true := by simp [hxy]
          have Hxy := Lib.hid hxy
          clear hxy
          go_wp2
          go_quiet (fail)
          go_wp2
          go_ret
          refine ⟨ret_bool ?_, below_drewN hb _⟩
          have : ¬ xs = ys := by
            intro e
            have h1 := Hxk.out
            rw [e, Hyk.out] at h1
            injection h1 with h1
            exact Hxy.out h1.symm
          simp [this]
      · obtain rfl : k = n := by omega
        go_wp2
        go_ret
        refine ⟨ret_bool ?_, hb⟩
        have h1 := heq.out
        rw [List.take_of_length_le (by rw [Hlx.out]; omega), List.take_of_length_le (by rw [Hly.out, Hnm.out]; omega)] at h1
        simp [h1]
  · have hb0 : ((n : Int) != (m : Int)) = true := by simp; omega
    have Hnm := Lib.hid hnm
    clear hnm
    go_enter Tryd.func11, Tryd.ntmps11
    go_wp2
    go_ret
    refine ⟨ret_bool ?_, Below.refl _ _⟩
    have : ¬ xs = ys := by intro e; apply Hnm.out; rw [← Hlx.out, ← Hly.out, e]
    simp [this]

theorem RowAt.mark (w : World) (e : TypeId) (cs : Array Value) (k : Nat) (hk : cs.size ≤ k) : RowAt (w.alloc (.cells cs e (k, k + 1))) w.heap.size cs.toList := by
  refine ⟨by simp, fun j u hu => ?_⟩
  have hj : j < cs.size := by
    have := (List.getElem?_eq_some_iff.1 hu).1
    simpa using this
  have h := heap_alloc_new w (.cells cs e (k, k + 1))
  constructor
  · unfold World.cell?
    rw [h]
    simpa using hu
  · unfold World.frozen?
    rw [h]
    simp
    omega
theorem own_open {w : World} {base : Nat} {e : TypeId} {v : Value} {n : Nat} {xs : List Value} (h : w.ownsRow base e 1 v n xs) (hn : 0 < n) :
    ∃ g c, v = .slice (some ⟨g, 0, none⟩) n c ∧ base ≤ g ∧ g < w.heap.size ∧ n ≤ c ∧ c ≤ maxLen ∧ ∀ j u, xs[j]? = some u → w.cell? ⟨g, j, none⟩ = some u := by
  have hrd : ∀ A c, v = .slice A n c → Reads w w.heap.size 1 A n xs := fun A c e => Reads.of_own (c := c) (by rw [← e]; exact h)
  obtain ⟨h0, ⟨rfl, rfl⟩ | ⟨g, cap, cur, rfl, h1, h2, h3, h4, _⟩⟩ := id h
  · omega
  · obtain ⟨b, off, e, hb, hc⟩ := (hrd _ _ rfl).open_ hn
    injection e with e
    injection e with e1 e2
    subst e1 e2
    exact ⟨_, _, rfl, h1, hb, h3, h4, fun j u hu => by have := hc j u hu; rwa [Nat.zero_add] at this⟩
theorem awake_read : readP [240, 159, 152, 65, 13, 10] = [65533, 65, 10] := by decide +kernel
theorem awake_hex : hexI 102 = 15 := by decide
theorem awake_begins : beginsB 95 = true := by decide
set_option maxRecDepth 100000 in
set_option maxHeartbeats 1000000 in
theorem law_awake (w : World) (hT : Tabs w) :
    Calls Tryd.prog 10 #[] w fun e w' => e = .returned (.bool true) ∧ Below w.heap.size w w' := by
  have kc := fun (w : World) (C : Array Value) (n c : Nat) => Lib.run_convert_bytes_const (P := Tryd.prog) w 22 5 C n c Tryd.underlying22 Tryd.underlying5
  go_enter Tryd.func10, Tryd.ntmps10
  go_wp2_with fail
  have hrow := RowAt.mark w 5 #[.int .u8 240, .int .u8 159, .int .u8 152, .int .u8 65, .int .u8 13, .int .u8 10] 6 (by decide)
  have hsz : (w.alloc (.cells #[.int .u8 240, .int .u8 159, .int .u8 152, .int .u8 65, .int .u8 13, .int .u8 10] 5 (6, 7))).heap.size = w.heap.size + 1 := by simp
  have hb0 : Below w.heap.size w (w.alloc (.cells #[.int .u8 240, .int .u8 159, .int .u8 152, .int .u8 65, .int .u8 13, .int .u8 10] 5 (6, 7))) := (Below.refl _ _).alloc (Nat.le_refl _) _
  have hrd := hrow.reads (B := w.heap.size + 1) (by omega)
  refine (rn_read [240, 159, 152, 65, 13, 10] _ 6 6 _ (by rw [hsz]; exact hrd) (Nat.le_refl _) (by unfold maxLen; omega) (by omega) (hT.below hb0)).mono ?_
  rintro e w1 ⟨v, rfl, hown, hb1⟩
  rw [awake_read] at hown
  obtain ⟨g, c, rfl, hg1, hg2, _, _, hc⟩ := own_open hown (by decide)
  have c0 : w1.cell? ⟨g, 0, none⟩ = some (.int .i32 65533) := hc 0 _ rfl
  have c1 : w1.cell? ⟨g, 1, none⟩ = some (.int .i32 65) := hc 1 _ rfl
  have c2 : w1.cell? ⟨g, 2, none⟩ = some (.int .i32 10) := hc 2 _ rfl
  have hb2 : Below w.heap.size w w1 := hb0.trans (hb1.mono (by rw [hsz]; omega))
  clear hc hown hb1 hrd hrow hb0 hT
  rw [show [(65533 : Int), 65, 10].length = 3 from rfl]
  go_wp2_with fail
  refine (rn_hex 102 w1 (by omega)).mono ?_
  rintro e w2 ⟨rfl, hb3⟩
  rw [awake_hex]
  have hb4 := hb2.trans (hb3.mono hb2.size)
  go_wp2_with fail
  refine (rn_begins 95 w2).mono ?_
  rintro e w3 ⟨rfl, rfl⟩
  rw [awake_begins]
  go_wp2
  go_ret
  exact ⟨rfl, hb4⟩
end Go.Proofs.YtjgjpcoieiobcaaDoor
