/- runes.bounds and runes.next are walked: the first character of a slice of bytes and how many bytes it has, for every slice of bytes that is not empty. The library's DecodeRune is taken by its contract; its two tables are asked of the world. -/
import Derived.Test.YtjgjpcoieiobcaaDoorRnPure
import Derived.Shelf.Spec.DecodeRune
set_option linter.unusedVariables false
namespace Go.Proofs.YtjgjpcoieiobcaaDoor
open Go.RowKit
namespace Rn
/-- of a first byte: how many bytes; the second one's bounds -/
def bN (c : Nat) : Nat := if c < 128 then 1 else if c < 194 ∨ 244 < c then 0 else if c < 224 then 2 else if c < 240 then 3 else 4
def bLo (c : Nat) : Nat := if c < 194 ∨ 244 < c then 0 else if c = 224 then 160 else if c = 240 then 144 else 128
def bHi (c : Nat) : Nat := if c < 194 ∨ 244 < c then 0 else if c = 237 then 159 else if c = 244 then 143 else 191
/-- may a byte stand at place k? -/
def okAt (bs : List UInt8) (lo hi k : Nat) : Bool := match bs[k]? with
  | none => false
  | some b => if k = 1 then decide (lo ≤ b.toNat ∧ b.toNat ≤ hi) else decide (128 ≤ b.toNat ∧ b.toNat ≤ 191)
/-- the first place from k on, of so many, at which none may -/
def scan (bs : List UInt8) (lo hi : Nat) : Nat → Nat → Nat
  | 0, k => k
  | f + 1, k => if okAt bs lo hi k then scan bs lo hi f (k + 1) else k
/-- the character of so many bytes -/
def val (bs : List UInt8) (n : Nat) : Nat :=
  let b := fun k => (bs[k]?.getD 0).toNat
  if n = 1 then b 0 else if n = 2 then b 0 % 32 * 64 + b 1 % 64 else if n = 3 then b 0 % 16 * 4096 + b 1 % 64 * 64 + b 2 % 64
  else b 0 % 8 * 262144 + b 1 % 64 * 4096 + b 2 % 64 * 64 + b 3 % 64
/-- where the scan of a first byte's character ends -/
def loAt (c j : Nat) : Nat := if j = 1 then bLo c else 128
def hiAt (c j : Nat) : Nat := if j = 1 then bHi c else 191
def stopP (bs : List UInt8) : Nat := let c := (bs[0]?.getD 0).toNat; scan bs (bLo c) (bHi c) (bN c - 1) 1
/-- the first character, and how many bytes it has -/
def nextC (bs : List UInt8) : Int := let n := bN (bs[0]?.getD 0).toNat
  if n = 0 then 65533 else if stopP bs < n then 65533 else val bs n
def nextN (bs : List UInt8) : Nat := let n := bN (bs[0]?.getD 0).toNat
  if n = 0 then 1 else if stopP bs < n then stopP bs else n
end Rn
open Rn
theorem scan_stuck {bs : List UInt8} {lo hi k : Nat} (f : Nat) (h : okAt bs lo hi k = false) : scan bs lo hi f k = k := by
  cases f with
  | zero => rfl
  | succ f => simp [scan, h]
theorem scan_step {bs : List UInt8} {lo hi k : Nat} (f : Nat) (h : okAt bs lo hi k = true) : scan bs lo hi (f + 1) k = scan bs lo hi f (k + 1) := by simp [scan, h]
theorem next_stop {bs : List UInt8} {j : Nat} (hz : ¬ bN (bs[0]?.getD 0).toNat = 0) (hs : stopP bs = j) (hj : j < bN (bs[0]?.getD 0).toNat) : nextC bs = 65533 ∧ nextN bs = j := by
  simp [nextC, nextN, hz, hs, hj]
theorem next_full {bs : List UInt8} (hz : ¬ bN (bs[0]?.getD 0).toNat = 0) (hs : stopP bs = bN (bs[0]?.getD 0).toNat) : nextC bs = val bs (bN (bs[0]?.getD 0).toNat) ∧ nextN bs = bN (bs[0]?.getD 0).toNat := by
  simp [nextC, nextN, hz, hs]
theorem okAt_none {bs : List UInt8} {lo hi k : Nat} (h : bs.length ≤ k) : okAt bs lo hi k = false := by
  simp [okAt, List.getElem?_eq_none h]
theorem okAt_some {bs : List UInt8} {c k : Nat} {b : UInt8} (h : bs[k]? = some b) : okAt bs (bLo c) (bHi c) k = decide (loAt c k ≤ b.toNat ∧ b.toNat ≤ hiAt c k) := by
  unfold okAt loAt hiAt
  rw [h]
  by_cases e : k = 1 <;> simp [e]
theorem ret3 {a b c a' b' c' : Int} {k l m : IntKind} (h1 : a = a') (h2 : b = b') (h3 : c = c') : Ending.returned (.tuple #[.int k a, .int l b, .int m c]) = .returned (.tuple #[.int k a', .int l b', .int m c']) := by rw [h1, h2, h3]
theorem ret2 {a b a' b' : Int} {k l : IntKind} (h1 : a = a') (h2 : b = b') : Ending.returned (.tuple #[.int k a, .int l b]) = .returned (.tuple #[.int k a', .int l b']) := by rw [h1, h2]

set_option maxRecDepth 100000 in
theorem rn_bounds (c : Nat) (w : World) (hc : c < 256) :
    Calls Tryd.prog 34 #[.int .u8 c] w fun e w' => e = .returned (.tuple #[.int .i64 (bN c), .int .u8 (bLo c), .int .u8 (bHi c)]) ∧ w = w' := by
  go_enter Tryd.func34, Tryd.ntmps34
  go_wp2
  all_goals (go_ret3; refine ⟨ret3 ?_ ?_ ?_, rfl⟩)
  all_goals (first | unfold bN | unfold bLo | unfold bHi)
  all_goals (try simp only [beq_iff_eq, beq_eq_false_iff_ne, ne_eq] at *)
  all_goals ((repeat' split) <;> first | rfl | omega)

set_option maxRecDepth 100000 in
theorem rn_next (bs : List UInt8) (A : Option Addr) (n cap B : Nat) (w : World) (hr : Reads w B 1 A n (bs.map b8)) (hn : 0 < n) (hm : n ≤ cap) (hcap : cap ≤ maxLen)
    (hdec : ∀ (m : Nat), m = bN (bs[0]?.getD 0).toNat → m ≤ n → stopP bs = m → 0 < m → Calls Tryd.prog 35 #[.slice A m cap] w fun e w' => e = .returned (.tuple #[.int .i32 (val bs m), .int .i64 m]) ∧ Below w.heap.size w w') :
    Calls Tryd.prog 28 #[.slice A n cap] w fun e w' => e = .returned (.tuple #[.int .i32 (nextC bs), .int .i64 (nextN bs)]) ∧ Below w.heap.size w w' := by
  unfold maxLen at hcap
  have hlen : bs.length = n := by simpa using hr.len
  obtain ⟨b, off, rfl, hb, hcell⟩ := hr.open_ hn
  obtain ⟨b0, rest, rfl⟩ := List.exists_cons_of_length_pos (l := bs) (by omega)
  have h0 : w.cell? ⟨b, off, none⟩ = some (.int .u8 b0.toNat) := hcell 0 _ rfl
  have hb0 : b0.toNat < 256 := b0.toNat_lt
  by_cases hz : bN b0.toNat = 0
  · have Hz := Lib.hid hz
    have hz0 : ((bN b0.toNat : Int) == 0) = true := by simp [hz]
    clear hz hdec
    go_enter Tryd.func28, Tryd.ntmps28
    go_wp2_with (go_at_call 34; refine (rn_bounds _ _ hb0).mono ?_; rintro e w' ⟨rfl, rfl⟩)
    go_ret2
    refine ⟨ret2 ?_ ?_, Below.refl _ _⟩
    · simp [nextC, Hz.out]
    · simp [nextN, Hz.out]
  · have hz0 : ((bN b0.toNat : Int) == 0) = false := by simp; omega
    have hN : bN b0.toNat ≤ 4 := by unfold bN; (repeat' split) <;> omega
    have hz1 : 0 < bN b0.toNat := by omega
    have hcb : ∀ k b', (b0 :: rest)[k]? = some b' → w.cell? ⟨b, off + k, none⟩ = some (.int .u8 b'.toNat) := fun k b' h => hcell k _ (by rw [List.getElem?_map, h]; rfl)
    have Hcb := Lib.hid hcb
    have Hdec := Lib.hid hdec
    have Hlen := Lib.hid hlen
    clear hdec hcell hcb hlen hr
    go_enter Tryd.func28, Tryd.ntmps28
    go_wp2_with (go_at_call 34; refine (rn_bounds _ _ hb0).mono ?_; rintro e w' ⟨rfl, rfl⟩)
    go_loop [5, 6, 7] (fun lo hi k => ∃ j : Nat, 1 ≤ j ∧ j ≤ bN b0.toNat ∧ j ≤ n ∧ k = .int .i64 j ∧ lo = .int .u8 (loAt b0.toNat j) ∧ hi = .int .u8 (hiAt b0.toNat j) ∧ Hid (scan (b0 :: rest) (bLo b0.toNat) (bHi b0.toNat) (bN b0.toNat - j) j = stopP (b0 :: rest))) (fun _ _ k => bN b0.toNat - (intOf k).toNat)
    case atStart => exact ⟨1, by omega, by omega, by omega, rfl, rfl, rfl, rfl⟩
    case round =>
      obtain ⟨j, hj1, hj2, hj3, rfl, rfl, rfl, hs⟩ := hrel
      by_cases hjN : j < bN b0.toNat
      · by_cases hjn : j = n
        · have hb1 : ((j : Int) == (n : Int)) = true := by simp [hjn]
          have Hjn := Lib.hid hjn
          clear hjn
          go_wp2
          go_ret2
          have hst : stopP (b0 :: rest) = j := by rw [← hs.out]; exact scan_stuck _ (okAt_none (by rw [Hlen.out, Hjn.out]; omega))
          have hx := next_stop (bs := b0 :: rest) hz hst hjN
          exact ⟨ret2 hx.1.symm (by rw [hx.2]), Below.refl _ _⟩
        · obtain ⟨b', hb'⟩ : ∃ b', (b0 :: rest)[j]? = some b' := ⟨_, List.getElem?_eq_getElem (by rw [Hlen.out]; omega)⟩
          have hb1 : ((j : Int) == (n : Int)) = false := by simp; omega
          have hbc := Hcb.out j b' hb'
          have hjlt : j < n := by omega
          have Hb' := Lib.hid hb'
          clear hb' hjn
          by_cases hlo : b'.toNat < loAt b0.toNat j
          · go_wp2
            go_ret2
            have hst : stopP (b0 :: rest) = j := by rw [← hs.out]; exact scan_stuck _ (by rw [okAt_some Hb'.out]; simp; omega)
            have hx := next_stop (bs := b0 :: rest) hz hst hjN
            exact ⟨ret2 hx.1.symm (by rw [hx.2]), Below.refl _ _⟩
          · by_cases hhi : hiAt b0.toNat j < b'.toNat
            · go_wp2
              go_ret2
              have hst : stopP (b0 :: rest) = j := by rw [← hs.out]; exact scan_stuck _ (by rw [okAt_some Hb'.out]; simp; omega)
              have hx := next_stop (bs := b0 :: rest) hz hst hjN
              exact ⟨ret2 hx.1.symm (by rw [hx.2]), Below.refl _ _⟩
            · go_wp2
              go_round
              case rel =>
                have hst : scan (b0 :: rest) (bLo b0.toNat) (bHi b0.toNat) (bN b0.toNat - j) j = scan (b0 :: rest) (bLo b0.toNat) (bHi b0.toNat) (bN b0.toNat - (j + 1)) (j + 1) := by
                  rw [show bN b0.toNat - j = (bN b0.toNat - (j + 1)) + 1 from by omega]
                  exact scan_step _ (by rw [okAt_some Hb'.out]; simp; omega)
                refine ⟨j + 1, by omega, by omega, by omega, by go_num, ?_, ?_, hst.symm.trans hs.out⟩
                · unfold loAt; rw [if_neg (by omega)]; rfl
                · unfold hiAt; rw [if_neg (by omega)]; rfl
              case measure => simp [intOf]; omega
      · obtain rfl : j = bN b0.toNat := by omega
        have hst : stopP (b0 :: rest) = bN b0.toNat := by rw [← hs.out, Nat.sub_self]; rfl
        have hx := next_full (bs := b0 :: rest) hz hst
        have Hx := Lib.hid hx
        clear hx
        have hd := Hdec.out (bN b0.toNat) rfl (by omega) hst (by omega)
        have Hd := Lib.hid hd
        clear hd hst
        go_wp2_with fail
        refine (Hd.out).mono ?_
        rintro e w' ⟨rfl, hb⟩
        go_wp2
        go_ret2
        exact ⟨ret2 Hx.out.1.symm (by rw [Hx.out.2]; rfl), hb⟩
end Go.Proofs.YtjgjpcoieiobcaaDoor
