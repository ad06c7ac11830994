/- Layer 1: how long the decimal is with which a text begins: the program's sign, digits and Length are walked. -/
import Derived.Test.YtfhdihdafmahgaaGreatDoorB01
import Derived.Lib.RuneBytes
import Derived.Laws.BytesArg
import Derived.Lib.ConvBytes
import Derived.Lib.DecodeN
import Derived.Lib.ValidLaws
import Derived.Shelf.Strings.SlTrimAscii
/- Plain laws of layer 2's reference: which bytes begin a character's, against what runes.next finds. No program in sight. -/
set_option linter.unusedVariables false
set_option linter.unusedSimpArgs false
namespace Go.Proofs.YtfhdihdafmahgaaGreatDoor
open Go.RowKit Rn
namespace Rn
def begR (bs : List UInt8) (long : Nat) : Bool :=
  let lo := (spanR bs long).1
  let hi := (spanR bs long).2
  if lo < 0 then false else
  let least : Int := if long = 4 then 65536 else if long = 3 then 2048 else 128
  let low := max lo least
  let high := min hi 1114111
  let low := if 55296 ≤ low ∧ low ≤ 57343 then 57344 else low
  decide (low ≤ high)
end Rn
theorem spanF_range (bs : List UInt8) : ∀ (f k : Nat) (lo hi : Int), 1 ≤ k → k + f ≤ 4 → 0 ≤ lo → lo ≤ hi → hi ≤ most k →
    spanF bs f k lo hi = (-1, -1) ∨ (0 ≤ (spanF bs f k lo hi).1 ∧ (spanF bs f k lo hi).1 ≤ (spanF bs f k lo hi).2 ∧ (spanF bs f k lo hi).2 ≤ 8388607)
  | 0, k, lo, hi, h1, h2, h3, h4, h5 => .inr ⟨h3, h4, Int.le_trans h5 (most_le k)⟩
  | f + 1, k, lo, hi, h1, h2, h3, h4, h5 => by
    have hm := most_step k h1 (by omega)
    unfold spanF
    cases hb : bs[k]? with
    | none => exact spanF_range bs f (k + 1) _ _ (by omega) (by omega) (by omega) (by omega) (by omega)
    | some b =>
      simp only
      split
      · exact .inl rfl
      · exact spanF_range bs f (k + 1) _ _ (by omega) (by omega) (by omega) (by omega) (by omega)
theorem spanR_range (bs : List UInt8) (long : Nat) (h2 : 2 ≤ long) (h4 : long ≤ 4) :
    spanR bs long = (-1, -1) ∨ (0 ≤ (spanR bs long).1 ∧ (spanR bs long).1 ≤ (spanR bs long).2 ∧ (spanR bs long).2 ≤ 8388607) := by
  unfold spanR
  simp only
  split
  · exact .inl rfl
  · rename_i h
    refine spanF_range bs (long - 1) 1 _ _ (by omega) (by omega) (by omega) (by omega) ?_
    unfold lowOf most
    (repeat' split) <;> omega

/-- With the explicit bytes: begR says just whether the length is the first byte's and every further byte may stand. -/
theorem beg1 (b0 : UInt8) (long : Nat) (h0 : 128 ≤ b0.toNat) (h2 : 2 ≤ long) (h4 : long ≤ 4) : begR [b0] long = true ↔ long = bN b0.toNat := by
  have := b0.toNat_lt
  obtain rfl | rfl | rfl : long = 2 ∨ long = 3 ∨ long = 4 := by omega
  all_goals
    simp only [begR, spanR, lowOf, List.getElem?_cons_zero, Option.getD_some]
    generalize b0.toNat = x at *
    simp [spanF]
    unfold bN
    (repeat' split) <;> simp <;> omega
set_option maxHeartbeats 1000000 in
theorem beg2 (b0 b1 : UInt8) (long : Nat) (h0 : 128 ≤ b0.toNat) (hk : 2 ≤ long) (h4 : long ≤ 4) : begR [b0, b1] long = true ↔ long = bN b0.toNat ∧ (bLo b0.toNat ≤ b1.toNat ∧ b1.toNat ≤ bHi b0.toNat) := by
  have h0 := b0.toNat_lt; have h1 := b1.toNat_lt
  obtain rfl | rfl | rfl : long = 2 ∨ long = 3 ∨ long = 4 := by omega
  all_goals
    simp only [begR, spanR, lowOf, List.getElem?_cons_zero, Option.getD_some]
    simp [spanF]
    generalize b0.toNat = x0 at *
    generalize b1.toNat = x1 at *
    unfold bN bLo bHi
    (repeat' split) <;> simp <;> omega
set_option maxHeartbeats 1000000 in
theorem beg3 (b0 b1 b2 : UInt8) (long : Nat) (h0 : 128 ≤ b0.toNat) (hk : 3 ≤ long) (h4 : long ≤ 4) : begR [b0, b1, b2] long = true ↔ long = bN b0.toNat ∧ (bLo b0.toNat ≤ b1.toNat ∧ b1.toNat ≤ bHi b0.toNat) ∧ (128 ≤ b2.toNat ∧ b2.toNat ≤ 191) := by
  have h0 := b0.toNat_lt; have h1 := b1.toNat_lt; have h2 := b2.toNat_lt
  obtain rfl | rfl : long = 3 ∨ long = 4 := by omega
  all_goals
    simp only [begR, spanR, lowOf, List.getElem?_cons_zero, Option.getD_some]
    simp [spanF]
    generalize b0.toNat = x0 at *
    generalize b1.toNat = x1 at *
    generalize b2.toNat = x2 at *
    unfold bN bLo bHi
    (repeat' split) <;> simp <;> omega
set_option maxHeartbeats 1000000 in
theorem beg4 (b0 b1 b2 b3 : UInt8) (long : Nat) (h0 : 128 ≤ b0.toNat) (hk : 4 ≤ long) (h4 : long ≤ 4) : begR [b0, b1, b2, b3] long = true ↔ long = bN b0.toNat ∧ (bLo b0.toNat ≤ b1.toNat ∧ b1.toNat ≤ bHi b0.toNat) ∧ (128 ≤ b2.toNat ∧ b2.toNat ≤ 191) ∧ (128 ≤ b3.toNat ∧ b3.toNat ≤ 191) := by
  have h0 := b0.toNat_lt; have h1 := b1.toNat_lt; have h2 := b2.toNat_lt; have h3 := b3.toNat_lt
  obtain rfl : long = 4 := by omega
  all_goals
    simp only [begR, spanR, lowOf, List.getElem?_cons_zero, Option.getD_some]
    simp [spanF]
    generalize b0.toNat = x0 at *
    generalize b1.toNat = x1 at *
    generalize b2.toNat = x2 at *
    generalize b3.toNat = x3 at *
    unfold bN bLo bHi
    (repeat' split) <;> simp <;> omega

theorem scan_ge_iff (bs : List UInt8) (lo hi : Nat) : ∀ (f k0 k : Nat), k ≤ k0 + f → (k ≤ scan bs lo hi f k0 ↔ ∀ j, k0 ≤ j → j < k → okAt bs lo hi j = true)
  | 0, k0, k, h => ⟨fun _ j h1 h2 => by omega, fun _ => by simpa [scan] using h⟩
  | f + 1, k0, k, h => by
    unfold scan
    cases hk : okAt bs lo hi k0 with
    | false =>
      simp only [Bool.false_eq_true, if_false]
      constructor
      · intro h1 j h2 h3; omega
      · intro h1
        rcases Nat.lt_or_ge k0 k with h2 | h2
        · have := h1 k0 (Nat.le_refl _) h2; rw [hk] at this; cases this
        · exact h2
    | true =>
      simp only [if_true]
      rw [scan_ge_iff bs lo hi f (k0 + 1) k (by omega)]
      constructor
      · intro h1 j h2 h3
        rcases Nat.eq_or_lt_of_le h2 with e | e
        · rw [← e]; exact hk
        · exact h1 j e h3
      · intro h1 j h2 h3; exact h1 j (by omega) h3
theorem stop_ge (bs : List UInt8) (k : Nat) (h : k ≤ bN (bs[0]?.getD 0).toNat) (h1 : 1 ≤ k) : k ≤ stopP bs ↔ ∀ j, 1 ≤ j → j < k → okAt bs (bLo (bs[0]?.getD 0).toNat) (bHi (bs[0]?.getD 0).toNat) j = true := by
  unfold stopP
  exact scan_ge_iff bs _ _ _ 1 k (by omega)
theorem okAt_iff {bs : List UInt8} {c k : Nat} {b : UInt8} (h : bs[k]? = some b) : okAt bs (bLo c) (bHi c) k = true ↔ (loAt c k ≤ b.toNat ∧ b.toNat ≤ hiAt c k) := by
  rw [okAt_some h]; simp

theorem beg_take (bs : List UInt8) (k long : Nat) (h0 : 128 ≤ (bs[0]?.getD 0).toNat) (h1 : 1 ≤ k) (hkl : k ≤ long) (h2 : 2 ≤ long) (h4 : long ≤ 4) (hk : k ≤ bs.length) :
    begR (bs.take k) long = true ↔ long = bN (bs[0]?.getD 0).toNat ∧ k ≤ stopP bs := by
  have key : long = bN (bs[0]?.getD 0).toNat → (k ≤ stopP bs ↔ ∀ j, 1 ≤ j → j < k → okAt bs (bLo (bs[0]?.getD 0).toNat) (bHi (bs[0]?.getD 0).toNat) j = true) := fun h => stop_ge bs k (by omega) h1
  rw [and_congr_right key]
  clear key
  have g : ∀ j (h : j < bs.length), bs[j]? = some bs[j] := fun j h => List.getElem?_eq_getElem h
  obtain ⟨b0, r0, rfl⟩ := List.exists_cons_of_length_pos (l := bs) (by omega)
  simp only [List.getElem?_cons_zero, Option.getD_some] at h0 ⊢
  obtain rfl | rfl | rfl | rfl : k = 1 ∨ k = 2 ∨ k = 3 ∨ k = 4 := by omega
  · simp only [List.take_succ_cons, List.take_zero]
    rw [beg1 b0 long h0 h2 h4]
    constructor
    · intro h; exact ⟨h, fun j _ _ => by omega⟩
    · intro h; exact h.1
  · obtain ⟨b1, r1, rfl⟩ := List.exists_cons_of_length_pos (l := r0) (by simp at hk; omega)
    simp only [List.take_succ_cons, List.take_zero]
    rw [beg2 b0 b1 long h0 hkl h4]
    refine and_congr_right fun _ => ?_
    have e1 := okAt_iff (bs := b0 :: b1 :: r1) (c := b0.toNat) (k := 1) (b := b1) rfl
    simp only [loAt, hiAt, if_true] at e1
    rw [← e1]
    constructor
    · intro h j h1 h2; obtain rfl : j = 1 := by omega
      exact h
    · intro h; exact h 1 (by omega) (by omega)
  · obtain ⟨b1, r1, rfl⟩ := List.exists_cons_of_length_pos (l := r0) (by simp at hk; omega)
    obtain ⟨b2, r2, rfl⟩ := List.exists_cons_of_length_pos (l := r1) (by simp at hk; omega)
    simp only [List.take_succ_cons, List.take_zero]
    rw [beg3 b0 b1 b2 long h0 hkl h4]
    refine and_congr_right fun _ => ?_
    have e1 := okAt_iff (bs := b0 :: b1 :: b2 :: r2) (c := b0.toNat) (k := 1) (b := b1) rfl
    have e2 := okAt_iff (bs := b0 :: b1 :: b2 :: r2) (c := b0.toNat) (k := 2) (b := b2) rfl
    simp only [loAt, hiAt, if_true, if_neg (show ¬ (2 = 1) from by omega)] at e1 e2
    rw [← e1, ← e2]
    constructor
    · rintro ⟨h1, h2⟩ j h3 h4
      obtain rfl | rfl : j = 1 ∨ j = 2 := by omega
      · exact h1
      · exact h2
    · intro h; exact ⟨h 1 (by omega) (by omega), h 2 (by omega) (by omega)⟩
  · obtain ⟨b1, r1, rfl⟩ := List.exists_cons_of_length_pos (l := r0) (by simp at hk; omega)
    obtain ⟨b2, r2, rfl⟩ := List.exists_cons_of_length_pos (l := r1) (by simp at hk; omega)
    obtain ⟨b3, r3, rfl⟩ := List.exists_cons_of_length_pos (l := r2) (by simp at hk; omega)
    simp only [List.take_succ_cons, List.take_zero]
    rw [beg4 b0 b1 b2 b3 long h0 hkl h4]
    refine and_congr_right fun _ => ?_
    have e1 := okAt_iff (bs := b0 :: b1 :: b2 :: b3 :: r3) (c := b0.toNat) (k := 1) (b := b1) rfl
    have e2 := okAt_iff (bs := b0 :: b1 :: b2 :: b3 :: r3) (c := b0.toNat) (k := 2) (b := b2) rfl
    have e3 := okAt_iff (bs := b0 :: b1 :: b2 :: b3 :: r3) (c := b0.toNat) (k := 3) (b := b3) rfl
    simp only [loAt, hiAt, if_true, if_neg (show ¬ (2 = 1) from by omega), if_neg (show ¬ (3 = 1) from by omega)] at e1 e2 e3
    rw [← e1, ← e2, ← e3]
    constructor
    · rintro ⟨h1, h2, h3⟩ j h4 h5
      obtain rfl | rfl | rfl : j = 1 ∨ j = 2 ∨ j = 3 := by omega
      · exact h1
      · exact h2
      · exact h3
    · intro h; exact ⟨h 1 (by omega) (by omega), h 2 (by omega) (by omega), h 3 (by omega) (by omega)⟩

theorem span_val (bs : List UInt8) (long : Nat) (h2 : 2 ≤ long) (h4 : long ≤ 4) (hN : long = bN (bs[0]?.getD 0).toNat) (hl : long ≤ bs.length) (hs : stopP bs = long) :
    (spanR (bs.take long) long).1 = val bs long := by
  have hok := (stop_ge bs long (by omega) (by omega)).1 (by omega)
  obtain ⟨b0, r0, rfl⟩ := List.exists_cons_of_length_pos (l := bs) (by omega)
  simp only [List.getElem?_cons_zero, Option.getD_some] at hN hok
  have hb0 := b0.toNat_lt
  have hc0 : 194 ≤ b0.toNat ∧ b0.toNat ≤ 244 := by revert hN; unfold bN; (repeat' split) <;> omega
  obtain ⟨b1, g1, l1, u1⟩ := okAt_mem (hok 1 (by omega) (by omega))
  obtain ⟨b1', r1, rfl⟩ := List.exists_cons_of_length_pos (l := r0) (by simp at hl; omega)
  obtain rfl : b1 = b1' := by simpa using g1.symm
  have hb1 : 128 ≤ b1.toNat ∧ b1.toNat ≤ 191 := by
    revert l1 u1; unfold loAt hiAt bLo bHi; (repeat' split) <;> omega
  obtain rfl | rfl | rfl : long = 2 ∨ long = 3 ∨ long = 4 := by omega
  · have h1 : 194 ≤ b0.toNat ∧ b0.toNat < 224 := by revert hN; unfold bN; (repeat' split) <;> omega
    simp only [List.take_succ_cons, List.take_zero, val, spanR, lowOf, List.getElem?_cons_zero, Option.getD_some, List.getElem?_cons_succ, if_neg (show ¬ (2 = 1) from by omega), if_true]
    simp [spanF]
    (repeat' split) <;> omega
  · have h1 : 224 ≤ b0.toNat ∧ b0.toNat < 240 := by revert hN; unfold bN; (repeat' split) <;> omega
    obtain ⟨b2, g2, l2, u2⟩ := okAt_mem (hok 2 (by omega) (by omega))
    obtain ⟨b2', r2, rfl⟩ := List.exists_cons_of_length_pos (l := r1) (by simp at hl; omega)
    obtain rfl : b2 = b2' := by simpa using g2.symm
    have hb2 : 128 ≤ b2.toNat ∧ b2.toNat ≤ 191 := by revert l2 u2; unfold loAt hiAt; (repeat' split) <;> omega
    simp only [List.take_succ_cons, List.take_zero, val, spanR, lowOf, List.getElem?_cons_zero, Option.getD_some, List.getElem?_cons_succ, if_neg (show ¬ (3 = 1) from by omega), if_neg (show ¬ (3 = 2) from by omega), if_true]
    simp [spanF]
    (repeat' split) <;> omega
  · have h1 : 240 ≤ b0.toNat ∧ b0.toNat ≤ 244 := by revert hN; unfold bN; (repeat' split) <;> omega
    obtain ⟨b2, g2, l2, u2⟩ := okAt_mem (hok 2 (by omega) (by omega))
    obtain ⟨b2', r2, rfl⟩ := List.exists_cons_of_length_pos (l := r1) (by simp at hl; omega)
    obtain rfl : b2 = b2' := by simpa using g2.symm
    obtain ⟨b3, g3, l3, u3⟩ := okAt_mem (hok 3 (by omega) (by omega))
    obtain ⟨b3', r3, rfl⟩ := List.exists_cons_of_length_pos (l := r2) (by simp at hl; omega)
    obtain rfl : b3 = b3' := by simpa using g3.symm
    have hb2 : 128 ≤ b2.toNat ∧ b2.toNat ≤ 191 := by revert l2 u2; unfold loAt hiAt; (repeat' split) <;> omega
    have hb3 : 128 ≤ b3.toNat ∧ b3.toNat ≤ 191 := by revert l3 u3; unfold loAt hiAt; (repeat' split) <;> omega
    simp only [List.take_succ_cons, List.take_zero, val, spanR, lowOf, List.getElem?_cons_zero, Option.getD_some, List.getElem?_cons_succ, if_neg (show ¬ (4 = 1) from by omega), if_neg (show ¬ (4 = 2) from by omega), if_neg (show ¬ (4 = 3) from by omega)]
    simp [spanF]
    (repeat' split) <;> omega
end Go.Proofs.YtfhdihdafmahgaaGreatDoor
/- runes.Write and runes.Lower, runes.Hex are walked. -/
set_option linter.unusedVariables false
set_option linter.unusedSimpArgs false
namespace Go.Proofs.YtfhdihdafmahgaaGreatDoor
open Go.RowKit Rn
namespace Rn
/-- the bytes of characters, of what is none those of 0xFFFD -/
def writeP (l : List Int) : List UInt8 := l.flatMap Lib.encodeRune
end Rn
theorem runeCells_b8 (r : Int) : Lib.runeCells r = (Lib.encodeRune r).map b8 := by
  unfold Lib.runeCells Lib.encodeRune
  rw [List.map_map]
  apply List.map_congr_left
  intro x hx
  have := Lib.encodeRuneZ_byte r x hx
  simp only [Function.comp, b8]
  congr 1
  have h2 : x.toNat.toUInt8.toNat = x.toNat := by simp; omega
  rw [h2]; omega
theorem encode_len (r : Int) : 1 ≤ (Lib.encodeRune r).length ∧ (Lib.encodeRune r).length ≤ 4 := by
  unfold Lib.encodeRune Lib.encodeRuneZ
  (repeat' split) <;> simp
theorem encode_bad (c : Int) (h : isB c = false) : Lib.encodeRune c = Lib.encodeRune 65533 := by
  unfold Lib.encodeRune
  rw [Lib.encodeRuneZ_bad (by unfold isB at h; simp at h; omega), Lib.encodeRuneZ_three (by omega)]
  rfl
theorem writeP_len (l : List Int) : (writeP l).length ≤ 4 * l.length := by
  induction l with
  | nil => simp [writeP]
  | cons c l ih =>
    have := (encode_len c).2
    simp only [writeP, List.flatMap_cons, List.length_append, List.length_cons] at ih ⊢
    omega
theorem writeP_snoc (l : List Int) (c : Int) : writeP (l ++ [c]) = writeP l ++ Lib.encodeRune c := by simp [writeP]

set_option maxRecDepth 100000 in
set_option maxHeartbeats 1000000 in
theorem rn_write (l : List Int) (A : Option Addr) (n cap : Nat) (w : World) (hr : Reads w w.heap.size 1 A n (l.map r32)) (hl : ∀ c ∈ l, -2147483648 ≤ c ∧ c ≤ 2147483647) (hn : n ≤ 1000000) :
    Calls Tryz.prog 122 #[.slice A n cap] w fun e w' => ∃ v, e = .returned v ∧ w'.ownsRow w.heap.size 5 1 v (writeP l).length ((writeP l).map b8) ∧ Below w.heap.size w w' := by
  have hlen : l.length = n := by simpa using hr.len
  have Hlen := Lib.hid hlen
  have Hl := Lib.hid hl
  clear hlen hl
  go_enter Tryz.func122, Tryz.ntmps122
  go_wp2
  go_loopw [3, 8] (fun o i wr => ∃ k : Nat, k ≤ n ∧ i = .int .i64 k ∧ wr.ownsRow w.heap.size 5 1 o (writeP (l.take k)).length ((writeP (l.take k)).map b8) ∧ Below w.heap.size w wr) (fun _ i _ => n - (intOf i).toNat)
  case atStart => exact ⟨0, by omega, rfl, World.ownsRow_nil _ _ _ _, Below.refl _ _⟩
  case round =>
    obtain ⟨k, hk, rfl, hown, hb⟩ := hrel
    have hs2 := hb.size
    by_cases hlt : k < n
    · obtain ⟨b, off, u, hA, hbw, hx, hcell0⟩ := hr.at_ hlt
      subst hA
      obtain ⟨c, hc⟩ : ∃ c, l[k]? = some c := ⟨_, List.getElem?_eq_getElem (by rw [Hlen.out]; omega)⟩
      rw [List.getElem?_map, hc] at hx
      obtain rfl : u = r32 c := by simpa using hx.symm
      unfold r32 at hcell0
      have hcell : wr.cell? ⟨b, off + k, none⟩ = some (.int .i32 c) := (hb.cell (p := ⟨b, off + k, none⟩) hbw).trans hcell0
      have hcr := Hl.out c (List.mem_of_getElem? hc)
      have hwl := writeP_len (l.take k)
      rw [List.length_take] at hwl
      have hst : writeP (l.take (k + 1)) = writeP (l.take k) ++ Lib.encodeRune c := by rw [take_snoc l k c hc, writeP_snoc]
      have Hst := Lib.hid hst
      have Hc := Lib.hid hc
      clear hst hc hx hcell0
      by_cases his : isB c = true
      · go_wp2_with (first | (go_at_call 148; refine (rn_is _ _).mono ?_; rintro e w' ⟨rfl, rfl⟩; rw [his]) | (go_at_call 149; refine (Tryz.utf8_AppendRune_plain w.heap.size _ _ _ c hcr.1 hcr.2 _ hown (by omega) hs2).mono ?_; rintro e w2 ⟨v', rfl, hown', o, hg⟩))
        have hbn := push_below hb hs2 hown hg
        rw [runeCells_b8, List.length_map, ← List.map_append, ← List.length_append, ← Hst.out] at hown'
        go_roundw
        case rel => exact ⟨k + 1, by omega, by go_num, hown', hbn⟩
        case measure => simp [intOf]; omega
      · have his' : isB c = false := by simpa using his
        have Hbad := Lib.hid (encode_bad c his')
        go_wp2_with (first | (go_at_call 148; refine (rn_is _ _).mono ?_; rintro e w' ⟨rfl, rfl⟩; rw [his']) | (go_at_call 149; refine (Tryz.utf8_AppendRune_plain w.heap.size _ _ _ 65533 (by omega) (by omega) _ hown (by omega) hs2).mono ?_; rintro e w2 ⟨v', rfl, hown', o, hg⟩))
        have hbn := push_below hb hs2 hown hg
        rw [runeCells_b8, List.length_map, ← List.map_append, ← List.length_append, ← Hbad.out, ← Hst.out] at hown'
        go_roundw
        case rel => exact ⟨k + 1, by omega, by go_num, hown', hbn⟩
        case measure => simp [intOf]; omega
    · obtain rfl : k = n := by omega
      go_wp2
      go_ret
      rw [List.take_of_length_le (by rw [Hlen.out]; omega)] at hown
      exact ⟨_, rfl, hown, hb⟩
end Go.Proofs.YtfhdihdafmahgaaGreatDoor
/- Plain laws of layer 2: what was written is read as it was; what is read is characters; bytes parted ahead of one below 0x80 that is no 10. No program in sight. -/
set_option linter.unusedVariables false
set_option linter.unusedSimpArgs false
namespace Go.Proofs.YtfhdihdafmahgaaGreatDoor
open Go.RowKit Rn

theorem b_of (z : Int) (h0 : 0 ≤ z) (h1 : z < 256) : (z.toNat.toUInt8).toNat = z.toNat := by simp; omega

theorem scan_le_add (bs : List UInt8) (lo hi : Nat) : ∀ f k, scan bs lo hi f k ≤ k + f
  | 0, k => Nat.le_refl _
  | f + 1, k => by
    unfold scan; split
    · exact Nat.le_trans (scan_le_add bs lo hi f (k + 1)) (by omega)
    · omega
theorem stop_le (bs : List UInt8) {n : Nat} (h : bN (bs[0]?.getD 0).toNat = n) (h0 : 1 ≤ n) : stopP bs ≤ n := by
  have := scan_le_add bs (bLo (bs[0]?.getD 0).toNat) (bHi (bs[0]?.getD 0).toNat) (bN (bs[0]?.getD 0).toNat - 1) 1
  unfold stopP
  simp only
  omega
/-- The bytes of a character are read as it, whatever stands behind. -/
theorem next_enc (c : Int) (hc : isB c = true) (rest : List UInt8) : nextC (Lib.encodeRune c ++ rest) = c ∧ nextN (Lib.encodeRune c ++ rest) = (Lib.encodeRune c).length := by
  have hc' : 0 ≤ c ∧ c ≤ 1114111 ∧ (c < 55296 ∨ 57343 < c) := by simpa [isB] using hc
  clear hc
  obtain ⟨h0, h1, h2⟩ := hc'
  by_cases c1 : c < 128
  · have e : Lib.encodeRune c = [c.toNat.toUInt8] := by simp [Lib.encodeRune, Lib.encodeRuneZ_one h0 (by omega : c ≤ 127)]
    rw [e]
    have hb : bN (((([c.toNat.toUInt8] ++ rest)[0]?).getD 0).toNat) = 1 := by
      show bN (c.toNat.toUInt8).toNat = 1
      rw [b_of c h0 (by omega)]; unfold bN; rw [if_pos (by omega)]
    have hst : stopP ([c.toNat.toUInt8] ++ rest) = 1 := by unfold stopP; simp only; rw [hb]; rfl
    have hx := next_full (bs := [c.toNat.toUInt8] ++ rest) (by omega) (by rw [hst, hb])
    rw [hb] at hx
    refine ⟨?_, hx.2⟩
    rw [hx.1]
    simp only [val, if_true]
    show (((c.toNat.toUInt8).toNat : Nat) : Int) = c
    rw [b_of c h0 (by omega)]; omega
  · by_cases c2 : c < 2048
    · have e : Lib.encodeRune c = [(192 + c / 64).toNat.toUInt8, (128 + c % 64).toNat.toUInt8] := by simp [Lib.encodeRune, Lib.encodeRuneZ_two (by omega : 128 ≤ c) (by omega)]
      rw [e]
      have g0 := b_of (192 + c / 64) (by omega) (by omega)
      have g1 := b_of (128 + c % 64) (by omega) (by omega)
      generalize (192 + c / 64).toNat.toUInt8 = b0 at *
      generalize (128 + c % 64).toNat.toUInt8 = b1 at *
      have hb : bN (((([b0, b1] ++ rest)[0]?).getD 0).toNat) = 2 := by
        show bN b0.toNat = 2
        unfold bN; rw [if_neg (by omega), if_neg (by omega), if_pos (by omega)]
      have hst : 2 ≤ stopP ([b0, b1] ++ rest) := by
        rw [stop_ge _ 2 (by omega) (by omega)]
        intro j j1 j2
        obtain rfl : j = 1 := by omega
        rw [okAt_iff (b := b1) rfl]
        show loAt b0.toNat 1 ≤ b1.toNat ∧ b1.toNat ≤ hiAt b0.toNat 1
        unfold loAt hiAt bLo bHi
        (repeat' split) <;> omega
      have hst2 : stopP ([b0, b1] ++ rest) ≤ 2 := stop_le _ hb (by omega)
      have hx := next_full (bs := [b0, b1] ++ rest) (by omega) (by omega)
      rw [hb] at hx
      refine ⟨?_, hx.2⟩
      rw [hx.1]
      simp only [val, if_true, if_neg (show ¬ (2 = 1) from by omega)]
      show ((b0.toNat % 32 * 64 + b1.toNat % 64 : Nat) : Int) = c
      omega
    · by_cases c3 : c < 65536
      · have e : Lib.encodeRune c = [(224 + c / 4096).toNat.toUInt8, (128 + c / 64 % 64).toNat.toUInt8, (128 + c % 64).toNat.toUInt8] := by simp [Lib.encodeRune, Lib.encodeRuneZ_three (r := c) (by omega)]
        rw [e]
        have g0 := b_of (224 + c / 4096) (by omega) (by omega)
        have g1 := b_of (128 + c / 64 % 64) (by omega) (by omega)
        have g2 := b_of (128 + c % 64) (by omega) (by omega)
        generalize (224 + c / 4096).toNat.toUInt8 = b0 at *
        generalize (128 + c / 64 % 64).toNat.toUInt8 = b1 at *
        generalize (128 + c % 64).toNat.toUInt8 = b2 at *
        have hb : bN (((([b0, b1, b2] ++ rest)[0]?).getD 0).toNat) = 3 := by
          show bN b0.toNat = 3
          unfold bN; rw [if_neg (by omega), if_neg (by omega), if_neg (by omega), if_pos (by omega)]
        have hst : 3 ≤ stopP ([b0, b1, b2] ++ rest) := by
          rw [stop_ge _ 3 (by omega) (by omega)]
          intro j j1 j2
          obtain rfl | rfl : j = 1 ∨ j = 2 := by omega
          · rw [okAt_iff (b := b1) rfl]
            show loAt b0.toNat 1 ≤ b1.toNat ∧ b1.toNat ≤ hiAt b0.toNat 1
            unfold loAt hiAt bLo bHi
            (repeat' split) <;> omega
          · rw [okAt_iff (b := b2) rfl]
            show loAt b0.toNat 2 ≤ b2.toNat ∧ b2.toNat ≤ hiAt b0.toNat 2
            unfold loAt hiAt
            (repeat' split) <;> omega
        have hst2 : stopP ([b0, b1, b2] ++ rest) ≤ 3 := stop_le _ hb (by omega)
        have hx := next_full (bs := [b0, b1, b2] ++ rest) (by omega) (by omega)
        rw [hb] at hx
        refine ⟨?_, hx.2⟩
        rw [hx.1]
        simp only [val, if_true, if_neg (show ¬ (3 = 1) from by omega), if_neg (show ¬ (3 = 2) from by omega)]
        show ((b0.toNat % 16 * 4096 + b1.toNat % 64 * 64 + b2.toNat % 64 : Nat) : Int) = c
        omega
      · have e : Lib.encodeRune c = [(240 + c / 262144).toNat.toUInt8, (128 + c / 4096 % 64).toNat.toUInt8, (128 + c / 64 % 64).toNat.toUInt8, (128 + c % 64).toNat.toUInt8] := by simp [Lib.encodeRune, Lib.encodeRuneZ_four (by omega : 65536 ≤ c) h1]
        rw [e]
        have g0 := b_of (240 + c / 262144) (by omega) (by omega)
        have g1 := b_of (128 + c / 4096 % 64) (by omega) (by omega)
        have g2 := b_of (128 + c / 64 % 64) (by omega) (by omega)
        have g3 := b_of (128 + c % 64) (by omega) (by omega)
        generalize (240 + c / 262144).toNat.toUInt8 = b0 at *
        generalize (128 + c / 4096 % 64).toNat.toUInt8 = b1 at *
        generalize (128 + c / 64 % 64).toNat.toUInt8 = b2 at *
        generalize (128 + c % 64).toNat.toUInt8 = b3 at *
        have hb : bN (((([b0, b1, b2, b3] ++ rest)[0]?).getD 0).toNat) = 4 := by
          show bN b0.toNat = 4
          unfold bN; rw [if_neg (by omega), if_neg (by omega), if_neg (by omega), if_neg (by omega)]
        have hst : 4 ≤ stopP ([b0, b1, b2, b3] ++ rest) := by
          rw [stop_ge _ 4 (by omega) (by omega)]
          intro j j1 j2
          obtain rfl | rfl | rfl : j = 1 ∨ j = 2 ∨ j = 3 := by omega
          · rw [okAt_iff (b := b1) rfl]
            show loAt b0.toNat 1 ≤ b1.toNat ∧ b1.toNat ≤ hiAt b0.toNat 1
            unfold loAt hiAt bLo bHi
            (repeat' split) <;> omega
          · rw [okAt_iff (b := b2) rfl]
            show loAt b0.toNat 2 ≤ b2.toNat ∧ b2.toNat ≤ hiAt b0.toNat 2
            unfold loAt hiAt
            (repeat' split) <;> omega
          · rw [okAt_iff (b := b3) rfl]
            show loAt b0.toNat 3 ≤ b3.toNat ∧ b3.toNat ≤ hiAt b0.toNat 3
            unfold loAt hiAt
            (repeat' split) <;> omega
        have hst2 : stopP ([b0, b1, b2, b3] ++ rest) ≤ 4 := stop_le _ hb (by omega)
        have hx := next_full (bs := [b0, b1, b2, b3] ++ rest) (by omega) (by omega)
        rw [hb] at hx
        refine ⟨?_, hx.2⟩
        rw [hx.1]
        simp only [val, if_true, if_neg (show ¬ (4 = 1) from by omega), if_neg (show ¬ (4 = 2) from by omega), if_neg (show ¬ (4 = 3) from by omega)]
        show ((b0.toNat % 8 * 262144 + b1.toNat % 64 * 4096 + b2.toNat % 64 * 64 + b3.toNat % 64 : Nat) : Int) = c
        omega

theorem enc_ne (c : Int) (rest : List UInt8) : Lib.encodeRune c ++ rest ≠ [] := by
  intro e
  have h := (encode_len c).1
  rw [(List.append_eq_nil_iff.1 e).1] at h
  simp at h
/-- A character that a sheet may hold. -/
def Plain (c : Int) : Prop := isB c = true ∧ c ≠ 0 ∧ c ≠ 12 ∧ c ≠ 13
theorem readF_write : ∀ (l : List Int) (f : Nat), (writeP l).length ≤ f → (∀ c ∈ l, Plain c) → readF f (writeP l) = l
  | [], f, _, _ => by cases f <;> simp [readF, writeP]
  | c :: l, f, h, hl => by
    have hc := hl c (by simp)
    have hn := next_enc c hc.1 (writeP l)
    have hw : writeP (c :: l) = Lib.encodeRune c ++ writeP l := by simp [writeP]
    have h1 := (encode_len c).1
    rw [hw] at h ⊢
    rw [List.length_append] at h
    obtain ⟨g, rfl⟩ : ∃ g, f = g + 1 := ⟨f - 1, by omega⟩
    rw [readF_char g (enc_ne c _) (by rw [hn.1]; exact hc.2.1) (by rw [hn.1]; exact hc.2.2.2) (by rw [hn.1]; exact hc.2.2.1), hn.1, hn.2, List.drop_left]
    rw [readF_write l g (by omega) (fun d hd => hl d (by simp [hd]))]
theorem read_write (l : List Int) (h : ∀ c ∈ l, Plain c) : readP (writeP l) = l := readF_write l _ (Nat.le_refl _) h
end Go.Proofs.YtfhdihdafmahgaaGreatDoor
/- What the language's own reading of a string's characters finds: a character's bytes are read as it; what is read, and is not the invalid one, stands there as its bytes. No program in sight. -/
set_option linter.unusedVariables false
set_option linter.unusedSimpArgs false
namespace Go.Proofs.YtfhdihdafmahgaaGreatDoor
open Go.RowKit Rn
theorem byte_eq {b : UInt8} {z : Int} (h0 : 0 ≤ z) (h1 : z < 256) (h : (b.toNat : Int) = z) : z.toNat.toUInt8 = b := by
  apply UInt8.toNat_inj.1
  rw [b_of z h0 h1]; omega
theorem take_two (l : List UInt8) (i : Nat) (h : i + 1 < l.length) : (l.drop i).take 2 = [l[i]?.getD 0, l[i + 1]?.getD 0] := by
  rw [List.getElem?_eq_getElem (by omega), List.getElem?_eq_getElem h, List.drop_eq_getElem_cons (by omega), List.drop_eq_getElem_cons h]; rfl
theorem take_three (l : List UInt8) (i : Nat) (h : i + 2 < l.length) : (l.drop i).take 3 = [l[i]?.getD 0, l[i + 1]?.getD 0, l[i + 2]?.getD 0] := by
  rw [List.getElem?_eq_getElem (by omega), List.getElem?_eq_getElem (show i + 1 < l.length by omega), List.getElem?_eq_getElem h, List.drop_eq_getElem_cons (by omega), List.drop_eq_getElem_cons (show i + 1 < l.length by omega), List.drop_eq_getElem_cons h]; rfl
theorem take_four (l : List UInt8) (i : Nat) (h : i + 3 < l.length) : (l.drop i).take 4 = [l[i]?.getD 0, l[i + 1]?.getD 0, l[i + 2]?.getD 0, l[i + 3]?.getD 0] := by
  rw [List.getElem?_eq_getElem (by omega), List.getElem?_eq_getElem (show i + 1 < l.length by omega), List.getElem?_eq_getElem (show i + 2 < l.length by omega), List.getElem?_eq_getElem h, List.drop_eq_getElem_cons (by omega), List.drop_eq_getElem_cons (show i + 1 < l.length by omega), List.drop_eq_getElem_cons (show i + 2 < l.length by omega), List.drop_eq_getElem_cons h]; rfl
/-- what is read and is not wrong stands there -/
theorem decode_enc' (l : List UInt8) (i : Nat) (h : i < l.length) (hne : ¬ ((Utf8.decode (bytesOf l) i).1 = 65533 ∧ (Utf8.decode (bytesOf l) i).2 = 1)) :
    isB ((Utf8.decode (bytesOf l) i).1 : Int) = true ∧ i + (Utf8.decode (bytesOf l) i).2 ≤ l.length ∧ (l.drop i).take (Utf8.decode (bytesOf l) i).2 = Lib.encodeRune ((Utf8.decode (bytesOf l) i).1 : Int) := by
  rw [Lib.decode_at, bytesOf_size] at *
  rw [bytesOf_get, bytesOf_get, bytesOf_get, bytesOf_get] at *
  have b0 := UInt8.toNat_lt (l[i]?.getD 0)
  have b1 := UInt8.toNat_lt (l[i + 1]?.getD 0)
  have b2 := UInt8.toNat_lt (l[i + 2]?.getD 0)
  have b3 := UInt8.toNat_lt (l[i + 3]?.getD 0)
  have t1 : (l.drop i).take 1 = [l[i]?.getD 0] := by
    rw [List.getElem?_eq_getElem h, List.drop_eq_getElem_cons h]; rfl
  have t2 := take_two l i
  have t3 := take_three l i
  have t4 := take_four l i
  generalize hc0 : l[i]?.getD 0 = c0 at *
  generalize hc1 : l[i + 1]?.getD 0 = c1 at *
  generalize hc2 : l[i + 2]?.getD 0 = c2 at *
  generalize hc3 : l[i + 3]?.getD 0 = c3 at *
  revert hne
  unfold Lib.decodeN
  split
  · intro _
    have e : Lib.encodeRune (c0.toNat : Int) = [c0] := by
      have : Lib.encodeRune (c0.toNat : Int) = [((c0.toNat : Int)).toNat.toUInt8] := by simp [Lib.encodeRune, Lib.encodeRuneZ_one (by omega : (0 : Int) ≤ c0.toNat) (by omega : (c0.toNat : Int) ≤ 127)]
      rw [this, byte_eq (by omega) (by omega) rfl]
    refine ⟨?_, by omega, ?_⟩
    · unfold isB; simp; omega
    · rw [t1, e]
  · split
    · split
      · rename_i h1 h2 h3
        intro _
        refine ⟨?_, by simp only; omega, ?_⟩
        · unfold isB; simp only [decide_eq_true_eq]; omega
        · simp only
          rw [t2 (by omega)]
          unfold Lib.encodeRune
          rw [Lib.encodeRuneZ_two (r := ((c0.toNat % 32 * 64 + c1.toNat % 64 : Nat) : Int)) (by omega) (by omega)]
          simp only [List.map_cons, List.map_nil]
          rw [byte_eq (b := c0) (by omega) (by omega) (by omega), byte_eq (b := c1) (by omega) (by omega) (by omega)]
      · intro h; exact absurd ⟨rfl, rfl⟩ h
    · split
      · split
        · rename_i h1 h2 h3 h4
          intro _
          refine ⟨?_, by simp only; omega, ?_⟩
          · unfold isB; simp only [decide_eq_true_eq]; omega
          · simp only
            rw [t3 (by omega)]
            unfold Lib.encodeRune
            rw [Lib.encodeRuneZ_three (r := ((c0.toNat % 16 * 4096 + c1.toNat % 64 * 64 + c2.toNat % 64 : Nat) : Int)) (by omega)]
            simp only [List.map_cons, List.map_nil]
            rw [byte_eq (b := c0) (by omega) (by omega) (by omega), byte_eq (b := c1) (by omega) (by omega) (by omega), byte_eq (b := c2) (by omega) (by omega) (by omega)]
        · intro h; exact absurd ⟨rfl, rfl⟩ h
      · split
        · split
          · rename_i h1 h2 h3 h4 h5
            intro _
            refine ⟨?_, by simp only; omega, ?_⟩
            · unfold isB; simp only [decide_eq_true_eq]; omega
            · simp only
              rw [t4 (by omega)]
              unfold Lib.encodeRune
              rw [Lib.encodeRuneZ_four (r := ((c0.toNat % 8 * 262144 + c1.toNat % 64 * 4096 + c2.toNat % 64 * 64 + c3.toNat % 64 : Nat) : Int)) (by omega) (by omega)]
              simp only [List.map_cons, List.map_nil]
              rw [byte_eq (b := c0) (by omega) (by omega) (by omega), byte_eq (b := c1) (by omega) (by omega) (by omega), byte_eq (b := c2) (by omega) (by omega) (by omega), byte_eq (b := c3) (by omega) (by omega) (by omega)]
          · intro h; exact absurd ⟨rfl, rfl⟩ h
        · intro h; exact absurd ⟨rfl, rfl⟩ h
/-- what is read and is not the invalid one stands there -/
theorem decode_enc (l : List UInt8) (i : Nat) (h : i < l.length) (hne : (Utf8.decode (bytesOf l) i).1 ≠ 65533) :
    isB ((Utf8.decode (bytesOf l) i).1 : Int) = true ∧ i + (Utf8.decode (bytesOf l) i).2 ≤ l.length ∧ (l.drop i).take (Utf8.decode (bytesOf l) i).2 = Lib.encodeRune ((Utf8.decode (bytesOf l) i).1 : Int) := decode_enc' l i h (fun e => hne e.1)
theorem isB_range' {c : Int} (h : isB c = true) : 0 ≤ c ∧ c ≤ 1114111 := by unfold isB at h; simp at h; omega
end Go.Proofs.YtfhdihdafmahgaaGreatDoor
/- Layer 4: a text's characters: which bytes are UTF-8, as the library and the language read them. No program in sight. -/
set_option linter.unusedVariables false
set_option linter.unusedSimpArgs false
namespace Go.Proofs.YtfhdihdafmahgaaGreatDoor
open Go.RowKit Rn
namespace Tp
/-- the characters of a text that is UTF-8 -/
def utfF : Nat → List UInt8 → Option (List Int)
  | 0, _ => some []
  | n + 1, l => if l = [] then some [] else if (Lib.decodeL l).1 = 65533 ∧ (Lib.decodeL l).2 = 1 then none else (utfF n (l.drop (Lib.decodeL l).2)).map (((Lib.decodeL l).1 : Int) :: ·)
def utfP (l : List UInt8) : Option (List Int) := utfF l.length l
end Tp
open Tp
theorem decL_at (l : List UInt8) : Lib.decodeL l = Utf8.decode (bytesOf l) 0 := rfl
theorem decL_N (l : List UInt8) : Lib.decodeL l = Lib.decodeN l.length (l[0]?.getD 0).toNat (l[1]?.getD 0).toNat (l[2]?.getD 0).toNat (l[3]?.getD 0).toNat := by
  rw [decL_at, Lib.decode_at, bytesOf_size, bytesOf_get, bytesOf_get, bytesOf_get, bytesOf_get]; rfl
theorem decL_pos {l : List UInt8} (h : l ≠ []) : 1 ≤ (Lib.decodeL l).2 := by
  rw [decL_N]
  unfold Lib.decodeN
  (repeat' split) <;> simp
theorem decL_enc {l : List UInt8} (hne : l ≠ []) (h : ¬ ((Lib.decodeL l).1 = 65533 ∧ (Lib.decodeL l).2 = 1)) :
    isB ((Lib.decodeL l).1 : Int) = true ∧ (Lib.decodeL l).2 ≤ l.length ∧ l.take (Lib.decodeL l).2 = Lib.encodeRune ((Lib.decodeL l).1 : Int) := by
  have hl := List.length_pos_iff.2 hne
  rw [decL_at] at *
  have := decode_enc' l 0 hl h
  rw [Nat.zero_add, List.drop_zero] at this
  exact this
theorem decL_write (c : Int) (hc : isB c = true) (rest : List UInt8) : Lib.decodeL (Lib.encodeRune c ++ rest) = (c.toNat, (Lib.encodeRune c).length) := by
  have hc' : 0 ≤ c ∧ c ≤ 1114111 ∧ (c < 55296 ∨ 57343 < c) := by simpa [isB] using hc
  obtain ⟨h0, h1, h2⟩ := hc'
  by_cases c1 : c < 128
  · have e : Lib.encodeRune c = [c.toNat.toUInt8] := by simp [Lib.encodeRune, Lib.encodeRuneZ_one h0 (by omega : c ≤ 127)]
    rw [e]
    have g0 := b_of c h0 (by omega)
    generalize c.toNat.toUInt8 = b0 at *
    rw [decL_N]
    unfold Lib.decodeN
    simp
    rw [if_pos (by omega), g0]
  · by_cases c2 : c < 2048
    · have e : Lib.encodeRune c = [(192 + c / 64).toNat.toUInt8, (128 + c % 64).toNat.toUInt8] := by simp [Lib.encodeRune, Lib.encodeRuneZ_two (by omega : 128 ≤ c) (by omega)]
      rw [e]
      have g0 := b_of (192 + c / 64) (by omega) (by omega)
      have g1 := b_of (128 + c % 64) (by omega) (by omega)
      generalize (192 + c / 64).toNat.toUInt8 = b0 at *
      generalize (128 + c % 64).toNat.toUInt8 = b1 at *
      rw [decL_N]
      unfold Lib.decodeN
      simp
      rw [if_neg (by omega), if_pos (by omega), if_pos (by omega)]
      simp; omega
    · by_cases c3 : c < 65536
      · have e : Lib.encodeRune c = [(224 + c / 4096).toNat.toUInt8, (128 + c / 64 % 64).toNat.toUInt8, (128 + c % 64).toNat.toUInt8] := by simp [Lib.encodeRune, Lib.encodeRuneZ_three (r := c) (by omega)]
        rw [e]
        have g0 := b_of (224 + c / 4096) (by omega) (by omega)
        have g1 := b_of (128 + c / 64 % 64) (by omega) (by omega)
        have g2 := b_of (128 + c % 64) (by omega) (by omega)
        generalize (224 + c / 4096).toNat.toUInt8 = b0 at *
        generalize (128 + c / 64 % 64).toNat.toUInt8 = b1 at *
        generalize (128 + c % 64).toNat.toUInt8 = b2 at *
        rw [decL_N]
        unfold Lib.decodeN
        simp
        rw [if_neg (by omega), if_neg (by omega), if_pos (by omega), if_pos (by omega)]
        simp; omega
      · have e : Lib.encodeRune c = [(240 + c / 262144).toNat.toUInt8, (128 + c / 4096 % 64).toNat.toUInt8, (128 + c / 64 % 64).toNat.toUInt8, (128 + c % 64).toNat.toUInt8] := by simp [Lib.encodeRune, Lib.encodeRuneZ_four (by omega : 65536 ≤ c) (by omega)]
        rw [e]
        have g0 := b_of (240 + c / 262144) (by omega) (by omega)
        have g1 := b_of (128 + c / 4096 % 64) (by omega) (by omega)
        have g2 := b_of (128 + c / 64 % 64) (by omega) (by omega)
        have g3 := b_of (128 + c % 64) (by omega) (by omega)
        generalize (240 + c / 262144).toNat.toUInt8 = b0 at *
        generalize (128 + c / 4096 % 64).toNat.toUInt8 = b1 at *
        generalize (128 + c / 64 % 64).toNat.toUInt8 = b2 at *
        generalize (128 + c % 64).toNat.toUInt8 = b3 at *
        rw [decL_N]
        unfold Lib.decodeN
        simp
        rw [if_neg (by omega), if_neg (by omega), if_neg (by omega), if_pos (by omega), if_pos (by omega)]
        simp; omega
theorem utfF_fuel : ∀ (n m : Nat) (l : List UInt8), l.length ≤ n → l.length ≤ m → utfF n l = utfF m l
  | 0, m, l, h, _ => by
    have : l = [] := List.eq_nil_of_length_eq_zero (by omega)
    subst this
    cases m <;> simp [utfF]
  | n + 1, 0, l, _, h => by
    have : l = [] := List.eq_nil_of_length_eq_zero (by omega)
    subst this
    simp [utfF]
  | n + 1, m + 1, l, h1, h2 => by
    by_cases hl : l = []
    · subst hl; simp [utfF]
    · have hp := decL_pos hl
      have hlen := List.length_pos_iff.2 hl
      unfold utfF
      rw [if_neg hl, if_neg hl, utfF_fuel n m (l.drop (Lib.decodeL l).2) (by rw [List.length_drop]; omega) (by rw [List.length_drop]; omega)]
theorem utfP_nil : utfP [] = some [] := rfl
theorem utfP_step {l : List UInt8} (hl : l ≠ []) : utfP l = if (Lib.decodeL l).1 = 65533 ∧ (Lib.decodeL l).2 = 1 then none else (utfP (l.drop (Lib.decodeL l).2)).map (((Lib.decodeL l).1 : Int) :: ·) := by
  have hp := decL_pos hl
  have hlen := List.length_pos_iff.2 hl
  obtain ⟨n, hn⟩ : ∃ n, l.length = n + 1 := ⟨l.length - 1, by omega⟩
  unfold utfP
  rw [hn]
  conv => lhs; unfold utfF
  rw [if_neg hl, utfF_fuel n (l.drop (Lib.decodeL l).2).length _ (by rw [List.length_drop]; omega) (Nat.le_refl _)]
theorem utf_valid (l : List UInt8) : Lib.validD l = (utfP l).isSome := by
  have key : ∀ n, ∀ l : List UInt8, l.length ≤ n → Lib.validD l = (utfP l).isSome := by
    intro n
    induction n with
    | zero =>
      intro l h
      have : l = [] := List.eq_nil_of_length_eq_zero (by omega)
      subst this; rfl
    | succ n ih =>
      intro l h
      by_cases hl : l = []
      · subst hl; rfl
      · have hp := decL_pos hl
        have hlen := List.length_pos_iff.2 hl
        rw [Lib.validD_step l hl, utfP_step hl]
        split
        · rfl
        · rw [ih _ (by rw [List.length_drop]; omega), Option.isSome_map]
  exact key _ l (Nat.le_refl _)
theorem utf_write : ∀ (cs : List Int), (∀ c ∈ cs, isB c = true) → utfP (writeP cs) = some cs
  | [], _ => by simp [writeP, utfP_nil]
  | c :: cs, h => by
    have hc := h c (by simp)
    have hw : writeP (c :: cs) = Lib.encodeRune c ++ writeP cs := by simp [writeP]
    have hd := decL_write c hc (writeP cs)
    have hr := isB_range' hc
    have hne : writeP (c :: cs) ≠ [] := by rw [hw]; exact enc_ne c _
    have hlen := (encode_len c).1
    rw [utfP_step hne, hw, hd]
    simp only
    rw [if_neg, List.drop_left, utf_write cs (fun d hd => h d (by simp [hd]))]
    · simp; omega
    · rintro ⟨e1, e2⟩
      have : c = 65533 := by omega
      subst this
      exact absurd e2 (by decide)
theorem utf_some {l : List UInt8} {cs : List Int} (h : utfP l = some cs) : l = writeP cs ∧ ∀ c ∈ cs, isB c = true := by
  have key : ∀ n, ∀ (l : List UInt8) (cs : List Int), l.length ≤ n → utfP l = some cs → l = writeP cs ∧ ∀ c ∈ cs, isB c = true := by
    intro n
    induction n with
    | zero =>
      intro l cs hl h
      have : l = [] := List.eq_nil_of_length_eq_zero (by omega)
      subst this
      rw [utfP_nil] at h
      injection h with h; subst h
      exact ⟨by simp [writeP], by simp⟩
    | succ n ih =>
      intro l cs hl h
      by_cases hne : l = []
      · subst hne
        rw [utfP_nil] at h
        injection h with h; subst h
        exact ⟨by simp [writeP], by simp⟩
      · have hp := decL_pos hne
        have hlen := List.length_pos_iff.2 hne
        rw [utfP_step hne] at h
        split at h
        · cases h
        · rename_i hbad
          obtain ⟨e1, e2, e3⟩ := decL_enc hne hbad
          cases hr : utfP (l.drop (Lib.decodeL l).2) with
          | none => rw [hr] at h; cases h
          | some r =>
            rw [hr] at h
            simp only [Option.map_some, Option.some.injEq] at h
            subst h
            obtain ⟨f1, f2⟩ := ih _ r (by rw [List.length_drop]; omega) hr
            have hw : writeP (((Lib.decodeL l).1 : Int) :: r) = Lib.encodeRune ((Lib.decodeL l).1 : Int) ++ writeP r := by simp [writeP]
            refine ⟨?_, fun c hc => ?_⟩
            · rw [hw, ← e3, ← f1, List.take_append_drop]
            · rcases List.mem_cons.1 hc with rfl | hc
              · exact e1
              · exact f2 c hc
  exact key _ l cs (Nat.le_refl _) h
end Go.Proofs.YtfhdihdafmahgaaGreatDoor
set_option linter.unusedVariables false
set_option linter.unusedSimpArgs false
namespace Go.Proofs.YtfhdihdafmahgaaGreatDoor
open Go.RowKit
namespace Fx
def isD (b : UInt8) : Bool := decide (48 ≤ b.toNat ∧ b.toNat ≤ 57)
/-- how many digits a text begins with -/
def digs (l : List UInt8) : Nat := (l.takeWhile isD).length
/-- how many bytes a sign has there -/
def sgn : List UInt8 → Nat
  | [] => 0
  | b :: _ => if b.toNat = 43 ∨ b.toNat = 45 then 1 else 0
def isE (b : Option UInt8) : Bool := match b with
  | some b => decide (b.toNat = 101 ∨ b.toNat = 69)
  | none => false
/-- how many bytes the exponent has, behind its letter -/
def expLen (l : List UInt8) : Nat := if 0 < digs (l.drop (sgn l)) then sgn l + digs (l.drop (sgn l)) else 0
/-- where the digits end, the point and the ones behind it among them -/
def bodyLen (l : List UInt8) : Nat :=
  let a := sgn l + digs (l.drop (sgn l))
  if l[a]? = some 46 ∧ 0 < digs (l.drop (a + 1)) then a + 1 + digs (l.drop (a + 1)) else a
/-- is there a digit at all? -/
def some_ (l : List UInt8) : Bool :=
  let a := sgn l + digs (l.drop (sgn l))
  decide (0 < digs (l.drop (sgn l)) ∨ (l[a]? = some 46 ∧ 0 < digs (l.drop (a + 1))))
def lenP (l : List UInt8) : Nat :=
  if some_ l = false then 0 else
  let a := bodyLen l
  if isE l[a]? = true ∧ 0 < expLen (l.drop (a + 1)) then a + 1 + expLen (l.drop (a + 1)) else a
end Fx
open Fx
theorem digs_le (l : List UInt8) : digs l ≤ l.length := by
  unfold digs
  exact (List.takeWhile_prefix isD).length_le
theorem sgn_le (l : List UInt8) : sgn l ≤ l.length ∧ sgn l ≤ 1 := by
  cases l with
  | nil => simp [sgn]
  | cons b l => simp only [sgn]; split <;> simp
def digitText : ByteArray := ⟨#[48, 49, 50, 51, 52, 53, 54, 55, 56, 57]⟩
theorem digit_in : ∀ b : Fin 256, digitText.data.toList.contains (UInt8.ofNat b.val) = isD (UInt8.ofNat b.val) := by decide +kernel
theorem digit_in' (b : UInt8) : digitText.data.toList.contains b = isD b := by
  have h := digit_in ⟨b.toNat, b.toNat_lt⟩
  have e : UInt8.ofNat b.toNat = b := by simp
  simp only [e] at h
  exact h
theorem trim_digits (l : List UInt8) : Lib.trimLeftS l digitText.data.toList = l.drop (digs l) := by
  unfold Lib.trimLeftS digs
  have : (fun b => digitText.data.toList.contains b) = isD := funext digit_in'
  rw [this]
  induction l with
  | nil => rfl
  | cons b l ih =>
    cases h : isD b with
    | true => simp [List.dropWhile_cons, List.takeWhile_cons, h, ih]
    | false => simp [List.dropWhile_cons, List.takeWhile_cons, h]

set_option maxRecDepth 100000 in
theorem fx_digits (l : List UInt8) (w : World) (hl : l.length ≤ 9223372036854775807) :
    Calls Tryz.prog 154 #[.string (bytesOf l)] w fun e w' => e = .returned (.int .i64 (digs l : Nat)) ∧ Below w.heap.size w w' := by
  have hd := digs_le l
  have hs := bytesOf_size l
  have hs2 := bytesOf_size (l.drop (digs l))
  rw [List.length_drop] at hs2
  have Hs := Lib.hid hs
  have Hs2 := Lib.hid hs2
  clear hs hs2
  go_enter Tryz.func154, Tryz.ntmps154
  go_wp2_with fail
  refine (Any.strings_TrimLeft_laid Tryz.lays161 (by kernel_rfl) (bytesOf l) digitText w (by decide) (ascii_of_all (by decide))).mono ?_
  rintro e w1 ⟨rfl, hb⟩
  rw [bytesOf_list, trim_digits]
  rw [show (⟨(List.drop (digs l) l).toArray⟩ : ByteArray) = bytesOf (l.drop (digs l)) from rfl]
  go_wp2_with fail
  go_ret
  refine ⟨ret_int ?_, hb⟩
  rw [Hs.out, Hs2.out, IntWalk.wrap64_in _ (by omega)]
  omega
set_option maxRecDepth 100000 in
theorem fx_sign (l : List UInt8) (w : World) (hl : l.length ≤ 9223372036854775807) :
    Calls Tryz.prog 153 #[.string (bytesOf l)] w fun e w' => e = .returned (.int .i64 (sgn l : Nat)) ∧ w = w' := by
  cases l with
  | nil =>
    obtain ⟨e1, e2⟩ := str_none
    go_enter Tryz.func153, Tryz.ntmps153
    go_wp2
    go_ret
    exact ⟨rfl, rfl⟩
  | cons b l =>
    have hat := str_at (P := Tryz.prog) (T := 9) Tryz.underlying9 (b :: l) .i64 0 b rfl
    rw [Int.ofNat_zero] at hat
    obtain ⟨e1, e2⟩ := str_some (l := b :: l) (by simp)
    have hv : sgn (b :: l) = if b.toNat = 43 ∨ b.toNat = 45 then 1 else 0 := rfl
    by_cases h1 : b.toNat = 43
    · rw [if_pos (.inl h1)] at hv
      have Hv := Lib.hid hv
      clear hv
      rw [h1] at hat
      go_enter Tryz.func153, Tryz.ntmps153
      go_wp2
      go_ret
      exact ⟨ret_int (by rw [Hv.out]; rfl), rfl⟩
    · by_cases h2 : b.toNat = 45
      · rw [if_pos (.inr h2)] at hv
        have Hv := Lib.hid hv
        clear hv
        rw [h2] at hat
        go_enter Tryz.func153, Tryz.ntmps153
        go_wp2
        go_ret
        exact ⟨ret_int (by rw [Hv.out]; rfl), rfl⟩
      · have hc1 : ((b.toNat : Int) == 43) = false := byte_ne h1
        have hc2 : ((b.toNat : Int) == 45) = false := byte_ne h2
        rw [if_neg (by omega)] at hv
        have Hv := Lib.hid hv
        clear hv
        go_enter Tryz.func153, Tryz.ntmps153
        go_wp2
        go_ret
        exact ⟨ret_int (by rw [Hv.out]; rfl), rfl⟩
end Go.Proofs.YtfhdihdafmahgaaGreatDoor
