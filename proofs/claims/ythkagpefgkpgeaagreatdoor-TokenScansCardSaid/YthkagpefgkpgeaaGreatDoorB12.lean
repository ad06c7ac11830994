/- Layer 3: small facts on rows of one's own. -/
import Derived.Test.YthkagpefgkpgeaaGreatDoorB11
import Derived.Test.YthkagpefgkpgeaaGreatDoorB01
import Derived.Test.YthkagpefgkpgeaaGreatDoorB03
/- Plain laws of layer 2: what was written is read as it was; what is read is characters; bytes parted ahead of one below 0x80 that is no 10. No program in sight. -/
set_option linter.unusedVariables false
set_option linter.unusedSimpArgs false
namespace Go.Proofs.YthkagpefgkpgeaaGreatDoor
open Go.RowKit Rn

theorem b_of (z : Int) (h0 : 0 ≤ z) (h1 : z < 256) : (z.toNat.toUInt8).toNat = z.toNat := by simp; omega

theorem scan_le_add (bs : List UInt8) (lo hi : Nat) : ∀ f k, scan bs lo hi f k ≤ k + f
  | 0, k => Nat.le_refl _
  | f + 1, k => by
    unfold scan; split
    · exact Nat.le_trans (scan_le_add bs lo hi f (k + 1)) (by omega)
    · omega
theorem stop_le (bs : List UInt8) {n : Nat} (h : bN (bs[0]?.getD 0).toNat = n) (h0 : 1 ≤ n) : stopP bs ≤ n := by
  have := scan_le_add bs (bLo (bs[0]?.getD 0).toNat) (bHi (bs[0]?.getD 0).toNat) (bN (bs[0]?.getD 0).toNat - 1) 1
  unfold stopP
  simp only
  omega
/-- The bytes of a character are read as it, whatever stands behind. -/
theorem next_enc (c : Int) (hc : isB c = true) (rest : List UInt8) : nextC (Lib.encodeRune c ++ rest) = c ∧ nextN (Lib.encodeRune c ++ rest) = (Lib.encodeRune c).length := by
  have hc' : 0 ≤ c ∧ c ≤ 1114111 ∧ (c < 55296 ∨ 57343 < c) := by simpa [isB] using hc
  clear hc
  obtain ⟨h0, h1, h2⟩ := hc'
  by_cases c1 : c < 128
  · have e : Lib.encodeRune c = [c.toNat.toUInt8] := by simp [Lib.encodeRune, Lib.encodeRuneZ_one h0 (by omega : c ≤ 127)]
    rw [e]
    have hb : bN (((([c.toNat.toUInt8] ++ rest)[0]?).getD 0).toNat) = 1 := by
      show bN (c.toNat.toUInt8).toNat = 1
      rw [b_of c h0 (by omega)]; unfold bN; rw [if_pos (by omega)]
    have hst : stopP ([c.toNat.toUInt8] ++ rest) = 1 := by unfold stopP; simp only; rw [hb]; rfl
    have hx := next_full (bs := [c.toNat.toUInt8] ++ rest) (by omega) (by rw [hst, hb])
    rw [hb] at hx
    refine ⟨?_, hx.2⟩
    rw [hx.1]
    simp only [val, if_true]
    show (((c.toNat.toUInt8).toNat : Nat) : Int) = c
    rw [b_of c h0 (by omega)]; omega
  · by_cases c2 : c < 2048
    · have e : Lib.encodeRune c = [(192 + c / 64).toNat.toUInt8, (128 + c % 64).toNat.toUInt8] := by simp [Lib.encodeRune, Lib.encodeRuneZ_two (by omega : 128 ≤ c) (by omega)]
      rw [e]
      have g0 := b_of (192 + c / 64) (by omega) (by omega)
      have g1 := b_of (128 + c % 64) (by omega) (by omega)
      generalize (192 + c / 64).toNat.toUInt8 = b0 at *
      generalize (128 + c % 64).toNat.toUInt8 = b1 at *
      have hb : bN (((([b0, b1] ++ rest)[0]?).getD 0).toNat) = 2 := by
        show bN b0.toNat = 2
        unfold bN; rw [if_neg (by omega), if_neg (by omega), if_pos (by omega)]
      have hst : 2 ≤ stopP ([b0, b1] ++ rest) := by
        rw [stop_ge _ 2 (by omega) (by omega)]
        intro j j1 j2
        obtain rfl : j = 1 := by omega
        rw [okAt_iff (b := b1) rfl]
        show loAt b0.toNat 1 ≤ b1.toNat ∧ b1.toNat ≤ hiAt b0.toNat 1
        unfold loAt hiAt bLo bHi
        (repeat' split) <;> omega
      have hst2 : stopP ([b0, b1] ++ rest) ≤ 2 := stop_le _ hb (by omega)
      have hx := next_full (bs := [b0, b1] ++ rest) (by omega) (by omega)
      rw [hb] at hx
      refine ⟨?_, hx.2⟩
      rw [hx.1]
      simp only [val, if_true, if_neg (show ¬ (2 = 1) from by omega)]
      show ((b0.toNat % 32 * 64 + b1.toNat % 64 : Nat) : Int) = c
      omega
    · by_cases c3 : c < 65536
      · have e : Lib.encodeRune c = [(224 + c / 4096).toNat.toUInt8, (128 + c / 64 % 64).toNat.toUInt8, (128 + c % 64).toNat.toUInt8] := by simp [Lib.encodeRune, Lib.encodeRuneZ_three (r := c) (by omega)]
        rw [e]
        have g0 := b_of (224 + c / 4096) (by omega) (by omega)
        have g1 := b_of (128 + c / 64 % 64) (by omega) (by omega)
        have g2 := b_of (128 + c % 64) (by omega) (by omega)
        generalize (224 + c / 4096).toNat.toUInt8 = b0 at *
        generalize (128 + c / 64 % 64).toNat.toUInt8 = b1 at *
        generalize (128 + c % 64).toNat.toUInt8 = b2 at *
        have hb : bN (((([b0, b1, b2] ++ rest)[0]?).getD 0).toNat) = 3 := by
          show bN b0.toNat = 3
          unfold bN; rw [if_neg (by omega), if_neg (by omega), if_neg (by omega), if_pos (by omega)]
        have hst : 3 ≤ stopP ([b0, b1, b2] ++ rest) := by
          rw [stop_ge _ 3 (by omega) (by omega)]
          intro j j1 j2
          obtain rfl | rfl : j = 1 ∨ j = 2 := by omega
          · rw [okAt_iff (b := b1) rfl]
            show loAt b0.toNat 1 ≤ b1.toNat ∧ b1.toNat ≤ hiAt b0.toNat 1
            unfold loAt hiAt bLo bHi
            (repeat' split) <;> omega
          · rw [okAt_iff (b := b2) rfl]
            show loAt b0.toNat 2 ≤ b2.toNat ∧ b2.toNat ≤ hiAt b0.toNat 2
            unfold loAt hiAt
            (repeat' split) <;> omega
        have hst2 : stopP ([b0, b1, b2] ++ rest) ≤ 3 := stop_le _ hb (by omega)
        have hx := next_full (bs := [b0, b1, b2] ++ rest) (by omega) (by omega)
        rw [hb] at hx
        refine ⟨?_, hx.2⟩
        rw [hx.1]
        simp only [val, if_true, if_neg (show ¬ (3 = 1) from by omega), if_neg (show ¬ (3 = 2) from by omega)]
        show ((b0.toNat % 16 * 4096 + b1.toNat % 64 * 64 + b2.toNat % 64 : Nat) : Int) = c
        omega
      · have e : Lib.encodeRune c = [(240 + c / 262144).toNat.toUInt8, (128 + c / 4096 % 64).toNat.toUInt8, (128 + c / 64 % 64).toNat.toUInt8, (128 + c % 64).toNat.toUInt8] := by simp [Lib.encodeRune, Lib.encodeRuneZ_four (by omega : 65536 ≤ c) h1]
        rw [e]
        have g0 := b_of (240 + c / 262144) (by omega) (by omega)
        have g1 := b_of (128 + c / 4096 % 64) (by omega) (by omega)
        have g2 := b_of (128 + c / 64 % 64) (by omega) (by omega)
        have g3 := b_of (128 + c % 64) (by omega) (by omega)
        generalize (240 + c / 262144).toNat.toUInt8 = b0 at *
        generalize (128 + c / 4096 % 64).toNat.toUInt8 = b1 at *
        generalize (128 + c / 64 % 64).toNat.toUInt8 = b2 at *
        generalize (128 + c % 64).toNat.toUInt8 = b3 at *
        have hb : bN (((([b0, b1, b2, b3] ++ rest)[0]?).getD 0).toNat) = 4 := by
          show bN b0.toNat = 4
          unfold bN; rw [if_neg (by omega), if_neg (by omega), if_neg (by omega), if_neg (by omega)]
        have hst : 4 ≤ stopP ([b0, b1, b2, b3] ++ rest) := by
          rw [stop_ge _ 4 (by omega) (by omega)]
          intro j j1 j2
          obtain rfl | rfl | rfl : j = 1 ∨ j = 2 ∨ j = 3 := by omega
          · rw [okAt_iff (b := b1) rfl]
            show loAt b0.toNat 1 ≤ b1.toNat ∧ b1.toNat ≤ hiAt b0.toNat 1
            unfold loAt hiAt bLo bHi
            (repeat' split) <;> omega
          · rw [okAt_iff (b := b2) rfl]
            show loAt b0.toNat 2 ≤ b2.toNat ∧ b2.toNat ≤ hiAt b0.toNat 2
            unfold loAt hiAt
            (repeat' split) <;> omega
          · rw [okAt_iff (b := b3) rfl]
            show loAt b0.toNat 3 ≤ b3.toNat ∧ b3.toNat ≤ hiAt b0.toNat 3
            unfold loAt hiAt
            (repeat' split) <;> omega
        have hst2 : stopP ([b0, b1, b2, b3] ++ rest) ≤ 4 := stop_le _ hb (by omega)
        have hx := next_full (bs := [b0, b1, b2, b3] ++ rest) (by omega) (by omega)
        rw [hb] at hx
        refine ⟨?_, hx.2⟩
        rw [hx.1]
        simp only [val, if_true, if_neg (show ¬ (4 = 1) from by omega), if_neg (show ¬ (4 = 2) from by omega), if_neg (show ¬ (4 = 3) from by omega)]
        show ((b0.toNat % 8 * 262144 + b1.toNat % 64 * 4096 + b2.toNat % 64 * 64 + b3.toNat % 64 : Nat) : Int) = c
        omega

theorem enc_ne (c : Int) (rest : List UInt8) : Lib.encodeRune c ++ rest ≠ [] := by
  intro e
  have h := (encode_len c).1
  rw [(List.append_eq_nil_iff.1 e).1] at h
  simp at h
/-- A character that a sheet may hold. -/
def Plain (c : Int) : Prop := isB c = true ∧ c ≠ 0 ∧ c ≠ 12 ∧ c ≠ 13
theorem readF_write : ∀ (l : List Int) (f : Nat), (writeP l).length ≤ f → (∀ c ∈ l, Plain c) → readF f (writeP l) = l
  | [], f, _, _ => by cases f <;> simp [readF, writeP]
  | c :: l, f, h, hl => by
    have hc := hl c (by simp)
    have hn := next_enc c hc.1 (writeP l)
    have hw : writeP (c :: l) = Lib.encodeRune c ++ writeP l := by simp [writeP]
    have h1 := (encode_len c).1
    rw [hw] at h ⊢
    rw [List.length_append] at h
    obtain ⟨g, rfl⟩ : ∃ g, f = g + 1 := ⟨f - 1, by omega⟩
    rw [readF_char g (enc_ne c _) (by rw [hn.1]; exact hc.2.1) (by rw [hn.1]; exact hc.2.2.2) (by rw [hn.1]; exact hc.2.2.1), hn.1, hn.2, List.drop_left]
    rw [readF_write l g (by omega) (fun d hd => hl d (by simp [hd]))]
theorem read_write (l : List Int) (h : ∀ c ∈ l, Plain c) : readP (writeP l) = l := readF_write l _ (Nat.le_refl _) h
end Go.Proofs.YthkagpefgkpgeaaGreatDoor
/- The reference's begins and Next of layer 2 are walked: Next answers just what runes.next answers. -/
set_option linter.unusedVariables false
set_option linter.unusedSimpArgs false
namespace Go.Proofs.YthkagpefgkpgeaaGreatDoor
open Go.RowKit Rn

set_option maxRecDepth 100000 in
set_option maxHeartbeats 1000000 in
theorem ref_begins_ (bs : List UInt8) (A : Option Addr) (n cap B long : Nat) (w : World) (hr : Reads w B 1 A n (bs.map b8)) (hn : 0 < n) (hcap : n ≤ 9223372036854775807) (hl2 : 2 ≤ long) (hl4 : long ≤ 4) :
    Calls Tryz.prog 47 #[.slice A n cap, .int .i64 long] w fun e w' => e = .returned (.bool (begR bs long)) ∧ w = w' := by
  have hsp := ref_span bs A n cap B long w hr hn hcap hl2 hl4
  have Hbeg : Hid (begR bs long = (let lo := (spanR bs long).1; let hi := (spanR bs long).2; if lo < 0 then false else
    let least : Int := if long = 4 then 65536 else if long = 3 then 2048 else 128; let low := max lo least; let high := min hi 1114111
    let low := if 55296 ≤ low ∧ low ≤ 57343 then 57344 else low; decide (low ≤ high))) := rfl
  have hrange : (spanR bs long).1 < 0 ∨ (0 ≤ (spanR bs long).1 ∧ (spanR bs long).1 ≤ (spanR bs long).2 ∧ (spanR bs long).2 ≤ 8388607) := by
    rcases spanR_range bs long hl2 hl4 with h | h
    · left; rw [h]; decide
    · right; exact h
  generalize hlo : (spanR bs long).1 = lo at *
  generalize hhi : (spanR bs long).2 = hi at *
  have Hsp := Lib.hid hsp
  clear hsp hlo hhi hr
  generalize begR bs long = R at *
  rcases hrange with h | ⟨h1, h2, h3⟩
  · have hR : R = false := by rw [Hbeg.out]; simp [h]
    subst hR
    clear Hbeg
    obtain rfl | rfl | rfl : long = 2 ∨ long = 3 ∨ long = 4 := by omega
    all_goals
      go_enter Tryz.func47, Tryz.ntmps47
      go_wp2_with (go_at_call 48; refine (Hsp.out).mono ?_; rintro e w' ⟨rfl, rfl⟩)
      go_ret
      exact ⟨rfl, rfl⟩
  · have hlo0 : ¬ lo < 0 := by omega
    obtain rfl | rfl | rfl : long = 2 ∨ long = 3 ∨ long = 4 := by omega
    all_goals
      go_enter Tryz.func47, Tryz.ntmps47
      go_wp2_with (go_at_call 48; refine (Hsp.out).mono ?_; rintro e w' ⟨rfl, rfl⟩)
      all_goals
        go_ret
        refine ⟨ret_bool ?_, rfl⟩
        rw [Hbeg.out, if_neg (by omega), Bool.eq_iff_iff]
        simp
        (try split) <;> omega

/-- what Next holds at the head of its outer loop: the best so far -/
def bestP (N S L : Nat) : Nat := if N ≠ 0 ∧ N < L then S else 1
def NextRel (N S : Nat) (best long : Value) : Prop := ∃ L : Nat, 2 ≤ L ∧ L ≤ 5 ∧ long = .int .i64 L ∧ best = .int .i64 (bestP N S L) ∧ (N ≠ 0 → N < L → S < N)
/-- and at the head of its inner one -/
def NextIn (N S n L : Nat) (best k : Value) : Prop := ∃ j : Nat, 1 ≤ j ∧ j ≤ L ∧ j ≤ n + 1 ∧ k = .int .i64 j ∧ (1 < j → L = N ∧ j - 1 ≤ S ∧ best = .int .i64 ((j - 1 : Nat) : Int)) ∧ (j = 1 → best = .int .i64 (bestP N S L))

set_option maxRecDepth 100000 in
set_option maxHeartbeats 2000000 in
theorem ref_next_core (b0 : UInt8) (n cap b off N S M : Nat) (C : Int) (beg : Nat → Nat → Bool) (sp : Nat → Int × Int) (w : World) (h0 : w.cell? ⟨b, off, none⟩ = some (.int .u8 b0.toNat)) (hs : ¬ b0.toNat < 128) (hn : 0 < n) (hm : n ≤ cap) (hcap : cap ≤ 9223372036854775807)
    (hcall : ∀ k L, 1 ≤ k → k ≤ L → 2 ≤ L → L ≤ 4 → k ≤ n → Calls Tryz.prog 47 #[.slice (some ⟨b, off, none⟩) k cap, .int .i64 (L : Nat)] w fun e w' => e = .returned (.bool (beg k L)) ∧ w = w')
    (hspan : ∀ L, 2 ≤ L → L ≤ 4 → L ≤ n → Calls Tryz.prog 48 #[.slice (some ⟨b, off, none⟩) L cap, .int .i64 (L : Nat)] w fun e w' => e = .returned (.tuple #[.int .i64 (sp L).1, .int .i64 (sp L).2]) ∧ w = w')
    (hbeg : ∀ k L, 1 ≤ k → k ≤ L → 2 ≤ L → L ≤ 4 → k ≤ n → beg k L = decide (L = N ∧ k ≤ S))
    (hval : ∀ L, 2 ≤ L → L ≤ 4 → L = N → L ≤ n → S = L → (sp L).1 = C ∧ M = L)
    (hnext : S < N ∨ N = 0 → C = 65533 ∧ M = (if N = 0 then 1 else S))
    (hN : N = 0 ∨ (2 ≤ N ∧ N ≤ 4)) (hS1 : 1 ≤ S) (hS2 : S ≤ n) (hS3 : N ≠ 0 → S ≤ N) :
    Calls Tryz.prog 24 #[.slice (some ⟨b, off, none⟩) n cap] w fun e w' => e = .returned (.tuple #[.int .i64 C, .int .i64 M]) ∧ w = w' := by
  have hb0 : b0.toNat < 256 := b0.toNat_lt
  have Hcall := Lib.hid hcall
  have Hspan := Lib.hid hspan
  have Hnext := Lib.hid hnext
  have Hval := Lib.hid hval
  have Hbeg := Lib.hid hbeg
  clear hcall hspan hnext hval hbeg
  go_enter Tryz.func24, Tryz.ntmps24
  go_wp2_with fail
  go_loop [4, 5] (fun best long => NextRel N S best long) (fun _ long => 5 - (intOf long).toNat)
  case atStart => exact ⟨2, by omega, by omega, rfl, by rw [bestP, if_neg (by omega)]; rfl, fun h1 h2 => by omega⟩
  case round =>
    obtain ⟨L, hL1, hL2, rfl, rfl, hLN⟩ := hrel
    have HLN := Lib.hid hLN
    clear hLN
    by_cases hL : L ≤ 4
    · go_wp2_with fail
      go_loop [4, 6] (fun best k => NextIn N S n L best k) (fun _ k => 5 - (intOf k).toNat)
      case atStart => exact ⟨1, by omega, by omega, by omega, rfl, fun h => by omega, fun _ => rfl⟩
      case round =>
        obtain ⟨j, hj1, hj2, hj3, rfl, hbest, hbest1⟩ := hrel
        have Hb := Lib.hid hbest
        have Hb1 := Lib.hid hbest1
        clear hbest hbest1
        by_cases hjn : j ≤ n
        · have hc := Hcall.out j L hj1 hj2 hL1 hL hjn
          rw [Hbeg.out j L hj1 hj2 hL1 hL hjn] at hc
          by_cases hgo : L = N ∧ j ≤ S
          · rw [decide_eq_true hgo] at hc
            obtain ⟨x, hx, hx1, hx2⟩ : ∃ x : Nat, u4 = .int .i64 (x : Int) ∧ 1 ≤ x ∧ x ≤ j := by
              rcases Nat.lt_or_ge 1 j with h1 | h1
              · exact ⟨j - 1, (Hb.out h1).2.2, by omega, by omega⟩
              · have := Hb1.out (by omega)
                rw [bestP, if_neg (by omega)] at this
                exact ⟨1, this, by omega, by omega⟩
            have Hc := Lib.hid hc
            have Hgo := Lib.hid hgo
            subst hx
            clear hc hgo
            by_cases hjL : j = L
            · have hjL' : ((j : Int) == (L : Int)) = true := by simp [hjL]
              have hv := Hval.out L hL1 hL Hgo.out.1 (by omega) (by have := Hgo.out; omega)
              have hsp := Hspan.out L hL1 hL (by omega)
              have Hv := Lib.hid hv
              have Hsp := Lib.hid hsp
              have HjL := Lib.hid hjL
              clear hjL hv hsp
              go_wp2_with fail
              refine (Hc.out).mono ?_
              rintro e w' ⟨rfl, rfl⟩
              go_wp2_with fail
              rw [HjL.out]
              refine (Hsp.out).mono ?_
              rintro e w' ⟨rfl, rfl⟩
              go_wp2
              go_ret2
              exact ⟨ret2 Hv.out.1 (by rw [Hv.out.2]), rfl⟩
            · have hjL' : ((j : Int) == (L : Int)) = false := by simp; omega
              have HjL := Lib.hid hjL
              clear hjL
              go_wp2_with fail
              refine (Hc.out).mono ?_
              rintro e w' ⟨rfl, rfl⟩
              go_wp2
              have hnew : NextIn N S n L (.int .i64 (max (x : Int) j)) (.int .i64 ((j : Int) + 1)) := by
                have := HjL.out
                exact ⟨j + 1, by omega, by omega, by omega, by go_num, fun _ => ⟨Hgo.out.1, by have := Hgo.out.2; omega, by rw [show max (x : Int) j = ((j + 1 - 1 : Nat) : Int) from by omega]⟩, fun h => by omega⟩
              exact ⟨hnew, by simp [intOf]; omega⟩
          · rw [decide_eq_false hgo] at hc
            have hnew : NextRel N S u4 (.int .i64 ((L : Int) + 1)) := by
              have h1 := HLN.out
              have h2 := Hb.out
              have h3 := Hb1.out
              refine ⟨L + 1, by omega, by omega, by go_num, ?_, fun e1 e2 => ?_⟩
              · by_cases e : L = N
                · have hj : 1 < j := by omega
                  have := h2 hj
                  rw [this.2.2, bestP, if_pos (by omega)]
                  congr 2; omega
                · have hj : j = 1 := by
                    rcases Nat.lt_or_ge 1 j with h | h
                    · exact absurd (h2 h).1 e
                    · omega
                  rw [h3 hj, bestP, bestP]
                  congr 2
                  (repeat' split) <;> omega
              · by_cases e : L = N
                · omega
                · exact h1 e1 (by omega)
            have Hc := Lib.hid hc
            have Hgo := Lib.hid hgo
            have Hnew := Lib.hid hnew
            clear hc hgo hnew
            go_wp2_with fail
            refine (Hc.out).mono ?_
            rintro e w' ⟨rfl, rfl⟩
            go_wp2
            exact ⟨Hnew.out, by simp [intOf]; omega⟩
        · have hnew : NextRel N S u4 (.int .i64 ((L : Int) + 1)) := by
            have h2 := Hb.out (by omega)
            refine ⟨L + 1, by omega, by omega, by go_num, ?_, fun e1 e2 => by omega⟩
            rw [h2.2.2, bestP, if_pos (by omega)]
            congr 2; omega
          have Hnew := Lib.hid hnew
          clear hnew
          go_wp2_with fail
          exact ⟨Hnew.out, by simp [intOf]; omega⟩
    · obtain rfl : L = 5 := by omega
      have hx := Hnext.out (by have := HLN.out; omega)
      have Hx := Lib.hid hx
      clear hx
      go_wp2
      go_ret2
      refine ⟨ret2 Hx.out.1.symm ?_, rfl⟩
      rw [Hx.out.2]
      unfold bestP
      (repeat' split) <;> omega

set_option maxRecDepth 100000 in
set_option maxHeartbeats 2000000 in
theorem ref_next (bs : List UInt8) (A : Option Addr) (n cap B : Nat) (w : World) (hr : Reads w B 1 A n (bs.map b8)) (hn : 0 < n) (hm : n ≤ cap) (hcap : cap ≤ 9223372036854775807) :
    Calls Tryz.prog 24 #[.slice A n cap] w fun e w' => e = .returned (.tuple #[.int .i64 (nextC bs), .int .i64 (nextN bs)]) ∧ w = w' := by
  have hlen : bs.length = n := by simpa using hr.len
  obtain ⟨b, off, rfl, hb, hcell⟩ := hr.open_ hn
  have hcall : ∀ k L, 1 ≤ k → k ≤ L → 2 ≤ L → L ≤ 4 → k ≤ n → Calls Tryz.prog 47 #[.slice (some ⟨b, off, none⟩) k cap, .int .i64 L] w fun e w' => e = .returned (.bool (begR (bs.take k) L)) ∧ w = w' := fun k L h1 h2 h3 h4 h5 =>
    ref_begins_ (bs.take k) _ k cap B L w (by have := hr.take h5; rwa [← List.map_take] at this) h1 (by omega) h3 h4
  have hspan : ∀ L, 2 ≤ L → L ≤ 4 → L ≤ n → Calls Tryz.prog 48 #[.slice (some ⟨b, off, none⟩) L cap, .int .i64 L] w fun e w' => e = .returned (.tuple #[.int .i64 (spanR (bs.take L) L).1, .int .i64 (spanR (bs.take L) L).2]) ∧ w = w' := fun L h3 h4 h5 =>
    ref_span (bs.take L) _ L cap B L w (by have := hr.take h5; rwa [← List.map_take] at this) (by omega) (by omega) h3 h4
  have hval : ∀ L, 2 ≤ L → L ≤ 4 → L = bN (bs[0]?.getD 0).toNat → L ≤ n → stopP bs = L → (spanR (bs.take L) L).1 = nextC bs ∧ nextN bs = L := fun L h1 h2 h3 h4 h5 => by
    have hx := next_full (bs := bs) (by omega) (by omega)
    exact ⟨by rw [span_val bs L h1 h2 h3 (by omega) h5, hx.1, ← h3], by rw [hx.2, ← h3]⟩
  have hbeg : 128 ≤ (bs[0]?.getD 0).toNat → ∀ k L, 1 ≤ k → k ≤ L → 2 ≤ L → L ≤ 4 → k ≤ n → begR (bs.take k) L = decide (L = bN (bs[0]?.getD 0).toNat ∧ k ≤ stopP bs) := fun h0 k L h1 h2 h3 h4 h5 => by
    rw [Bool.eq_iff_iff, decide_eq_true_iff]; exact beg_take bs k L h0 h1 h2 h3 h4 (by omega)
  have hN1 : 128 ≤ (bs[0]?.getD 0).toNat → bN (bs[0]?.getD 0).toNat = 0 ∨ (2 ≤ bN (bs[0]?.getD 0).toNat ∧ bN (bs[0]?.getD 0).toNat ≤ 4) := by unfold bN; (repeat' split) <;> omega
  have hS1 : 1 ≤ stopP bs := scan_ge bs _ _ _ 1
  have hS2 : stopP bs ≤ n := by rw [← hlen]; exact scan_le bs _ _ _ 1 (by omega)
  have hS3 : bN (bs[0]?.getD 0).toNat ≠ 0 → stopP bs ≤ bN (bs[0]?.getD 0).toNat := by
    intro h0
    unfold stopP
    simp only
    generalize bLo (bs[0]?.getD 0).toNat = lo
    generalize bHi (bs[0]?.getD 0).toNat = hi
    have : ∀ f k, scan bs lo hi f k ≤ k + f := by
      intro f
      induction f with
      | zero => intro k; exact Nat.le_refl _
      | succ f ih =>
        intro k; unfold scan; split
        · exact Nat.le_trans (ih (k + 1)) (by omega)
        · omega
    exact Nat.le_trans (this _ 1) (by omega)
  have hnext : stopP bs < bN (bs[0]?.getD 0).toNat ∨ bN (bs[0]?.getD 0).toNat = 0 → nextC bs = 65533 ∧ nextN bs = (if bN (bs[0]?.getD 0).toNat = 0 then 1 else stopP bs) := by
    intro h
    by_cases h0 : bN (bs[0]?.getD 0).toNat = 0
    · simp [nextC, nextN, h0]
    · simp [nextC, nextN, h0, h.resolve_right h0]
  obtain ⟨b0, hb0⟩ : ∃ b0, bs[0]? = some b0 := ⟨_, List.getElem?_eq_getElem (by omega)⟩
  have hc0 : w.cell? ⟨b, off, none⟩ = some (.int .u8 b0.toNat) := by have := hcell 0 (b8 b0) (by rw [List.getElem?_map, hb0]; rfl); simpa [b8] using this
  have e0 : (bs[0]?.getD 0) = b0 := by rw [hb0]; rfl
  by_cases hs : b0.toNat < 128
  · have h1 : bN (bs[0]?.getD 0).toNat = 1 := by rw [e0]; simp [bN, hs]
    have hst : stopP bs = 1 := by simp only [stopP, h1]; rfl
    have hx := next_full (bs := bs) (by omega) (by rw [hst, h1])
    rw [h1] at hx
    have hx1 : nextC bs = b0.toNat := by rw [hx.1]; simp [val, hb0]
    have Hx := Lib.hid hx
    have Hx1 := Lib.hid hx1
    have hb256 : b0.toNat < 256 := b0.toNat_lt
    clear hx hx1 h1 hst hcall hspan hval hbeg hN1 hS1 hS2 hS3 hnext hb0 e0 hcell hr hlen
    go_enter Tryz.func24, Tryz.ntmps24
    go_wp2
    go_ret2
    exact ⟨ret2 Hx1.out.symm (by rw [Hx.out.2]; rfl), rfl⟩
  · exact ref_next_core b0 n cap b off _ (stopP bs) (nextN bs) (nextC bs) (fun k L => begR (bs.take k) L) (fun L => spanR (bs.take L) L) w hc0 hs hn hm hcap hcall hspan (hbeg (by rw [e0]; omega)) hval hnext (hN1 (by rw [e0]; omega)) hS1 hS2 hS3
end Go.Proofs.YthkagpefgkpgeaaGreatDoor
/- The reference's Read of layer 2 is walked; it answers what runes.Read answers. -/
set_option linter.unusedVariables false
set_option linter.unusedSimpArgs false
namespace Go.Proofs.YthkagpefgkpgeaaGreatDoor
open Go.RowKit Rn
namespace Rn
def refC (c : Int) : Int := if c = 13 ∨ c = 12 then 10 else if c = 0 then 65533 else c
def refN (bs : List UInt8) : Nat := if nextC bs = 13 ∧ bs[1]? = some 10 then 2 else nextN bs
def refF : Nat → List UInt8 → List Int
  | 0, _ => []
  | f + 1, bs => if bs = [] then [] else refC (nextC bs) :: refF f (bs.drop (refN bs))
end Rn
theorem nextC_small (bs : List UInt8) (h : nextC bs < 128) : nextN bs = 1 ∧ ((bs[0]?.getD 0).toNat : Int) = nextC bs := by
  have hb := UInt8.toNat_lt (bs[0]?.getD 0)
  have key : bN (bs[0]?.getD 0).toNat = 1 → nextN bs = 1 ∧ ((bs[0]?.getD 0).toNat : Int) = nextC bs := by
    intro h1
    have hst : stopP bs = 1 := by simp only [stopP, h1]; rfl
    have hx := next_full (bs := bs) (by omega) (by rw [hst, h1])
    rw [h1] at hx
    exact ⟨hx.2, by rw [hx.1]; simp [val]⟩
  by_cases h1 : bN (bs[0]?.getD 0).toNat = 1
  · exact key h1
  · exfalso
    by_cases h0 : bN (bs[0]?.getD 0).toNat = 0
    · simp [nextC, h0] at h
    · by_cases hs : stopP bs < bN (bs[0]?.getD 0).toNat
      · simp [nextC, h0, hs] at h
      · have hN : bN (bs[0]?.getD 0).toNat ≤ 4 := by unfold bN; (repeat' split) <;> omega
        have hok := (stop_ge bs (bN (bs[0]?.getD 0).toNat) (Nat.le_refl _) (by omega)).1 (by omega)
        obtain ⟨b1, g1, l1, u1⟩ := okAt_mem (hok 1 (by omega) (by omega))
        have hval : 128 ≤ val bs (bN (bs[0]?.getD 0).toNat) := by
          have hN2 : bN (bs[0]?.getD 0).toNat = 2 ∨ bN (bs[0]?.getD 0).toNat = 3 ∨ bN (bs[0]?.getD 0).toNat = 4 := by omega
          revert l1 u1
          generalize hc : (bs[0]?.getD 0).toNat = c at *
          simp only [val, hc, g1, Option.getD_some]
          rcases hN2 with e | e | e
          · have : 194 ≤ c ∧ c < 224 := by revert e; unfold bN; (repeat' split) <;> omega
            rw [e]; simp only [if_neg (show ¬ (2 = 1) from by omega), if_true]
            omega
          · have : 224 ≤ c ∧ c < 240 := by revert e; unfold bN; (repeat' split) <;> omega
            rw [e]; simp only [if_neg (show ¬ (3 = 1) from by omega), if_neg (show ¬ (3 = 2) from by omega), if_true]
            unfold loAt hiAt bLo bHi
            (repeat' split) <;> omega
          · have : 240 ≤ c ∧ c ≤ 244 := by revert e; unfold bN; (repeat' split) <;> omega
            rw [e]; simp only [if_neg (show ¬ (4 = 1) from by omega), if_neg (show ¬ (4 = 2) from by omega), if_neg (show ¬ (4 = 3) from by omega)]
            unfold loAt hiAt bLo bHi
            (repeat' split) <;> omega
        simp [nextC, h0, hs] at h
        omega
theorem drop_nil_len {α : Type} (l : List α) (n : Nat) (h : 1 ≤ n) (hl : l ≠ []) : (l.drop n).length < l.length := by
  have := List.length_pos_iff.2 hl
  rw [List.length_drop]; omega
theorem readF_fuel : ∀ (g : Nat) (bs : List UInt8), bs.length ≤ g → readF (g + 1) bs = readF g bs
  | 0, bs, h => by
    have : bs = [] := List.eq_nil_of_length_eq_zero (by omega)
    simp [readF, this]
  | g + 1, bs, h => by
    by_cases h0 : bs = []
    · simp [readF, h0]
    · have ih := readF_fuel g (bs.drop (nextN bs)) (by have := drop_nil_len bs (nextN bs) (nextN_pos bs) h0; omega)
      rw [readF, readF]
      simp only [h0, ih]
theorem refF_eq : ∀ (f : Nat) (bs : List UInt8), bs.length ≤ f → refF f bs = readF f bs
  | 0, bs, h => by
    have : bs = [] := List.eq_nil_of_length_eq_zero (by omega)
    simp [readF, refF, this]
  | f + 1, bs, h => by
    by_cases h0 : bs = []
    · simp [readF, refF, h0]
    · have hd := drop_nil_len bs (nextN bs) (nextN_pos bs) h0
      have ih := refF_eq f (bs.drop (nextN bs)) (by omega)
      rw [refF, if_neg h0]
      by_cases c0 : nextC bs = 0
      · rw [readF_zero f h0 c0, refN, if_neg (by omega), ih, refC, if_neg (by omega), if_pos c0]
      · by_cases c1 : nextC bs = 13
        · obtain ⟨hn1, _⟩ := nextC_small bs (by omega)
          have hsnd : (bs.drop (nextN bs))[0]? = bs[1]? := by rw [hn1, List.getElem?_drop]
          by_cases h10 : bs[1]? = some 10
          · have hl2 : 2 ≤ bs.length := by
              rcases Nat.lt_or_ge 1 bs.length with h | h
              · exact h
              · rw [List.getElem?_eq_none h] at h10; cases h10
            obtain ⟨g, rfl⟩ : ∃ g, f = g + 1 := ⟨f - 1, by omega⟩
            rw [readF_skip _ h0 c1 (by rw [hsnd]; exact h10), refN, if_pos ⟨c1, h10⟩, refC, if_pos (.inl c1)]
            have hne : bs.drop (nextN bs) ≠ [] := by intro e; rw [e] at hsnd; rw [h10] at hsnd; cases hsnd
            have hg0 : ((bs.drop (nextN bs))[0]?.getD 0).toNat = 10 := by rw [hsnd, h10]; rfl
            have hbn : bN ((bs.drop (nextN bs))[0]?.getD 0).toNat = 1 := by rw [hg0]; rfl
            have hst : stopP (bs.drop (nextN bs)) = 1 := by simp only [stopP, hbn]; rfl
            have hx := next_full (bs := bs.drop (nextN bs)) (by omega) (by rw [hst, hbn])
            rw [hbn] at hx
            have hc10 : nextC (bs.drop (nextN bs)) = 10 := by rw [hx.1]; simp only [val, if_true, hg0]; rfl
            rw [readF_char g hne (by omega) (by omega) (by omega), hx.2, hc10, List.drop_drop, hn1]
            rw [refF_eq (g + 1) (bs.drop 2) (by rw [List.length_drop]; omega), readF_fuel g (bs.drop 2) (by rw [List.length_drop]; omega)]
          · rw [readF_line f h0 (.inl ⟨c1, by rw [hsnd]; exact h10⟩), refN, if_neg (by intro h; exact h10 h.2), ih, refC, if_pos (.inl c1)]
        · by_cases c2 : nextC bs = 12
          · rw [readF_line f h0 (.inr c2), refN, if_neg (by intro h; exact c1 h.1), ih, refC, if_pos (.inr c2)]
          · rw [readF_char f h0 c0 c1 c2, refN, if_neg (by intro h; exact c1 h.1), ih, refC, if_neg (by omega), if_neg c0]

theorem int_info : (Tryz.prog.info? 3).map (fun i => (i.zero, i.size, i.bytes)) = some (some (.int .i64 0), 1, 8) := by kernel_rfl

set_option maxRecDepth 100000 in
set_option maxHeartbeats 2000000 in
theorem ref_read (bs : List UInt8) (A : Option Addr) (n cap : Nat) (w : World) (hr : Reads w w.heap.size 1 A n (bs.map b8)) (hm : n ≤ cap) (hcap : cap ≤ maxLen) (hn : n ≤ 1000000) :
    Calls Tryz.prog 12 #[.slice A n cap] w fun e w' => ∃ v, e = .returned v ∧ w'.ownsRow w.heap.size 3 1 v (readP bs).length ((readP bs).map n64) ∧ Below w.heap.size w w' := by
  have hcap' := hcap
  unfold maxLen at hcap
  have hlen : bs.length = n := by simpa using hr.len
  have hP : refF bs.length bs = readP bs := refF_eq _ bs (Nat.le_refl _)
  obtain ⟨i0, hi, hz0, hz1, hz2⟩ := info_parts int_info
  have Hlen := Lib.hid hlen
  have HP := Lib.hid hP
  clear hlen hP
  go_enter Tryz.func12, Tryz.ntmps12
  go_wp2
  go_loopw [0, 3] (fun b o wr => ∃ (rest : List UInt8) (A : Option Addr) (m c : Nat) (done : List Int) (f : Nat), b = .slice A m c ∧ Reads wr w.heap.size 1 A m (rest.map b8) ∧ m ≤ c ∧ c ≤ 9223372036854775807 ∧ m + done.length ≤ n
      ∧ wr.ownsRow w.heap.size 3 1 o done.length (done.map n64) ∧ Below w.heap.size w wr ∧ Hid (rest.length ≤ f) ∧ Hid (done ++ refF f rest = readP bs)) (fun b _ _ => match b with | .slice _ m _ => m | _ => 0)
  case atStart => exact ⟨bs, A, n, cap, [], bs.length, rfl, hr, hm, by omega, by simp, World.ownsRow_nil _ _ _ _, Below.refl _ _, Nat.le_refl _, HP.out⟩
  case round =>
    obtain ⟨rest, A', m, c, done, f, rfl, hr', hmc, hc, hdm, hown, hb, hf, hd⟩ := hrel
    by_cases h0 : 0 < m
    · have hrl : rest.length = m := by simpa using hr'.len
      have hne : rest ≠ [] := by intro e0; rw [e0] at hrl; simp at hrl; omega
      have hN0 : nextN rest ≤ rest.length := nextN_le rest hne
      have hN1 : 1 ≤ refN rest := by unfold refN; split; · omega
                                     exact nextN_pos rest
      have hN2 : refN rest ≤ m := by
        unfold refN; split
        · rename_i h
          rcases Nat.lt_or_ge 1 rest.length with h1 | h1
          · omega
          · rw [List.getElem?_eq_none h1] at h; cases h.2
        · omega
      have hNp := nextN_pos rest
      have hsl := fun (kd : IntKind) W => run_cut (P := Tryz.prog) Tryz.underlying22 (by kernel_rfl) (s := 1) (fun W => by kernel_rfl) A' m c kd (refN rest) hN2 W
      have hcut := hr'.cutA (k := refN rest) (c := c) hN2 hmc
      rw [← List.map_drop] at hcut
      have hs2 := hb.size
      have hcall := ref_next rest A' m c _ wr hr' h0 hmc (by omega)
      obtain ⟨f, hff⟩ : ∃ g, Hid (f = g + 1) := ⟨f - 1, by have := hf.out; show f = f - 1 + 1; omega⟩
      rw [hff.out] at hf hd
      have hf' : Hid ((rest.drop (refN rest)).length ≤ f) := by have := hf.out; show (rest.drop (refN rest)).length ≤ f; rw [List.length_drop]; omega
      have step : (done ++ [refC (nextC rest)]) ++ refF f (rest.drop (refN rest)) = readP bs := by
        have := hd.out; rw [refF, if_neg hne] at this; rw [← this]; simp
      have Hstep := Lib.hid step
      have Hcall := Lib.hid hcall
      have Hrl := Lib.hid hrl
      have Hne := Lib.hid hne
      have hsz : m - refN rest + (done.length + 1) ≤ n := by omega
      clear step hff hcall hrl hne hd hf
      generalize hA2 : cutAt A' c (refN rest) 1 = A2 at *
      clear hA2
      by_cases c1 : nextC rest = 13
      · have c1' : (nextC rest == 13) = true := by simp [c1]
        by_cases hmore : 1 < m
        · obtain ⟨b, off, u, hA, _, hx, hcell⟩ := hr'.at_ (k := 1) hmore
          subst hA
          obtain ⟨b', hx'⟩ : ∃ b', rest[1]? = some b' := ⟨_, List.getElem?_eq_getElem (by rw [Hrl.out]; omega)⟩
          rw [List.getElem?_map, hx'] at hx
          obtain rfl : u = b8 b' := by simpa using hx.symm
          unfold b8 at hcell
          by_cases h10 : b' = 10
          · have h10' : ((b'.toNat : Int) == 10) = true := by simp [h10]
            have hrN : refN rest = 2 := by rw [refN, if_pos ⟨c1, by rw [hx', h10]⟩]
            rw [hrN] at hN1 hN2 hsl hcut hf' Hstep hsz
            have HC1 := Lib.hid c1
            have hsl2 : ∀ (kd : IntKind) W, (Instr.slice 22 (.slice (some ⟨b, off, none⟩) m c) (some (.int kd 2)) none none).run Tryz.prog W = .ok (.slice A2 (m - 2) (c - 2)) W := hsl
            clear c1 hx' hx h10 hrN hsl
            have hx : refC (nextC rest) = 10 := by
              simp only [refC]; (repeat' split) <;> simp_all [Hid] <;> omega
            rw [hx] at Hstep
            clear hx
            have Hstep2 := Hstep
            clear Hstep
            go_wp2_with (first | (go_at_call 24; refine (Hcall.out).mono ?_; rintro e w' ⟨rfl, rfl⟩) | (at_builtin; refine wpList_append_own _ rfl _ _ 42 rfl w.heap.size 3 i0 (.int .i64 0) 1 8 Tryz.underlying42 hi hz0 hz1 hz2 rfl (by decide) _ _ _ rfl (hown.alloc _) ⟨wr.heap.size, 0, none⟩ 1 1 [.int .i64 10] rfl rfl ?c1 ?c2 ?c3 ?c4 ?c5 ?_))
            case c1 => exact cell_one_new _ _ _
            case c2 => intro u hu; simp at hu; subst hu; rfl
            case c3 => unfold maxLen; omega
            case c4 => omega
            case c5 => simp; omega
            intro v' w2 hown' hgrow _
            have hbn := push_below hb hs2 hown hgrow
            have hrn := push_reads hcut hs2 hown hgrow
            clear hgrow hown hcut hb
            go_wp2
            go_roundw
            case rel => exact ⟨_, A2, _, _, done ++ [10], f, rfl, hrn, by omega, by omega, by simpa using hsz, by simpa [n64] using hown', hbn, hf', Hstep2.out⟩
            case measure => simp; omega
          · have h10' : ((b'.toNat : Int) == 10) = false := by
              simp only [beq_eq_false_iff_ne]
              intro e
              exact h10 (UInt8.toNat_inj.1 (by simpa using Int.ofNat.inj e))
            have hrN : refN rest = nextN rest := by rw [refN, if_neg (by intro h; rw [hx'] at h; exact h10 (by simpa using h.2))]
            rw [hrN] at hN1 hN2 hsl hcut hf' Hstep hsz
            have HC1 := Lib.hid c1
            clear c1 hx' hx h10 hrN
            have hx : refC (nextC rest) = 10 := by
              simp only [refC]; (repeat' split) <;> simp_all [Hid] <;> omega
            rw [hx] at Hstep
            clear hx
            have Hstep2 := Hstep
            clear Hstep
            go_wp2_with (first | (go_at_call 24; refine (Hcall.out).mono ?_; rintro e w' ⟨rfl, rfl⟩) | (at_builtin; refine wpList_append_own _ rfl _ _ 42 rfl w.heap.size 3 i0 (.int .i64 0) 1 8 Tryz.underlying42 hi hz0 hz1 hz2 rfl (by decide) _ _ _ rfl (hown.alloc _) ⟨wr.heap.size, 0, none⟩ 1 1 [.int .i64 10] rfl rfl ?c1 ?c2 ?c3 ?c4 ?c5 ?_))
            case c1 => exact cell_one_new _ _ _
            case c2 => intro u hu; simp at hu; subst hu; rfl
            case c3 => unfold maxLen; omega
            case c4 => omega
            case c5 => simp; omega
            intro v' w2 hown' hgrow _
            have hbn := push_below hb hs2 hown hgrow
            have hrn := push_reads hcut hs2 hown hgrow
            clear hgrow hown hcut hb
            go_wp2
            go_roundw
            case rel => exact ⟨_, A2, _, _, done ++ [10], f, rfl, hrn, by omega, by omega, by simpa using hsz, by simpa [n64] using hown', hbn, hf', Hstep2.out⟩
            case measure => simp; omega
        · have hrN : refN rest = nextN rest := by rw [refN, if_neg (by intro h; rw [List.getElem?_eq_none (by rw [Hrl.out]; omega)] at h; cases h.2)]
          rw [hrN] at hN1 hN2 hsl hcut hf' Hstep hsz
          have HC1 := Lib.hid c1
          have hm1 : ¬ (1 : Int) < (m : Int) := by omega
          have hm2 : (m : Int) ≤ 1 := by omega
          have hmb : decide ((1 : Int) < (m : Int)) = false := by simp; omega
          clear c1 hrN hmore
          have hx : refC (nextC rest) = 10 := by
            simp only [refC]; (repeat' split) <;> simp_all [Hid] <;> omega
          rw [hx] at Hstep
          clear hx
          have Hstep2 := Hstep
          clear Hstep
          go_wp2_with (first | (go_at_call 24; refine (Hcall.out).mono ?_; rintro e w' ⟨rfl, rfl⟩) | (at_builtin; refine wpList_append_own _ rfl _ _ 42 rfl w.heap.size 3 i0 (.int .i64 0) 1 8 Tryz.underlying42 hi hz0 hz1 hz2 rfl (by decide) _ _ _ rfl (hown.alloc _) ⟨wr.heap.size, 0, none⟩ 1 1 [.int .i64 10] rfl rfl ?c1 ?c2 ?c3 ?c4 ?c5 ?_))
          case c1 => exact cell_one_new _ _ _
          case c2 => intro u hu; simp at hu; subst hu; rfl
          case c3 => unfold maxLen; omega
          case c4 => omega
          case c5 => simp; omega
          intro v' w2 hown' hgrow _
          have hbn := push_below hb hs2 hown hgrow
          have hrn := push_reads hcut hs2 hown hgrow
          clear hgrow hown hcut hb
          go_wp2
          go_roundw
          case rel => exact ⟨_, A2, _, _, done ++ [10], f, rfl, hrn, by omega, by omega, by simpa using hsz, by simpa [n64] using hown', hbn, hf', Hstep2.out⟩
          case measure => simp; omega
      · have c1' : (nextC rest == 13) = false := by simp [c1]
        have hrN : refN rest = nextN rest := by rw [refN, if_neg (by intro h; exact c1 h.1)]
        rw [hrN] at hN1 hN2 hsl hcut hf' Hstep hsz
        have HC1 := Lib.hid c1
        clear c1 hrN
        by_cases c2 : nextC rest = 12
        · have c2' : (nextC rest == 12) = true := by simp [c2]
          have HC2 := Lib.hid c2
          clear c2
          have hx : refC (nextC rest) = 10 := by
            simp only [refC]; (repeat' split) <;> simp_all [Hid] <;> omega
          rw [hx] at Hstep
          clear hx
          have Hstep2 := Hstep
          clear Hstep
          go_wp2_with (first | (go_at_call 24; refine (Hcall.out).mono ?_; rintro e w' ⟨rfl, rfl⟩) | (at_builtin; refine wpList_append_own _ rfl _ _ 42 rfl w.heap.size 3 i0 (.int .i64 0) 1 8 Tryz.underlying42 hi hz0 hz1 hz2 rfl (by decide) _ _ _ rfl (hown.alloc _) ⟨wr.heap.size, 0, none⟩ 1 1 [.int .i64 10] rfl rfl ?c1 ?c2 ?c3 ?c4 ?c5 ?_))
          case c1 => exact cell_one_new _ _ _
          case c2 => intro u hu; simp at hu; subst hu; rfl
          case c3 => unfold maxLen; omega
          case c4 => omega
          case c5 => simp; omega
          intro v' w2 hown' hgrow _
          have hbn := push_below hb hs2 hown hgrow
          have hrn := push_reads hcut hs2 hown hgrow
          clear hgrow hown hcut hb
          go_wp2
          go_roundw
          case rel => exact ⟨_, A2, _, _, done ++ [10], f, rfl, hrn, by omega, by omega, by simpa using hsz, by simpa [n64] using hown', hbn, hf', Hstep2.out⟩
          case measure => simp; omega
        · have c2' : (nextC rest == 12) = false := by simp [c2]
          have HC2 := Lib.hid c2
          clear c2
          by_cases c0 : nextC rest = 0
          · have c0' : (nextC rest == 0) = true := by simp [c0]
            have HC0 := Lib.hid c0
            clear c0
            have hx : refC (nextC rest) = 65533 := by
              simp only [refC]; (repeat' split) <;> simp_all [Hid] <;> omega
            rw [hx] at Hstep
            clear hx
            have Hstep2 := Hstep
            clear Hstep
            go_wp2_with (first | (go_at_call 24; refine (Hcall.out).mono ?_; rintro e w' ⟨rfl, rfl⟩) | (at_builtin; refine wpList_append_own _ rfl _ _ 42 rfl w.heap.size 3 i0 (.int .i64 0) 1 8 Tryz.underlying42 hi hz0 hz1 hz2 rfl (by decide) _ _ _ rfl (hown.alloc _) ⟨wr.heap.size, 0, none⟩ 1 1 [.int .i64 65533] rfl rfl ?c1 ?c2 ?c3 ?c4 ?c5 ?_))
            case c1 => exact cell_one_new _ _ _
            case c2 => intro u hu; simp at hu; subst hu; rfl
            case c3 => unfold maxLen; omega
            case c4 => omega
            case c5 => simp; omega
            intro v' w2 hown' hgrow _
            have hbn := push_below hb hs2 hown hgrow
            have hrn := push_reads hcut hs2 hown hgrow
            clear hgrow hown hcut hb
            go_wp2
            go_roundw
            case rel => exact ⟨_, A2, _, _, done ++ [65533], f, rfl, hrn, by omega, by omega, by simpa using hsz, by simpa [n64] using hown', hbn, hf', Hstep2.out⟩
            case measure => simp; omega
          · have c0' : (nextC rest == 0) = false := by simp [c0]
            have HC0 := Lib.hid c0
            clear c0
            have hx : refC (nextC rest) = (nextC rest) := by
              simp only [refC]; (repeat' split) <;> simp_all [Hid] <;> omega
            rw [hx] at Hstep
            clear hx
            have Hstep2 := Hstep
            clear Hstep
            go_wp2_with (first | (go_at_call 24; refine (Hcall.out).mono ?_; rintro e w' ⟨rfl, rfl⟩) | (at_builtin; refine wpList_append_own _ rfl _ _ 42 rfl w.heap.size 3 i0 (.int .i64 0) 1 8 Tryz.underlying42 hi hz0 hz1 hz2 rfl (by decide) _ _ _ rfl (hown.alloc _) ⟨wr.heap.size, 0, none⟩ 1 1 [.int .i64 (nextC rest)] rfl rfl ?c1 ?c2 ?c3 ?c4 ?c5 ?_))
            case c1 => exact cell_one_new _ _ _
            case c2 => intro u hu; simp at hu; subst hu; rfl
            case c3 => unfold maxLen; omega
            case c4 => omega
            case c5 => simp; omega
            intro v' w2 hown' hgrow _
            have hbn := push_below hb hs2 hown hgrow
            have hrn := push_reads hcut hs2 hown hgrow
            clear hgrow hown hcut hb
            go_wp2
            go_roundw
            case rel => exact ⟨_, A2, _, _, done ++ [(nextC rest)], f, rfl, hrn, by omega, by omega, by simpa using hsz, by simpa [n64] using hown', hbn, hf', Hstep2.out⟩
            case measure => simp; omega
    · have hm0 : m = 0 := by omega
      subst hm0
      go_wp2
      go_ret
      have hrl : rest = [] := by simpa using hr'.len
      have hdn : done = readP bs := by have := hd.out; rw [hrl] at this; rw [← this]; cases f <;> simp [refF]
      rw [hdn] at hown
      exact ⟨_, rfl, hown, hb⟩
end Go.Proofs.YthkagpefgkpgeaaGreatDoor
/- Plain laws of layer 2: what is read is characters that a sheet may hold; bytes parted ahead of one below 0x80 that is no 10 are read as both parts. -/
set_option linter.unusedVariables false
set_option linter.unusedSimpArgs false
set_option linter.unusedSectionVars false
namespace Go.Proofs.YthkagpefgkpgeaaGreatDoor
open Go.RowKit Rn

theorem nextC_is (bs : List UInt8) : isB (nextC bs) = true := by
  have hb0 := UInt8.toNat_lt (bs[0]?.getD 0)
  unfold nextC
  simp only
  split
  · decide
  · rename_i h0
    split
    · decide
    · rename_i hs
      have hN : bN (bs[0]?.getD 0).toNat ≤ 4 := by unfold bN; (repeat' split) <;> omega
      have hok := (stop_ge bs (bN (bs[0]?.getD 0).toNat) (Nat.le_refl _) (by omega)).1 (by omega)
      unfold isB
      rw [decide_eq_true_iff]
      obtain e | e | e | e : bN (bs[0]?.getD 0).toNat = 1 ∨ bN (bs[0]?.getD 0).toNat = 2 ∨ bN (bs[0]?.getD 0).toNat = 3 ∨ bN (bs[0]?.getD 0).toNat = 4 := by omega
      · have hc : (bs[0]?.getD 0).toNat < 128 := by revert e; unfold bN; (repeat' split) <;> omega
        rw [e]; simp only [val, if_true]; omega
      · have hc : 194 ≤ (bs[0]?.getD 0).toNat ∧ (bs[0]?.getD 0).toNat < 224 := by revert e; unfold bN; (repeat' split) <;> omega
        rw [e]; simp only [val, if_true, if_neg (show ¬ (2 = 1) from by omega)]; omega
      · have hc : 224 ≤ (bs[0]?.getD 0).toNat ∧ (bs[0]?.getD 0).toNat < 240 := by revert e; unfold bN; (repeat' split) <;> omega
        obtain ⟨b1, g1, l1, u1⟩ := okAt_mem (hok 1 (by omega) (by omega))
        revert l1 u1
        rw [e]; simp only [val, if_true, if_neg (show ¬ (3 = 1) from by omega), if_neg (show ¬ (3 = 2) from by omega), g1, Option.getD_some]
        unfold loAt hiAt bLo bHi
        (repeat' split) <;> omega
      · have hc : 240 ≤ (bs[0]?.getD 0).toNat ∧ (bs[0]?.getD 0).toNat ≤ 244 := by revert e; unfold bN; (repeat' split) <;> omega
        obtain ⟨b1, g1, l1, u1⟩ := okAt_mem (hok 1 (by omega) (by omega))
        revert l1 u1
        rw [e]; simp only [val, if_neg (show ¬ (4 = 1) from by omega), if_neg (show ¬ (4 = 2) from by omega), if_neg (show ¬ (4 = 3) from by omega), g1, Option.getD_some]
        unfold loAt hiAt bLo bHi
        (repeat' split) <;> omega
theorem readF_plain : ∀ (f : Nat) (bs : List UInt8), ∀ c ∈ readF f bs, Plain c
  | 0, bs => by simp [readF]
  | f + 1, bs => by
    have ih := readF_plain f (bs.drop (nextN bs))
    have hc := nextC_is bs
    have h65 : Plain 65533 := ⟨by decide, by decide, by decide, by decide⟩
    have h10 : Plain 10 := ⟨by decide, by decide, by decide, by decide⟩
    unfold readF
    simp only
    split
    · simp
    · split
      · intro c h
        rcases List.mem_cons.1 h with rfl | h
        · exact h65
        · exact ih c h
      · rename_i c0
        split
        · exact ih
        · split
          · intro c h
            rcases List.mem_cons.1 h with rfl | h
            · exact h10
            · exact ih c h
          · rename_i c12
            intro c h
            rcases List.mem_cons.1 h with rfl | h
            · exact ⟨hc, c0, fun e => c12 (.inr e), fun e => c12 (.inl e)⟩
            · exact ih c h
theorem readP_plain (bs : List UInt8) : ∀ c ∈ readP bs, Plain c := readF_plain _ bs

theorem readF_more : ∀ (k g : Nat) (bs : List UInt8), bs.length ≤ g → readF (g + k) bs = readF g bs
  | 0, g, bs, h => rfl
  | k + 1, g, bs, h => by rw [← Nat.add_assoc, readF_fuel (g + k) bs (by omega)]; exact readF_more k g bs h

section
variable (a : List UInt8) (b0 : UInt8) (b : List UInt8) (ha : a ≠ []) (h128 : b0.toNat < 128)
include ha h128
theorem head_app : (a ++ b0 :: b)[0]? = a[0]? := by
  obtain ⟨x, r, rfl⟩ := List.exists_cons_of_ne_nil ha
  rfl
theorem scan_app (lo hi : Nat) (hlo : 128 ≤ lo) : ∀ (f k : Nat), 1 ≤ k → k ≤ a.length → scan (a ++ b0 :: b) lo hi f k = scan a lo hi f k
  | 0, k, _, _ => rfl
  | f + 1, k, h1, hk => by
    unfold scan
    rcases Nat.lt_or_ge k a.length with h | h
    · have : okAt (a ++ b0 :: b) lo hi k = okAt a lo hi k := by
        unfold okAt; rw [List.getElem?_append_left h]
      rw [this, scan_app lo hi hlo f (k + 1) (by omega) (by omega)]
    · have e : k = a.length := by omega
      have h1' : okAt a lo hi k = false := okAt_none (by omega)
      have h2 : okAt (a ++ b0 :: b) lo hi k = false := by
        unfold okAt
        rw [List.getElem?_append_right (by omega), e, Nat.sub_self]
        simp only [List.getElem?_cons_zero]
        split <;> simp <;> omega
      rw [h1', h2]; rfl
theorem stop_app : stopP (a ++ b0 :: b) = stopP a := by
  have hl : 1 ≤ a.length := List.length_pos_iff.2 ha
  unfold stopP
  simp only
  rw [head_app a b0 b ha h128]
  by_cases h : bN (a[0]?.getD 0).toNat - 1 = 0
  · rw [h]; rfl
  · exact scan_app a b0 b ha h128 _ _ (by revert h; unfold bN bLo; (repeat' split) <;> omega) _ 1 (Nat.le_refl _) hl
theorem next_app : nextC (a ++ b0 :: b) = nextC a ∧ nextN (a ++ b0 :: b) = nextN a := by
  have hl : 1 ≤ a.length := List.length_pos_iff.2 ha
  have h1 := stop_app a b0 b ha h128
  have h2 := head_app a b0 b ha h128
  have h3 : stopP a ≤ a.length := scan_le a _ _ _ 1 hl
  unfold nextC nextN
  simp only [h1, h2]
  refine ⟨?_, trivial⟩
  split
  · rfl
  · split
    · rfl
    · rename_i h0 hs
      have hle : bN (a[0]?.getD 0).toNat ≤ a.length := by omega
      have hg : ∀ j, j < bN (a[0]?.getD 0).toNat → (a ++ b0 :: b)[j]? = a[j]? := fun j hj => List.getElem?_append_left (by omega)
      have hN : bN (a[0]?.getD 0).toNat ≤ 4 := by unfold bN; (repeat' split) <;> omega
      generalize bN (a[0]?.getD 0).toNat = N at *
      suffices hv : val (a ++ b0 :: b) N = val a N by rw [hv]
      obtain rfl | rfl | rfl | rfl : N = 1 ∨ N = 2 ∨ N = 3 ∨ N = 4 := by omega
      · simp only [val, if_true]; rw [hg 0 (by omega)]
      · simp only [val, if_true, if_neg (show ¬ (2 = 1) from by omega)]; rw [hg 0 (by omega), hg 1 (by omega)]
      · simp only [val, if_true, if_neg (show ¬ (3 = 1) from by omega), if_neg (show ¬ (3 = 2) from by omega)]; rw [hg 0 (by omega), hg 1 (by omega), hg 2 (by omega)]
      · simp only [val, if_neg (show ¬ (4 = 1) from by omega), if_neg (show ¬ (4 = 2) from by omega), if_neg (show ¬ (4 = 3) from by omega)]; rw [hg 0 (by omega), hg 1 (by omega), hg 2 (by omega), hg 3 (by omega)]
end

theorem readF_parts (b0 : UInt8) (b : List UInt8) (h128 : b0.toNat < 128) (h10 : b0 ≠ 10) : ∀ (f : Nat) (a : List UInt8), a.length ≤ f → readF (f + (b0 :: b).length) (a ++ b0 :: b) = readF f a ++ readF (b0 :: b).length (b0 :: b)
  | f, [], _ => by
    have h1 : readF f ([] : List UInt8) = [] := by cases f <;> simp [readF]
    rw [h1, List.nil_append, List.nil_append, Nat.add_comm]
    exact readF_more f _ _ (Nat.le_refl _)
  | 0, x :: a, h => by simp at h
  | f + 1, x :: a, h => by
    have hne : (x :: a) ≠ [] := by simp
    have hn := next_app (x :: a) b0 b hne h128
    have hle := nextN_le (x :: a) hne
    have hpos := nextN_pos (x :: a)
    have hd : ((x :: a) ++ b0 :: b).drop (nextN (x :: a)) = (x :: a).drop (nextN (x :: a)) ++ b0 :: b := List.drop_append_of_le_length hle
    have ih := readF_parts b0 b h128 h10 f ((x :: a).drop (nextN (x :: a))) (by rw [List.length_drop]; simp at h ⊢; omega)
    have hne2 : ((x :: a) ++ b0 :: b) ≠ [] := by simp
    rw [show f + 1 + (b0 :: b).length = (f + (b0 :: b).length) + 1 from by omega]
    have hsk : (((x :: a).drop (nextN (x :: a)) ++ b0 :: b)[0]? = some 10) ↔ (((x :: a).drop (nextN (x :: a)))[0]? = some 10) := by
      cases e : (x :: a).drop (nextN (x :: a)) with
      | nil => simp [h10]
      | cons y r => simp
    generalize hB : (b0 :: b).length = L at *
    by_cases c0 : nextC (x :: a) = 0
    · rw [readF_zero _ hne2 (by rw [hn.1]; exact c0), readF_zero _ hne c0, hn.2, hd, ih]; rfl
    · by_cases c1 : nextC (x :: a) = 13
      · by_cases hs : ((x :: a).drop (nextN (x :: a)))[0]? = some 10
        · rw [readF_skip _ hne2 (by rw [hn.1]; exact c1) (by rw [hn.2, hd, hsk]; exact hs), readF_skip _ hne c1 hs, hn.2, hd, ih]
        · rw [readF_line _ hne2 (.inl ⟨by rw [hn.1]; exact c1, by rw [hn.2, hd, hsk]; exact hs⟩), readF_line _ hne (.inl ⟨c1, hs⟩), hn.2, hd, ih]; rfl
      · by_cases c2 : nextC (x :: a) = 12
        · rw [readF_line _ hne2 (.inr (by rw [hn.1]; exact c2)), readF_line _ hne (.inr c2), hn.2, hd, ih]; rfl
        · rw [readF_char _ hne2 (by rw [hn.1]; exact c0) (by rw [hn.1]; exact c1) (by rw [hn.1]; exact c2), readF_char _ hne c0 c1 c2, hn.1, hn.2, hd, ih]; rfl
theorem read_parts (a : List UInt8) (b0 : UInt8) (b : List UInt8) (h128 : b0.toNat < 128) (h10 : b0 ≠ 10) : readP (a ++ b0 :: b) = readP a ++ readP (b0 :: b) := by
  unfold readP
  rw [List.length_append]
  exact readF_parts b0 b h128 h10 a.length a (Nat.le_refl _)
end Go.Proofs.YthkagpefgkpgeaaGreatDoor
set_option linter.unusedVariables false
namespace Go.Proofs.YthkagpefgkpgeaaGreatDoor
open Go.RowKit Rn Tk
theorem own_less {w : World} {b b' : Nat} {e : TypeId} {size n : Nat} {v : Value} {xs : List Value} (h : w.ownsRow b e size v n xs) (hb : b' ≤ b) : w.ownsRow b' e size v n xs := by
  refine ⟨h.1, ?_⟩
  rcases h.2 with h | ⟨g, cap, cur, h1, h2, h3⟩
  · exact .inl h
  · exact .inr ⟨g, cap, cur, h1, Nat.le_trans hb h2, h3⟩
end Go.Proofs.YthkagpefgkpgeaaGreatDoor
