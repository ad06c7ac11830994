/- Layer 4: what stands behind a printed token, and each kind's token scanned ahead of it. Plain laws. -/
import Derived.Test.YtfhdihdafmahgaaGreatDoorB02
import Derived.Test.YtfhdihdafmahgaaGreatDoorB04
import Derived.Test.YtfhdihdafmahgaaGreatDoorB08
import Derived.Test.YtfhdihdafmahgaaGreatDoorB03
import Derived.Test.YtfhdihdafmahgaaGreatDoorB05
/- The reference's begins and Next of layer 2 are walked: Next answers just what runes.next answers. -/
set_option linter.unusedVariables false
set_option linter.unusedSimpArgs false
namespace Go.Proofs.YtfhdihdafmahgaaGreatDoor
open Go.RowKit Rn

set_option maxRecDepth 100000 in
set_option maxHeartbeats 1000000 in
theorem ref_begins_ (bs : List UInt8) (A : Option Addr) (n cap B long : Nat) (w : World) (hr : Reads w B 1 A n (bs.map b8)) (hn : 0 < n) (hcap : n ≤ 9223372036854775807) (hl2 : 2 ≤ long) (hl4 : long ≤ 4) :
    Calls Tryz.prog 131 #[.slice A n cap, .int .i64 long] w fun e w' => e = .returned (.bool (begR bs long)) ∧ w = w' := by
  have hsp := ref_span bs A n cap B long w hr hn hcap hl2 hl4
  have Hbeg : Hid (begR bs long = (let lo := (spanR bs long).1; let hi := (spanR bs long).2; if lo < 0 then false else
    let least : Int := if long = 4 then 65536 else if long = 3 then 2048 else 128; let low := max lo least; let high := min hi 1114111
    let low := if 55296 ≤ low ∧ low ≤ 57343 then 57344 else low; decide (low ≤ high))) := rfl
  have hrange : (spanR bs long).1 < 0 ∨ (0 ≤ (spanR bs long).1 ∧ (spanR bs long).1 ≤ (spanR bs long).2 ∧ (spanR bs long).2 ≤ 8388607) := by
    rcases spanR_range bs long hl2 hl4 with h | h
    · left; rw [h]; decide
    · right; exact h
  generalize hlo : (spanR bs long).1 = lo at *
  generalize hhi : (spanR bs long).2 = hi at *
  have Hsp := Lib.hid hsp
  clear hsp hlo hhi hr
  generalize begR bs long = R at *
  rcases hrange with h | ⟨h1, h2, h3⟩
  · have hR : R = false := by rw [Hbeg.out]; simp [h]
    subst hR
    clear Hbeg
    obtain rfl | rfl | rfl : long = 2 ∨ long = 3 ∨ long = 4 := by omega
    all_goals
      go_enter Tryz.func131, Tryz.ntmps131
      go_wp2_with (go_at_call 132; refine (Hsp.out).mono ?_; rintro e w' ⟨rfl, rfl⟩)
      go_ret
      exact ⟨rfl, rfl⟩
  · have hlo0 : ¬ lo < 0 := by omega
    obtain rfl | rfl | rfl : long = 2 ∨ long = 3 ∨ long = 4 := by omega
    all_goals
      go_enter Tryz.func131, Tryz.ntmps131
      go_wp2_with (go_at_call 132; refine (Hsp.out).mono ?_; rintro e w' ⟨rfl, rfl⟩)
      all_goals
        go_ret
        refine ⟨ret_bool ?_, rfl⟩
        rw [Hbeg.out, if_neg (by omega), Bool.eq_iff_iff]
        simp
        (try split) <;> omega

/-- what Next holds at the head of its outer loop: the best so far -/
def bestP (N S L : Nat) : Nat := if N ≠ 0 ∧ N < L then S else 1
def NextRel (N S : Nat) (best long : Value) : Prop := ∃ L : Nat, 2 ≤ L ∧ L ≤ 5 ∧ long = .int .i64 L ∧ best = .int .i64 (bestP N S L) ∧ (N ≠ 0 → N < L → S < N)
/-- and at the head of its inner one -/
def NextIn (N S n L : Nat) (best k : Value) : Prop := ∃ j : Nat, 1 ≤ j ∧ j ≤ L ∧ j ≤ n + 1 ∧ k = .int .i64 j ∧ (1 < j → L = N ∧ j - 1 ≤ S ∧ best = .int .i64 ((j - 1 : Nat) : Int)) ∧ (j = 1 → best = .int .i64 (bestP N S L))

set_option maxRecDepth 100000 in
set_option maxHeartbeats 2000000 in
theorem ref_next_core (b0 : UInt8) (n cap b off N S M : Nat) (C : Int) (beg : Nat → Nat → Bool) (sp : Nat → Int × Int) (w : World) (h0 : w.cell? ⟨b, off, none⟩ = some (.int .u8 b0.toNat)) (hs : ¬ b0.toNat < 128) (hn : 0 < n) (hm : n ≤ cap) (hcap : cap ≤ 9223372036854775807)
    (hcall : ∀ k L, 1 ≤ k → k ≤ L → 2 ≤ L → L ≤ 4 → k ≤ n → Calls Tryz.prog 131 #[.slice (some ⟨b, off, none⟩) k cap, .int .i64 (L : Nat)] w fun e w' => e = .returned (.bool (beg k L)) ∧ w = w')
    (hspan : ∀ L, 2 ≤ L → L ≤ 4 → L ≤ n → Calls Tryz.prog 132 #[.slice (some ⟨b, off, none⟩) L cap, .int .i64 (L : Nat)] w fun e w' => e = .returned (.tuple #[.int .i64 (sp L).1, .int .i64 (sp L).2]) ∧ w = w')
    (hbeg : ∀ k L, 1 ≤ k → k ≤ L → 2 ≤ L → L ≤ 4 → k ≤ n → beg k L = decide (L = N ∧ k ≤ S))
    (hval : ∀ L, 2 ≤ L → L ≤ 4 → L = N → L ≤ n → S = L → (sp L).1 = C ∧ M = L)
    (hnext : S < N ∨ N = 0 → C = 65533 ∧ M = (if N = 0 then 1 else S))
    (hN : N = 0 ∨ (2 ≤ N ∧ N ≤ 4)) (hS1 : 1 ≤ S) (hS2 : S ≤ n) (hS3 : N ≠ 0 → S ≤ N) :
    Calls Tryz.prog 95 #[.slice (some ⟨b, off, none⟩) n cap] w fun e w' => e = .returned (.tuple #[.int .i64 C, .int .i64 M]) ∧ w = w' := by
  have hb0 : b0.toNat < 256 := b0.toNat_lt
  have Hcall := Lib.hid hcall
  have Hspan := Lib.hid hspan
  have Hnext := Lib.hid hnext
  have Hval := Lib.hid hval
  have Hbeg := Lib.hid hbeg
  clear hcall hspan hnext hval hbeg
  go_enter Tryz.func95, Tryz.ntmps95
  go_wp2_with fail
  go_loop [4, 5] (fun best long => NextRel N S best long) (fun _ long => 5 - (intOf long).toNat)
  case atStart => exact ⟨2, by omega, by omega, rfl, by rw [bestP, if_neg (by omega)]; rfl, fun h1 h2 => by omega⟩
  case round =>
    obtain ⟨L, hL1, hL2, rfl, rfl, hLN⟩ := hrel
    have HLN := Lib.hid hLN
    clear hLN
    by_cases hL : L ≤ 4
    · go_wp2_with fail
      go_loop [4, 6] (fun best k => NextIn N S n L best k) (fun _ k => 5 - (intOf k).toNat)
      case atStart => exact ⟨1, by omega, by omega, by omega, rfl, fun h => by omega, fun _ => rfl⟩
      case round =>
        obtain ⟨j, hj1, hj2, hj3, rfl, hbest, hbest1⟩ := hrel
        have Hb := Lib.hid hbest
        have Hb1 := Lib.hid hbest1
        clear hbest hbest1
        by_cases hjn : j ≤ n
        · have hc := Hcall.out j L hj1 hj2 hL1 hL hjn
          rw [Hbeg.out j L hj1 hj2 hL1 hL hjn] at hc
          by_cases hgo : L = N ∧ j ≤ S
          · rw [decide_eq_true hgo] at hc
            obtain ⟨x, hx, hx1, hx2⟩ : ∃ x : Nat, u4 = .int .i64 (x : Int) ∧ 1 ≤ x ∧ x ≤ j := by
              rcases Nat.lt_or_ge 1 j with h1 | h1
              · exact ⟨j - 1, (Hb.out h1).2.2, by omega, by omega⟩
              · have := Hb1.out (by omega)
                rw [bestP, if_neg (by omega)] at this
                exact ⟨1, this, by omega, by omega⟩
            have Hc := Lib.hid hc
            have Hgo := Lib.hid hgo
            subst hx
            clear hc hgo
            by_cases hjL : j = L
            · have hjL' : ((j : Int) == (L : Int)) = true := by simp [hjL]
              have hv := Hval.out L hL1 hL Hgo.out.1 (by omega) (by have := Hgo.out; omega)
              have hsp := Hspan.out L hL1 hL (by omega)
              have Hv := Lib.hid hv
              have Hsp := Lib.hid hsp
              have HjL := Lib.hid hjL
              clear hjL hv hsp
              go_wp2_with fail
              refine (Hc.out).mono ?_
              rintro e w' ⟨rfl, rfl⟩
              go_wp2_with fail
              rw [HjL.out]
              refine (Hsp.out).mono ?_
              rintro e w' ⟨rfl, rfl⟩
              go_wp2
              go_ret2
              exact ⟨ret2 Hv.out.1 (by rw [Hv.out.2]), rfl⟩
            · have hjL' : ((j : Int) == (L : Int)) = false := by simp; omega
              have HjL := Lib.hid hjL
              clear hjL
              go_wp2_with fail
              refine (Hc.out).mono ?_
              rintro e w' ⟨rfl, rfl⟩
              go_wp2
              have hnew : NextIn N S n L (.int .i64 (max (x : Int) j)) (.int .i64 ((j : Int) + 1)) := by
                have := HjL.out
                exact ⟨j + 1, by omega, by omega, by omega, by go_num, fun _ => ⟨Hgo.out.1, by have := Hgo.out.2; omega, by rw [show max (x : Int) j = ((j + 1 - 1 : Nat) : Int) from by omega]⟩, fun h => by omega⟩
              exact ⟨hnew, by simp [intOf]; omega⟩
          · rw [decide_eq_false hgo] at hc
            have hnew : NextRel N S u4 (.int .i64 ((L : Int) + 1)) := by
              have h1 := HLN.out
              have h2 := Hb.out
              have h3 := Hb1.out
              refine ⟨L + 1, by omega, by omega, by go_num, ?_, fun e1 e2 => ?_⟩
              · by_cases e : L = N
                · have hj : 1 < j := by omega
                  have := h2 hj
                  rw [this.2.2, bestP, if_pos (by omega)]
                  congr 2; omega
                · have hj : j = 1 := by
                    rcases Nat.lt_or_ge 1 j with h | h
                    · exact absurd (h2 h).1 e
                    · omega
                  rw [h3 hj, bestP, bestP]
                  congr 2
                  (repeat' split) <;> omega
              · by_cases e : L = N
                · omega
                · exact h1 e1 (by omega)
            have Hc := Lib.hid hc
            have Hgo := Lib.hid hgo
            have Hnew := Lib.hid hnew
            clear hc hgo hnew
            go_wp2_with fail
            refine (Hc.out).mono ?_
            rintro e w' ⟨rfl, rfl⟩
            go_wp2
            exact ⟨Hnew.out, by simp [intOf]; omega⟩
        · have hnew : NextRel N S u4 (.int .i64 ((L : Int) + 1)) := by
            have h2 := Hb.out (by omega)
            refine ⟨L + 1, by omega, by omega, by go_num, ?_, fun e1 e2 => by omega⟩
            rw [h2.2.2, bestP, if_pos (by omega)]
            congr 2; omega
          have Hnew := Lib.hid hnew
          clear hnew
          go_wp2_with fail
          exact ⟨Hnew.out, by simp [intOf]; omega⟩
    · obtain rfl : L = 5 := by omega
      have hx := Hnext.out (by have := HLN.out; omega)
      have Hx := Lib.hid hx
      clear hx
      go_wp2
      go_ret2
      refine ⟨ret2 Hx.out.1.symm ?_, rfl⟩
      rw [Hx.out.2]
      unfold bestP
      (repeat' split) <;> omega

set_option maxRecDepth 100000 in
set_option maxHeartbeats 2000000 in
theorem ref_next (bs : List UInt8) (A : Option Addr) (n cap B : Nat) (w : World) (hr : Reads w B 1 A n (bs.map b8)) (hn : 0 < n) (hm : n ≤ cap) (hcap : cap ≤ 9223372036854775807) :
    Calls Tryz.prog 95 #[.slice A n cap] w fun e w' => e = .returned (.tuple #[.int .i64 (nextC bs), .int .i64 (nextN bs)]) ∧ w = w' := by
  have hlen : bs.length = n := by simpa using hr.len
  obtain ⟨b, off, rfl, hb, hcell⟩ := hr.open_ hn
  have hcall : ∀ k L, 1 ≤ k → k ≤ L → 2 ≤ L → L ≤ 4 → k ≤ n → Calls Tryz.prog 131 #[.slice (some ⟨b, off, none⟩) k cap, .int .i64 L] w fun e w' => e = .returned (.bool (begR (bs.take k) L)) ∧ w = w' := fun k L h1 h2 h3 h4 h5 =>
    ref_begins_ (bs.take k) _ k cap B L w (by have := hr.take h5; rwa [← List.map_take] at this) h1 (by omega) h3 h4
  have hspan : ∀ L, 2 ≤ L → L ≤ 4 → L ≤ n → Calls Tryz.prog 132 #[.slice (some ⟨b, off, none⟩) L cap, .int .i64 L] w fun e w' => e = .returned (.tuple #[.int .i64 (spanR (bs.take L) L).1, .int .i64 (spanR (bs.take L) L).2]) ∧ w = w' := fun L h3 h4 h5 =>
    ref_span (bs.take L) _ L cap B L w (by have := hr.take h5; rwa [← List.map_take] at this) (by omega) (by omega) h3 h4
  have hval : ∀ L, 2 ≤ L → L ≤ 4 → L = bN (bs[0]?.getD 0).toNat → L ≤ n → stopP bs = L → (spanR (bs.take L) L).1 = nextC bs ∧ nextN bs = L := fun L h1 h2 h3 h4 h5 => by
    have hx := next_full (bs := bs) (by omega) (by omega)
    exact ⟨by rw [span_val bs L h1 h2 h3 (by omega) h5, hx.1, ← h3], by rw [hx.2, ← h3]⟩
  have hbeg : 128 ≤ (bs[0]?.getD 0).toNat → ∀ k L, 1 ≤ k → k ≤ L → 2 ≤ L → L ≤ 4 → k ≤ n → begR (bs.take k) L = decide (L = bN (bs[0]?.getD 0).toNat ∧ k ≤ stopP bs) := fun h0 k L h1 h2 h3 h4 h5 => by
    rw [Bool.eq_iff_iff, decide_eq_true_iff]; exact beg_take bs k L h0 h1 h2 h3 h4 (by omega)
  have hN1 : 128 ≤ (bs[0]?.getD 0).toNat → bN (bs[0]?.getD 0).toNat = 0 ∨ (2 ≤ bN (bs[0]?.getD 0).toNat ∧ bN (bs[0]?.getD 0).toNat ≤ 4) := by unfold bN; (repeat' split) <;> omega
  have hS1 : 1 ≤ stopP bs := scan_ge bs _ _ _ 1
  have hS2 : stopP bs ≤ n := by rw [← hlen]; exact scan_le bs _ _ _ 1 (by omega)
  have hS3 : bN (bs[0]?.getD 0).toNat ≠ 0 → stopP bs ≤ bN (bs[0]?.getD 0).toNat := by
    intro h0
    unfold stopP
    simp only
    generalize bLo (bs[0]?.getD 0).toNat = lo
    generalize bHi (bs[0]?.getD 0).toNat = hi
    have : ∀ f k, scan bs lo hi f k ≤ k + f := by
      intro f
      induction f with
      | zero => intro k; exact Nat.le_refl _
      | succ f ih =>
        intro k; unfold scan; split
        · exact Nat.le_trans (ih (k + 1)) (by omega)
        · omega
    exact Nat.le_trans (this _ 1) (by omega)
  have hnext : stopP bs < bN (bs[0]?.getD 0).toNat ∨ bN (bs[0]?.getD 0).toNat = 0 → nextC bs = 65533 ∧ nextN bs = (if bN (bs[0]?.getD 0).toNat = 0 then 1 else stopP bs) := by
    intro h
    by_cases h0 : bN (bs[0]?.getD 0).toNat = 0
    · simp [nextC, nextN, h0]
    · simp [nextC, nextN, h0, h.resolve_right h0]
  obtain ⟨b0, hb0⟩ : ∃ b0, bs[0]? = some b0 := ⟨_, List.getElem?_eq_getElem (by omega)⟩
  have hc0 : w.cell? ⟨b, off, none⟩ = some (.int .u8 b0.toNat) := by have := hcell 0 (b8 b0) (by rw [List.getElem?_map, hb0]; rfl); simpa [b8] using this
  have e0 : (bs[0]?.getD 0) = b0 := by rw [hb0]; rfl
  by_cases hs : b0.toNat < 128
  · have h1 : bN (bs[0]?.getD 0).toNat = 1 := by rw [e0]; simp [bN, hs]
    have hst : stopP bs = 1 := by simp only [stopP, h1]; rfl
    have hx := next_full (bs := bs) (by omega) (by rw [hst, h1])
    rw [h1] at hx
    have hx1 : nextC bs = b0.toNat := by rw [hx.1]; simp [val, hb0]
    have Hx := Lib.hid hx
    have Hx1 := Lib.hid hx1
    have hb256 : b0.toNat < 256 := b0.toNat_lt
    clear hx hx1 h1 hst hcall hspan hval hbeg hN1 hS1 hS2 hS3 hnext hb0 e0 hcell hr hlen
    go_enter Tryz.func95, Tryz.ntmps95
    go_wp2
    go_ret2
    exact ⟨ret2 Hx1.out.symm (by rw [Hx.out.2]; rfl), rfl⟩
  · exact ref_next_core b0 n cap b off _ (stopP bs) (nextN bs) (nextC bs) (fun k L => begR (bs.take k) L) (fun L => spanR (bs.take L) L) w hc0 hs hn hm hcap hcall hspan (hbeg (by rw [e0]; omega)) hval hnext (hN1 (by rw [e0]; omega)) hS1 hS2 hS3
end Go.Proofs.YtfhdihdafmahgaaGreatDoor
/- The reference's Read of layer 2 is walked; it answers what runes.Read answers. -/
set_option linter.unusedVariables false
set_option linter.unusedSimpArgs false
namespace Go.Proofs.YtfhdihdafmahgaaGreatDoor
open Go.RowKit Rn
namespace Rn
def refC (c : Int) : Int := if c = 13 ∨ c = 12 then 10 else if c = 0 then 65533 else c
def refN (bs : List UInt8) : Nat := if nextC bs = 13 ∧ bs[1]? = some 10 then 2 else nextN bs
def refF : Nat → List UInt8 → List Int
  | 0, _ => []
  | f + 1, bs => if bs = [] then [] else refC (nextC bs) :: refF f (bs.drop (refN bs))
end Rn
theorem nextC_small (bs : List UInt8) (h : nextC bs < 128) : nextN bs = 1 ∧ ((bs[0]?.getD 0).toNat : Int) = nextC bs := by
  have hb := UInt8.toNat_lt (bs[0]?.getD 0)
  have key : bN (bs[0]?.getD 0).toNat = 1 → nextN bs = 1 ∧ ((bs[0]?.getD 0).toNat : Int) = nextC bs := by
    intro h1
    have hst : stopP bs = 1 := by simp only [stopP, h1]; rfl
    have hx := next_full (bs := bs) (by omega) (by rw [hst, h1])
    rw [h1] at hx
    exact ⟨hx.2, by rw [hx.1]; simp [val]⟩
  by_cases h1 : bN (bs[0]?.getD 0).toNat = 1
  · exact key h1
  · exfalso
    by_cases h0 : bN (bs[0]?.getD 0).toNat = 0
    · simp [nextC, h0] at h
    · by_cases hs : stopP bs < bN (bs[0]?.getD 0).toNat
      · simp [nextC, h0, hs] at h
      · have hN : bN (bs[0]?.getD 0).toNat ≤ 4 := by unfold bN; (repeat' split) <;> omega
        have hok := (stop_ge bs (bN (bs[0]?.getD 0).toNat) (Nat.le_refl _) (by omega)).1 (by omega)
        obtain ⟨b1, g1, l1, u1⟩ := okAt_mem (hok 1 (by omega) (by omega))
        have hval : 128 ≤ val bs (bN (bs[0]?.getD 0).toNat) := by
          have hN2 : bN (bs[0]?.getD 0).toNat = 2 ∨ bN (bs[0]?.getD 0).toNat = 3 ∨ bN (bs[0]?.getD 0).toNat = 4 := by omega
          revert l1 u1
          generalize hc : (bs[0]?.getD 0).toNat = c at *
          simp only [val, hc, g1, Option.getD_some]
          rcases hN2 with e | e | e
          · have : 194 ≤ c ∧ c < 224 := by revert e; unfold bN; (repeat' split) <;> omega
            rw [e]; simp only [if_neg (show ¬ (2 = 1) from by omega), if_true]
            omega
          · have : 224 ≤ c ∧ c < 240 := by revert e; unfold bN; (repeat' split) <;> omega
            rw [e]; simp only [if_neg (show ¬ (3 = 1) from by omega), if_neg (show ¬ (3 = 2) from by omega), if_true]
            unfold loAt hiAt bLo bHi
            (repeat' split) <;> omega
          · have : 240 ≤ c ∧ c ≤ 244 := by revert e; unfold bN; (repeat' split) <;> omega
            rw [e]; simp only [if_neg (show ¬ (4 = 1) from by omega), if_neg (show ¬ (4 = 2) from by omega), if_neg (show ¬ (4 = 3) from by omega)]
            unfold loAt hiAt bLo bHi
            (repeat' split) <;> omega
        simp [nextC, h0, hs] at h
        omega
theorem drop_nil_len {α : Type} (l : List α) (n : Nat) (h : 1 ≤ n) (hl : l ≠ []) : (l.drop n).length < l.length := by
  have := List.length_pos_iff.2 hl
  rw [List.length_drop]; omega
theorem readF_fuel : ∀ (g : Nat) (bs : List UInt8), bs.length ≤ g → readF (g + 1) bs = readF g bs
  | 0, bs, h => by
    have : bs = [] := List.eq_nil_of_length_eq_zero (by omega)
    simp [readF, this]
  | g + 1, bs, h => by
    by_cases h0 : bs = []
    · simp [readF, h0]
    · have ih := readF_fuel g (bs.drop (nextN bs)) (by have := drop_nil_len bs (nextN bs) (nextN_pos bs) h0; omega)
      rw [readF, readF]
      simp only [h0, ih]
theorem refF_eq : ∀ (f : Nat) (bs : List UInt8), bs.length ≤ f → refF f bs = readF f bs
  | 0, bs, h => by
    have : bs = [] := List.eq_nil_of_length_eq_zero (by omega)
    simp [readF, refF, this]
  | f + 1, bs, h => by
    by_cases h0 : bs = []
    · simp [readF, refF, h0]
    · have hd := drop_nil_len bs (nextN bs) (nextN_pos bs) h0
      have ih := refF_eq f (bs.drop (nextN bs)) (by omega)
      rw [refF, if_neg h0]
      by_cases c0 : nextC bs = 0
      · rw [readF_zero f h0 c0, refN, if_neg (by omega), ih, refC, if_neg (by omega), if_pos c0]
      · by_cases c1 : nextC bs = 13
        · obtain ⟨hn1, _⟩ := nextC_small bs (by omega)
          have hsnd : (bs.drop (nextN bs))[0]? = bs[1]? := by rw [hn1, List.getElem?_drop]
          by_cases h10 : bs[1]? = some 10
          · have hl2 : 2 ≤ bs.length := by
              rcases Nat.lt_or_ge 1 bs.length with h | h
              · exact h
              · rw [List.getElem?_eq_none h] at h10; cases h10
            obtain ⟨g, rfl⟩ : ∃ g, f = g + 1 := ⟨f - 1, by omega⟩
            rw [readF_skip _ h0 c1 (by rw [hsnd]; exact h10), refN, if_pos ⟨c1, h10⟩, refC, if_pos (.inl c1)]
            have hne : bs.drop (nextN bs) ≠ [] := by intro e; rw [e] at hsnd; rw [h10] at hsnd; cases hsnd
            have hg0 : ((bs.drop (nextN bs))[0]?.getD 0).toNat = 10 := by rw [hsnd, h10]; rfl
            have hbn : bN ((bs.drop (nextN bs))[0]?.getD 0).toNat = 1 := by rw [hg0]; rfl
            have hst : stopP (bs.drop (nextN bs)) = 1 := by simp only [stopP, hbn]; rfl
            have hx := next_full (bs := bs.drop (nextN bs)) (by omega) (by rw [hst, hbn])
            rw [hbn] at hx
            have hc10 : nextC (bs.drop (nextN bs)) = 10 := by rw [hx.1]; simp only [val, if_true, hg0]; rfl
            rw [readF_char g hne (by omega) (by omega) (by omega), hx.2, hc10, List.drop_drop, hn1]
            rw [refF_eq (g + 1) (bs.drop 2) (by rw [List.length_drop]; omega), readF_fuel g (bs.drop 2) (by rw [List.length_drop]; omega)]
          · rw [readF_line f h0 (.inl ⟨c1, by rw [hsnd]; exact h10⟩), refN, if_neg (by intro h; exact h10 h.2), ih, refC, if_pos (.inl c1)]
        · by_cases c2 : nextC bs = 12
          · rw [readF_line f h0 (.inr c2), refN, if_neg (by intro h; exact c1 h.1), ih, refC, if_pos (.inr c2)]
          · rw [readF_char f h0 c0 c1 c2, refN, if_neg (by intro h; exact c1 h.1), ih, refC, if_neg (by omega), if_neg c0]

theorem int_info : (Tryz.prog.info? 3).map (fun i => (i.zero, i.size, i.bytes)) = some (some (.int .i64 0), 1, 8) := by kernel_rfl

set_option maxRecDepth 100000 in
set_option maxHeartbeats 2000000 in
theorem ref_read (bs : List UInt8) (A : Option Addr) (n cap : Nat) (w : World) (hr : Reads w w.heap.size 1 A n (bs.map b8)) (hm : n ≤ cap) (hcap : cap ≤ maxLen) (hn : n ≤ 1000000) :
    Calls Tryz.prog 64 #[.slice A n cap] w fun e w' => ∃ v, e = .returned v ∧ w'.ownsRow w.heap.size 3 1 v (readP bs).length ((readP bs).map n64) ∧ Below w.heap.size w w' := by
  have hcap' := hcap
  unfold maxLen at hcap
  have hlen : bs.length = n := by simpa using hr.len
  have hP : refF bs.length bs = readP bs := refF_eq _ bs (Nat.le_refl _)
  obtain ⟨i0, hi, hz0, hz1, hz2⟩ := info_parts int_info
  have Hlen := Lib.hid hlen
  have HP := Lib.hid hP
  clear hlen hP
  go_enter Tryz.func64, Tryz.ntmps64
  go_wp2
  go_loopw [0, 3] (fun b o wr => ∃ (rest : List UInt8) (A : Option Addr) (m c : Nat) (done : List Int) (f : Nat), b = .slice A m c ∧ Reads wr w.heap.size 1 A m (rest.map b8) ∧ m ≤ c ∧ c ≤ 9223372036854775807 ∧ m + done.length ≤ n
      ∧ wr.ownsRow w.heap.size 3 1 o done.length (done.map n64) ∧ Below w.heap.size w wr ∧ Hid (rest.length ≤ f) ∧ Hid (done ++ refF f rest = readP bs)) (fun b _ _ => match b with | .slice _ m _ => m | _ => 0)
  case atStart => exact ⟨bs, A, n, cap, [], bs.length, rfl, hr, hm, by omega, by simp, World.ownsRow_nil _ _ _ _, Below.refl _ _, Nat.le_refl _, HP.out⟩
  case round =>
    obtain ⟨rest, A', m, c, done, f, rfl, hr', hmc, hc, hdm, hown, hb, hf, hd⟩ := hrel
    by_cases h0 : 0 < m
    · have hrl : rest.length = m := by simpa using hr'.len
      have hne : rest ≠ [] := by intro e0; rw [e0] at hrl; simp at hrl; omega
      have hN0 : nextN rest ≤ rest.length := nextN_le rest hne
      have hN1 : 1 ≤ refN rest := by unfold refN; split; · omega
                                     exact nextN_pos rest
      have hN2 : refN rest ≤ m := by
        unfold refN; split
        · rename_i h
          rcases Nat.lt_or_ge 1 rest.length with h1 | h1
          · omega
          · rw [List.getElem?_eq_none h1] at h; cases h.2
        · omega
      have hNp := nextN_pos rest
      have hsl := fun (kd : IntKind) W => run_cut (P := Tryz.prog) Tryz.underlying22 (by kernel_rfl) (s := 1) (fun W => by kernel_rfl) A' m c kd (refN rest) hN2 W
      have hcut := hr'.cutA (k := refN rest) (c := c) hN2 hmc
      rw [← List.map_drop] at hcut
      have hs2 := hb.size
      have hcall := ref_next rest A' m c _ wr hr' h0 hmc (by omega)
      obtain ⟨f, hff⟩ : ∃ g, Hid (f = g + 1) := ⟨f - 1, by have := hf.out; show f = f - 1 + 1; omega⟩
      rw [hff.out] at hf hd
      have hf' : Hid ((rest.drop (refN rest)).length ≤ f) := by have := hf.out; show (rest.drop (refN rest)).length ≤ f; rw [List.length_drop]; omega
      have step : (done ++ [refC (nextC rest)]) ++ refF f (rest.drop (refN rest)) = readP bs := by
        have := hd.out; rw [refF, if_neg hne] at this; rw [← this]; simp
      have Hstep := Lib.hid step
      have Hcall := Lib.hid hcall
      have Hrl := Lib.hid hrl
      have Hne := Lib.hid hne
      have hsz : m - refN rest + (done.length + 1) ≤ n := by omega
      clear step hff hcall hrl hne hd hf
      generalize hA2 : cutAt A' c (refN rest) 1 = A2 at *
      clear hA2
      by_cases c1 : nextC rest = 13
      · have c1' : (nextC rest == 13) = true := by simp [c1]
        by_cases hmore : 1 < m
        · obtain ⟨b, off, u, hA, _, hx, hcell⟩ := hr'.at_ (k := 1) hmore
          subst hA
          obtain ⟨b', hx'⟩ : ∃ b', rest[1]? = some b' := ⟨_, List.getElem?_eq_getElem (by rw [Hrl.out]; omega)⟩
          rw [List.getElem?_map, hx'] at hx
          obtain rfl : u = b8 b' := by simpa using hx.symm
          unfold b8 at hcell
          by_cases h10 : b' = 10
          · have h10' : ((b'.toNat : Int) == 10) = true := by simp [h10]
            have hrN : refN rest = 2 := by rw [refN, if_pos ⟨c1, by rw [hx', h10]⟩]
            rw [hrN] at hN1 hN2 hsl hcut hf' Hstep hsz
            have HC1 := Lib.hid c1
            have hsl2 : ∀ (kd : IntKind) W, (Instr.slice 22 (.slice (some ⟨b, off, none⟩) m c) (some (.int kd 2)) none none).run Tryz.prog W = .ok (.slice A2 (m - 2) (c - 2)) W := hsl
            clear c1 hx' hx h10 hrN hsl
            have hx : refC (nextC rest) = 10 := by
              simp only [refC]; (repeat' split) <;> simp_all [Hid] <;> omega
            rw [hx] at Hstep
            clear hx
            have Hstep2 := Hstep
            clear Hstep
            go_wp2_with (first | (go_at_call 95; refine (Hcall.out).mono ?_; rintro e w' ⟨rfl, rfl⟩) | (at_builtin; refine wpList_append_own _ rfl _ _ 51 rfl w.heap.size 3 i0 (.int .i64 0) 1 8 Tryz.underlying51 hi hz0 hz1 hz2 rfl (by decide) _ _ _ rfl (hown.alloc _) ⟨wr.heap.size, 0, none⟩ 1 1 [.int .i64 10] rfl rfl ?c1 ?c2 ?c3 ?c4 ?c5 ?_))
            case c1 => exact cell_one_new _ _ _
            case c2 => intro u hu; simp at hu; subst hu; rfl
            case c3 => unfold maxLen; omega
            case c4 => omega
            case c5 => simp; omega
            intro v' w2 hown' hgrow _
            have hbn := push_below hb hs2 hown hgrow
            have hrn := push_reads hcut hs2 hown hgrow
            clear hgrow hown hcut hb
            go_wp2
            go_roundw
            case rel => exact ⟨_, A2, _, _, done ++ [10], f, rfl, hrn, by omega, by omega, by simpa using hsz, by simpa [n64] using hown', hbn, hf', Hstep2.out⟩
            case measure => simp; omega
          · have h10' : ((b'.toNat : Int) == 10) = false := by
              simp only [beq_eq_false_iff_ne]
              intro e
              exact h10 (UInt8.toNat_inj.1 (by simpa using Int.ofNat.inj e))
            have hrN : refN rest = nextN rest := by rw [refN, if_neg (by intro h; rw [hx'] at h; exact h10 (by simpa using h.2))]
            rw [hrN] at hN1 hN2 hsl hcut hf' Hstep hsz
            have HC1 := Lib.hid c1
            clear c1 hx' hx h10 hrN
            have hx : refC (nextC rest) = 10 := by
              simp only [refC]; (repeat' split) <;> simp_all [Hid] <;> omega
            rw [hx] at Hstep
            clear hx
            have Hstep2 := Hstep
            clear Hstep
            go_wp2_with (first | (go_at_call 95; refine (Hcall.out).mono ?_; rintro e w' ⟨rfl, rfl⟩) | (at_builtin; refine wpList_append_own _ rfl _ _ 51 rfl w.heap.size 3 i0 (.int .i64 0) 1 8 Tryz.underlying51 hi hz0 hz1 hz2 rfl (by decide) _ _ _ rfl (hown.alloc _) ⟨wr.heap.size, 0, none⟩ 1 1 [.int .i64 10] rfl rfl ?c1 ?c2 ?c3 ?c4 ?c5 ?_))
            case c1 => exact cell_one_new _ _ _
            case c2 => intro u hu; simp at hu; subst hu; rfl
            case c3 => unfold maxLen; omega
            case c4 => omega
            case c5 => simp; omega
            intro v' w2 hown' hgrow _
            have hbn := push_below hb hs2 hown hgrow
            have hrn := push_reads hcut hs2 hown hgrow
            clear hgrow hown hcut hb
            go_wp2
            go_roundw
            case rel => exact ⟨_, A2, _, _, done ++ [10], f, rfl, hrn, by omega, by omega, by simpa using hsz, by simpa [n64] using hown', hbn, hf', Hstep2.out⟩
            case measure => simp; omega
        · have hrN : refN rest = nextN rest := by rw [refN, if_neg (by intro h; rw [List.getElem?_eq_none (by rw [Hrl.out]; omega)] at h; cases h.2)]
          rw [hrN] at hN1 hN2 hsl hcut hf' Hstep hsz
          have HC1 := Lib.hid c1
          have hm1 : ¬ (1 : Int) < (m : Int) := by omega
          have hm2 : (m : Int) ≤ 1 := by omega
          have hmb : decide ((1 : Int) < (m : Int)) = false := by simp; omega
          clear c1 hrN hmore
          have hx : refC (nextC rest) = 10 := by
            simp only [refC]; (repeat' split) <;> simp_all [Hid] <;> omega
          rw [hx] at Hstep
          clear hx
          have Hstep2 := Hstep
          clear Hstep
          go_wp2_with (first | (go_at_call 95; refine (Hcall.out).mono ?_; rintro e w' ⟨rfl, rfl⟩) | (at_builtin; refine wpList_append_own _ rfl _ _ 51 rfl w.heap.size 3 i0 (.int .i64 0) 1 8 Tryz.underlying51 hi hz0 hz1 hz2 rfl (by decide) _ _ _ rfl (hown.alloc _) ⟨wr.heap.size, 0, none⟩ 1 1 [.int .i64 10] rfl rfl ?c1 ?c2 ?c3 ?c4 ?c5 ?_))
          case c1 => exact cell_one_new _ _ _
          case c2 => intro u hu; simp at hu; subst hu; rfl
          case c3 => unfold maxLen; omega
          case c4 => omega
          case c5 => simp; omega
          intro v' w2 hown' hgrow _
          have hbn := push_below hb hs2 hown hgrow
          have hrn := push_reads hcut hs2 hown hgrow
          clear hgrow hown hcut hb
          go_wp2
          go_roundw
          case rel => exact ⟨_, A2, _, _, done ++ [10], f, rfl, hrn, by omega, by omega, by simpa using hsz, by simpa [n64] using hown', hbn, hf', Hstep2.out⟩
          case measure => simp; omega
      · have c1' : (nextC rest == 13) = false := by simp [c1]
        have hrN : refN rest = nextN rest := by rw [refN, if_neg (by intro h; exact c1 h.1)]
        rw [hrN] at hN1 hN2 hsl hcut hf' Hstep hsz
        have HC1 := Lib.hid c1
        clear c1 hrN
        by_cases c2 : nextC rest = 12
        · have c2' : (nextC rest == 12) = true := by simp [c2]
          have HC2 := Lib.hid c2
          clear c2
          have hx : refC (nextC rest) = 10 := by
            simp only [refC]; (repeat' split) <;> simp_all [Hid] <;> omega
          rw [hx] at Hstep
          clear hx
          have Hstep2 := Hstep
          clear Hstep
          go_wp2_with (first | (go_at_call 95; refine (Hcall.out).mono ?_; rintro e w' ⟨rfl, rfl⟩) | (at_builtin; refine wpList_append_own _ rfl _ _ 51 rfl w.heap.size 3 i0 (.int .i64 0) 1 8 Tryz.underlying51 hi hz0 hz1 hz2 rfl (by decide) _ _ _ rfl (hown.alloc _) ⟨wr.heap.size, 0, none⟩ 1 1 [.int .i64 10] rfl rfl ?c1 ?c2 ?c3 ?c4 ?c5 ?_))
          case c1 => exact cell_one_new _ _ _
          case c2 => intro u hu; simp at hu; subst hu; rfl
          case c3 => unfold maxLen; omega
          case c4 => omega
          case c5 => simp; omega
          intro v' w2 hown' hgrow _
          have hbn := push_below hb hs2 hown hgrow
          have hrn := push_reads hcut hs2 hown hgrow
          clear hgrow hown hcut hb
          go_wp2
          go_roundw
          case rel => exact ⟨_, A2, _, _, done ++ [10], f, rfl, hrn, by omega, by omega, by simpa using hsz, by simpa [n64] using hown', hbn, hf', Hstep2.out⟩
          case measure => simp; omega
        · have c2' : (nextC rest == 12) = false := by simp [c2]
          have HC2 := Lib.hid c2
          clear c2
          by_cases c0 : nextC rest = 0
          · have c0' : (nextC rest == 0) = true := by simp [c0]
            have HC0 := Lib.hid c0
            clear c0
            have hx : refC (nextC rest) = 65533 := by
              simp only [refC]; (repeat' split) <;> simp_all [Hid] <;> omega
            rw [hx] at Hstep
            clear hx
            have Hstep2 := Hstep
            clear Hstep
            go_wp2_with (first | (go_at_call 95; refine (Hcall.out).mono ?_; rintro e w' ⟨rfl, rfl⟩) | (at_builtin; refine wpList_append_own _ rfl _ _ 51 rfl w.heap.size 3 i0 (.int .i64 0) 1 8 Tryz.underlying51 hi hz0 hz1 hz2 rfl (by decide) _ _ _ rfl (hown.alloc _) ⟨wr.heap.size, 0, none⟩ 1 1 [.int .i64 65533] rfl rfl ?c1 ?c2 ?c3 ?c4 ?c5 ?_))
            case c1 => exact cell_one_new _ _ _
            case c2 => intro u hu; simp at hu; subst hu; rfl
            case c3 => unfold maxLen; omega
            case c4 => omega
            case c5 => simp; omega
            intro v' w2 hown' hgrow _
            have hbn := push_below hb hs2 hown hgrow
            have hrn := push_reads hcut hs2 hown hgrow
            clear hgrow hown hcut hb
            go_wp2
            go_roundw
            case rel => exact ⟨_, A2, _, _, done ++ [65533], f, rfl, hrn, by omega, by omega, by simpa using hsz, by simpa [n64] using hown', hbn, hf', Hstep2.out⟩
            case measure => simp; omega
          · have c0' : (nextC rest == 0) = false := by simp [c0]
            have HC0 := Lib.hid c0
            clear c0
            have hx : refC (nextC rest) = (nextC rest) := by
              simp only [refC]; (repeat' split) <;> simp_all [Hid] <;> omega
            rw [hx] at Hstep
            clear hx
            have Hstep2 := Hstep
            clear Hstep
            go_wp2_with (first | (go_at_call 95; refine (Hcall.out).mono ?_; rintro e w' ⟨rfl, rfl⟩) | (at_builtin; refine wpList_append_own _ rfl _ _ 51 rfl w.heap.size 3 i0 (.int .i64 0) 1 8 Tryz.underlying51 hi hz0 hz1 hz2 rfl (by decide) _ _ _ rfl (hown.alloc _) ⟨wr.heap.size, 0, none⟩ 1 1 [.int .i64 (nextC rest)] rfl rfl ?c1 ?c2 ?c3 ?c4 ?c5 ?_))
            case c1 => exact cell_one_new _ _ _
            case c2 => intro u hu; simp at hu; subst hu; rfl
            case c3 => unfold maxLen; omega
            case c4 => omega
            case c5 => simp; omega
            intro v' w2 hown' hgrow _
            have hbn := push_below hb hs2 hown hgrow
            have hrn := push_reads hcut hs2 hown hgrow
            clear hgrow hown hcut hb
            go_wp2
            go_roundw
            case rel => exact ⟨_, A2, _, _, done ++ [(nextC rest)], f, rfl, hrn, by omega, by omega, by simpa using hsz, by simpa [n64] using hown', hbn, hf', Hstep2.out⟩
            case measure => simp; omega
    · have hm0 : m = 0 := by omega
      subst hm0
      go_wp2
      go_ret
      have hrl : rest = [] := by simpa using hr'.len
      have hdn : done = readP bs := by have := hd.out; rw [hrl] at this; rw [← this]; cases f <;> simp [refF]
      rw [hdn] at hown
      exact ⟨_, rfl, hown, hb⟩
end Go.Proofs.YtfhdihdafmahgaaGreatDoor
/- Plain laws of layer 2: what is read is characters that a sheet may hold; bytes parted ahead of one below 0x80 that is no 10 are read as both parts. -/
set_option linter.unusedVariables false
set_option linter.unusedSimpArgs false
set_option linter.unusedSectionVars false
namespace Go.Proofs.YtfhdihdafmahgaaGreatDoor
open Go.RowKit Rn

theorem nextC_is (bs : List UInt8) : isB (nextC bs) = true := by
  have hb0 := UInt8.toNat_lt (bs[0]?.getD 0)
  unfold nextC
  simp only
  split
  · decide
  · rename_i h0
    split
    · decide
    · rename_i hs
      have hN : bN (bs[0]?.getD 0).toNat ≤ 4 := by unfold bN; (repeat' split) <;> omega
      have hok := (stop_ge bs (bN (bs[0]?.getD 0).toNat) (Nat.le_refl _) (by omega)).1 (by omega)
      unfold isB
      rw [decide_eq_true_iff]
      obtain e | e | e | e : bN (bs[0]?.getD 0).toNat = 1 ∨ bN (bs[0]?.getD 0).toNat = 2 ∨ bN (bs[0]?.getD 0).toNat = 3 ∨ bN (bs[0]?.getD 0).toNat = 4 := by omega
      · have hc : (bs[0]?.getD 0).toNat < 128 := by revert e; unfold bN; (repeat' split) <;> omega
        rw [e]; simp only [val, if_true]; omega
      · have hc : 194 ≤ (bs[0]?.getD 0).toNat ∧ (bs[0]?.getD 0).toNat < 224 := by revert e; unfold bN; (repeat' split) <;> omega
        rw [e]; simp only [val, if_true, if_neg (show ¬ (2 = 1) from by omega)]; omega
      · have hc : 224 ≤ (bs[0]?.getD 0).toNat ∧ (bs[0]?.getD 0).toNat < 240 := by revert e; unfold bN; (repeat' split) <;> omega
        obtain ⟨b1, g1, l1, u1⟩ := okAt_mem (hok 1 (by omega) (by omega))
        revert l1 u1
        rw [e]; simp only [val, if_true, if_neg (show ¬ (3 = 1) from by omega), if_neg (show ¬ (3 = 2) from by omega), g1, Option.getD_some]
        unfold loAt hiAt bLo bHi
        (repeat' split) <;> omega
      · have hc : 240 ≤ (bs[0]?.getD 0).toNat ∧ (bs[0]?.getD 0).toNat ≤ 244 := by revert e; unfold bN; (repeat' split) <;> omega
        obtain ⟨b1, g1, l1, u1⟩ := okAt_mem (hok 1 (by omega) (by omega))
        revert l1 u1
        rw [e]; simp only [val, if_neg (show ¬ (4 = 1) from by omega), if_neg (show ¬ (4 = 2) from by omega), if_neg (show ¬ (4 = 3) from by omega), g1, Option.getD_some]
        unfold loAt hiAt bLo bHi
        (repeat' split) <;> omega
theorem readF_plain : ∀ (f : Nat) (bs : List UInt8), ∀ c ∈ readF f bs, Plain c
  | 0, bs => by simp [readF]
  | f + 1, bs => by
    have ih := readF_plain f (bs.drop (nextN bs))
    have hc := nextC_is bs
    have h65 : Plain 65533 := ⟨by decide, by decide, by decide, by decide⟩
    have h10 : Plain 10 := ⟨by decide, by decide, by decide, by decide⟩
    unfold readF
    simp only
    split
    · simp
    · split
      · intro c h
        rcases List.mem_cons.1 h with rfl | h
        · exact h65
        · exact ih c h
      · rename_i c0
        split
        · exact ih
        · split
          · intro c h
            rcases List.mem_cons.1 h with rfl | h
            · exact h10
            · exact ih c h
          · rename_i c12
            intro c h
            rcases List.mem_cons.1 h with rfl | h
            · exact ⟨hc, c0, fun e => c12 (.inr e), fun e => c12 (.inl e)⟩
            · exact ih c h
theorem readP_plain (bs : List UInt8) : ∀ c ∈ readP bs, Plain c := readF_plain _ bs

theorem readF_more : ∀ (k g : Nat) (bs : List UInt8), bs.length ≤ g → readF (g + k) bs = readF g bs
  | 0, g, bs, h => rfl
  | k + 1, g, bs, h => by rw [← Nat.add_assoc, readF_fuel (g + k) bs (by omega)]; exact readF_more k g bs h

section
variable (a : List UInt8) (b0 : UInt8) (b : List UInt8) (ha : a ≠ []) (h128 : b0.toNat < 128)
include ha h128
theorem head_app : (a ++ b0 :: b)[0]? = a[0]? := by
  obtain ⟨x, r, rfl⟩ := List.exists_cons_of_ne_nil ha
  rfl
theorem scan_app (lo hi : Nat) (hlo : 128 ≤ lo) : ∀ (f k : Nat), 1 ≤ k → k ≤ a.length → scan (a ++ b0 :: b) lo hi f k = scan a lo hi f k
  | 0, k, _, _ => rfl
  | f + 1, k, h1, hk => by
    unfold scan
    rcases Nat.lt_or_ge k a.length with h | h
    · have : okAt (a ++ b0 :: b) lo hi k = okAt a lo hi k := by
        unfold okAt; rw [List.getElem?_append_left h]
      rw [this, scan_app lo hi hlo f (k + 1) (by omega) (by omega)]
    · have e : k = a.length := by omega
      have h1' : okAt a lo hi k = false := okAt_none (by omega)
      have h2 : okAt (a ++ b0 :: b) lo hi k = false := by
        unfold okAt
        rw [List.getElem?_append_right (by omega), e, Nat.sub_self]
        simp only [List.getElem?_cons_zero]
        split <;> simp <;> omega
      rw [h1', h2]; rfl
theorem stop_app : stopP (a ++ b0 :: b) = stopP a := by
  have hl : 1 ≤ a.length := List.length_pos_iff.2 ha
  unfold stopP
  simp only
  rw [head_app a b0 b ha h128]
  by_cases h : bN (a[0]?.getD 0).toNat - 1 = 0
  · rw [h]; rfl
  · exact scan_app a b0 b ha h128 _ _ (by revert h; unfold bN bLo; (repeat' split) <;> omega) _ 1 (Nat.le_refl _) hl
theorem next_app : nextC (a ++ b0 :: b) = nextC a ∧ nextN (a ++ b0 :: b) = nextN a := by
  have hl : 1 ≤ a.length := List.length_pos_iff.2 ha
  have h1 := stop_app a b0 b ha h128
  have h2 := head_app a b0 b ha h128
  have h3 : stopP a ≤ a.length := scan_le a _ _ _ 1 hl
  unfold nextC nextN
  simp only [h1, h2]
  refine ⟨?_, trivial⟩
  split
  · rfl
  · split
    · rfl
    · rename_i h0 hs
      have hle : bN (a[0]?.getD 0).toNat ≤ a.length := by omega
      have hg : ∀ j, j < bN (a[0]?.getD 0).toNat → (a ++ b0 :: b)[j]? = a[j]? := fun j hj => List.getElem?_append_left (by omega)
      have hN : bN (a[0]?.getD 0).toNat ≤ 4 := by unfold bN; (repeat' split) <;> omega
      generalize bN (a[0]?.getD 0).toNat = N at *
      suffices hv : val (a ++ b0 :: b) N = val a N by rw [hv]
      obtain rfl | rfl | rfl | rfl : N = 1 ∨ N = 2 ∨ N = 3 ∨ N = 4 := by omega
      · simp only [val, if_true]; rw [hg 0 (by omega)]
      · simp only [val, if_true, if_neg (show ¬ (2 = 1) from by omega)]; rw [hg 0 (by omega), hg 1 (by omega)]
      · simp only [val, if_true, if_neg (show ¬ (3 = 1) from by omega), if_neg (show ¬ (3 = 2) from by omega)]; rw [hg 0 (by omega), hg 1 (by omega), hg 2 (by omega)]
      · simp only [val, if_neg (show ¬ (4 = 1) from by omega), if_neg (show ¬ (4 = 2) from by omega), if_neg (show ¬ (4 = 3) from by omega)]; rw [hg 0 (by omega), hg 1 (by omega), hg 2 (by omega), hg 3 (by omega)]
end

theorem readF_parts (b0 : UInt8) (b : List UInt8) (h128 : b0.toNat < 128) (h10 : b0 ≠ 10) : ∀ (f : Nat) (a : List UInt8), a.length ≤ f → readF (f + (b0 :: b).length) (a ++ b0 :: b) = readF f a ++ readF (b0 :: b).length (b0 :: b)
  | f, [], _ => by
    have h1 : readF f ([] : List UInt8) = [] := by cases f <;> simp [readF]
    rw [h1, List.nil_append, List.nil_append, Nat.add_comm]
    exact readF_more f _ _ (Nat.le_refl _)
  | 0, x :: a, h => by simp at h
  | f + 1, x :: a, h => by
    have hne : (x :: a) ≠ [] := by simp
    have hn := next_app (x :: a) b0 b hne h128
    have hle := nextN_le (x :: a) hne
    have hpos := nextN_pos (x :: a)
    have hd : ((x :: a) ++ b0 :: b).drop (nextN (x :: a)) = (x :: a).drop (nextN (x :: a)) ++ b0 :: b := List.drop_append_of_le_length hle
    have ih := readF_parts b0 b h128 h10 f ((x :: a).drop (nextN (x :: a))) (by rw [List.length_drop]; simp at h ⊢; omega)
    have hne2 : ((x :: a) ++ b0 :: b) ≠ [] := by simp
    rw [show f + 1 + (b0 :: b).length = (f + (b0 :: b).length) + 1 from by omega]
    have hsk : (((x :: a).drop (nextN (x :: a)) ++ b0 :: b)[0]? = some 10) ↔ (((x :: a).drop (nextN (x :: a)))[0]? = some 10) := by
      cases e : (x :: a).drop (nextN (x :: a)) with
      | nil => simp [h10]
      | cons y r => simp
    generalize hB : (b0 :: b).length = L at *
    by_cases c0 : nextC (x :: a) = 0
    · rw [readF_zero _ hne2 (by rw [hn.1]; exact c0), readF_zero _ hne c0, hn.2, hd, ih]; rfl
    · by_cases c1 : nextC (x :: a) = 13
      · by_cases hs : ((x :: a).drop (nextN (x :: a)))[0]? = some 10
        · rw [readF_skip _ hne2 (by rw [hn.1]; exact c1) (by rw [hn.2, hd, hsk]; exact hs), readF_skip _ hne c1 hs, hn.2, hd, ih]
        · rw [readF_line _ hne2 (.inl ⟨by rw [hn.1]; exact c1, by rw [hn.2, hd, hsk]; exact hs⟩), readF_line _ hne (.inl ⟨c1, hs⟩), hn.2, hd, ih]; rfl
      · by_cases c2 : nextC (x :: a) = 12
        · rw [readF_line _ hne2 (.inr (by rw [hn.1]; exact c2)), readF_line _ hne (.inr c2), hn.2, hd, ih]; rfl
        · rw [readF_char _ hne2 (by rw [hn.1]; exact c0) (by rw [hn.1]; exact c1) (by rw [hn.1]; exact c2), readF_char _ hne c0 c1 c2, hn.1, hn.2, hd, ih]; rfl
theorem read_parts (a : List UInt8) (b0 : UInt8) (b : List UInt8) (h128 : b0.toNat < 128) (h10 : b0 ≠ 10) : readP (a ++ b0 :: b) = readP a ++ readP (b0 :: b) := by
  unfold readP
  rw [List.length_append]
  exact readF_parts b0 b h128 h10 a.length a (Nat.le_refl _)
end Go.Proofs.YtfhdihdafmahgaaGreatDoor
/- Layer 3: small facts on rows of one's own. -/
set_option linter.unusedVariables false
namespace Go.Proofs.YtfhdihdafmahgaaGreatDoor
open Go.RowKit Rn Tk
theorem own_less {w : World} {b b' : Nat} {e : TypeId} {size n : Nat} {v : Value} {xs : List Value} (h : w.ownsRow b e size v n xs) (hb : b' ≤ b) : w.ownsRow b' e size v n xs := by
  refine ⟨h.1, ?_⟩
  rcases h.2 with h | ⟨g, cap, cur, h1, h2, h3⟩
  · exact .inl h
  · exact .inr ⟨g, cap, cur, h1, Nat.le_trans hb h2, h3⟩
end Go.Proofs.YtfhdihdafmahgaaGreatDoor
/- Layer 3: the program's Scan is walked: its answer is the model's list of tokens. -/
set_option linter.unusedVariables false
set_option linter.unusedSimpArgs false
namespace Go.Proofs.YtfhdihdafmahgaaGreatDoor
open Go.RowKit Rn Tk
theorem tok_info : (Tryz.prog.info? 58).map (fun i => (i.zero, i.size, i.bytes)) = some (some (.agg #[.int .i64 0, .string ⟨#[]⟩, .int .i64 0]), 3, 32) := by kernel_rfl
/-- The scanner at character k, and the tokens so far in a row of their own. -/
structure Sc (w0 w : World) (B S P : Nat) (A : Option Addr) (n cap : Nat) (l : List Int) (k : Nat) (v : Value) (toks : List Tok) : Prop where
  at_ : At w B S P A n cap l k
  bel : Below w0.heap.size w0 w
  own : w.ownsRow (S + 1) 58 3 v toks.length (toksV toks)
section
variable {w0 w w1 w2 : World} {B S P n cap k k' : Nat} {A : Option Addr} {l : List Int} {v v' : Value} {toks : List Tok}
theorem Sc.mv (h : Sc w0 w B S P A n cap l k v toks) (hw : w0.heap.size ≤ P) (hm : Mv P w w1) (ha : At w1 B S P A n cap l k') : Sc w0 w1 B S P A n cap l k' v toks :=
  ⟨ha, h.bel.grown hm h.bel.size (fun g hg => by injection hg with hg; omega), own_mv h.own (by have := h.at_.hPS; omega) hm⟩
theorem Sc.env (h : Sc w0 w B S P A n cap l k v toks) (hw : w0.heap.size ≤ P) (he : Env w0) : EnvP P w := ⟨w0, he, h.bel, hw⟩
theorem Sc.push {o : Obj} {t : Tok} (h : Sc w0 w B S P A n cap l k v toks) (hw : w0.heap.size ≤ P) (hg : (w.alloc o).grownBy w2 v.ownBlock) (hown : w2.ownsRow (S + 1) 58 3 v' (toks.length + 1) (toksV toks ++ [.int .i64 (t.kind : Int), .string (bytesOf t.text), .int .i64 t.n])) : Sc w0 w2 B S P A n cap l k v' (toks ++ [t]) := by
  have hS := h.at_.hPS
  refine ⟨h.at_.push (by omega : S < S + 1) h.own hg, ?_, ?_⟩
  · refine (h.bel.grown (World.grownBy_alloc w o none) h.bel.size (by simp)).grown hg (by have := h.bel.size; simp; omega) (fun g hgr => ?_)
    have := (h.own.lt g hgr).1; omega
  · rw [toksV_snoc, List.length_append]; exact hown
end
theorem scanT_end {r : List Int} (h : (spacesT r).2 = []) : scanT r = if (spacesT r).1 = true then [⟨1, [], 0⟩] else [] := by rw [scanT, dif_pos h]
theorem scanT_step {r : List Int} (h : ¬ (spacesT r).2 = []) : scanT r = (if (spacesT r).1 = true then [⟨1, [], 0⟩] else []) ++ (nextT (spacesT r).2).1 :: scanT (nextT (spacesT r).2).2 := by rw [scanT, dif_neg h]
theorem spacesT_nil : spacesT [] = (false, []) := by rw [spacesT_end (by decide) (by rw [pk_nil]; decide)]
theorem scanT_nil : scanT [] = [] := by rw [scanT_end (by rw [spacesT_nil]), spacesT_nil]; rfl
theorem readF_len : ∀ (f : Nat) (bs : List UInt8), (readF f bs).length ≤ f
  | 0, bs => by simp [readF]
  | f + 1, bs => by
    have ih := readF_len f (bs.drop (nextN bs))
    unfold readF
    simp only
    (repeat' split) <;> simp <;> omega
theorem readP_chars (bs : List UInt8) : Chars (readP bs) := fun c h => (readP_plain bs c h).1
theorem spaceTok_kind : ((⟨1, [], 0⟩ : Tok).kind : Int) = 1 := rfl
/-- what Scan hands back: the tokens, or that there are too many bytes or tokens -/
def ScanRet (n0 : Nat) (T : List Tok) (w : World) (e : Ending) (w' : World) : Prop :=
  if 65536 < n0 ∨ 16384 < T.length then e = .returned (.tuple #[.slice none 0 0, .int .i64 2])
  else ∃ v, e = .returned (.tuple #[v, .int .i64 0]) ∧ w'.ownsRow w.heap.size 58 3 v T.length (toksV T)
set_option maxRecDepth 100000 in
set_option maxHeartbeats 2000000 in
theorem tk_scan (bs : List UInt8) (A0 : Option Addr) (n0 cap0 : Nat) (w : World) (hr : Reads w w.heap.size 1 A0 n0 (bs.map b8)) (hm : n0 ≤ cap0) (hcap : cap0 ≤ maxLen) (hT : Tabs w) (hE : Env w) :
    Calls Tryz.prog 21 #[.slice A0 n0 cap0] w fun e w' => Below w.heap.size w w' ∧ ScanRet n0 (scanT (readP bs)) w e w' := by
  have hlen0 : bs.length = n0 := by simpa using hr.len
  have hcap' := hcap
  unfold maxLen at hcap'
  by_cases hbig : 65536 < n0
  · have t1 : decide (65536 < (n0 : Int)) = true := by simp; omega
    have Hbig := Lib.hid hbig
    clear hbig
    go_enter Tryz.func21, Tryz.ntmps21
    go_wp2_with fail
    go_ret2
    refine ⟨Below.refl _ _, ?_⟩
    unfold ScanRet
    rw [if_pos (.inl Hbig.out)]; rfl
  · have t1 : decide (65536 < (n0 : Int)) = false := by simp; omega
    have hl : (readP bs).length ≤ bs.length := readF_len bs.length bs
    have hch := readP_chars bs
    obtain ⟨l, hl0⟩ : ∃ l, readP bs = l := ⟨_, rfl⟩
    have hrd := rn_read bs A0 n0 cap0 w hr hm hcap (by omega) hT
    rw [hl0] at hl hch hrd ⊢
    obtain ⟨TS, hTS⟩ : ∃ T, scanT l = T := ⟨_, rfl⟩
    rw [hTS]
    have HTS := Lib.hid hTS
    have Hch := Lib.hid hch
    have Hbig := Lib.hid hbig
    clear hTS hch hl0
    go_enter Tryz.func21, Tryz.ntmps21
    go_wp2_with fail
    refine hrd.mono ?_
    rintro e1 w1 ⟨v1, rfl, hown1, hb1⟩
    obtain ⟨A, cap, rfl, hnc, hcm⟩ := own_form hown1
    have hrd1 := Reads.of_own hown1
    obtain ⟨n, hn⟩ : ∃ n, l.length = n := ⟨_, rfl⟩
    rw [hn] at hrd1 hl hnc ⊢
    clear hrd hown1
    obtain ⟨P, hP⟩ : ∃ P, w1.heap.size = P := ⟨_, rfl⟩
    have hwP : w.heap.size ≤ P := by rw [← hP]; exact hb1.size
    have hat : At ((w1.alloc (.cells #[.slice A n cap, .int .i64 0] 86)).alloc (.cells #[.pointer (some ⟨P, 0, none⟩)] 88)) P (P + 1) P A n cap l 0 := by
      have r1 := RowAt.new w1 86 #[.slice A n cap, .int .i64 0]
      rw [hP] at r1
      have g2 := World.grownBy_alloc (w1.alloc (.cells #[.slice A n cap, .int .i64 0] 86)) (.cells #[.pointer (some ⟨P, 0, none⟩)] 88) none
      have r2 := r1.grown g2 (by simp)
      have r3 := RowAt.new (w1.alloc (.cells #[.slice A n cap, .int .i64 0] 86)) 88 #[.pointer (some ⟨P, 0, none⟩)]
      have hs : (w1.alloc (.cells #[.slice A n cap, .int .i64 0] 86)).heap.size = P + 1 := by simp [hP]
      rw [hs] at r3
      obtain ⟨x0, y0⟩ := r2.2 0 _ rfl
      obtain ⟨x1, y1⟩ := r2.2 1 _ rfl
      obtain ⟨x2, y2⟩ := r3.2 0 _ rfl
      rw [hP] at hrd1
      exact { s0 := x2, p0 := x0, p1 := x1, fz := y1, rd := (hrd1.grown (World.grownBy_alloc _ _ none) (by omega) (by simp)).grown g2 (by simp; omega) (by simp), hB := Nat.le_refl _, hPS := Nat.lt_succ_self _, hS := by simp [hP], hk := Nat.zero_le _, hn := by omega, hc := hnc, hm := hcm }
    have hsc : Sc w ((w1.alloc (.cells #[.slice A n cap, .int .i64 0] 86)).alloc (.cells #[.pointer (some ⟨P, 0, none⟩)] 88)) P (P + 1) P A n cap l 0 (.slice none 0 0) [] := by
      refine ⟨hat, ?_, World.ownsRow_nil _ _ _ _⟩
      exact (hb1.grown (World.grownBy_alloc _ _ none) hb1.size (by simp)).grown (World.grownBy_alloc _ _ none) (by have := hb1.size; simp; omega) (by simp)
    obtain ⟨S, hS⟩ : ∃ S, P + 1 = S := ⟨_, rfl⟩
    rw [hS] at hsc
    clear hat hrd1 hb1
    go_wp2_with fail
    go_loopw [5] (fun x wr => ∃ (k : Nat) (toks : List Tok) (Ao : Option Addr) (co : Nat), Hid (toks ++ scanT (l.drop k) = TS) ∧ toks.length ≤ 16384 ∧ x = .slice Ao toks.length co ∧ Sc w wr P S P A n cap l k (.slice Ao toks.length co) toks) (fun _ wr => n - posOf P wr)
    case atStart => exact ⟨0, [], none, 0, (by show _ = _; rw [List.drop_zero]; exact HTS.out), by simp, rfl, hsc⟩
    case round =>
      clear hsc
      obtain ⟨k, toks, Ao, co, hrun, htl, rfl, hsc⟩ := hrel
      have hkn := hsc.at_.hk
      have hpos := hsc.at_.pos
      obtain ⟨b, hb⟩ : ∃ b, (spacesT (l.drop k)).1 = b := ⟨_, rfl⟩
      go_wp2_with fail
      refine (tk_space hsc.at_ Hch.out).mono ?_
      rintro e2 w2 ⟨rfl, m2, k3, hk3, hd3, A2⟩
      have S2 := hsc.mv hwP m2 A2
      rw [hb]
      have Hb := Lib.hid hb
      have Hd3 := Lib.hid hd3
      have hk3n := A2.hk
      clear hb hd3 m2 A2 hsc
      obtain ⟨hi0, hi, hz0, hz1, hz2⟩ := info_got tok_info
      go_upto_if 16 with (fail)
      go_cut [5] (fun x wx => ∃ (toks2 : List Tok) (A2 : Option Addr) (c2 : Nat), Hid (toks2 = toks ++ if b = true then [⟨1, [], 0⟩] else []) ∧ toks2.length ≤ 16385 ∧ x = .slice A2 toks2.length c2 ∧ Sc w wx P S P A n cap l k3 (.slice A2 toks2.length c2) toks2)
      case first =>
        cases b with
        | true =>
          have hsz2 : w2.heap.size < w2.heap.size + 1 := by omega
          have hS2 := S2.at_.hS
          go_wp2_with (at_builtin; refine wpList_append_own _ rfl _ _ 32 rfl (S + 1) 58 hi0 (.agg #[.int .i64 0, .string ⟨#[]⟩, .int .i64 0]) 3 32 Tryz.underlying32 hi hz0 hz1 hz2 rfl (by decide) (.slice Ao toks.length co) toks.length (toksV toks) rfl (S2.own.alloc _) ⟨w2.heap.size, 0, none⟩ 1 1 [.int .i64 1, .string ⟨#[]⟩, .int .i64 0] rfl rfl (cells_new3 _ _ _ _ _) ?c2 ?c3 ?c4 ?c5 ?_)
          case c2 => first | exact ⟨rfl, rfl, rfl⟩ | (intro u hu; simp at hu; rcases hu with rfl | rfl | rfl <;> rfl)
          case c3 => unfold maxLen; omega
          case c4 => omega
          case c5 => first | omega | (simp; omega)
          intro v' w3 hown3 hgrow3 _
          obtain ⟨A3, c3, rfl, _, _⟩ := own_form hown3
          have S3 := S2.push hwP hgrow3 (t := ⟨1, [], 0⟩) hown3
          go_wp2_with fail
          go_meet
          exact ⟨toks ++ [⟨1, [], 0⟩], A3, c3, (by show _ = _; simp), by simp; omega, by simp, by simpa using S3⟩
        | false =>
          go_wp2_with fail
          go_meet
          exact ⟨toks, Ao, co, (by show _ = _; simp), by omega, rfl, S2⟩
      case rest =>
        obtain ⟨toks2, Aq, cq, ht2, htl2, rfl, S3⟩ := hcut
        have S3n := S3.at_
        have hp3 := tk_peek0 S3.at_
        have s3 := S3.at_.s0
        clear S2
        obtain ⟨c, hc⟩ : ∃ c, pk (l.drop k3) 0 = c := ⟨_, rfl⟩
        rw [hc] at hp3
        have Hc := Lib.hid hc
        clear hc
        obtain ⟨q, hq⟩ : ∃ q, decide ((0 : Int) ≤ c) = q := ⟨_, rfl⟩
        go_wp2_with fail
        refine hp3.mono ?_
        rintro e4 w4 ⟨rfl, g4⟩
        have S4 := S3.mv hwP (Mv.of g4) (S3n.mv g4)
        clear S3 S3n hp3 s3 g4
        go_upto_if 26 with (fail)
        go_cut [5] (fun x wx => ∃ (k4 : Nat) (toks3 : List Tok) (A3 : Option Addr) (c3 : Nat), Hid (toks3 ++ scanT (l.drop k4) = TS) ∧ toks3.length ≤ 16386 ∧ (k < k4 ∨ k4 = n) ∧ x = .slice A3 toks3.length c3 ∧ Sc w wx P S P A n cap l k4 (.slice A3 toks3.length c3) toks3)
        case first =>
          by_cases hend : k3 = n
          · have hnil : l.drop k3 = [] := List.drop_eq_nil_of_le (by omega)
            have hT : Hid (toks2 ++ scanT (l.drop k3) = TS) := by
              show _ = _
              rw [← hrun.out, scanT_end (r := l.drop k) (by rw [← Hd3.out]; exact hnil), Hb.out, hnil, scanT_nil, ht2.out, List.append_nil]
            have hm1 : c = -1 := by rw [← Hc.out, hnil, pk_nil]
            have d0 : q = false := by rw [← hq]; simp; omega
            have Hend := Lib.hid hend
            subst d0
            clear hm1 hnil hend hq
            go_wp2_with fail
            go_meet
            exact ⟨k3, toks2, Aq, cq, hT, by omega, .inr Hend.out, rfl, S4⟩
          · have hlt3 : k3 < n := by omega
            have hne : l.drop k3 ≠ [] := by intro h0; have := congrArg List.length h0; rw [List.length_drop] at this; simp at this; omega
            have hstep : scanT (l.drop k) = (if b = true then [⟨1, [], 0⟩] else []) ++ (nextT (l.drop k3)).1 :: scanT (nextT (l.drop k3)).2 := by
              rw [scanT_step (by rw [← Hd3.out]; exact hne), Hb.out, ← Hd3.out]
            have Hstep := Lib.hid hstep
            have hc0 := isB_range (pk_is (l := l) Hch.out (m := k3) (by omega))
            rw [show pk l k3 = pk (l.drop k3) 0 from by rw [pk_drop]; rfl, Hc.out] at hc0
            have d0 : q = true := by rw [← hq]; simp; omega
            subst d0
            clear hstep hne hend hq
            go_wp2_with fail
            refine (tk_next S4.at_ Hch.out hlt3 (S4.env hwP hE)).mono ?_
            rintro e5 w5 ⟨rfl, m5, k5, hk5, hd5, A5⟩
            have S5 := S4.mv hwP m5 A5
            obtain ⟨⟨K, tx, N⟩, hTk⟩ : ∃ t, (nextT (l.drop k3)).1 = t := ⟨_, rfl⟩
            have hT : Hid ((toks2 ++ [⟨K, tx, N⟩]) ++ scanT (l.drop k5) = TS) := by
              show _ = _
              rw [← hrun.out, Hstep.out, hTk, ← hd5, ht2.out]; simp
            rw [hTk]
            unfold tokV
            have hS5 := S5.at_.hS
            clear hTk hd5 Hstep S4 m5
            go_wp2_with (at_builtin; refine wpList_append_own _ rfl _ _ 32 rfl (S + 1) 58 hi0 (.agg #[.int .i64 0, .string ⟨#[]⟩, .int .i64 0]) 3 32 Tryz.underlying32 hi hz0 hz1 hz2 rfl (by decide) (.slice Aq toks2.length cq) toks2.length (toksV toks2) rfl (S5.own.alloc _) ⟨w5.heap.size, 0, none⟩ 1 1 [.int .i64 (K : Int), .string (bytesOf tx), .int .i64 N] rfl rfl (cells_new3 _ _ _ _ _) ?c2 ?c3 ?c4 ?c5 ?_)
            case c2 => first | exact ⟨rfl, rfl, rfl⟩ | (intro u hu; simp at hu; rcases hu with rfl | rfl | rfl <;> rfl)
            case c3 => unfold maxLen; omega
            case c4 => omega
            case c5 => first | omega | (simp; omega)
            intro v' w6 hown6 hgrow6 _
            obtain ⟨A6, c6, rfl, _, _⟩ := own_form hown6
            have S6 := S5.push hwP hgrow6 (t := ⟨K, tx, N⟩) hown6
            go_wp2_with fail
            go_meet
            exact ⟨k5, toks2 ++ [⟨K, tx, N⟩], A6, c6, hT, by simp; omega, .inl (by omega), by simp, by simpa using S6⟩
        case rest =>
          obtain ⟨k4, toks3, A3, c3, hT, htl3, hk4, rfl, S7⟩ := hcut
          clear S4
          have hk4n := S7.at_.hk
          by_cases hmany : 16384 < toks3.length
          · have d1 : decide ((16384 : Int) < (toks3.length : Int)) = true := by simp; omega
            have hTS : 16384 < TS.length := by have := congrArg List.length hT.out; rw [List.length_append] at this; omega
            have HB := Lib.hid hTS
            clear hmany hTS
            go_wp2_with fail
            go_ret2
            refine ⟨S7.bel, ?_⟩
            unfold ScanRet
            rw [if_pos (.inr HB.out)]; rfl
          · have d1 : decide ((16384 : Int) < (toks3.length : Int)) = false := by simp; omega
            have hp7 := tk_peek0 S7.at_
            have s7 := S7.at_.s0
            by_cases hend : k4 = n
            · have hnil : l.drop k4 = [] := List.drop_eq_nil_of_le (by omega)
              have hm1 : pk (l.drop k4) 0 = -1 := by rw [hnil, pk_nil]
              rw [hm1] at hp7
              have hTT : TS = toks3 := by have := hT.out; rw [hnil, scanT_nil, List.append_nil] at this; exact this.symm
              have HT := Lib.hid hTT
              have Hm := Lib.hid hmany
              clear hm1 hnil hTT hmany
              go_wp2_with fail
              refine hp7.mono ?_
              rintro e8 w8 ⟨rfl, g8⟩
              have S8 := S7.mv hwP (Mv.of g8) (S7.at_.mv g8)
              go_wp2_with fail
              go_ret2
              refine ⟨S8.bel, ?_⟩
              unfold ScanRet
              rw [if_neg (by have := Hbig.out; have := Hm.out; rw [HT.out]; omega), HT.out]
              exact ⟨_, rfl, own_less S8.own (by omega)⟩
            · have hc0 := isB_range (pk_is (l := l) Hch.out (m := k4) (by omega))
              rw [show pk l k4 = pk (l.drop k4) 0 from by rw [pk_drop]; rfl] at hc0
              generalize pk (l.drop k4) 0 = c at *
              have d0 : decide (c < (0 : Int)) = false := by simp; omega
              have hmu : n - k4 < n - k := by omega
              go_wp2_with fail
              refine hp7.mono ?_
              rintro e8 w8 ⟨rfl, g8⟩
              have S8 := S7.mv hwP (Mv.of g8) (S7.at_.mv g8)
              have q8 := S8.at_.pos
              go_wp2_with fail
              go_roundw
              case rel => exact ⟨k4, toks3, A3, c3, hT, by omega, rfl, S8⟩
              case measure => rw [q8, hpos]; exact hmu
end Go.Proofs.YtfhdihdafmahgaaGreatDoor
/- Layer 3: plain laws of the scanner's model: how many tokens there are, what each may be. No program in sight. -/
set_option linter.unusedVariables false
set_option linter.unusedSimpArgs false
namespace Go.Proofs.YtfhdihdafmahgaaGreatDoor
open Go.RowKit Rn Tk
theorem spaces_true {r : List Int} (h : (spacesT r).1 = true) : (spacesT r).2.length < r.length := by
  fun_induction spacesT r with
  | case1 r h1 ih => exact Nat.lt_of_le_of_lt (spaces_len _) (tail_lt (white_ne h1))
  | case2 r h1 h2 ih =>
    have h3 := skipC_len r.tail.tail
    have h4 : r.tail.tail.length ≤ r.length := by simp; omega
    have := ih h; omega
  | case3 r => cases h
theorem scan_len (r : List Int) : (scanT r).length ≤ r.length := by
  have key : ∀ n, ∀ r : List Int, r.length ≤ n → (scanT r).length ≤ r.length := by
    intro n
    induction n with
    | zero =>
      intro r h
      have : r = [] := List.eq_nil_of_length_eq_zero (by omega)
      subst this; rw [scanT_nil]; exact Nat.le_refl _
    | succ n ih =>
      intro r hr
      have h2 := spaces_len r
      have h3 := fun h => spaces_true (r := r) h
      by_cases h : (spacesT r).2 = []
      · rw [scanT_end h]
        cases hb : (spacesT r).1 with
        | true => have := h3 hb; simp; omega
        | false => simp
      · have h1 := next_lt h
        have := ih (nextT (spacesT r).2).2 (by omega)
        rw [scanT_step h, List.length_append, List.length_cons]
        cases hb : (spacesT r).1 with
        | true => have := h3 hb; simp; omega
        | false => simp; omega
  exact key _ r (Nat.le_refl _)
/-- a token may be -/
def TokOk (t : Tok) : Prop :=
  1 ≤ t.kind ∧ t.kind ≤ 16 ∧ ((2 ≤ t.kind ∧ t.kind ≤ 5 ∨ t.kind = 10 ∨ 11 ≤ t.kind ∧ t.kind ≤ 13) → t.text ≠ []) ∧
  (¬ (2 ≤ t.kind ∧ t.kind ≤ 5 ∨ t.kind = 10 ∨ 11 ≤ t.kind ∧ t.kind ≤ 13) → t.kind ≠ 6 → t.kind ≠ 7 → t.text = []) ∧ (t.n ≠ 0 → 8 ≤ t.kind ∧ t.kind ≤ 10)
def headK (l : List Tok) : Nat := match l with
  | [] => 0
  | t :: _ => t.kind
def chainOk : List Tok → Prop
  | [] => True
  | t :: l => TokOk t ∧ (t.kind = 1 → headK l ≠ 1) ∧ (t.kind = 7 → headK l = 1) ∧ chainOk l
theorem write_ne {l : List Int} (h : l ≠ []) : writeP l ≠ [] := by
  obtain ⟨c, r, rfl⟩ := List.exists_cons_of_ne_nil h
  have e : writeP (c :: r) = Lib.encodeRune c ++ writeP r := by simp [writeP]
  rw [e]; exact enc_ne c _
theorem name_ne {r : List Int} (h : esc r = true ∨ withinB (pk r 0) = true) : writeP (nameT r).1 ≠ [] := write_ne (name_some h).2
theorem quote_bad (e : Int) (r : List Int) (h : (quoteT e r).2.1 = true) : pk (quoteT e r).2.2 0 = 10 := by
  fun_induction quoteT e r with
  | case1 => cases h
  | case2 => rfl
  | case3 t h => cases h
  | case4 c t h h2 h3 ih => exact ih h
  | case5 t h h2 h3 ih => exact ih h
  | case6 c t h h2 h3 h4 ih => exact ih h
theorem sign_ok (c : Int) : TokOk (signT c) ∧ (signT c).kind ≠ 1 ∧ (signT c).kind ≠ 7 := by
  have hk : (11 ≤ signK c ∧ signK c ≤ 16) := by unfold signK; (repeat' split) <;> omega
  have hw := write_ne (l := [c]) (by simp)
  unfold TokOk signT
  simp only
  refine ⟨⟨by omega, by omega, fun h => ?_, fun h _ _ => ?_, fun h => absurd rfl h⟩, by omega, by omega⟩
  · rw [if_pos (by omega)]; exact hw
  · rw [if_neg (by omega)]
theorem number_ok {r : List Int} {x : Tok × List Int} (h : numberT r = some x) : TokOk x.1 ∧ x.1.kind ≠ 1 ∧ x.1.kind ≠ 7 := by
  unfold numberT at h
  simp only [] at h
  split at h
  · cases h
  · split at h
    · rename_i hb
      cases h
      exact ⟨⟨by simp, by simp, fun _ => name_ne (beg_first hb), fun h => absurd (.inr (.inl rfl)) h, fun _ => by simp⟩, by simp, by simp⟩
    · split at h
      · cases h; exact ⟨⟨by simp, by simp, fun h => by simp at h, fun _ _ _ => rfl, fun _ => by simp⟩, by simp, by simp⟩
      · cases h; exact ⟨⟨by simp, by simp, fun h => by simp at h, fun _ _ _ => rfl, fun _ => by simp⟩, by simp, by simp⟩
theorem next_ok (r : List Int) : TokOk (nextT r).1 ∧ (nextT r).1.kind ≠ 1 ∧ ((nextT r).1.kind = 7 → whiteB (pk (nextT r).2 0) = true) := by
  unfold nextT
  simp only []
  split
  · by_cases hb : (quoteT (pk r 0) r.tail).2.1 = true
    · simp only [hb, if_true]
      exact ⟨⟨by simp, by simp, fun h => by simp at h, fun _ _ h => by simp at h, fun h => absurd rfl h⟩, by simp, fun _ => by rw [quote_bad _ _ hb]; decide⟩
    · simp only [hb, if_neg hb]
      exact ⟨⟨by simp, by simp, fun h => by simp at h, fun _ h _ => by simp at h, fun h => absurd rfl h⟩, by simp, fun h => by simp at h⟩
  · split
    · rename_i hc
      have hw : esc r.tail = true ∨ withinB (pk r.tail 0) = true := by
        rw [pk_tail]
        rcases hx : esc r.tail with _ | _
        · right; have := hc.2; rw [hx, Bool.or_false] at this; exact this
        · exact .inl rfl
      exact ⟨⟨by simp, by simp, fun _ => name_ne hw, fun h => by simp at h, fun h => absurd rfl h⟩, by simp, fun h => by simp at h⟩
    · split
      · rename_i x hx
        have := number_ok hx
        exact ⟨this.1, this.2.1, fun h => absurd h this.2.2⟩
      · split
        · rename_i hc
          exact ⟨⟨by simp, by simp, fun _ => name_ne (beg_first hc.2), fun h => by simp at h, fun h => absurd rfl h⟩, by simp, fun h => by simp at h⟩
        · split
          · rename_i hb
            have hn := name_ne (beg_first hb)
            split
            · exact ⟨⟨by simp, by simp, fun _ => hn, fun h => by simp at h, fun h => absurd rfl h⟩, by simp, fun h => by simp at h⟩
            · exact ⟨⟨by simp, by simp, fun _ => hn, fun h => by simp at h, fun h => absurd rfl h⟩, by simp, fun h => by simp at h⟩
          · have := sign_ok (pk r 0)
            exact ⟨this.1, this.2.1, fun h => absurd h this.2.2⟩
theorem space_ok : TokOk ⟨1, [], 0⟩ := ⟨by simp, by simp, fun h => by simp at h, fun _ _ _ => rfl, fun h => absurd rfl h⟩
theorem scan_head (r : List Int) : (spacesT r).1 = true → headK (scanT r) = 1 := by
  intro h
  by_cases he : (spacesT r).2 = []
  · rw [scanT_end he, if_pos h]; rfl
  · rw [scanT_step he, if_pos h]; rfl
theorem scan_chain (r : List Int) : chainOk (scanT r) := by
  have key : ∀ n, ∀ r : List Int, r.length ≤ n → chainOk (scanT r) := by
    intro n
    induction n with
    | zero =>
      intro r h
      have : r = [] := List.eq_nil_of_length_eq_zero (by omega)
      subst this; rw [scanT_nil]; trivial
    | succ n ih =>
      intro r hr
      have h2 := spaces_len r
      by_cases h : (spacesT r).2 = []
      · rw [scanT_end h]
        cases hb : (spacesT r).1 with
        | true => exact ⟨space_ok, fun _ => by simp [headK], fun h => by simp at h, trivial⟩
        | false => exact trivial
      · have h1 := next_lt h
        have hi := ih (nextT (spacesT r).2).2 (by omega)
        obtain ⟨o1, o2, o3⟩ := next_ok (spacesT r).2
        have tail : chainOk ((nextT (spacesT r).2).1 :: scanT (nextT (spacesT r).2).2) :=
          ⟨o1, fun h => absurd h o2, fun h => scan_head _ (by rw [spacesT_white (o3 h)]), hi⟩
        rw [scanT_step h]
        cases hb : (spacesT r).1 with
        | true => exact ⟨space_ok, fun _ => o2, fun h => by simp at h, tail⟩
        | false => exact tail
  exact key _ r (Nat.le_refl _)
theorem chain_at : ∀ (L : List Tok) (i : Nat) (t : Tok), chainOk L → L[i]? = some t → TokOk t ∧ (t.kind = 1 → headK (L.drop (i + 1)) ≠ 1) ∧ (t.kind = 7 → headK (L.drop (i + 1)) = 1)
  | [], i, t, _, h => by simp at h
  | s :: l, 0, t, hc, h => by
    simp at h; subst h
    exact ⟨hc.1, hc.2.1, hc.2.2.1⟩
  | s :: l, i + 1, t, hc, h => chain_at l i t hc.2.2.2 (by simpa using h)
theorem head_at (L : List Tok) (i : Nat) : headK (L.drop i) = ((L[i]?).map (·.kind)).getD 0 := by
  rw [← List.head?_drop]
  cases L.drop i <;> rfl
end Go.Proofs.YtfhdihdafmahgaaGreatDoor
/- Layer 3: plain laws of the scanner's model at names, texts, comments. No program in sight. -/
set_option linter.unusedVariables false
set_option linter.unusedSimpArgs false
namespace Go.Proofs.YtfhdihdafmahgaaGreatDoor
open Go.RowKit Rn Tk
/-- bytes as characters -/
def chr (bs : List UInt8) : List Int := bs.map (fun b => (b.toNat : Int))
theorem chr_app (a b : List UInt8) : chr (a ++ b) = chr a ++ chr b := by simp [chr]
theorem chr_cons (x : UInt8) (b : List UInt8) : chr (x :: b) = (x.toNat : Int) :: chr b := rfl
theorem write_cons (c : Int) (r : List Int) : writeP (c :: r) = Lib.encodeRune c ++ writeP r := by simp [writeP]
theorem write_app (a b : List Int) : writeP (a ++ b) = writeP a ++ writeP b := by
  induction a with
  | nil => simp [writeP]
  | cons c r ih => rw [List.cons_append, write_cons, write_cons, ih, List.append_assoc]
theorem enc_low (b : UInt8) (h : b.toNat < 128) : Lib.encodeRune (b.toNat : Int) = [b] := by
  have : Lib.encodeRune (b.toNat : Int) = [((b.toNat : Int)).toNat.toUInt8] := by simp [Lib.encodeRune, Lib.encodeRuneZ_one (by omega : (0 : Int) ≤ b.toNat) (by omega : (b.toNat : Int) ≤ 127)]
  rw [this, Int.toNat_natCast]; simp
theorem write_chr : ∀ (bs : List UInt8), (∀ b ∈ bs, b.toNat < 128) → writeP (chr bs) = bs
  | [], _ => by simp [writeP, chr]
  | b :: bs, h => by
    rw [chr_cons, write_cons, enc_low b (h b (by simp)), write_chr bs (fun x hx => h x (by simp [hx]))]; rfl
theorem low_plain {b : UInt8} (h : b.toNat < 128) (h0 : b.toNat ≠ 0) (h12 : b.toNat ≠ 12) (h13 : b.toNat ≠ 13) : Plain (b.toNat : Int) := by
  refine ⟨?_, by omega, by omega, by omega⟩
  unfold isB; simp; omega
theorem read_chr (bs : List UInt8) (h : ∀ b ∈ bs, b.toNat < 128 ∧ b.toNat ≠ 0 ∧ b.toNat ≠ 12 ∧ b.toNat ≠ 13) : readP bs = chr bs := by
  have h1 := read_write (chr bs) (fun c hc => by
    obtain ⟨b, hb, rfl⟩ := List.mem_map.1 hc
    have := h b hb
    exact low_plain this.1 this.2.1 this.2.2.1 this.2.2.2)
  rw [write_chr bs (fun b hb => (h b hb).1)] at h1
  exact h1
theorem read_cons {b : UInt8} (h : b.toNat < 128) (h0 : b.toNat ≠ 0) (h12 : b.toNat ≠ 12) (h13 : b.toNat ≠ 13) (bs : List UInt8) : readP (b :: bs) = (b.toNat : Int) :: readP bs := by
  have hp := low_plain h h0 h12 h13
  have hn := next_enc (b.toNat : Int) hp.1 bs
  rw [enc_low b h] at hn
  have e : readP (b :: bs) = readF (bs.length + 1) ([b] ++ bs) := rfl
  rw [e, readF_char bs.length (by simp) (by rw [hn.1]; exact hp.2.1) (by rw [hn.1]; exact hp.2.2.2) (by rw [hn.1]; exact hp.2.2.1), hn.1, hn.2]
  rfl
/-- bytes below 128, no 0, 12, 13, ahead of others -/
theorem read_low : ∀ (a : List UInt8), (∀ b ∈ a, b.toNat < 128 ∧ b.toNat ≠ 0 ∧ b.toNat ≠ 12 ∧ b.toNat ≠ 13) → ∀ bs, readP (a ++ bs) = chr a ++ readP bs
  | [], _, bs => rfl
  | x :: a, h, bs => by
    have hx := h x (by simp)
    rw [List.cons_append, read_cons hx.1 hx.2.1 hx.2.2.1 hx.2.2.2, read_low a (fun b hb => h b (by simp [hb])) bs]; rfl
theorem nextC_low (bs : List UInt8) (h : nextC bs < 128) : nextC bs = ((bs[0]?.getD 0).toNat : Int) := by
  have hb0 := UInt8.toNat_lt (bs[0]?.getD 0)
  revert h
  unfold nextC
  simp only
  split
  · intro h; omega
  · rename_i h0
    split
    · intro h; omega
    · rename_i hs
      have hN : bN (bs[0]?.getD 0).toNat ≤ 4 := by unfold bN; (repeat' split) <;> omega
      have hok := (stop_ge bs (bN (bs[0]?.getD 0).toNat) (Nat.le_refl _) (by omega)).1 (by omega)
      obtain e | e | e | e : bN (bs[0]?.getD 0).toNat = 1 ∨ bN (bs[0]?.getD 0).toNat = 2 ∨ bN (bs[0]?.getD 0).toNat = 3 ∨ bN (bs[0]?.getD 0).toNat = 4 := by omega
      · rw [e]; simp only [val, if_true]; intro _; trivial
      · have hc : 194 ≤ (bs[0]?.getD 0).toNat ∧ (bs[0]?.getD 0).toNat < 224 := by revert e; unfold bN; (repeat' split) <;> omega
        rw [e]; simp only [val, if_true, if_neg (show ¬ (2 = 1) from by omega)]; omega
      · have hc : 224 ≤ (bs[0]?.getD 0).toNat ∧ (bs[0]?.getD 0).toNat < 240 := by revert e; unfold bN; (repeat' split) <;> omega
        obtain ⟨b1, g1, l1, u1⟩ := okAt_mem (hok 1 (by omega) (by omega))
        revert l1 u1
        rw [e]; simp only [val, if_true, if_neg (show ¬ (3 = 1) from by omega), if_neg (show ¬ (3 = 2) from by omega), g1, Option.getD_some]
        unfold loAt hiAt bLo bHi
        (repeat' split) <;> omega
      · have hc : 240 ≤ (bs[0]?.getD 0).toNat ∧ (bs[0]?.getD 0).toNat ≤ 244 := by revert e; unfold bN; (repeat' split) <;> omega
        obtain ⟨b1, g1, l1, u1⟩ := okAt_mem (hok 1 (by omega) (by omega))
        revert l1 u1
        rw [e]; simp only [val, if_neg (show ¬ (4 = 1) from by omega), if_neg (show ¬ (4 = 2) from by omega), if_neg (show ¬ (4 = 3) from by omega), g1, Option.getD_some]
        unfold loAt hiAt bLo bHi
        (repeat' split) <;> omega
theorem readF_low : ∀ (f : Nat) (bs : List UInt8), ∀ c ∈ readF f bs, c < 128 → c = 10 ∨ ∃ b ∈ bs, c = (b.toNat : Int)
  | 0, bs => by simp [readF]
  | f + 1, bs => by
    have ih : ∀ c ∈ readF f (bs.drop (nextN bs)), c < 128 → c = 10 ∨ ∃ b ∈ bs, c = (b.toNat : Int) := fun c hc h => by
      rcases readF_low f (bs.drop (nextN bs)) c hc h with e | ⟨b, hb, e⟩
      · exact .inl e
      · exact .inr ⟨b, List.mem_of_mem_drop hb, e⟩
    have hc := nextC_low bs
    unfold readF
    simp only
    split
    · simp
    · rename_i hne
      split
      · intro c h hl
        rcases List.mem_cons.1 h with rfl | h
        · omega
        · exact ih c h hl
      · split
        · exact ih
        · split
          · intro c h hl
            rcases List.mem_cons.1 h with rfl | h
            · exact .inl rfl
            · exact ih c h hl
          · intro c h hl
            rcases List.mem_cons.1 h with rfl | h
            · obtain ⟨b, t, rfl⟩ := List.exists_cons_of_ne_nil (by simpa using hne)
              exact .inr ⟨b, by simp, hc hl⟩
            · exact ih c h hl
theorem readP_low (bs : List UInt8) : ∀ c ∈ readP bs, c < 128 → c = 10 ∨ ∃ b ∈ bs, c = (b.toNat : Int) := readF_low _ bs
theorem readP_pos (bs : List UInt8) : ∀ c ∈ readP bs, 0 ≤ c := fun c h => (isB_range (readP_chars bs c h)).1

/-! White space and comments. -/
theorem spaces_twice (r : List Int) : spacesT (spacesT r).2 = (false, (spacesT r).2) := by
  fun_induction spacesT r with
  | case1 r h ih => exact ih
  | case2 r h h2 ih => exact ih
  | case3 r h h2 => exact spacesT_end (by simpa using h) h2
theorem scan_spaces (r : List Int) : scanT r = (if (spacesT r).1 = true then [⟨1, [], 0⟩] else []) ++ scanT (spacesT r).2 := by
  have h2 := spaces_twice r
  by_cases h : (spacesT r).2 = []
  · rw [scanT_end h, h, scanT_nil, List.append_nil]
  · rw [scanT_step h, scanT_step (r := (spacesT r).2) (by rw [h2]; exact h), h2]; simp
theorem scan_of_spaces {r r' : List Int} (h : spacesT r = spacesT r') : scanT r = scanT r' := by rw [scan_spaces r, h, ← scan_spaces r']
theorem skip_body : ∀ (x : List Int), (∀ c ∈ x, c ≠ 42) → ∀ rest, skipC (x ++ 42 :: 47 :: rest) = rest
  | [], _, rest => by rw [List.nil_append, skipC, if_pos ⟨rfl, rfl⟩]; rfl
  | c :: x, h, rest => by
    rw [List.cons_append, skipC, if_neg (by have := h c (by simp); omega)]
    exact skip_body x (fun d hd => h d (by simp [hd])) rest
theorem spaces_comment (x : List Int) (h : ∀ c ∈ x, c ≠ 42) (rest : List Int) : spacesT (47 :: 42 :: (x ++ 42 :: 47 :: rest)) = spacesT rest := by
  rw [spacesT_comment (by rw [pk_cons0]; decide) ⟨rfl, rfl⟩]
  show spacesT (skipC (x ++ 42 :: 47 :: rest)) = _
  rw [skip_body x h]
theorem spaces_white {c : Int} (h : whiteB c = true) (rest : List Int) : spacesT (c :: rest) = (true, (spacesT rest).2) := spacesT_white h
theorem spaces_none {c : Int} (h : whiteB c = false) (h2 : c ≠ 47) (rest : List Int) : spacesT (c :: rest) = (false, c :: rest) := spacesT_end h (fun e => h2 e.1)
theorem scan_white {c : Int} (h : whiteB c = true) (rest : List Int) : scanT (c :: rest) = ⟨1, [], 0⟩ :: scanT (spacesT rest).2 := by
  rw [scan_spaces, spaces_white h]; rfl
theorem scan_next {c : Int} (h : whiteB c = false) (h2 : c ≠ 47) (rest : List Int) : scanT (c :: rest) = (nextT (c :: rest)).1 :: scanT (nextT (c :: rest)).2 := by
  have := spaces_none h h2 rest
  rw [scanT_step (by rw [this]; simp), this]; rfl

/-! Names. -/
theorem esc_cons {c : Int} (h : c ≠ 92) (r : List Int) : esc (c :: r) = false := by unfold esc; rw [pk_cons0]; simp [h]
theorem esc_nil : esc [] = false := by decide
theorem name_all : ∀ (l : List Int), (∀ c ∈ l, withinB c = true) → ∀ (rest : List Int), esc rest = false → withinB (pk rest 0) = false → nameT (l ++ rest) = (l, rest)
  | [], _, rest, h1, h2 => nameT_end h1 h2
  | c :: l, h, rest, h1, h2 => by
    have hc := h c (by simp)
    have hne : c ≠ 92 := fun e => by subst e; revert hc; decide
    have ih := name_all l (fun d hd => h d (by simp [hd])) rest h1 h2
    rw [List.cons_append, nameT_in (esc_cons hne _) (by rw [pk_cons0]; exact hc)]
    show (c :: (nameT (l ++ rest)).1, (nameT (l ++ rest)).2) = _
    rw [ih]
theorem letter_facts {c : Int} (h : letterB c = true) : whiteB c = false ∧ c ≠ 47 ∧ c ≠ 34 ∧ c ≠ 39 ∧ c ≠ 35 ∧ c ≠ 64 ∧ Np.numStart c = false ∧ beginsB c = true ∧ withinB c = true := by
  have hb : beginsB c = true := by unfold beginsB; rw [h]; rfl
  have hc : (97 ≤ c ∧ c ≤ 122) ∨ (65 ≤ c ∧ c ≤ 90) := of_decide_eq_true h
  refine ⟨?_, by omega, by omega, by omega, by omega, by omega, ?_, hb, begins_within hb⟩
  · unfold whiteB; simp; omega
  · unfold Np.numStart; simp; omega
theorem nextT_name {c : Int} {r : List Int} (hc : letterB c = true) (hr : ∀ d ∈ r, 0 ≤ d) : nextT (c :: r) = if pk (nameT (c :: r)).2 0 = 40 then (⟨3, writeP (nameT (c :: r)).1, 0⟩, (nameT (c :: r)).2.tail) else (⟨2, writeP (nameT (c :: r)).1, 0⟩, (nameT (c :: r)).2) := by
  obtain ⟨f1, f2, f3, f4, f5, f6, f7, f8, f9⟩ := letter_facts hc
  have hn : numberT (c :: r) = none := Np.number_none (Np.num_none (fun d hd => by
    rcases List.mem_cons.1 hd with rfl | hd
    · have := of_decide_eq_true hc; omega
    · exact hr d hd) f7)
  have hb : beg (c :: r) = true := by unfold beg may; rw [pk_cons0, f8]; rfl
  unfold nextT
  simp only []
  rw [if_neg (by rw [pk_cons0]; omega), if_neg (by rw [pk_cons0]; intro h; exact f5 h.1), hn]
  simp only []
  rw [if_neg (by rw [pk_cons0]; intro h; exact f6 h.1), if_pos hb]
/-- a name ahead of what ends it -/
theorem scan_name {c : Int} {l rest : List Int} (hc : letterB c = true) (hl : ∀ d ∈ l, withinB d = true) (hp : ∀ d ∈ rest, 0 ≤ d) (h1 : esc rest = false) (h2 : withinB (pk rest 0) = false) :
    scanT (c :: l ++ rest) = if pk rest 0 = 40 then ⟨3, writeP (c :: l), 0⟩ :: scanT rest.tail else ⟨2, writeP (c :: l), 0⟩ :: scanT rest := by
  obtain ⟨f1, f2, f3, f4, f5, f6, f7, f8, f9⟩ := letter_facts hc
  have hn := name_all (c :: l) (fun d hd => by
    rcases List.mem_cons.1 hd with rfl | hd
    · exact f9
    · exact hl d hd) rest h1 h2
  have hl0 : ∀ d, withinB d = true → 0 ≤ d := fun d hd => by
    unfold withinB beginsB letterB digitB at hd; simp at hd; omega
  rw [List.cons_append] at hn ⊢
  rw [scan_next f1 f2, nextT_name hc (fun d hd => by
    rcases List.mem_append.1 hd with hd | hd
    · exact hl0 d (hl d hd)
    · exact hp d hd), hn]
  split <;> rfl
theorem beg_name {c : Int} (r : List Int) (hc : letterB c = true) : beg (c :: r) = true := by
  obtain ⟨f1, f2, f3, f4, f5, f6, f7, f8, f9⟩ := letter_facts hc
  unfold beg may; rw [pk_cons0, f8]; rfl
theorem within_pos {d : Int} (hd : withinB d = true) : 0 ≤ d := by unfold withinB beginsB letterB digitB at hd; simp at hd; omega
/-- a name alone -/
theorem scan_ident {c : Int} {l : List Int} (hc : letterB c = true) (hl : ∀ d ∈ l, withinB d = true) : scanT (c :: l) = [⟨2, writeP (c :: l), 0⟩] := by
  have := scan_name (rest := []) hc hl (by simp) esc_nil (by rw [pk_nil]; decide)
  rw [List.append_nil, pk_nil, if_neg (by decide), scanT_nil] at this
  exact this
/-- a name with a bracket behind it -/
theorem scan_func {c : Int} {l : List Int} (hc : letterB c = true) (hl : ∀ d ∈ l, withinB d = true) : scanT (c :: l ++ [40]) = [⟨3, writeP (c :: l), 0⟩] := by
  have := scan_name (rest := [40]) hc hl (by simp) (by decide) (by decide)
  rw [if_pos (by rfl)] at this
  rw [this]; show _ :: scanT [] = _; rw [scanT_nil]
theorem name_alone {c : Int} {l : List Int} (hc : letterB c = true) (hl : ∀ d ∈ l, withinB d = true) : nameT (c :: l) = (c :: l, []) := by
  have hn := name_all (c :: l) (fun d hd => by
    rcases List.mem_cons.1 hd with rfl | hd
    · exact (letter_facts hc).2.2.2.2.2.2.2.2
    · exact hl d hd) [] esc_nil (by rw [pk_nil]; decide)
  rw [List.append_nil] at hn; exact hn
/-- @ ahead of a name -/
theorem scan_at {c : Int} {l : List Int} (hc : letterB c = true) (hl : ∀ d ∈ l, withinB d = true) : scanT (64 :: c :: l) = [⟨4, writeP (c :: l), 0⟩] := by
  have hn : numberT (64 :: c :: l) = none := Np.number_none (Np.num_none (fun d hd => by
    rcases List.mem_cons.1 hd with rfl | hd
    · omega
    · rcases List.mem_cons.1 hd with rfl | hd
      · have := of_decide_eq_true hc; omega
      · exact within_pos (hl d hd)) (show Np.numStart 64 = false by decide))
  have e : nextT (64 :: c :: l) = (⟨4, writeP (c :: l), 0⟩, []) := by
    unfold nextT
    simp only []
    rw [if_neg (by rw [pk_cons0]; omega), if_neg (by rw [pk_cons0]; intro h; exact absurd h.1 (by decide)), hn]
    simp only []
    rw [if_pos ⟨rfl, beg_name l hc⟩, List.tail_cons, name_alone hc hl]
  rw [scan_next (by decide) (by decide), e, scanT_nil]
/-- # ahead of a name -/
theorem scan_hash {c : Int} {l : List Int} (hc : letterB c = true) (hl : ∀ d ∈ l, withinB d = true) : scanT (35 :: c :: l) = [⟨5, writeP (c :: l), 0⟩] := by
  have e : nextT (35 :: c :: l) = (⟨5, writeP (c :: l), 0⟩, []) := by
    unfold nextT
    simp only []
    rw [if_neg (by rw [pk_cons0]; omega), if_pos ⟨rfl, by rw [pk_cons, pk_cons0, (letter_facts hc).2.2.2.2.2.2.2.2]; rfl⟩, List.tail_cons, name_alone hc hl]
  rw [scan_next (by decide) (by decide), e, scanT_nil]

/-! Texts. -/
theorem quote_plain (q : Int) (hq : q = 34 ∨ q = 39) : ∀ (l : List Int), (∀ c ∈ l, c ≠ 34 ∧ c ≠ 39 ∧ c ≠ 92 ∧ c ≠ 10) → ∀ rest, quoteT q (l ++ q :: rest) = (l, false, rest)
  | [], _, rest => by
    rw [List.nil_append, quoteT_at (by simp), pk_cons0, if_neg (by omega), if_pos rfl]; rfl
  | c :: l, h, rest => by
    have hc := h c (by simp)
    rw [List.cons_append, quoteT_at (by simp), pk_cons0, if_neg hc.2.2.2, if_neg (by omega), if_neg (by rw [esc_cons hc.2.2.1]; decide), if_neg hc.2.2.1, List.tail_cons, quote_plain q hq l (fun d hd => h d (by simp [hd])) rest]
theorem scan_text (q : Int) (hq : q = 34 ∨ q = 39) (l : List Int) (h : ∀ c ∈ l, c ≠ 34 ∧ c ≠ 39 ∧ c ≠ 92 ∧ c ≠ 10) : scanT (q :: l ++ [q]) = [⟨6, writeP l, 0⟩] := by
  have e : nextT (q :: (l ++ [q])) = (⟨6, writeP l, 0⟩, []) := by
    unfold nextT
    simp only []
    rw [if_pos (by rw [pk_cons0]; omega), pk_cons0, List.tail_cons, quote_plain q hq l h []]; rfl
  rw [List.cons_append, scan_next (by rcases hq with rfl | rfl <;> decide) (by omega), e, scanT_nil]

/-! A colon. -/
theorem scan_colon (rest : List Int) (hr : ∀ c ∈ rest, 0 ≤ c) : scanT (58 :: rest) = ⟨14, [], 0⟩ :: scanT rest := by
  have hn : numberT (58 :: rest) = none := Np.number_none (Np.num_none (fun d hd => by
    rcases List.mem_cons.1 hd with rfl | hd
    · omega
    · exact hr d hd) (show Np.numStart 58 = false by decide))
  have hb : beg (58 :: rest) = false := by unfold beg may; rw [pk_cons0, esc_cons (by decide)]; rfl
  have e : nextT (58 :: rest) = (⟨14, [], 0⟩, rest) := by
    unfold nextT
    simp only []
    rw [if_neg (by rw [pk_cons0]; omega), if_neg (by rw [pk_cons0]; intro h; exact absurd h.1 (by decide)), hn]
    simp only []
    rw [if_neg (by rw [pk_cons0]; intro h; exact absurd h.1 (by decide)), if_neg (by rw [hb]; decide)]; rfl
  rw [scan_next (by decide) (by decide), e]
end Go.Proofs.YtfhdihdafmahgaaGreatDoor
/- Layer 4: what is printed is scanned as it was: names, texts, escapes. Plain laws, no program in sight. -/
set_option linter.unusedVariables false
set_option linter.unusedSimpArgs false
namespace Go.Proofs.YtfhdihdafmahgaaGreatDoor
open Go.RowKit Rn Tk Tp
namespace Tp
/-- a printed character's characters -/
def partC (c : Int) (b : Bool) : List Int := if b = true then chr (escP c) else [c]
def nameG (l : List Int) (dim : Bool) : Nat → List Int → List Int
  | _, [] => []
  | i, c :: r => partC c (needB c (decide (i = 0 ∨ i = 1 ∧ l[0]? = some 45)) (decide (l = [45])) (dim && decide (i = 0))) ++ nameG l dim (i + 1) r
def nameC (l : List Int) (dim : Bool) : List Int := nameG l dim 0 l
def bodyC (l : List Int) : List Int := l.flatMap (fun c => partC c (quoteB c))
end Tp
theorem hexd_facts : ∀ k : Fin 16, hexI ((hexd k.val).toNat : Int) = (k.val : Int) ∧ (hexd k.val).toNat < 128 ∧ 48 ≤ (hexd k.val).toNat := by decide
theorem hexT_small {n : Nat} (h : n < 16) : hexT n = [hexd n] := by rw [hexT, dif_pos h]
theorem hexT_big {n : Nat} (h : ¬ n < 16) : hexT n = hexT (n / 16) ++ [hexd (n % 16)] := by rw [hexT, dif_neg h]
theorem hexT_low : ∀ (m n : Nat), n ≤ m → ∀ b ∈ hexT n, b.toNat < 128 ∧ 48 ≤ b.toNat
  | m, n, hm, b, hb => by
    by_cases h : n < 16
    · rw [hexT_small h] at hb
      obtain rfl : b = hexd n := by simpa using hb
      have := hexd_facts ⟨n, h⟩; exact ⟨this.2.1, this.2.2⟩
    · rw [hexT_big h] at hb
      rcases List.mem_append.1 hb with hb | hb
      · cases m with
        | zero => omega
        | succ m => exact hexT_low m (n / 16) (by omega) b hb
      · obtain rfl : b = hexd (n % 16) := by simpa using hb
        have := hexd_facts ⟨n % 16, by omega⟩; exact ⟨this.2.1, this.2.2⟩
theorem hexT_ne (n : Nat) : hexT n ≠ [] := by
  by_cases h : n < 16
  · rw [hexT_small h]; simp
  · rw [hexT_big h]; simp
theorem hexT_len : ∀ (k n : Nat), n < 16 ^ (k + 1) → (hexT n).length ≤ k + 1
  | 0, n, h => by rw [hexT_small (by simpa using h)]; simp
  | k + 1, n, h => by
    by_cases h1 : n < 16
    · rw [hexT_small h1]; simp
    · rw [hexT_big h1, List.length_append]
      have := hexT_len k (n / 16) (by rw [Nat.div_lt_iff_lt_mul (by omega)]; rw [Nat.pow_succ] at h; exact h)
      simp; omega
/-- hex digits are read as their number, if they are no more than may be -/
theorem hexes_read : ∀ (k n : Nat), n < 16 ^ (k + 1) → ∀ (f m : Nat) (rest : List Int), k + 1 ≤ f → hexI (pk rest 0) < 0 → ∃ g, g + (hexT n).length = f ∧ ∀ t, hexes f m (chr (hexT n) ++ t) = hexes g (m * 16 ^ (hexT n).length + n) t
  | 0, n, h, f, m, rest, hf, hr => by
    have hn : n < 16 := by simpa using h
    have h1 := hexd_facts ⟨n, hn⟩
    simp only at h1
    refine ⟨f - 1, by rw [hexT_small hn]; simp; omega, fun t => ?_⟩
    rw [hexT_small hn]
    obtain ⟨f', rfl⟩ : ∃ f', f = f' + 1 := ⟨f - 1, by omega⟩
    show hexes (f' + 1) m (((hexd n).toNat : Int) :: t) = _
    rw [hexes_yes (by rw [pk_cons0, h1.1]; omega), pk_cons0, h1.1, List.tail_cons, Int.toNat_natCast]
    simp [Nat.mul_comm]
  | k + 1, n, h, f, m, rest, hf, hr => by
    by_cases hn : n < 16
    · exact hexes_read 0 n (by simpa using hn) f m rest (by omega) hr
    · have hq : n / 16 < 16 ^ (k + 1) := by rw [Nat.div_lt_iff_lt_mul (by omega)]; rw [Nat.pow_succ] at h; exact h
      obtain ⟨g, hg, ht⟩ := hexes_read k (n / 16) hq f m rest (by omega) hr
      have h1 := hexd_facts ⟨n % 16, by omega⟩
      simp only at h1
      have hlen : (hexT (n / 16)).length ≤ k + 1 := hexT_len k _ hq
      obtain ⟨g', rfl⟩ : ∃ g', g = g' + 1 := ⟨g - 1, by omega⟩
      refine ⟨g', by rw [hexT_big hn]; simp; omega, fun t => ?_⟩
      rw [hexT_big hn, chr_app, List.append_assoc, ht]
      show hexes (g' + 1) _ (((hexd (n % 16)).toNat : Int) :: t) = _
      rw [hexes_yes (by rw [pk_cons0, h1.1]; omega), pk_cons0, h1.1, List.tail_cons, Int.toNat_natCast]
      congr 1
      rw [List.length_append, List.length_singleton, Nat.pow_succ]
      have := Nat.div_add_mod n 16
      generalize 16 ^ (hexT (n / 16)).length = P
      rw [show m * (P * 16) = 16 * (m * P) by rw [Nat.mul_comm P 16, ← Nat.mul_assoc, Nat.mul_comm m 16, Nat.mul_assoc]]
      omega
/-- an escape is read as its character -/
theorem meant_esc' {c : Int} (hc : isB c = true) (h0 : c ≠ 0) (rest : List Int) : meantT ((chr (escP c)).tail ++ rest) = (c, rest) := by
  have hr := isB_range' hc
  have hn : c.toNat < 16 ^ (5 + 1) := by show c.toNat < 16777216; omega
  obtain ⟨g, hg, ht⟩ := hexes_read 5 c.toNat hn 6 0 (32 :: rest) (by omega) (by rw [pk_cons0]; decide)
  have e : (chr (escP c)).tail ++ rest = chr (hexT c.toNat) ++ 32 :: rest := by simp [escP, chr]
  have hx : hexes 6 0 (chr (hexT c.toNat) ++ 32 :: rest) = (c.toNat, 32 :: rest) := by
    rw [ht, hexes_no (by rw [pk_cons0]; decide)]; simp
  have hne := hexT_ne c.toNat
  have hlow := hexT_low c.toNat c.toNat (Nat.le_refl _)
  have hfirst : 0 ≤ hexI (pk (chr (hexT c.toNat) ++ 32 :: rest) 0) := by
    have h2 : ∀ (m n : Nat), n ≤ m → ∃ k, k < 16 ∧ ∃ r, hexT n = hexd k :: r := by
      intro m
      induction m with
      | zero => intro n hn; exact ⟨n, by omega, [], hexT_small (by omega)⟩
      | succ m ih =>
        intro n hn
        by_cases h : n < 16
        · exact ⟨n, h, [], hexT_small h⟩
        · obtain ⟨k, hk, r, e⟩ := ih (n / 16) (by omega)
          exact ⟨k, hk, r ++ [hexd (n % 16)], by rw [hexT_big h, e]; rfl⟩
    obtain ⟨k, hk, r, e⟩ := h2 c.toNat c.toNat (Nat.le_refl _)
    rw [e]
    show 0 ≤ hexI ((hexd k).toNat : Int)
    have := hexd_facts ⟨k, hk⟩
    simp only at this
    rw [this.1]; omega
  have hnum : numC' c.toNat = c := by
    unfold numC'
    rw [if_neg]
    · omega
    · rintro (h | h)
      · omega
      · rw [show ((c.toNat : Nat) : Int) = c by omega, hc] at h; cases h
  rw [e]
  unfold meantT
  rw [if_neg (by omega)]
  simp only []
  rw [hx]
  show (numC' c.toNat, if whiteB 32 = true then rest else 32 :: rest) = _
  rw [hnum, if_pos (by decide)]
theorem esc_esc (c : Int) (rest : List Int) : esc (chr (escP c) ++ rest) = true := by
  have hne := hexT_ne c.toNat
  have hlow := hexT_low c.toNat c.toNat (Nat.le_refl _)
  obtain ⟨b, r, e⟩ := List.exists_cons_of_ne_nil hne
  have hb := hlow b (by rw [e]; simp)
  have : chr (escP c) ++ rest = 92 :: (b.toNat : Int) :: (chr (r ++ [32]) ++ rest) := by unfold escP; rw [e]; rfl
  rw [this]
  unfold esc
  rw [pk_cons0, pk_cons, pk_cons0]
  simp; omega
theorem name_part {c : Int} (hc : isB c = true) (h0 : c ≠ 0) (b : Bool) (hb : b = false → withinB c = true) (rest : List Int) : nameT (partC c b ++ rest) = (c :: (nameT rest).1, (nameT rest).2) := by
  cases b with
  | true =>
    have hm := meant_esc' hc h0 rest
    have he := esc_esc c rest
    show nameT (chr (escP c) ++ rest) = _
    have ht : (chr (escP c) ++ rest).tail = (chr (escP c)).tail ++ rest := by unfold escP; rfl
    rw [nameT_esc he, ht, hm]
  | false =>
    have hw := hb rfl
    have hne : c ≠ 92 := fun e => by subst e; revert hw; decide
    show nameT (c :: rest) = _
    rw [nameT_in (esc_cons hne _) (by rw [pk_cons0]; exact hw)]; rfl
theorem nameG_read (l : List Int) (dim : Bool) : ∀ (r : List Int) (i : Nat), (∀ c ∈ r, isB c = true ∧ c ≠ 0) → ∀ rest, esc rest = false → withinB (pk rest 0) = false → nameT (nameG l dim i r ++ rest) = (r, rest)
  | [], i, _, rest, h1, h2 => nameT_end h1 h2
  | c :: r, i, h, rest, h1, h2 => by
    have hc := h c (by simp)
    unfold nameG
    rw [List.append_assoc, name_part hc.1 hc.2 _ (fun hf => by
      unfold needB at hf
      rcases hw : withinB c with _ | _
      · rw [hw] at hf; simp at hf
      · rfl), nameG_read l dim r (i + 1) (fun d hd => h d (by simp [hd])) rest h1 h2]
theorem nameC_read {l : List Int} (dim : Bool) (h : ∀ c ∈ l, isB c = true ∧ c ≠ 0) {rest : List Int} (h1 : esc rest = false) (h2 : withinB (pk rest 0) = false) : nameT (nameC l dim ++ rest) = (l, rest) := nameG_read l dim l 0 h rest h1 h2
theorem quote_part {c : Int} (hc : isB c = true) (h0 : c ≠ 0) (rest : List Int) : quoteT 34 (partC c (quoteB c) ++ rest) = (c :: (quoteT 34 rest).1, (quoteT 34 rest).2) := by
  rcases hq : quoteB c with _ | _
  · have hq' := of_decide_eq_false hq
    show quoteT 34 (c :: rest) = _
    rw [quoteT_at (by simp), pk_cons0, if_neg (by omega), if_neg (by omega), if_neg (by rw [esc_cons (by omega)]; decide), if_neg (by omega), List.tail_cons]
  · have hm := meant_esc' hc h0 rest
    have he := esc_esc c rest
    show quoteT 34 (chr (escP c) ++ rest) = _
    have ht : (chr (escP c) ++ rest).tail = (chr (escP c)).tail ++ rest := by unfold escP; rfl
    have hp : pk (chr (escP c) ++ rest) 0 = 92 := by unfold escP; rfl
    rw [quoteT_at (by unfold escP; simp [chr]), hp, if_neg (by decide), if_neg (by decide), if_pos he, ht, hm]
theorem body_read : ∀ (l : List Int), (∀ c ∈ l, isB c = true ∧ c ≠ 0) → ∀ rest, quoteT 34 (bodyC l ++ rest) = (l ++ (quoteT 34 rest).1, (quoteT 34 rest).2)
  | [], _, rest => rfl
  | c :: l, h, rest => by
    have hc := h c (by simp)
    have e : bodyC (c :: l) = partC c (quoteB c) ++ bodyC l := by simp [bodyC]
    rw [e, List.append_assoc, quote_part hc.1 hc.2, body_read l (fun d hd => h d (by simp [hd])) rest]; rfl
end Go.Proofs.YtfhdihdafmahgaaGreatDoor
/- Layer 4: a printed number is scanned as it, whatever of a printed token stands behind. Plain laws. -/
set_option linter.unusedVariables false
set_option linter.unusedSimpArgs false
namespace Go.Proofs.YtfhdihdafmahgaaGreatDoor
open Go.RowKit Rn Tk Fx Tp
theorem byteOf_nat (b : UInt8) : Tk.byteOf (b.toNat : Int) = b := by unfold Tk.byteOf; simp
theorem numB_print (n : Int) : ∀ b ∈ Fx.printP n, numB (b.toNat : Int) = true := by
  intro b hb
  rcases printP_bytes n b hb with h | rfl | rfl
  · unfold isD at h; unfold numB; simp at h ⊢; omega
  · decide
  · decide
theorem numText_pre : ∀ (P : List UInt8), (∀ b ∈ P, numB (b.toNat : Int) = true) → ∀ rest, numText (chr P ++ rest) = P ++ numText rest
  | [], _, rest => rfl
  | b :: P, h, rest => by
    have hb := h b (by simp)
    have ih := numText_pre P (fun x hx => h x (by simp [hx])) rest
    unfold numText at ih ⊢
    rw [chr_cons, List.cons_append, List.takeWhile_cons, if_pos hb, List.map_cons, ih, byteOf_nat]; rfl
theorem number_print (n : Int) (hn : stopZ n = n) (rest : List Int) (hr : ∀ c r, rest = c :: r → numB c = false ∨ c = 45) :
    numberT (chr (Fx.printP n) ++ rest) = some (if beg rest = true then (⟨10, writeP (nameT rest).1, n⟩, (nameT rest).2) else if pk rest 0 = 37 then (⟨9, [], n⟩, rest.tail) else (⟨8, [], n⟩, rest)) := by
  have hne := printP_ne n
  have hpos := List.length_pos_iff.2 hne
  have ht := numText_pre (Fx.printP n) (numB_print n) rest
  have hstop : Nm.StopM (numText rest) := by
    intro b t e
    cases rest with
    | nil => unfold numText at e; simp at e
    | cons c r =>
      unfold numText at e
      rw [List.takeWhile_cons] at e
      rcases hr c r rfl with h | h
      · rw [if_neg (by simp [h])] at e; simp at e
      · subst h
        rw [if_pos (by decide), List.map_cons] at e
        injection e with e _
        subst e
        exact ⟨by decide, by decide, by decide, by decide⟩
  have hl : lenP (Fx.printP n ++ numText rest) = (Fx.printP n).length := by
    rw [Nm.len_app _ _ hne hstop (printP_body n), (parse_print n).2.1]
  have hd : (chr (Fx.printP n) ++ rest).drop (Fx.printP n).length = rest := by
    have : (chr (Fx.printP n)).length = (Fx.printP n).length := by simp [chr]
    rw [← this, List.drop_left]
  have hv : parseP ((Fx.printP n ++ numText rest).take (Fx.printP n).length) = n := by
    rw [List.take_left, (parse_print n).2.2, hn]
  unfold numberT
  simp only [ht, hl, hd, hv]
  rw [if_neg (by omega)]
  split
  · rfl
  · split <;> rfl
end Go.Proofs.YtfhdihdafmahgaaGreatDoor
set_option linter.unusedVariables false
set_option linter.unusedSimpArgs false
namespace Go.Proofs.YtfhdihdafmahgaaGreatDoor
open Go.RowKit Rn Tk Fx Tp
/-- a character that may stand behind a printed token -/
def sepB (c : Int) : Bool := decide (c = 10 ∨ c = 41 ∨ c = 93 ∨ c = 125 ∨ c = 34 ∨ c = 58 ∨ c = 59 ∨ c = 44 ∨ c = 47)
def Sep (rest : List Int) : Prop := rest = [] ∨ ∃ c r, rest = c :: r ∧ sepB c = true
theorem sep_facts {rest : List Int} (h : Sep rest) : esc rest = false ∧ withinB (pk rest 0) = false ∧ pk rest 0 ≠ 40 ∧ pk rest 0 ≠ 37 ∧ pk rest 0 ≠ 42 ∧ pk rest 0 ≠ 45 ∧ beg rest = false ∧ ∀ c r, rest = c :: r → numB c = false := by
  rcases h with rfl | ⟨c, r, rfl, hc⟩
  · refine ⟨esc_nil, by decide, by decide, by decide, by decide, by decide, by decide, fun c r h => by cases h⟩
  · have hc := of_decide_eq_true hc
    have he : esc (c :: r) = false := esc_cons (by omega) r
    have hw : withinB c = false := by unfold withinB beginsB letterB digitB isB; simp; omega
    have hb : beginsB c = false := by
      cases h : beginsB c with
      | false => rfl
      | true => rw [begins_within h] at hw; cases hw
    refine ⟨he, hw, ?_, ?_, ?_, ?_, ?_, fun c' r' h => ?_⟩
    · rw [pk_cons0]; omega
    · rw [pk_cons0]; omega
    · rw [pk_cons0]; omega
    · rw [pk_cons0]; omega
    · unfold beg may
      rw [pk_cons0, hb, he]
      simp; omega
    · injection h with h1 _
      subst h1
      unfold numB; simp; omega
theorem next_of_number {c : Int} {r : List Int} {x : Tok × List Int} (h1 : c ≠ 34) (h2 : c ≠ 39) (h3 : c ≠ 35) (h : numberT (c :: r) = some x) : nextT (c :: r) = x := by
  unfold nextT
  simp only []
  rw [if_neg (by rw [pk_cons0]; omega), if_neg (by rw [pk_cons0]; intro h; exact h3 h.1), h]
theorem print_first (n : Int) : ∃ b P, Fx.printP n = b :: P ∧ (b.toNat : Int) ≠ 34 ∧ (b.toNat : Int) ≠ 39 ∧ (b.toNat : Int) ≠ 35 ∧ whiteB (b.toNat : Int) = false ∧ (b.toNat : Int) ≠ 47 := by
  obtain ⟨b, P, e⟩ := List.exists_cons_of_ne_nil (printP_ne n)
  have hb := printP_bytes n b (by rw [e]; simp)
  refine ⟨b, P, e, ?_⟩
  rcases hb with h | rfl | rfl
  · unfold isD at h
    simp at h
    unfold whiteB
    simp; omega
  · decide
  · refine ⟨by decide, by decide, by decide, by decide, by decide⟩
theorem next_number {n : Int} (hn : stopZ n = n) {rest : List Int} (h : Sep rest) : nextT (chr (Fx.printP n) ++ rest) = (⟨8, [], n⟩, rest) := by
  obtain ⟨f1, f2, f3, f4, f5, f6, f7, f8⟩ := sep_facts h
  have hx := number_print n hn rest (fun c r e => .inl (f8 c r e))
  rw [if_neg (by rw [f7]; decide), if_neg f4] at hx
  obtain ⟨b, P, e, g1, g2, g3, _⟩ := print_first n
  rw [e, chr_cons, List.cons_append] at hx ⊢
  exact next_of_number g1 g2 g3 hx
theorem next_percent {n : Int} (hn : stopZ n = n) (rest : List Int) : nextT (chr (Fx.printP n) ++ 37 :: rest) = (⟨9, [], n⟩, rest) := by
  have hx := number_print n hn (37 :: rest) (fun c r e => by injection e with e _; subst e; exact .inl (by decide))
  have hb : beg (37 :: rest) = false := by unfold beg may; rw [pk_cons0, esc_cons (by decide)]; rfl
  rw [if_neg (by rw [hb]; decide), if_pos (by rw [pk_cons0])] at hx
  obtain ⟨b, P, e, g1, g2, g3, _⟩ := print_first n
  rw [e, chr_cons, List.cons_append] at hx ⊢
  exact next_of_number g1 g2 g3 hx
end Go.Proofs.YtfhdihdafmahgaaGreatDoor
