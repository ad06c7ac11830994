/- The reference's begins and Next of layer 2 are walked: Next answers just what runes.next answers. -/
import Derived.Test.YtjgjpcoieiobcaaDoorRefPlain
set_option linter.unusedVariables false
set_option linter.unusedSimpArgs false
namespace Go.Proofs.YtjgjpcoieiobcaaDoor
open Go.RowKit Rn

set_option maxRecDepth 100000 in
set_option maxHeartbeats 1000000 in
theorem ref_begins_ (bs : List UInt8) (A : Option Addr) (n cap B long : Nat) (w : World) (hr : Reads w B 1 A n (bs.map b8)) (hn : 0 < n) (hcap : n ≤ 9223372036854775807) (hl2 : 2 ≤ long) (hl4 : long ≤ 4) :
    Calls Tryd.prog 36 #[.slice A n cap, .int .i64 long] w fun e w' => e = .returned (.bool (begR bs long)) ∧ w = w' := by
  have hsp := ref_span bs A n cap B long w hr hn hcap hl2 hl4
  have Hbeg : Hid (begR bs long = (let lo := (spanR bs long).1; let hi := (spanR bs long).2; if lo < 0 then false else
    let least : Int := if long = 4 then 65536 else if long = 3 then 2048 else 128; let low := max lo least; let high := min hi 1114111
    let low := if 55296 ≤ low ∧ low ≤ 57343 then 57344 else low; decide (low ≤ high))) := rfl
  have hrange : (spanR bs long).1 < 0 ∨ (0 ≤ (spanR bs long).1 ∧ (spanR bs long).1 ≤ (spanR bs long).2 ∧ (spanR bs long).2 ≤ 8388607) := by
    rcases spanR_range bs long hl2 hl4 with h | h
    · left; rw [h]; decide
    · right; exact h
  generalize hlo : (spanR bs long).1 = lo at *
  generalize hhi : (spanR bs long).2 = hi at *
  have Hsp := Lib.hid hsp
  clear hsp hlo hhi hr
  generalize begR bs long = R at *
  rcases hrange with h | ⟨h1, h2, h3⟩
  · have hR : R = false := by rw [Hbeg.out]; simp [h]
    subst hR
    clear Hbeg
    obtain rfl | rfl | rfl : long = 2 ∨ long = 3 ∨ long = 4 := by omega
    all_goals
      go_enter Tryd.func36, Tryd.ntmps36
      go_wp2_with (go_at_call 37; refine (Hsp.out).mono ?_; rintro e w' ⟨rfl, rfl⟩)
      go_ret
      exact ⟨rfl, rfl⟩
  · have hlo0 : ¬ lo < 0 := by omega
    obtain rfl | rfl | rfl : long = 2 ∨ long = 3 ∨ long = 4 := by omega
    all_goals
      go_enter Tryd.func36, Tryd.ntmps36
      go_wp2_with (go_at_call 37; refine (Hsp.out).mono ?_; rintro e w' ⟨rfl, rfl⟩)
      all_goals
        go_ret
        refine ⟨ret_bool ?_, rfl⟩
        rw [Hbeg.out, if_neg (by omega), Bool.eq_iff_iff]
        simp
        (try split) <;> omega

/-- what Next holds at the head of its outer loop: the best so far -/
def bestP (N S L : Nat) : Nat := if N ≠ 0 ∧ N < L then S else 1
def NextRel (N S : Nat) (best long : Value) : Prop := ∃ L : Nat, 2 ≤ L ∧ L ≤ 5 ∧ long = .int .i64 L ∧ best = .int .i64 (bestP N S L) ∧ (N ≠ 0 → N < L → S < N)
/-- and at the head of its inner one -/
def NextIn (N S n L : Nat) (best k : Value) : Prop := ∃ j : Nat, 1 ≤ j ∧ j ≤ L ∧ j ≤ n + 1 ∧ k = .int .i64 j ∧ (1 < j → L = N ∧ j - 1 ≤ S ∧ best = .int .i64 ((j - 1 : Nat) : Int)) ∧ (j = 1 → best = .int .i64 (bestP N S L))

set_option maxRecDepth 100000 in
set_option maxHeartbeats 2000000 in
theorem ref_next_core (b0 : UInt8) (n cap b off N S M : Nat) (C : Int) (beg : Nat → Nat → Bool) (sp : Nat → Int × Int) (w : World) (h0 : w.cell? ⟨b, off, none⟩ = some (.int .u8 b0.toNat)) (hs : ¬ b0.toNat < 128) (hn : 0 < n) (hm : n ≤ cap) (hcap : cap ≤ 9223372036854775807)
    (hcall : ∀ k L, 1 ≤ k → k ≤ L → 2 ≤ L → L ≤ 4 → k ≤ n → Calls Tryd.prog 36 #[.slice (some ⟨b, off, none⟩) k cap, .int .i64 (L : Nat)] w fun e w' => e = .returned (.bool (beg k L)) ∧ w = w')
    (hspan : ∀ L, 2 ≤ L → L ≤ 4 → L ≤ n → Calls Tryd.prog 37 #[.slice (some ⟨b, off, none⟩) L cap, .int .i64 (L : Nat)] w fun e w' => e = .returned (.tuple #[.int .i64 (sp L).1, .int .i64 (sp L).2]) ∧ w = w')
    (hbeg : ∀ k L, 1 ≤ k → k ≤ L → 2 ≤ L → L ≤ 4 → k ≤ n → beg k L = decide (L = N ∧ k ≤ S))
    (hval : ∀ L, 2 ≤ L → L ≤ 4 → L = N → L ≤ n → S = L → (sp L).1 = C ∧ M = L)
    (hnext : S < N ∨ N = 0 → C = 65533 ∧ M = (if N = 0 then 1 else S))
    (hN : N = 0 ∨ (2 ≤ N ∧ N ≤ 4)) (hS1 : 1 ≤ S) (hS2 : S ≤ n) (hS3 : N ≠ 0 → S ≤ N) :
    Calls Tryd.prog 29 #[.slice (some ⟨b, off, none⟩) n cap] w fun e w' => e = .returned (.tuple #[.int .i64 C, .int .i64 M]) ∧ w = w' := by
  have hb0 : b0.toNat < 256 := b0.toNat_lt
  have Hcall := Lib.hid hcall
  have Hspan := Lib.hid hspan
  have Hnext := Lib.hid hnext
  have Hval := Lib.hid hval
  have Hbeg := Lib.hid hbeg
  clear hcall hspan hnext hval hbeg
  go_enter Tryd.func29, Tryd.ntmps29
  go_wp2_with fail
  go_loop [4, 5] (fun best long => NextRel N S best long) (fun _ long => 5 - (intOf long).toNat)
  case atStart => exact ⟨2, by omega, by omega, rfl, by rw [bestP, if_neg (by omega)]; rfl, fun h1 h2 => by omega⟩
  case round =>
    obtain ⟨L, hL1, hL2, rfl, rfl, hLN⟩ := hrel
    have HLN := Lib.hid hLN
    clear hLN
    by_cases hL : L ≤ 4
    · go_wp2_with fail
      go_loop [4, 6] (fun best k => NextIn N S n L best k) (fun _ k => 5 - (intOf k).toNat)
      case atStart => exact ⟨1, by omega, by omega, by omega, rfl, fun h => by omega, fun _ => rfl⟩
      case round =>
        obtain ⟨j, hj1, hj2, hj3, rfl, hbest, hbest1⟩ := hrel
        have Hb := Lib.hid hbest
        have Hb1 := Lib.hid hbest1
        clear hbest hbest1
        by_cases hjn : j ≤ n
        · have hc := Hcall.out j L hj1 hj2 hL1 hL hjn
          rw [Hbeg.out j L hj1 hj2 hL1 hL hjn] at hc
          by_cases hgo : L = N ∧ j ≤ S
          · rw [decide_eq_true hgo] at hc
            obtain ⟨x, hx, hx1, hx2⟩ : ∃ x : Nat, u4 = .int .i64 (x : Int) ∧ 1 ≤ x ∧ x ≤ j := by
              rcases Nat.lt_or_ge 1 j with h1 | h1
              · exact ⟨j - 1, (Hb.out h1).2.2, by omega, by omega⟩
              · have := Hb1.out (by omega)
                rw [bestP, if_neg (by omega)] at this
                exact ⟨1, this, by omega, by omega⟩
            have Hc := Lib.hid hc
            have Hgo := Lib.hid hgo
            subst hx
            clear hc hgo
            by_cases hjL : j = L
            · have hjL' : ((j : Int) == (L : Int)) = true := by simp [hjL]
              have hv := Hval.out L hL1 hL Hgo.out.1 (by omega) (by have := Hgo.out; omega)
              have hsp := Hspan.out L hL1 hL (by omega)
              have Hv := Lib.hid hv
              have Hsp := Lib.hid hsp
              have HjL := Lib.hid hjL
              clear hjL hv hsp
              go_wp2_with fail
              refine (Hc.out).mono ?_
              rintro e w' ⟨rfl, rfl⟩
              go_wp2_with fail
              rw [HjL.out]
              refine (Hsp.out).mono ?_
              rintro e w' ⟨rfl, rfl⟩
              go_wp2
              go_ret2
              exact ⟨ret2 Hv.out.1 (by rw [Hv.out.2]), rfl⟩
            · have hjL' : ((j : Int) == (L : Int)) = false := by simp; omega
              have HjL := Lib.hid hjL
              clear hjL
              go_wp2_with fail
              refine (Hc.out).mono ?_
              rintro e w' ⟨rfl, rfl⟩
              go_wp2
              have hnew : NextIn N S n L (.int .i64 (max (x : Int) j)) (.int .i64 ((j : Int) + 1)) := by
                have := HjL.out
                exact ⟨j + 1, by omega, by omega, by omega, by go_num, fun _ => ⟨Hgo.out.1, by have := Hgo.out.2; omega, by rw [show max (x : Int) j = ((j + 1 - 1 : Nat) : Int) from by omega]⟩, fun h => by omega⟩
              exact ⟨hnew, by simp [intOf]; omega⟩
          · rw [decide_eq_false hgo] at hc
            have hnew : NextRel N S u4 (.int .i64 ((L : Int) + 1)) := by
              have h1 := HLN.out
              have h2 := Hb.out
              have h3 := Hb1.out
              refine ⟨L + 1, by omega, by omega, by go_num, ?_, fun e1 e2 => ?_⟩
              · by_cases e : L = N
                · have hj : 1 < j := by omega
                  have := h2 hj
                  rw [this.2.2, bestP, if_pos (by omega)]
                  congr 2; omega
                · have hj : j = 1 := by
                    rcases Nat.lt_or_ge 1 j with h | h
                    · exact absurd (h2 h).1 e
                    · omega
                  rw [h3 hj, bestP, bestP]
                  congr 2
                  (repeat' split) <;> omega
              · by_cases e : L = N
                · omega
                · exact h1 e1 (by omega)
            have Hc := Lib.hid hc
            have Hgo := Lib.hid hgo
            have Hnew := Lib.hid hnew
            clear hc hgo hnew
            go_wp2_with fail
            refine (Hc.out).mono ?_
            rintro e w' ⟨rfl, rfl⟩
            go_wp2
            exact ⟨Hnew.out, by simp [intOf]; omega⟩
        · have hnew : NextRel N S u4 (.int .i64 ((L : Int) + 1)) := by
            have h2 := Hb.out (by omega)
            refine ⟨L + 1, by omega, by omega, by go_num, ?_, fun e1 e2 => by omega⟩
            rw [h2.2.2, bestP, if_pos (by omega)]
            congr 2; omega
          have Hnew := Lib.hid hnew
          clear hnew
          go_wp2_with fail
          exact ⟨Hnew.out, by simp [intOf]; omega⟩
    · obtain rfl : L = 5 := by omega
      have hx := Hnext.out (by have := HLN.out; omega)
      have Hx := Lib.hid hx
      clear hx
      go_wp2
      go_ret2
      refine ⟨ret2 Hx.out.1.symm ?_, rfl⟩
      rw [Hx.out.2]
      unfold bestP
      (repeat' split) <;> omega

set_option maxRecDepth 100000 in
set_option maxHeartbeats 2000000 in
theorem ref_next (bs : List UInt8) (A : Option Addr) (n cap B : Nat) (w : World) (hr : Reads w B 1 A n (bs.map b8)) (hn : 0 < n) (hm : n ≤ cap) (hcap : cap ≤ 9223372036854775807) :
    Calls Tryd.prog 29 #[.slice A n cap] w fun e w' => e = .returned (.tuple #[.int .i64 (nextC bs), .int .i64 (nextN bs)]) ∧ w = w' := by
  have hlen : bs.length = n := by simpa using hr.len
  obtain ⟨b, off, rfl, hb, hcell⟩ := hr.open_ hn
  have hcall : ∀ k L, 1 ≤ k → k ≤ L → 2 ≤ L → L ≤ 4 → k ≤ n → Calls Tryd.prog 36 #[.slice (some ⟨b, off, none⟩) k cap, .int .i64 L] w fun e w' => e = .returned (.bool (begR (bs.take k) L)) ∧ w = w' := fun k L h1 h2 h3 h4 h5 =>
    ref_begins_ (bs.take k) _ k cap B L w (by have := hr.take h5; rwa [← List.map_take] at this) h1 (by omega) h3 h4
  have hspan : ∀ L, 2 ≤ L → L ≤ 4 → L ≤ n → Calls Tryd.prog 37 #[.slice (some ⟨b, off, none⟩) L cap, .int .i64 L] w fun e w' => e = .returned (.tuple #[.int .i64 (spanR (bs.take L) L).1, .int .i64 (spanR (bs.take L) L).2]) ∧ w = w' := fun L h3 h4 h5 =>
    ref_span (bs.take L) _ L cap B L w (by have := hr.take h5; rwa [← List.map_take] at this) (by omega) (by omega) h3 h4
  have hval : ∀ L, 2 ≤ L → L ≤ 4 → L = bN (bs[0]?.getD 0).toNat → L ≤ n → stopP bs = L → (spanR (bs.take L) L).1 = nextC bs ∧ nextN bs = L := fun L h1 h2 h3 h4 h5 => by
    have hx := next_full (bs := bs) (by omega) (by omega)
    exact ⟨by rw [span_val bs L h1 h2 h3 (by omega) h5, hx.1, ← h3], by rw [hx.2, ← h3]⟩
  have hbeg : 128 ≤ (bs[0]?.getD 0).toNat → ∀ k L, 1 ≤ k → k ≤ L → 2 ≤ L → L ≤ 4 → k ≤ n → begR (bs.take k) L = decide (L = bN (bs[0]?.getD 0).toNat ∧ k ≤ stopP bs) := fun h0 k L h1 h2 h3 h4 h5 => by
    rw [Bool.eq_iff_iff, decide_eq_true_iff]; exact beg_take bs k L h0 h1 h2 h3 h4 (by omega)
  have hN1 : 128 ≤ (bs[0]?.getD 0).toNat → bN (bs[0]?.getD 0).toNat = 0 ∨ (2 ≤ bN (bs[0]?.getD 0).toNat ∧ bN (bs[0]?.getD 0).toNat ≤ 4) := by unfold bN; (repeat' split) <;> omega
  have hS1 : 1 ≤ stopP bs := scan_ge bs _ _ _ 1
  have hS2 : stopP bs ≤ n := by rw [← hlen]; exact scan_le bs _ _ _ 1 (by omega)
  have hS3 : bN (bs[0]?.getD 0).toNat ≠ 0 → stopP bs ≤ bN (bs[0]?.getD 0).toNat := by
    intro h0
    unfold stopP
    simp only
    generalize bLo (bs[0]?.getD 0).toNat = lo
    generalize bHi (bs[0]?.getD 0).toNat = hi
    have : ∀ f k, scan bs lo hi f k ≤ k + f := by
      intro f
      induction f with
      | zero => intro k; exact Nat.le_refl _
      | succ f ih =>
        intro k; unfold scan; split
        · exact Nat.le_trans (ih (k + 1)) (by omega)
        · omega
    exact Nat.le_trans (this _ 1) (by omega)
  have hnext : stopP bs < bN (bs[0]?.getD 0).toNat ∨ bN (bs[0]?.getD 0).toNat = 0 → nextC bs = 65533 ∧ nextN bs = (if bN (bs[0]?.getD 0).toNat = 0 then 1 else stopP bs) := by
    intro h
    by_cases h0 : bN (bs[0]?.getD 0).toNat = 0
    · simp [nextC, nextN, h0]
    · simp [nextC, nextN, h0, h.resolve_right h0]
  obtain ⟨b0, hb0⟩ : ∃ b0, bs[0]? = some b0 := ⟨_, List.getElem?_eq_getElem (by omega)⟩
  have hc0 : w.cell? ⟨b, off, none⟩ = some (.int .u8 b0.toNat) := by have := hcell 0 (b8 b0) (by rw [List.getElem?_map, hb0]; rfl); simpa [b8] using this
  have e0 : (bs[0]?.getD 0) = b0 := by rw [hb0]; rfl
  by_cases hs : b0.toNat < 128
  · have h1 : bN (bs[0]?.getD 0).toNat = 1 := by rw [e0]; simp [bN, hs]
    have hst : stopP bs = 1 := by simp only [stopP, h1]; rfl
    have hx := next_full (bs := bs) (by omega) (by rw [hst, h1])
    rw [h1] at hx
    have hx1 : nextC bs = b0.toNat := by rw [hx.1]; simp [val, hb0]
    have Hx := Lib.hid hx
    have Hx1 := Lib.hid hx1
    have hb256 : b0.toNat < 256 := b0.toNat_lt
    clear hx hx1 h1 hst hcall hspan hval hbeg hN1 hS1 hS2 hS3 hnext hb0 e0 hcell hr hlen
    go_enter Tryd.func29, Tryd.ntmps29
    go_wp2
    go_ret2
    exact ⟨ret2 Hx1.out.symm (by rw [Hx.out.2]; rfl), rfl⟩
  · exact ref_next_core b0 n cap b off _ (stopP bs) (nextN bs) (nextC bs) (fun k L => begR (bs.take k) L) (fun L => spanR (bs.take L) L) w hc0 hs hn hm hcap hcall hspan (hbeg (by rw [e0]; omega)) hval hnext (hN1 (by rw [e0]; omega)) hS1 hS2 hS3
end Go.Proofs.YtjgjpcoieiobcaaDoor
