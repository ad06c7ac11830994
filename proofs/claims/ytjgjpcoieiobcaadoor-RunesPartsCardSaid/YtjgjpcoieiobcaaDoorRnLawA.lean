/- The laws of layer 2 are walked: each answers true, for every input; nothing that was there has changed. -/
import Derived.Test.YtjgjpcoieiobcaaDoorRnLaws
import Derived.Test.YtjgjpcoieiobcaaDoorRefWrite
set_option linter.unusedVariables false
set_option linter.unusedSimpArgs false
namespace Go.Proofs.YtjgjpcoieiobcaaDoor
open Go.RowKit Rn

/-- What next tells is a number of 32 bits. -/
theorem nextC_range (bs : List UInt8) : 0 ≤ nextC bs ∧ nextC bs ≤ 2147483647 := by
  unfold nextC
  simp only
  have hv : ∀ n, val bs n < 2147483647 := by
    intro n
    have h0 := UInt8.toNat_lt (bs[0]?.getD 0)
    have h1 := UInt8.toNat_lt (bs[1]?.getD 0)
    have h2 := UInt8.toNat_lt (bs[2]?.getD 0)
    have h3 := UInt8.toNat_lt (bs[3]?.getD 0)
    unfold val
    simp only
    (repeat' split) <;> omega
  (repeat' split)
  · omega
  · omega
  · have := hv (bN (bs[0]?.getD 0).toNat); omega
theorem readF_range : ∀ (f : Nat) (bs : List UInt8), (readF f bs).length ≤ f ∧ ∀ c ∈ readF f bs, 0 ≤ c ∧ c ≤ 2147483647
  | 0, bs => ⟨by simp [readF], by simp [readF]⟩
  | f + 1, bs => by
    have ih := readF_range f (bs.drop (nextN bs))
    have hc := nextC_range bs
    unfold readF
    simp only
    (repeat' split)
    · simp
    · exact ⟨by simp; omega, fun c h => by rcases List.mem_cons.1 h with rfl | h; · omega
                                           exact ih.2 c h⟩
    · exact ⟨by omega, ih.2⟩
    · exact ⟨by simp; omega, fun c h => by rcases List.mem_cons.1 h with rfl | h; · omega
                                           exact ih.2 c h⟩
    · exact ⟨by simp; omega, fun c h => by rcases List.mem_cons.1 h with rfl | h; · exact hc
                                           exact ih.2 c h⟩
theorem readP_len (bs : List UInt8) : (readP bs).length ≤ bs.length := (readF_range _ _).1
theorem readP_range (bs : List UInt8) : ∀ c ∈ readP bs, -2147483648 ≤ c ∧ c ≤ 2147483647 := fun c h => by have := (readF_range _ _).2 c h; omega

/-- An owned row is a slice that reads. -/
theorem own_reads {w : World} {base : Nat} {e : TypeId} {v : Value} {n : Nat} {xs : List Value} (h : w.ownsRow base e 1 v n xs) : ∃ A c, v = .slice A n c ∧ n ≤ c ∧ c ≤ maxLen ∧ Reads w w.heap.size 1 A n xs := by
  obtain ⟨A, c, rfl, h1, h2⟩ := own_form h
  exact ⟨A, c, rfl, h1, h2, Reads.of_own h⟩

set_option maxRecDepth 100000 in
set_option maxHeartbeats 1000000 in
theorem walk_RunesRead (bs : List UInt8) (A : Option Addr) (n cap : Nat) (w : World) (hr : Reads w w.heap.size 1 A n (bs.map b8)) (hm : n ≤ cap) (hcap : cap ≤ maxLen) (hT : Tabs w) :
    Calls Tryd.prog 3 #[.slice A n cap] w fun e w' => e = .returned (.bool true) ∧ Below w.heap.size w w' := by
  have hlen : bs.length = n := by simpa using hr.len
  have hcap' := hcap
  unfold maxLen at hcap
  by_cases hn : n ≤ 2000
  · have Hlen := Lib.hid hlen
    clear hlen
    go_enter Tryd.func3, Tryd.ntmps3
    go_wp2_with fail
    refine (rn_read bs A n cap w hr hm hcap' (by omega) hT).mono ?_
    rintro e w1 ⟨v, rfl, hown, hb1⟩
    obtain ⟨A1, c1, rfl, h11, h12, hr1⟩ := own_reads hown
    have hl := readP_len bs
    rw [Hlen.out] at hl
    go_wp2_with fail
    refine (law_ints (readP bs) A1 _ c1 w1 hr1 (readP_range bs) (by omega)).mono ?_
    rintro e w2 ⟨v, rfl, hown2, hb2⟩
    obtain ⟨A2, c2, rfl, h21, h22, hr2⟩ := own_reads hown2
    have hb02 := hb1.trans (hb2.mono hb1.size)
    go_wp2_with fail
    refine (ref_read bs A n cap w2 ((hr.below hb02).more hb02.size) hm hcap' (by omega)).mono ?_
    rintro e w3 ⟨v, rfl, hown3, hb3⟩
    obtain ⟨A3, c3, rfl, h31, h32, hr3⟩ := own_reads hown3
    have hb03 := hb02.trans (hb3.mono hb02.size)
    go_wp2_with fail
    refine (law_same (readP bs) (readP bs) A2 A3 _ _ c2 c3 w3 ((hr2.below hb3).more hb3.size) hr3 (by omega)).mono ?_
    rintro e w4 ⟨rfl, hb4⟩
    have hb04 := hb03.trans (hb4.mono hb03.size)
    rw [decide_eq_true rfl]
    have hT4 := hT.below hb04
    have hs4 := hb04.size
    go_wp2_with fail
    refine (law_awake w4 hT4).mono ?_
    rintro e w5 ⟨rfl, hb5⟩
    go_wp2
    go_ret
    exact ⟨rfl, hb04.trans (hb5.mono hs4)⟩
  · go_enter Tryd.func3, Tryd.ntmps3
    go_wp2_with fail
    refine (law_awake w hT).mono ?_
    rintro e w5 ⟨rfl, hb5⟩
    go_wp2
    go_ret
    exact ⟨rfl, hb5⟩
end Go.Proofs.YtjgjpcoieiobcaaDoor
