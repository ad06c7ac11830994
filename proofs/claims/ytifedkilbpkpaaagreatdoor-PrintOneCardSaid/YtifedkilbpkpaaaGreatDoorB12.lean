/- Layer 3: small facts on rows of one's own. -/
import Derived.Test.YtifedkilbpkpaaaGreatDoorB03
import Derived.Test.YtifedkilbpkpaaaGreatDoorB06
/- The reference's begins and Next of layer 2 are walked: Next answers just what runes.next answers. -/
set_option linter.unusedVariables false
set_option linter.unusedSimpArgs false
namespace Go.Proofs.YtifedkilbpkpaaaGreatDoor
open Go.RowKit Rn

/-- what Next holds at the head of its outer loop: the best so far -/
def bestP (N S L : Nat) : Nat := if N ≠ 0 ∧ N < L then S else 1
def NextRel (N S : Nat) (best long : Value) : Prop := ∃ L : Nat, 2 ≤ L ∧ L ≤ 5 ∧ long = .int .i64 L ∧ best = .int .i64 (bestP N S L) ∧ (N ≠ 0 → N < L → S < N)
/-- and at the head of its inner one -/
def NextIn (N S n L : Nat) (best k : Value) : Prop := ∃ j : Nat, 1 ≤ j ∧ j ≤ L ∧ j ≤ n + 1 ∧ k = .int .i64 j ∧ (1 < j → L = N ∧ j - 1 ≤ S ∧ best = .int .i64 ((j - 1 : Nat) : Int)) ∧ (j = 1 → best = .int .i64 (bestP N S L))

end Go.Proofs.YtifedkilbpkpaaaGreatDoor
/- The reference's Read of layer 2 is walked; it answers what runes.Read answers. -/
set_option linter.unusedVariables false
set_option linter.unusedSimpArgs false
namespace Go.Proofs.YtifedkilbpkpaaaGreatDoor
open Go.RowKit Rn
namespace Rn
def refC (c : Int) : Int := if c = 13 ∨ c = 12 then 10 else if c = 0 then 65533 else c
def refN (bs : List UInt8) : Nat := if nextC bs = 13 ∧ bs[1]? = some 10 then 2 else nextN bs
def refF : Nat → List UInt8 → List Int
  | 0, _ => []
  | f + 1, bs => if bs = [] then [] else refC (nextC bs) :: refF f (bs.drop (refN bs))
end Rn
theorem nextC_small (bs : List UInt8) (h : nextC bs < 128) : nextN bs = 1 ∧ ((bs[0]?.getD 0).toNat : Int) = nextC bs := by
  have hb := UInt8.toNat_lt (bs[0]?.getD 0)
  have key : bN (bs[0]?.getD 0).toNat = 1 → nextN bs = 1 ∧ ((bs[0]?.getD 0).toNat : Int) = nextC bs := by
    intro h1
    have hst : stopP bs = 1 := by simp only [stopP, h1]; rfl
    have hx := next_full (bs := bs) (by omega) (by rw [hst, h1])
    rw [h1] at hx
    exact ⟨hx.2, by rw [hx.1]; simp [val]⟩
  by_cases h1 : bN (bs[0]?.getD 0).toNat = 1
  · exact key h1
  · exfalso
    by_cases h0 : bN (bs[0]?.getD 0).toNat = 0
    · simp [nextC, h0] at h
    · by_cases hs : stopP bs < bN (bs[0]?.getD 0).toNat
      · simp [nextC, h0, hs] at h
      · have hN : bN (bs[0]?.getD 0).toNat ≤ 4 := by unfold bN; (repeat' split) <;> omega
        have hok := (stop_ge bs (bN (bs[0]?.getD 0).toNat) (Nat.le_refl _) (by omega)).1 (by omega)
        obtain ⟨b1, g1, l1, u1⟩ := okAt_mem (hok 1 (by omega) (by omega))
        have hval : 128 ≤ val bs (bN (bs[0]?.getD 0).toNat) := by
          have hN2 : bN (bs[0]?.getD 0).toNat = 2 ∨ bN (bs[0]?.getD 0).toNat = 3 ∨ bN (bs[0]?.getD 0).toNat = 4 := by omega
          revert l1 u1
          generalize hc : (bs[0]?.getD 0).toNat = c at *
          simp only [val, hc, g1, Option.getD_some]
          rcases hN2 with e | e | e
          · have : 194 ≤ c ∧ c < 224 := by revert e; unfold bN; (repeat' split) <;> omega
            rw [e]; simp only [if_neg (show ¬ (2 = 1) from by omega), if_true]
            omega
          · have : 224 ≤ c ∧ c < 240 := by revert e; unfold bN; (repeat' split) <;> omega
            rw [e]; simp only [if_neg (show ¬ (3 = 1) from by omega), if_neg (show ¬ (3 = 2) from by omega), if_true]
            unfold loAt hiAt bLo bHi
            (repeat' split) <;> omega
          · have : 240 ≤ c ∧ c ≤ 244 := by revert e; unfold bN; (repeat' split) <;> omega
            rw [e]; simp only [if_neg (show ¬ (4 = 1) from by omega), if_neg (show ¬ (4 = 2) from by omega), if_neg (show ¬ (4 = 3) from by omega)]
            unfold loAt hiAt bLo bHi
            (repeat' split) <;> omega
        simp [nextC, h0, hs] at h
        omega
theorem drop_nil_len {α : Type} (l : List α) (n : Nat) (h : 1 ≤ n) (hl : l ≠ []) : (l.drop n).length < l.length := by
  have := List.length_pos_iff.2 hl
  rw [List.length_drop]; omega
theorem readF_fuel : ∀ (g : Nat) (bs : List UInt8), bs.length ≤ g → readF (g + 1) bs = readF g bs
  | 0, bs, h => by
    have : bs = [] := List.eq_nil_of_length_eq_zero (by omega)
    simp [readF, this]
  | g + 1, bs, h => by
    by_cases h0 : bs = []
    · simp [readF, h0]
    · have ih := readF_fuel g (bs.drop (nextN bs)) (by have := drop_nil_len bs (nextN bs) (nextN_pos bs) h0; omega)
      rw [readF, readF]
      simp only [h0, ih]
theorem refF_eq : ∀ (f : Nat) (bs : List UInt8), bs.length ≤ f → refF f bs = readF f bs
  | 0, bs, h => by
    have : bs = [] := List.eq_nil_of_length_eq_zero (by omega)
    simp [readF, refF, this]
  | f + 1, bs, h => by
    by_cases h0 : bs = []
    · simp [readF, refF, h0]
    · have hd := drop_nil_len bs (nextN bs) (nextN_pos bs) h0
      have ih := refF_eq f (bs.drop (nextN bs)) (by omega)
      rw [refF, if_neg h0]
      by_cases c0 : nextC bs = 0
      · rw [readF_zero f h0 c0, refN, if_neg (by omega), ih, refC, if_neg (by omega), if_pos c0]
      · by_cases c1 : nextC bs = 13
        · obtain ⟨hn1, _⟩ := nextC_small bs (by omega)
          have hsnd : (bs.drop (nextN bs))[0]? = bs[1]? := by rw [hn1, List.getElem?_drop]
          by_cases h10 : bs[1]? = some 10
          · have hl2 : 2 ≤ bs.length := by
              rcases Nat.lt_or_ge 1 bs.length with h | h
              · exact h
              · rw [List.getElem?_eq_none h] at h10; cases h10
            obtain ⟨g, rfl⟩ : ∃ g, f = g + 1 := ⟨f - 1, by omega⟩
            rw [readF_skip _ h0 c1 (by rw [hsnd]; exact h10), refN, if_pos ⟨c1, h10⟩, refC, if_pos (.inl c1)]
            have hne : bs.drop (nextN bs) ≠ [] := by intro e; rw [e] at hsnd; rw [h10] at hsnd; cases hsnd
            have hg0 : ((bs.drop (nextN bs))[0]?.getD 0).toNat = 10 := by rw [hsnd, h10]; rfl
            have hbn : bN ((bs.drop (nextN bs))[0]?.getD 0).toNat = 1 := by rw [hg0]; rfl
            have hst : stopP (bs.drop (nextN bs)) = 1 := by simp only [stopP, hbn]; rfl
            have hx := next_full (bs := bs.drop (nextN bs)) (by omega) (by rw [hst, hbn])
            rw [hbn] at hx
            have hc10 : nextC (bs.drop (nextN bs)) = 10 := by rw [hx.1]; simp only [val, if_true, hg0]; rfl
            rw [readF_char g hne (by omega) (by omega) (by omega), hx.2, hc10, List.drop_drop, hn1]
            rw [refF_eq (g + 1) (bs.drop 2) (by rw [List.length_drop]; omega), readF_fuel g (bs.drop 2) (by rw [List.length_drop]; omega)]
          · rw [readF_line f h0 (.inl ⟨c1, by rw [hsnd]; exact h10⟩), refN, if_neg (by intro h; exact h10 h.2), ih, refC, if_pos (.inl c1)]
        · by_cases c2 : nextC bs = 12
          · rw [readF_line f h0 (.inr c2), refN, if_neg (by intro h; exact c1 h.1), ih, refC, if_pos (.inr c2)]
          · rw [readF_char f h0 c0 c1 c2, refN, if_neg (by intro h; exact c1 h.1), ih, refC, if_neg (by omega), if_neg c0]

theorem int_info : (Tryz.prog.info? 3).map (fun i => (i.zero, i.size, i.bytes)) = some (some (.int .i64 0), 1, 8) := by kernel_rfl

end Go.Proofs.YtifedkilbpkpaaaGreatDoor
/- Plain laws of layer 2: what is read is characters that a sheet may hold; bytes parted ahead of one below 0x80 that is no 10 are read as both parts. -/
set_option linter.unusedVariables false
set_option linter.unusedSimpArgs false
set_option linter.unusedSectionVars false
namespace Go.Proofs.YtifedkilbpkpaaaGreatDoor
open Go.RowKit Rn

theorem nextC_is (bs : List UInt8) : isB (nextC bs) = true := by
  have hb0 := UInt8.toNat_lt (bs[0]?.getD 0)
  unfold nextC
  simp only
  split
  · decide
  · rename_i h0
    split
    · decide
    · rename_i hs
      have hN : bN (bs[0]?.getD 0).toNat ≤ 4 := by unfold bN; (repeat' split) <;> omega
      have hok := (stop_ge bs (bN (bs[0]?.getD 0).toNat) (Nat.le_refl _) (by omega)).1 (by omega)
      unfold isB
      rw [decide_eq_true_iff]
      obtain e | e | e | e : bN (bs[0]?.getD 0).toNat = 1 ∨ bN (bs[0]?.getD 0).toNat = 2 ∨ bN (bs[0]?.getD 0).toNat = 3 ∨ bN (bs[0]?.getD 0).toNat = 4 := by omega
      · have hc : (bs[0]?.getD 0).toNat < 128 := by revert e; unfold bN; (repeat' split) <;> omega
        rw [e]; simp only [val, if_true]; omega
      · have hc : 194 ≤ (bs[0]?.getD 0).toNat ∧ (bs[0]?.getD 0).toNat < 224 := by revert e; unfold bN; (repeat' split) <;> omega
        rw [e]; simp only [val, if_true, if_neg (show ¬ (2 = 1) from by omega)]; omega
      · have hc : 224 ≤ (bs[0]?.getD 0).toNat ∧ (bs[0]?.getD 0).toNat < 240 := by revert e; unfold bN; (repeat' split) <;> omega
        obtain ⟨b1, g1, l1, u1⟩ := okAt_mem (hok 1 (by omega) (by omega))
        revert l1 u1
        rw [e]; simp only [val, if_true, if_neg (show ¬ (3 = 1) from by omega), if_neg (show ¬ (3 = 2) from by omega), g1, Option.getD_some]
        unfold loAt hiAt bLo bHi
        (repeat' split) <;> omega
      · have hc : 240 ≤ (bs[0]?.getD 0).toNat ∧ (bs[0]?.getD 0).toNat ≤ 244 := by revert e; unfold bN; (repeat' split) <;> omega
        obtain ⟨b1, g1, l1, u1⟩ := okAt_mem (hok 1 (by omega) (by omega))
        revert l1 u1
        rw [e]; simp only [val, if_neg (show ¬ (4 = 1) from by omega), if_neg (show ¬ (4 = 2) from by omega), if_neg (show ¬ (4 = 3) from by omega), g1, Option.getD_some]
        unfold loAt hiAt bLo bHi
        (repeat' split) <;> omega
theorem readF_plain : ∀ (f : Nat) (bs : List UInt8), ∀ c ∈ readF f bs, Plain c
  | 0, bs => by simp [readF]
  | f + 1, bs => by
    have ih := readF_plain f (bs.drop (nextN bs))
    have hc := nextC_is bs
    have h65 : Plain 65533 := ⟨by decide, by decide, by decide, by decide⟩
    have h10 : Plain 10 := ⟨by decide, by decide, by decide, by decide⟩
    unfold readF
    simp only
    split
    · simp
    · split
      · intro c h
        rcases List.mem_cons.1 h with rfl | h
        · exact h65
        · exact ih c h
      · rename_i c0
        split
        · exact ih
        · split
          · intro c h
            rcases List.mem_cons.1 h with rfl | h
            · exact h10
            · exact ih c h
          · rename_i c12
            intro c h
            rcases List.mem_cons.1 h with rfl | h
            · exact ⟨hc, c0, fun e => c12 (.inr e), fun e => c12 (.inl e)⟩
            · exact ih c h
theorem readP_plain (bs : List UInt8) : ∀ c ∈ readP bs, Plain c := readF_plain _ bs

theorem readF_more : ∀ (k g : Nat) (bs : List UInt8), bs.length ≤ g → readF (g + k) bs = readF g bs
  | 0, g, bs, h => rfl
  | k + 1, g, bs, h => by rw [← Nat.add_assoc, readF_fuel (g + k) bs (by omega)]; exact readF_more k g bs h

section
variable (a : List UInt8) (b0 : UInt8) (b : List UInt8) (ha : a ≠ []) (h128 : b0.toNat < 128)
include ha h128
theorem head_app : (a ++ b0 :: b)[0]? = a[0]? := by
  obtain ⟨x, r, rfl⟩ := List.exists_cons_of_ne_nil ha
  rfl
theorem scan_app (lo hi : Nat) (hlo : 128 ≤ lo) : ∀ (f k : Nat), 1 ≤ k → k ≤ a.length → scan (a ++ b0 :: b) lo hi f k = scan a lo hi f k
  | 0, k, _, _ => rfl
  | f + 1, k, h1, hk => by
    unfold scan
    rcases Nat.lt_or_ge k a.length with h | h
    · have : okAt (a ++ b0 :: b) lo hi k = okAt a lo hi k := by
        unfold okAt; rw [List.getElem?_append_left h]
      rw [this, scan_app lo hi hlo f (k + 1) (by omega) (by omega)]
    · have e : k = a.length := by omega
      have h1' : okAt a lo hi k = false := okAt_none (by omega)
      have h2 : okAt (a ++ b0 :: b) lo hi k = false := by
        unfold okAt
        rw [List.getElem?_append_right (by omega), e, Nat.sub_self]
        simp only [List.getElem?_cons_zero]
        split <;> simp <;> omega
      rw [h1', h2]; rfl
theorem stop_app : stopP (a ++ b0 :: b) = stopP a := by
  have hl : 1 ≤ a.length := List.length_pos_iff.2 ha
  unfold stopP
  simp only
  rw [head_app a b0 b ha h128]
  by_cases h : bN (a[0]?.getD 0).toNat - 1 = 0
  · rw [h]; rfl
  · exact scan_app a b0 b ha h128 _ _ (by revert h; unfold bN bLo; (repeat' split) <;> omega) _ 1 (Nat.le_refl _) hl
theorem next_app : nextC (a ++ b0 :: b) = nextC a ∧ nextN (a ++ b0 :: b) = nextN a := by
  have hl : 1 ≤ a.length := List.length_pos_iff.2 ha
  have h1 := stop_app a b0 b ha h128
  have h2 := head_app a b0 b ha h128
  have h3 : stopP a ≤ a.length := scan_le a _ _ _ 1 hl
  unfold nextC nextN
  simp only [h1, h2]
  refine ⟨?_, trivial⟩
  split
  · rfl
  · split
    · rfl
    · rename_i h0 hs
      have hle : bN (a[0]?.getD 0).toNat ≤ a.length := by omega
      have hg : ∀ j, j < bN (a[0]?.getD 0).toNat → (a ++ b0 :: b)[j]? = a[j]? := fun j hj => List.getElem?_append_left (by omega)
      have hN : bN (a[0]?.getD 0).toNat ≤ 4 := by unfold bN; (repeat' split) <;> omega
      generalize bN (a[0]?.getD 0).toNat = N at *
      suffices hv : val (a ++ b0 :: b) N = val a N by rw [hv]
      obtain rfl | rfl | rfl | rfl : N = 1 ∨ N = 2 ∨ N = 3 ∨ N = 4 := by omega
      · simp only [val, if_true]; rw [hg 0 (by omega)]
      · simp only [val, if_true, if_neg (show ¬ (2 = 1) from by omega)]; rw [hg 0 (by omega), hg 1 (by omega)]
      · simp only [val, if_true, if_neg (show ¬ (3 = 1) from by omega), if_neg (show ¬ (3 = 2) from by omega)]; rw [hg 0 (by omega), hg 1 (by omega), hg 2 (by omega)]
      · simp only [val, if_neg (show ¬ (4 = 1) from by omega), if_neg (show ¬ (4 = 2) from by omega), if_neg (show ¬ (4 = 3) from by omega)]; rw [hg 0 (by omega), hg 1 (by omega), hg 2 (by omega), hg 3 (by omega)]
end

theorem readF_parts (b0 : UInt8) (b : List UInt8) (h128 : b0.toNat < 128) (h10 : b0 ≠ 10) : ∀ (f : Nat) (a : List UInt8), a.length ≤ f → readF (f + (b0 :: b).length) (a ++ b0 :: b) = readF f a ++ readF (b0 :: b).length (b0 :: b)
  | f, [], _ => by
    have h1 : readF f ([] : List UInt8) = [] := by cases f <;> simp [readF]
    rw [h1, List.nil_append, List.nil_append, Nat.add_comm]
    exact readF_more f _ _ (Nat.le_refl _)
  | 0, x :: a, h => by simp at h
  | f + 1, x :: a, h => by
    have hne : (x :: a) ≠ [] := by simp
    have hn := next_app (x :: a) b0 b hne h128
    have hle := nextN_le (x :: a) hne
    have hpos := nextN_pos (x :: a)
    have hd : ((x :: a) ++ b0 :: b).drop (nextN (x :: a)) = (x :: a).drop (nextN (x :: a)) ++ b0 :: b := List.drop_append_of_le_length hle
    have ih := readF_parts b0 b h128 h10 f ((x :: a).drop (nextN (x :: a))) (by rw [List.length_drop]; simp at h ⊢; omega)
    have hne2 : ((x :: a) ++ b0 :: b) ≠ [] := by simp
    rw [show f + 1 + (b0 :: b).length = (f + (b0 :: b).length) + 1 from by omega]
    have hsk : (((x :: a).drop (nextN (x :: a)) ++ b0 :: b)[0]? = some 10) ↔ (((x :: a).drop (nextN (x :: a)))[0]? = some 10) := by
      cases e : (x :: a).drop (nextN (x :: a)) with
      | nil => simp [h10]
      | cons y r => simp
    generalize hB : (b0 :: b).length = L at *
    by_cases c0 : nextC (x :: a) = 0
    · rw [readF_zero _ hne2 (by rw [hn.1]; exact c0), readF_zero _ hne c0, hn.2, hd, ih]; rfl
    · by_cases c1 : nextC (x :: a) = 13
      · by_cases hs : ((x :: a).drop (nextN (x :: a)))[0]? = some 10
        · rw [readF_skip _ hne2 (by rw [hn.1]; exact c1) (by rw [hn.2, hd, hsk]; exact hs), readF_skip _ hne c1 hs, hn.2, hd, ih]
        · rw [readF_line _ hne2 (.inl ⟨by rw [hn.1]; exact c1, by rw [hn.2, hd, hsk]; exact hs⟩), readF_line _ hne (.inl ⟨c1, hs⟩), hn.2, hd, ih]; rfl
      · by_cases c2 : nextC (x :: a) = 12
        · rw [readF_line _ hne2 (.inr (by rw [hn.1]; exact c2)), readF_line _ hne (.inr c2), hn.2, hd, ih]; rfl
        · rw [readF_char _ hne2 (by rw [hn.1]; exact c0) (by rw [hn.1]; exact c1) (by rw [hn.1]; exact c2), readF_char _ hne c0 c1 c2, hn.1, hn.2, hd, ih]; rfl
theorem read_parts (a : List UInt8) (b0 : UInt8) (b : List UInt8) (h128 : b0.toNat < 128) (h10 : b0 ≠ 10) : readP (a ++ b0 :: b) = readP a ++ readP (b0 :: b) := by
  unfold readP
  rw [List.length_append]
  exact readF_parts b0 b h128 h10 a.length a (Nat.le_refl _)
end Go.Proofs.YtifedkilbpkpaaaGreatDoor
set_option linter.unusedVariables false
namespace Go.Proofs.YtifedkilbpkpaaaGreatDoor
open Go.RowKit Rn Tk
theorem own_less {w : World} {b b' : Nat} {e : TypeId} {size n : Nat} {v : Value} {xs : List Value} (h : w.ownsRow b e size v n xs) (hb : b' ≤ b) : w.ownsRow b' e size v n xs := by
  refine ⟨h.1, ?_⟩
  rcases h.2 with h | ⟨g, cap, cur, h1, h2, h3⟩
  · exact .inl h
  · exact .inr ⟨g, cap, cur, h1, Nat.le_trans hb h2, h3⟩
end Go.Proofs.YtifedkilbpkpaaaGreatDoor
