/- Layer 1: a number's text: Print of the program is walked. -/
import Derived.Test.YtflehiokbbldgaaDoorFxParseW
import Derived.Test.YtflehiokbbldgaaDoorFxMul
import Derived.Lib.ItoaNum
import Derived.Lib.AppendIntMem
set_option linter.unusedVariables false
set_option linter.unusedSimpArgs false
namespace Go.Proofs.YtflehiokbbldgaaDoor
open Go.RowKit Fx Go.Sort
namespace Fx
def dig (n : Nat) : UInt8 := UInt8.ofNat (48 + n)
/-- the text of so many thousandths -/
def fracT (r : Nat) : List UInt8 :=
  if r = 0 then [] else 46 :: dig (r / 100) :: ((if 0 < r % 100 then [dig (r / 10 % 10)] else []) ++ (if 0 < r % 10 then [dig (r % 10)] else []))
def printN (a : Nat) : List UInt8 := Lib.decDigits (a / 1000) ++ fracT (a % 1000)
def printP (n : Int) : List UInt8 := (if stopZ n < 0 then [45] else []) ++ printN (stopZ n).natAbs
end Fx
theorem dec_big {u : Nat} (h : 10 ≤ u) : Lib.decDigits u = Lib.decDigits (u / 10) ++ [dig (u % 10)] := by
  rw [Lib.decDigits, dif_neg (by omega)]; rfl
theorem dec_small {u : Nat} (h : u < 10) : Lib.decDigits u = [dig u] := by
  rw [Lib.decDigits, dif_pos h]; rfl
theorem dec_thousand {r : Nat} (h : r < 1000) : Lib.decDigits (1000 + r) = [49, dig (r / 100), dig (r / 10 % 10), dig (r % 10)] := by
  rw [dec_big (by omega), dec_big (by omega), dec_big (by omega), dec_small (by omega)]
  have e1 : (1000 + r) / 10 / 10 / 10 = 1 := by omega
  have e2 : (1000 + r) / 10 / 10 % 10 = r / 100 := by omega
  have e3 : (1000 + r) / 10 % 10 = r / 10 % 10 := by omega
  have e4 : (1000 + r) % 10 = r % 10 := by omega
  rw [e1, e2, e3, e4]; rfl
theorem trim_frac : ∀ r : Fin 1000, r.val ≠ 0 → 46 :: Lib.trimRightB [dig (r.val / 100), dig (r.val / 10 % 10), dig (r.val % 10)] 48 = fracT r.val := by decide +kernel
theorem itoa_nat (a : Nat) : Lib.itoa (a : Int) = Lib.decDigits a := by
  unfold Lib.itoa; rw [if_neg (by omega)]; rfl
theorem deci_len (a : Nat) (h : a < 10000000000000) : (Lib.decDigits a).length ≤ 14 := by
  have key : ∀ k a, a < 10 ^ k → 1 ≤ k → (Lib.decDigits a).length ≤ k := by
    intro k
    induction k with
    | zero => intro a _ h; omega
    | succ k ih =>
      intro a ha _
      by_cases h10 : a < 10
      · rw [dec_small h10]; simp
      · rw [dec_big (by omega), List.length_append]
        rw [Nat.pow_succ] at ha
        by_cases hk : k = 0
        · subst hk; omega
        · have := ih (a / 10) (by omega) (by omega)
          simp; omega
  have := key 13 a (by omega) (by omega)
  omega
set_option maxRecDepth 100000 in
set_option maxHeartbeats 4000000 in
theorem fx_print_core (neg : Bool) (a : Nat) (n : Int) (w : World) (h1 : -9223372036854775808 ≤ n) (h2 : n ≤ 9223372036854775807) (hw : Env w) (ha : a ≤ 1099511627776) (hs : stopZ n = if neg = true then -(a : Int) else (a : Int)) (hn : neg = true → 0 < a) :
    Calls Tryd.prog 15 #[.int .i64 n] w fun e w' => e = .returned (.string (bytesOf ((if neg = true then [45] else []) ++ printN a))) ∧ Below w.heap.size w w' := by
  obtain ⟨q, hq⟩ : ∃ q, a / 1000 = q := ⟨_, rfl⟩
  obtain ⟨r, hr⟩ : ∃ r, a % 1000 = r := ⟨_, rfl⟩
  have hqb : q ≤ 1099511627 := by omega
  have hrb : r < 1000 := by omega
  have hdl := deci_len q (by omega)
  have hdz := bytesOf_size (Lib.decDigits q)
  have hqi : (a : Int).tdiv 1000 = (q : Int) := by rw [Int.tdiv_eq_ediv_of_nonneg (by omega)]; omega
  have hri : (a : Int).tmod 1000 = (r : Int) := by rw [Int.tmod_eq_emod_of_nonneg (by omega)]; omega
  have hqi2 : (a : Int) / 1000 = (q : Int) := by omega
  have hri2 : (a : Int) % 1000 = (r : Int) := by omega
  have Hs := Lib.hid hs
  have HP := Lib.hid (show printN a = Lib.decDigits q ++ fracT r by unfold printN; rw [hq, hr])
  clear hs hq hr
  cases neg with
  | true =>
    have hp := hn rfl
    simp only [if_true] at Hs
    go_enter Tryd.func15, Tryd.ntmps15
    go_wp2_with fail
    refine (fx_stop n w h1 h2).mono ?_
    rintro e w1 ⟨rfl, rfl⟩
    rw [Hs.out]
    go_wp2_with fail
    refine (Tryd.strconv_Itoa (q : Int) (by omega) (by omega) _ hw.pow).mono ?_
    rintro e w2 ⟨rfl, k, os, rfl⟩
    rw [itoa_nat, show (⟨(Lib.decDigits q).toArray⟩ : ByteArray) = bytesOf (Lib.decDigits q) from rfl]
    have hb2 := Lib.below_grow w.heap.size w (Nat.le_refl _) k os
    have hw2 := hw.below hb2
    generalize grow (w.drewN k) os = W2 at *
    by_cases hr0 : r = 0
    · have hz : ((r : Int) == 0) = true := by simp; omega
      have hf : fracT r = [] := by rw [hr0]; rfl
      have HF := Lib.hid hf
      clear hf hr0
      go_wp2
      go_ret
      exact ⟨congrArg (fun b => Ending.returned (Value.string b)) (by rw [HP.out, HF.out, List.append_nil]; exact bytesOf_append [45] _), hb2⟩
    · have hz : ((r : Int) == 0) = false := by simp; omega
      have hf := trim_frac ⟨r, hrb⟩ hr0
      have HF := Lib.hid hf
      have hsl := str_from (P := Tryd.prog) (T := 9) Tryd.underlying9 [49, dig (r / 100), dig (r / 10 % 10), dig (r % 10)] .i64 1 (by simp)
      have hcast : ((1 : Nat) : Int) = 1 := rfl
      rw [hcast] at hsl
      have hsz := bytesOf_size [49, dig (r / 100), dig (r / 10 % 10), dig (r % 10)]
      have hTl : (Lib.trimRightB [dig (r / 100), dig (r / 10 % 10), dig (r % 10)] 48).length ≤ 3 := by
        unfold Lib.trimRightB
        rw [List.length_reverse]
        exact Nat.le_trans (List.dropWhile_suffix _).length_le (by simp)
      obtain ⟨T, hT⟩ : ∃ T, Lib.trimRightB [dig (r / 100), dig (r / 10 % 10), dig (r % 10)] 48 = T := ⟨_, rfl⟩
      rw [hT] at hTl
      have HT := Lib.hid hT
      have hsT := bytesOf_size T
      clear hf hT
      go_wp2_with fail
      refine (Tryd.strconv_Itoa (1000 + (r : Int)) (by omega) (by omega) _ hw2.pow).mono ?_
      rintro e w3 ⟨rfl, k2, os2, rfl⟩
      rw [show (1000 + (r : Int)) = ((1000 + r : Nat) : Int) from by omega, itoa_nat, dec_thousand hrb]
      rw [show (⟨[49, dig (r / 100), dig (r / 10 % 10), dig (r % 10)].toArray⟩ : ByteArray) = bytesOf [49, dig (r / 100), dig (r / 10 % 10), dig (r % 10)] from rfl]
      have hb3 := hb2.trans ((Lib.below_grow W2.heap.size W2 (Nat.le_refl _) k2 os2).mono hb2.size)
      generalize grow (W2.drewN k2) os2 = W3 at *
      go_wp2_with fail
      refine (Tryd.strings_TrimRight_one _ 48 (by decide) _ (by rw [bytesOf_size]; simp)).mono ?_
      rintro e w4 ⟨rfl, rfl⟩
      rw [bytesOf_list, HT.out, show (⟨T.toArray⟩ : ByteArray) = bytesOf T from rfl]
      go_wp2
      go_ret
      refine ⟨congrArg (fun b => Ending.returned (Value.string b)) ?_, hb3⟩
      have h9 := HF.out
      rw [HP.out, ← h9, HT.out]
      show bytesOf [45] ++ bytesOf (Lib.decDigits q) ++ bytesOf [46] ++ bytesOf T = _
      rw [bytesOf_append, bytesOf_append, bytesOf_append]
      simp
  | false =>
    simp only [Bool.false_eq_true, if_false] at Hs
    go_enter Tryd.func15, Tryd.ntmps15
    go_wp2_with fail
    refine (fx_stop n w h1 h2).mono ?_
    rintro e w1 ⟨rfl, rfl⟩
    rw [Hs.out]
    go_wp2_with fail
    refine (Tryd.strconv_Itoa (q : Int) (by omega) (by omega) _ hw.pow).mono ?_
    rintro e w2 ⟨rfl, k, os, rfl⟩
    rw [itoa_nat, show (⟨(Lib.decDigits q).toArray⟩ : ByteArray) = bytesOf (Lib.decDigits q) from rfl]
    have hb2 := Lib.below_grow w.heap.size w (Nat.le_refl _) k os
    have hw2 := hw.below hb2
    generalize grow (w.drewN k) os = W2 at *
    by_cases hr0 : r = 0
    · have hz : ((r : Int) == 0) = true := by simp; omega
      have hf : fracT r = [] := by rw [hr0]; rfl
      have HF := Lib.hid hf
      clear hf hr0
      go_wp2
      go_ret
      exact ⟨congrArg (fun b => Ending.returned (Value.string b)) (by rw [HP.out, HF.out, List.append_nil]; exact bytesOf_append [] _), hb2⟩
    · have hz : ((r : Int) == 0) = false := by simp; omega
      have hf := trim_frac ⟨r, hrb⟩ hr0
      have HF := Lib.hid hf
      have hsl := str_from (P := Tryd.prog) (T := 9) Tryd.underlying9 [49, dig (r / 100), dig (r / 10 % 10), dig (r % 10)] .i64 1 (by simp)
      have hcast : ((1 : Nat) : Int) = 1 := rfl
      rw [hcast] at hsl
      have hsz := bytesOf_size [49, dig (r / 100), dig (r / 10 % 10), dig (r % 10)]
      have hTl : (Lib.trimRightB [dig (r / 100), dig (r / 10 % 10), dig (r % 10)] 48).length ≤ 3 := by
        unfold Lib.trimRightB
        rw [List.length_reverse]
        exact Nat.le_trans (List.dropWhile_suffix _).length_le (by simp)
      obtain ⟨T, hT⟩ : ∃ T, Lib.trimRightB [dig (r / 100), dig (r / 10 % 10), dig (r % 10)] 48 = T := ⟨_, rfl⟩
      rw [hT] at hTl
      have HT := Lib.hid hT
      have hsT := bytesOf_size T
      clear hf hT
      go_wp2_with fail
      refine (Tryd.strconv_Itoa (1000 + (r : Int)) (by omega) (by omega) _ hw2.pow).mono ?_
      rintro e w3 ⟨rfl, k2, os2, rfl⟩
      rw [show (1000 + (r : Int)) = ((1000 + r : Nat) : Int) from by omega, itoa_nat, dec_thousand hrb]
      rw [show (⟨[49, dig (r / 100), dig (r / 10 % 10), dig (r % 10)].toArray⟩ : ByteArray) = bytesOf [49, dig (r / 100), dig (r / 10 % 10), dig (r % 10)] from rfl]
      have hb3 := hb2.trans ((Lib.below_grow W2.heap.size W2 (Nat.le_refl _) k2 os2).mono hb2.size)
      generalize grow (W2.drewN k2) os2 = W3 at *
      go_wp2_with fail
      refine (Tryd.strings_TrimRight_one _ 48 (by decide) _ (by rw [bytesOf_size]; simp)).mono ?_
      rintro e w4 ⟨rfl, rfl⟩
      rw [bytesOf_list, HT.out, show (⟨T.toArray⟩ : ByteArray) = bytesOf T from rfl]
      go_wp2
      go_ret
      refine ⟨congrArg (fun b => Ending.returned (Value.string b)) ?_, hb3⟩
      have h9 := HF.out
      rw [HP.out, ← h9, HT.out]
      show bytesOf [] ++ bytesOf (Lib.decDigits q) ++ bytesOf [46] ++ bytesOf T = _
      rw [bytesOf_append, bytesOf_append, bytesOf_append]
      simp
theorem stop_form (n : Int) : ∃ (neg : Bool) (a : Nat), a ≤ 1099511627776 ∧ stopZ n = (if neg = true then -(a : Int) else (a : Int)) ∧ (neg = true → 0 < a) ∧ printP n = (if neg = true then [45] else []) ++ printN a := by
  obtain ⟨h1, h2⟩ := stopZ_range n
  by_cases h : stopZ n < 0
  · exact ⟨true, (stopZ n).natAbs, by omega, by simp; omega, fun _ => by omega, by unfold printP; rw [if_pos h]; rfl⟩
  · exact ⟨false, (stopZ n).natAbs, by omega, by simp; omega, fun h => by simp at h, by unfold printP; rw [if_neg h]; rfl⟩
theorem fx_print (n : Int) (w : World) (h1 : -9223372036854775808 ≤ n) (h2 : n ≤ 9223372036854775807) (hw : Env w) :
    Calls Tryd.prog 15 #[.int .i64 n] w fun e w' => e = .returned (.string (bytesOf (printP n))) ∧ Below w.heap.size w w' := by
  obtain ⟨neg, a, ha, hs, hn, hp⟩ := stop_form n
  rw [hp]
  exact fx_print_core neg a n w h1 h2 hw ha hs hn
end Go.Proofs.YtflehiokbbldgaaDoor
