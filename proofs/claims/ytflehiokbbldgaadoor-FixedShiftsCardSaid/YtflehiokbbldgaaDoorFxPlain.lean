/- Layer 1: a printed number, parsed: plain laws. -/
import Derived.Test.YtflehiokbbldgaaDoorFxMake
import Derived.Test.YtflehiokbbldgaaDoorFxPrint
set_option linter.unusedVariables false
set_option linter.unusedSimpArgs false
namespace Go.Proofs.YtflehiokbbldgaaDoor
open Go.RowKit Fx
namespace Fx
def fracD (r : Nat) : List UInt8 := (fracT r).drop 1
def fracPt (r : Nat) : List UInt8 := if r = 0 then [] else [46]
def scaleN (a : Nat) (e : Int) : Nat := if 0 ≤ e then 10 ^ e.toNat * a else a / 10 ^ (-e).toNat
end Fx
theorem frac_facts : ∀ r : Fin 1000, fracT r.val = fracPt r.val ++ fracD r.val ∧ (r.val ≠ 0 → fracD r.val ≠ []) ∧ (r.val = 0 → fracD r.val = []) ∧ (fracD r.val).all isD = true ∧ (fracD r.val).length ≤ 3 ∧ vA (fracD r.val) 3 = r.val := by decide +kernel
theorem dig_isD {n : Nat} (h : n < 10) : isD (dig n) = true ∧ dv (dig n) = n := by
  have : ∀ k : Fin 10, isD (dig k.val) = true ∧ dv (dig k.val) = k.val := by decide
  exact this ⟨n, h⟩
theorem dec_facts : ∀ k q, q ≤ k → (∀ b ∈ Lib.decDigits q, isD b = true) ∧ val (Lib.decDigits q) = q ∧ Lib.decDigits q ≠ [] := by
  intro k
  induction k with
  | zero =>
    intro q h
    obtain rfl : q = 0 := by omega
    rw [dec_small (by omega)]
    refine ⟨?_, by decide, by simp⟩
    intro b hb
    simp at hb; subst hb; decide
  | succ k ih =>
    intro q h
    by_cases h10 : q < 10
    · rw [dec_small h10]
      have := dig_isD h10
      refine ⟨?_, by simp [val, this.2], by simp⟩
      intro b hb
      simp at hb; subst hb; exact this.1
    · rw [dec_big (by omega)]
      obtain ⟨h1, h2, h3⟩ := ih (q / 10) (by omega)
      have := dig_isD (n := q % 10) (by omega)
      refine ⟨?_, ?_, by simp⟩
      · intro b hb
        rcases List.mem_append.1 hb with hb | hb
        · exact h1 b hb
        · simp at hb; subst hb; exact this.1
      · rw [val_snoc, h2, this.2]; omega
theorem vA_app (a b : List UInt8) (j : Nat) : vA (a ++ b) (a.length + j) = 10 ^ j * val a + vA b j := by
  induction j with
  | zero =>
    rw [Nat.add_zero, vA_append_len a b _ (Nat.le_refl _), val_vA a _ (Nat.le_refl _), List.take_length]; simp [vA]
  | succ j ih =>
    rw [← Nat.add_assoc, vA_succ, ih, vA_succ, List.getElem?_append_right (by omega), Nat.pow_succ, Nat.add_sub_cancel_left]
    have : 10 ^ j * 10 * val a = 10 * (10 ^ j * val a) := by rw [Nat.mul_comm (10 ^ j) 10, Nat.mul_assoc]
    omega
theorem vA_down (d : List UInt8) (h : ∀ b ∈ d, isD b = true) (i : Nat) : vA d i = vA d (i + 1) / 10 := by
  rw [vA_succ]
  have : ((d[i]?).map dv).getD 0 ≤ 9 := by
    cases hb : d[i]? with
    | none => simp
    | some b =>
      have := isD_range (h b (List.mem_of_getElem? hb))
      simp [dv]; omega
  omega
theorem vA_downs (d : List UInt8) (h : ∀ b ∈ d, isD b = true) (i k : Nat) : vA d i = vA d (i + k) / 10 ^ k := by
  induction k with
  | zero => simp
  | succ k ih => rw [ih, vA_down d h (i + k), Nat.div_div_eq_div_mul, Nat.pow_succ, Nat.mul_comm 10, ← Nat.add_assoc]
/-- the digits of a printed number -/
theorem print_digits (a : Nat) (e : Int) (he : -3 ≤ e) :
    foldN (Lib.decDigits (a / 1000) ++ fracD (a % 1000)) ((Lib.decDigits (a / 1000)).length + e + 3) = min (scaleN a e) M := by
  obtain ⟨h1, h2, h3⟩ := dec_facts _ (a / 1000) (Nat.le_refl _)
  obtain ⟨f1, f2, f3, f4, f5, f6⟩ := frac_facts ⟨a % 1000, by omega⟩
  simp only [] at f1 f2 f3 f4 f5 f6
  have hI := List.length_pos_iff.2 h3
  obtain ⟨I, hIe⟩ : ∃ I, Lib.decDigits (a / 1000) = I := ⟨_, rfl⟩
  obtain ⟨F, hFe⟩ : ∃ F, fracD (a % 1000) = F := ⟨_, rfl⟩
  rw [hIe] at h1 h2 h3 hI ⊢
  rw [hFe] at f2 f3 f4 f5 f6 ⊢
  have hall : ∀ b ∈ I ++ F, isD b = true := by
    intro b hb
    rcases List.mem_append.1 hb with hb | hb
    · exact h1 b hb
    · exact List.all_eq_true.1 f4 b hb
  have h0 : vA (I ++ F) (I.length + 3) = a := by rw [vA_app, h2, f6]; omega
  unfold foldN scaleN
  congr 1
  by_cases hp : 0 ≤ e
  · rw [if_pos hp, show (((I.length : Int) + e + 3).toNat) = (I.length + 3) + e.toNat by omega, vA_past _ (by rw [List.length_append]; omega), h0]
  · rw [if_neg hp, vA_downs _ hall (((I.length : Int) + e + 3).toNat) (-e).toNat, show ((I.length : Int) + e + 3).toNat + (-e).toNat = I.length + 3 by omega, h0]
theorem printN_parts (neg : Bool) (a : Nat) (E S2 X : List UInt8)
    (hE : (E = [] ∧ S2 = [] ∧ X = []) ∨ (∃ e, E = [e] ∧ (e.toNat = 101 ∨ e.toNat = 69) ∧ X ≠ [])) (hS : S2 = [] ∨ ∃ b, S2 = [b] ∧ (b.toNat = 43 ∨ b.toNat = 45)) (hX : ∀ b ∈ X, isD b = true) :
    Parts (if neg = true then [45] else []) (Lib.decDigits (a / 1000)) (fracPt (a % 1000)) (fracD (a % 1000)) E S2 X
      ∧ (if neg = true then [45] else []) ++ printN a ++ (E ++ (S2 ++ X)) = glue (if neg = true then [45] else []) (Lib.decDigits (a / 1000)) (fracPt (a % 1000)) (fracD (a % 1000)) E S2 X := by
  obtain ⟨h1, h2, h3⟩ := dec_facts _ (a / 1000) (Nat.le_refl _)
  obtain ⟨f1, f2, f3, f4, f5, f6⟩ := frac_facts ⟨a % 1000, by omega⟩
  simp only [] at f1 f2 f3 f4 f5 f6
  refine ⟨⟨?_, h1, List.all_eq_true.1 f4, ?_, hE, hS, hX, .inl h3⟩, ?_⟩
  · cases neg
    · exact .inl rfl
    · exact .inr ⟨45, rfl, .inr rfl⟩
  · by_cases h0 : a % 1000 = 0
    · exact .inl ⟨by rw [h0]; rfl, f3 h0⟩
    · exact .inr ⟨if_neg h0, f2 h0⟩
  · unfold glue printN; rw [f1]
theorem glue_head {sg I P F E S2 X : List UInt8} (hI : ∀ b ∈ I, isD b = true) (hne : I ≠ []) (neg : Bool) (hs : sg = if neg = true then [45] else []) : ((glue sg I P F E S2 X)[0]? = some 45) = (neg = true) := by
  cases neg with
  | true => simp only [if_true] at hs; rw [hs]; simp [glue]
  | false =>
    simp only [Bool.false_eq_true, if_false] at hs
    rw [hs]
    cases I with
    | nil => exact absurd rfl hne
    | cons b I =>
      have := isD_range (hI b (by simp))
      simp [glue]
      intro h; subst h; revert this; decide
/-- a printed number with an exponent is so many times as much -/
theorem parse_made (neg : Bool) (a : Nat) (E S2 X : List UInt8)
    (hE : (E = [] ∧ S2 = [] ∧ X = []) ∨ (∃ e, E = [e] ∧ (e.toNat = 101 ∨ e.toNat = 69) ∧ X ≠ [])) (hS : S2 = [] ∨ ∃ b, S2 = [b] ∧ (b.toNat = 43 ∨ b.toNat = 45)) (hX : ∀ b ∈ X, isD b = true)
    (e : Int) (he : powP (S2 ++ X) = e) (h3 : -3 ≤ e) (l : List UInt8) (hl : l = (if neg = true then [45] else []) ++ printN a ++ (E ++ (S2 ++ X))) :
    isP l = true ∧ lenP l = l.length ∧ parseP l = if neg = true then -((min (scaleN a e) M : Nat) : Int) else ((min (scaleN a e) M : Nat) : Int) := by
  obtain ⟨D, hg⟩ := printN_parts neg a E S2 X hE hS hX
  rw [hg] at hl
  obtain ⟨g1, g2, g3, g4, g5⟩ := glue_is D
  rw [hl]
  refine ⟨g1, g5, ?_⟩
  obtain ⟨h1, h2, h4⟩ := dec_facts _ (a / 1000) (Nat.le_refl _)
  unfold parseP numP
  rw [if_pos g1, g2, g3, g4, he, print_digits a e h3]
  simp only [glue_head h1 h4 neg rfl]
theorem parse_print (n : Int) : isP (printP n) = true ∧ lenP (printP n) = (printP n).length ∧ parseP (printP n) = stopZ n := by
  obtain ⟨neg, a, ha, hs, hn, hp⟩ := stop_form n
  obtain ⟨h1, h2, h3⟩ := parse_made neg a [] [] [] (.inl ⟨rfl, rfl, rfl⟩) (.inl rfl) (by simp) 0 rfl (by omega) (printP n) (by rw [hp]; simp)
  refine ⟨h1, h2, ?_⟩
  rw [h3, hs]
  have : min (scaleN a 0) M = a := by unfold scaleN M; simp; omega
  rw [this]
theorem printP_len (n : Int) : (printP n).length ≤ 20 := by
  obtain ⟨neg, a, ha, hs, hn, hp⟩ := stop_form n
  rw [hp]
  have h1 := deci_len (a / 1000) (by omega)
  obtain ⟨f1, f2, f3, f4, f5, f6⟩ := frac_facts ⟨a % 1000, by omega⟩
  simp only [] at f1 f5
  unfold printN
  rw [f1]
  have : (fracPt (a % 1000)).length ≤ 1 := by unfold fracPt; split <;> simp
  simp only [List.length_append]
  cases neg <;> simp <;> omega
namespace Fx
/-- what the law's loops make of a number -/
def ups (n : Int) : Nat → Int
  | 0 => n
  | k + 1 => ups n k * 10
def downs (n : Int) : Nat → Int
  | 0 => n
  | k + 1 => (downs n k).tdiv 10
def shiftZ (n e : Int) : Int := downs (ups n e.toNat) (-e).toNat
/-- the law's exponents -/
def expT (e : Int) : List UInt8 := if e = -3 then [45, 51] else if e = -2 then [45, 50] else if e = -1 then [45, 49] else if e = 0 then [48] else if e = 1 then [43, 49] else if e = 2 then [50] else [51]
end Fx
theorem ups_abs (n : Int) (k : Nat) : ups n k = n * 10 ^ k := by
  induction k with
  | zero => simp [ups]
  | succ k ih => rw [ups, ih, Int.pow_succ, Int.mul_assoc]
theorem tdiv10 (x : Nat) : (x : Int).tdiv 10 = ((x / 10 : Nat) : Int) := by rw [Int.tdiv_eq_ediv_of_nonneg (by omega)]; omega
theorem downs_pos (a k : Nat) : downs (a : Int) k = ((a / 10 ^ k : Nat) : Int) := by
  induction k with
  | zero => simp [downs]
  | succ k ih => rw [downs, ih, tdiv10, Nat.div_div_eq_div_mul, Nat.pow_succ]
theorem downs_neg (a k : Nat) : downs (-(a : Int)) k = -((a / 10 ^ k : Nat) : Int) := by
  induction k with
  | zero => simp [downs]
  | succ k ih => rw [downs, ih, Int.neg_tdiv, tdiv10, Nat.div_div_eq_div_mul, Nat.pow_succ]
theorem shift_parse (n e : Int) (h1 : -1073741824 ≤ n) (h2 : n ≤ 1073741824) (h3 : -3 ≤ e) (h4 : e ≤ 3) :
    isP (printP n ++ 101 :: expT e) = true ∧ parseP (printP n ++ 101 :: expT e) = stopZ (shiftZ n e) := by
  have hst : stopZ n = n := stopZ_of (by omega) (by omega)
  obtain ⟨neg, a, ha, hs, hn, hp⟩ := stop_form n
  rw [hst] at hs
  have hab : a ≤ 1073741824 := by cases neg <;> simp at hs <;> omega
  have key : ∀ (S2 X : List UInt8), expT e = S2 ++ X → X ≠ [] → (S2 = [] ∨ ∃ b, S2 = [b] ∧ (b.toNat = 43 ∨ b.toNat = 45)) → (∀ b ∈ X, isD b = true) → powP (S2 ++ X) = e →
      isP (printP n ++ 101 :: expT e) = true ∧ parseP (printP n ++ 101 :: expT e) = if neg = true then -((min (scaleN a e) M : Nat) : Int) else ((min (scaleN a e) M : Nat) : Int) := by
    intro S2 X h5 h6 h7 h8 h9
    obtain ⟨r1, r2, r3⟩ := parse_made neg a [101] S2 X (.inr ⟨101, rfl, .inl rfl, h6⟩) h7 h8 e h9 h3 (printP n ++ 101 :: expT e) (by rw [hp, h5]; simp)
    exact ⟨r1, r3⟩
  have fin : (isP (printP n ++ 101 :: expT e) = true ∧ parseP (printP n ++ 101 :: expT e) = if neg = true then -((min (scaleN a e) M : Nat) : Int) else ((min (scaleN a e) M : Nat) : Int)) := by
    have h : e = -3 ∨ e = -2 ∨ e = -1 ∨ e = 0 ∨ e = 1 ∨ e = 2 ∨ e = 3 := by omega
    rcases h with rfl | rfl | rfl | rfl | rfl | rfl | rfl
    · exact key [45] [51] rfl (by simp) (.inr ⟨45, rfl, .inr rfl⟩) (by decide) (by decide)
    · exact key [45] [50] rfl (by simp) (.inr ⟨45, rfl, .inr rfl⟩) (by decide) (by decide)
    · exact key [45] [49] rfl (by simp) (.inr ⟨45, rfl, .inr rfl⟩) (by decide) (by decide)
    · exact key [] [48] rfl (by simp) (.inl rfl) (by decide) (by decide)
    · exact key [43] [49] rfl (by simp) (.inr ⟨43, rfl, .inl rfl⟩) (by decide) (by decide)
    · exact key [] [50] rfl (by simp) (.inl rfl) (by decide) (by decide)
    · exact key [] [51] rfl (by simp) (.inl rfl) (by decide) (by decide)
  refine ⟨fin.1, ?_⟩
  rw [fin.2]
  clear fin key hp
  have hsh : shiftZ n e = if neg = true then -((scaleN a e : Nat) : Int) else ((scaleN a e : Nat) : Int) := by
    unfold shiftZ scaleN
    by_cases hp : 0 ≤ e
    · rw [if_pos hp, show (-e).toNat = 0 by omega]
      show ups n e.toNat = _
      rw [ups_abs]
      cases neg <;> simp only [Bool.false_eq_true, if_false, if_true] at hs ⊢ <;> rw [hs]
      · push_cast; rw [Int.mul_comm]
      · push_cast; rw [Int.neg_mul, Int.mul_comm]
    · rw [if_neg hp, show e.toNat = 0 by omega]
      show downs n _ = _
      cases neg <;> simp only [Bool.false_eq_true, if_false, if_true] at hs ⊢ <;> rw [hs]
      · rw [downs_pos]
      · rw [downs_neg]
  rw [hsh]
  generalize scaleN a e = x
  unfold stopZ M
  cases neg <;> simp only [Bool.false_eq_true, if_false, if_true] <;> omega
end Go.Proofs.YtflehiokbbldgaaDoor
