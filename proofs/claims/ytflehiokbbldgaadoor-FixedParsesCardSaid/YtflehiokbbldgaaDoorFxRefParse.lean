/- Layer 1: the document's Parse: what its loop over the bytes gathers: plain laws. -/
import Derived.Test.YtflehiokbbldgaaDoorFxParseW
set_option linter.unusedVariables false
set_option linter.unusedSimpArgs false
namespace Go.Proofs.YtflehiokbbldgaaDoor
open Go.RowKit Fx
namespace Fx
/-- what the document's loop keeps -/
structure St where
  d : List UInt8
  point : Nat
  behind : Bool
  exp : Nat
  expDigits : Nat
  expNeg : Bool
  inExp : Bool
def St.zero : St := ⟨[], 0, false, 0, 0, false, false⟩
def isEb (c : UInt8) : Bool := decide (c.toNat = 101 ∨ c.toNat = 69)
def St.step (s : St) (c : UInt8) : St :=
  if isEb c = true then { s with inExp := true }
  else if s.inExp = true ∧ c.toNat = 45 then { s with expNeg := true }
  else if c.toNat = 46 then { s with behind := true }
  else if isD c = true ∧ s.inExp = true then { s with expDigits := s.expDigits + 1, exp := if s.exp < 999999 then s.exp * 10 + dv c else s.exp }
  else if isD c = true then { s with d := s.d ++ [c], point := if s.behind = true then s.point else s.point + 1 }
  else s
def St.run (l : List UInt8) : St := l.foldl St.step St.zero
/-- the exponent at the loop's end -/
def St.power (s : St) : Int :=
  let e : Nat := if 999999 < s.exp ∨ 6 < s.expDigits then 999999 else s.exp
  if s.expNeg = true then -(e : Int) else (e : Int)
end Fx
theorem isEb_no {c : UInt8} (h : ¬ (c.toNat = 101 ∨ c.toNat = 69)) : isEb c = false := by unfold isEb; simpa using h
theorem step_digit_int {s : St} {c : UInt8} (h : isD c = true) (h2 : s.inExp = false) : s.step c = { s with d := s.d ++ [c], point := if s.behind = true then s.point else s.point + 1 } := by
  have hr := isD_range h
  unfold St.step
  rw [isEb_no (by omega), if_neg (by simp), h2, if_neg (by simp), if_neg (by omega), if_neg (by simp), if_pos h]
theorem step_digit_exp {s : St} {c : UInt8} (h : isD c = true) (h2 : s.inExp = true) : s.step c = { s with expDigits := s.expDigits + 1, exp := if s.exp < 999999 then s.exp * 10 + dv c else s.exp } := by
  have hr := isD_range h
  unfold St.step
  rw [isEb_no (by omega), if_neg (by simp), if_neg (by omega), if_neg (by omega), if_pos ⟨h, h2⟩]
theorem run_int (l : List UInt8) (h : ∀ b ∈ l, isD b = true) : ∀ s : St, s.inExp = false → l.foldl St.step s = { s with d := s.d ++ l, point := if s.behind = true then s.point else s.point + l.length } := by
  induction l with
  | nil => intro s _; cases s; simp
  | cons b l ih =>
    intro s hs
    have he := ih (fun c hc => h c (by simp [hc])) (s.step b) (by rw [step_digit_int (h b (by simp)) hs]; exact hs)
    rw [List.foldl_cons, he, step_digit_int (h b (by simp)) hs]
    simp only [List.append_assoc, List.cons_append, List.nil_append, List.length_cons, St.mk.injEq, and_true, true_and]
    split <;> omega
theorem run_exp (l : List UInt8) (h : ∀ b ∈ l, isD b = true) : ∀ s : St, s.inExp = true → ∃ e, l.foldl St.step s = { s with expDigits := s.expDigits + l.length, exp := e } ∧ (s.exp * 10 ^ l.length + val l < 10 ^ 6 → e = s.exp * 10 ^ l.length + val l) := by
  induction l with
  | nil => intro s _; exact ⟨s.exp, by cases s; rfl, fun _ => by simp [val]⟩
  | cons b l ih =>
    intro s hs
    have hr := isD_range (h b (by simp))
    obtain ⟨e, he, h2⟩ := ih (fun c hc => h c (by simp [hc])) (s.step b) (by rw [step_digit_exp (h b (by simp)) hs]; exact hs)
    refine ⟨e, ?_, ?_⟩
    · rw [List.foldl_cons, he, step_digit_exp (h b (by simp)) hs]
      simp; omega
    · intro hlt
      rw [step_digit_exp (h b (by simp)) hs] at h2
      simp only [] at h2
      rw [val_cons, List.length_cons, Nat.pow_succ] at hlt ⊢
      have h1 : 1 ≤ 10 ^ l.length := Nat.one_le_pow _ _ (by omega)
      have hexp : s.exp * (10 ^ l.length * 10) = s.exp * 10 * 10 ^ l.length := by rw [Nat.mul_comm (10 ^ l.length) 10, Nat.mul_assoc]
      have hle : s.exp * 10 ≤ s.exp * 10 * 10 ^ l.length := Nat.le_mul_of_pos_right _ h1
      rw [if_pos (by omega)] at h2
      rw [Nat.add_mul] at h2
      rw [hexp]
      rw [h2 (by omega)]
      omega
theorem step_plain {s : St} {c : UInt8} (h : c.toNat = 43 ∨ (c.toNat = 45 ∧ s.inExp = false)) : s.step c = s := by
  have hd : isD c = false := by unfold isD; simp; omega
  unfold St.step
  rw [isEb_no (by omega), if_neg (by simp)]
  rcases h with h | ⟨h, h2⟩
  · rw [if_neg (by omega), if_neg (by omega), hd, if_neg (by simp), if_neg (by simp)]
  · rw [h2, if_neg (by simp), if_neg (by omega), hd, if_neg (by simp), if_neg (by simp)]
theorem step_minus {s : St} {c : UInt8} (h : c.toNat = 45) (h2 : s.inExp = true) : s.step c = { s with expNeg := true } := by
  unfold St.step
  rw [isEb_no (by omega), if_neg (by simp), if_pos ⟨h2, h⟩]
theorem run_dec {l sg I P F E S2 X : List UInt8} (D : Dec l sg I P F E S2 X) : (St.run l).d = I ++ F ∧ (St.run l).point = I.length ∧ (St.run l).power = powP (expP l) := by
  unfold St.run
  rw [congrArg (List.foldl St.step St.zero) D.all]
  simp only [List.foldl_append]
  have h1 : List.foldl St.step St.zero sg = St.zero := by
    rcases D.hsg with h | ⟨b, h, hb⟩
    · rw [h]; rfl
    · rw [h]
      simp only [List.foldl_cons, List.foldl_nil]
      exact step_plain (by rcases hb with hb | hb; exact .inl hb; exact .inr ⟨hb, rfl⟩)
  rw [h1, run_int I D.hI St.zero rfl]
  simp only [St.zero, List.nil_append, Nat.zero_add, Bool.false_eq_true, if_false]
  obtain ⟨bh, hPF⟩ : ∃ bh, List.foldl St.step (List.foldl St.step ⟨I, I.length, false, 0, 0, false, false⟩ P) F = ⟨I ++ F, I.length, bh, 0, 0, false, false⟩ := by
    rcases D.hP with ⟨hP, hF⟩ | ⟨hP, hF⟩
    · rw [hP, hF]; exact ⟨false, by simp⟩
    · rw [hP]
      simp only [List.foldl_cons, List.foldl_nil]
      have : St.step ⟨I, I.length, false, 0, 0, false, false⟩ 46 = ⟨I, I.length, true, 0, 0, false, false⟩ := rfl
      rw [this, run_int F D.hF _ rfl]
      exact ⟨true, by simp⟩
  rw [hPF]
  rcases D.hE with ⟨hE, hS, hX⟩ | ⟨e, hE, he, hX⟩
  · have : expP l = [] := by rw [← D.lE, hS, hX]; rfl
    rw [hE, hS, hX, this]
    exact ⟨rfl, rfl, rfl⟩
  · rw [hE]
    simp only [List.foldl_cons, List.foldl_nil]
    have h2 : St.step ⟨I ++ F, I.length, bh, 0, 0, false, false⟩ e = ⟨I ++ F, I.length, bh, 0, 0, false, true⟩ := by
      unfold St.step
      rw [if_pos (by unfold isEb; simpa using he)]
    rw [h2]
    have hXx : X = (expP l).drop (sgn (expP l)) := D.lX
    have hne : expP l ≠ [] := by rw [← D.lE]; intro h; exact hX (List.append_eq_nil_iff.1 h).2
    have hlen : X.length = (expP l).length - sgn (expP l) := by rw [hXx, List.length_drop]
    obtain ⟨ng, hS, hsg⟩ : ∃ ng, List.foldl St.step ⟨I ++ F, I.length, bh, 0, 0, false, true⟩ S2 = ⟨I ++ F, I.length, bh, 0, 0, ng, true⟩ ∧ (ng = true ↔ (expP l)[0]? = some 45) := by
      rcases D.hS with h | ⟨b, h, hb⟩
      · rw [h]
        refine ⟨false, rfl, ?_⟩
        constructor
        · intro h; cases h
        · intro h0
          exfalso
          rw [← D.lE, h, List.nil_append] at h0
          have := isD_range (D.hX 45 (List.mem_of_getElem? h0))
          revert this; decide
      · rw [h]
        simp only [List.foldl_cons, List.foldl_nil]
        rcases hb with hb | hb
        · refine ⟨false, step_plain (.inl hb), ?_⟩
          constructor
          · intro h; cases h
          · intro h0
            exfalso
            rw [← D.lE, h] at h0
            simp at h0
            subst h0; revert hb; decide
        · refine ⟨true, step_minus hb rfl, ?_⟩
          have : b = 45 := UInt8.toNat_inj.1 hb
          rw [← D.lE, h, this]
          simp
    rw [hS]
    obtain ⟨ex, hex, hval⟩ := run_exp X D.hX ⟨I ++ F, I.length, bh, 0, 0, ng, true⟩ rfl
    rw [hex]
    refine ⟨rfl, rfl, ?_⟩
    unfold St.power powP
    simp only [Nat.zero_add, Nat.zero_mul] at hval ⊢
    rw [if_neg hne, ← hlen, ← hXx]
    have key : (if 999999 < ex ∨ 6 < X.length then 999999 else ex) = if X.length ≤ 6 then val X else 999999 := by
      by_cases h6 : X.length ≤ 6
      · have hv := val_lt X D.hX
        have hp : 10 ^ X.length ≤ 10 ^ 6 := Nat.pow_le_pow_right (by omega) h6
        have := hval (by omega)
        rw [if_pos h6, if_neg (by omega), this]
      · rw [if_neg h6, if_pos (by omega)]
    rw [key]
    cases ng with
    | true => rw [if_pos rfl, if_pos (hsg.1 rfl)]
    | false =>
      have hn : ¬ (expP l)[0]? = some 45 := fun h => by have := hsg.2 h; cases this
      rw [if_neg hn, if_neg (by simp)]
theorem St.run_snoc (l : List UInt8) (c : UInt8) : St.run (l ++ [c]) = (St.run l).step c := by simp [St.run]
theorem St.point_le (l : List UInt8) : ∀ s : St, (l.foldl St.step s).point ≤ s.point + l.length ∧ (l.foldl St.step s).expDigits ≤ s.expDigits + l.length ∧ (l.foldl St.step s).d.length ≤ s.d.length + l.length ∧ (s.exp < 10000000 → (l.foldl St.step s).exp < 10000000) := by
  induction l with
  | nil => intro s; simp
  | cons b l ih =>
    intro s
    rw [List.foldl_cons, List.length_cons]
    obtain ⟨h1, h2, h3, h4⟩ := ih (s.step b)
    have : (s.step b).point ≤ s.point + 1 ∧ (s.step b).expDigits ≤ s.expDigits + 1 ∧ (s.step b).d.length ≤ s.d.length + 1 ∧ (s.exp < 10000000 → (s.step b).exp < 10000000) := by
      unfold St.step
      split
      · simp
      · split
        · simp
        · split
          · simp
          · split
            · rename_i hd
              have := isD_range hd.1
              simp only [dv]
              refine ⟨by omega, by omega, by omega, ?_⟩
              intro h; split <;> omega
            · split
              · simp; split <;> omega
              · simp
    exact ⟨by omega, by omega, by omega, fun h => h4 (this.2.2.2 h)⟩
end Go.Proofs.YtflehiokbbldgaaDoor
