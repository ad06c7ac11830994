/- Layer 1: Parse is walked. -/
import Derived.Test.YtflehiokbbldgaaDoorFxPower
set_option linter.unusedVariables false
set_option linter.unusedSimpArgs false
namespace Go.Proofs.YtflehiokbbldgaaDoor
open Go.RowKit Fx
section
variable {l sg I P F E S2 X : List UInt8} (D : Dec l sg I P F E S2 X)
include D
theorem dec_sgn : sgn l = sg.length := by
  have h := sgn_le l
  have := congrArg List.length D.lsg
  rw [List.length_take] at this; omega
theorem dec_drop : l.drop (sgn l) = (I ++ (P ++ F)) ++ (E ++ (S2 ++ X)) := by
  rw [dec_sgn D]
  conv => lhs; rw [D.all]
  rw [List.append_assoc, List.drop_left]
theorem dec_P : ∀ b ∈ P, b = 46 := by
  intro b hb
  rcases D.hP with ⟨h, _⟩ | ⟨h, _⟩ <;> rw [h] at hb <;> simp_all
theorem dec_body_low : ∀ b ∈ I ++ (P ++ F), b.toNat ≤ 57 := by
  intro b hb
  rw [List.mem_append, List.mem_append] at hb
  rcases hb with hb | hb | hb
  · exact (isD_range (D.hI b hb)).2
  · rw [dec_P D b hb]; decide
  · exact (isD_range (D.hF b hb)).2
theorem dec_index : Lib.indexAny (l.drop (sgn l)) [101, 69] = if E = [] then -1 else (((I ++ (P ++ F)).length : Nat) : Int) := by
  rw [dec_drop D]
  have hno : ∀ b ∈ I ++ (P ++ F), ([101, 69] : List UInt8).contains b = false := by
    intro b hb
    have := dec_body_low D b hb
    simp only [List.contains_eq_mem, decide_eq_false_iff_not, List.mem_cons, List.not_mem_nil, or_false]
    rintro (rfl | rfl) <;> revert this <;> decide
  rcases D.hE with ⟨h1, h2, h3⟩ | ⟨e, h1, h2, h3⟩
  · rw [if_pos h1, h1, h2, h3]
    refine Lib.indexAny_none ?_
    intro j b hj hb
    simp only [List.append_nil] at hb hj
    exact hno b (List.mem_of_getElem? hb)
  · rw [if_neg (by rw [h1]; simp)]
    refine Lib.indexAny_hit (x := e) ?_ ?_ ?_
    · intro j b hj hb
      rw [List.getElem?_append_left hj] at hb
      exact hno b (List.mem_of_getElem? hb)
    · rw [List.getElem?_append_right (Nat.le_refl _), Nat.sub_self, h1]; rfl
    · have : e = 101 ∨ e = 69 := by
        rcases h2 with h2 | h2
        · exact .inl (UInt8.toNat_inj.1 h2)
        · exact .inr (UInt8.toNat_inj.1 h2)
      rcases this with rfl | rfl <;> decide
theorem dec_ascii : ∀ b ∈ l.drop (sgn l), b.toNat < 128 := by
  intro b hb
  rw [dec_drop D, List.mem_append] at hb
  rcases hb with hb | hb
  · have := dec_body_low D b hb; omega
  rw [List.mem_append, List.mem_append] at hb
  rcases hb with hb | hb | hb
  · rcases D.hE with ⟨h1, _⟩ | ⟨e, h1, h2, _⟩
    · rw [h1] at hb; simp at hb
    · rw [h1] at hb; simp at hb; subst hb; omega
  · rcases D.hS with h1 | ⟨s, h1, h2⟩
    · rw [h1] at hb; simp at hb
    · rw [h1] at hb; simp at hb; subst hb; omega
  · have := isD_range (D.hX b hb); omega
theorem dec_cut : (Lib.cut (I ++ (P ++ F)) [46]).1 = I ∧ (Lib.cut (I ++ (P ++ F)) [46]).2.1 = F := by
  have hocc : ∀ (s : List UInt8) (j : Nat), Lib.occAt s [46] j = decide (s[j]? = some 46) := by
    intro s j
    unfold Lib.occAt
    by_cases hj : j < s.length
    · rw [List.drop_eq_getElem_cons hj, List.getElem?_eq_getElem hj]
      simp only [List.isPrefixOf, Bool.and_true, Option.some.injEq]
      exact Bool.eq_iff_iff.2 ⟨fun h => decide_eq_true (beq_iff_eq.1 h).symm, fun h => beq_iff_eq.2 (of_decide_eq_true h).symm⟩
    · rw [List.drop_eq_nil_of_le (by omega), List.getElem?_eq_none (by omega)]; rfl
  have hI : ∀ j : Nat, j < I.length → ¬ I[j]? = some 46 := by
    intro j hj h
    have := isD_range (D.hI 46 (List.mem_of_getElem? h))
    revert this; decide
  rcases D.hP with ⟨h1, h2⟩ | ⟨h1, h2⟩
  · have hn : Lib.index (I ++ (P ++ F)) [46] = -1 := by
      rw [h1, h2]
      refine Lib.index_none ?_
      intro j _
      rw [hocc, decide_eq_false_iff_not]
      simp only [List.append_nil]
      intro h
      exact hI j (List.getElem?_eq_some_iff.1 h).1 h
    unfold Lib.cut
    rw [hn, if_neg (by decide), h1, h2]
    simp
  · have hn : Lib.index (I ++ (P ++ F)) [46] = (I.length : Int) := by
      refine Lib.index_first (i := I.length) (by simp) ?_ ?_
      · rw [hocc, h1, List.getElem?_append_right (Nat.le_refl _), Nat.sub_self]; rfl
      · intro j hj
        rw [hocc, decide_eq_false_iff_not, List.getElem?_append_left hj]
        exact hI j hj
    unfold Lib.cut
    rw [hn, if_pos (by omega)]
    refine ⟨?_, ?_⟩
    · show List.take (Int.toNat (I.length : Int)) _ = _
      rw [Int.toNat_natCast, List.take_left]
    · show List.drop (Int.toNat (I.length : Int) + 1) _ = _
      rw [Int.toNat_natCast, ← List.drop_drop, List.drop_left, h1]; rfl
theorem dec_exp_digits : ∀ b ∈ (expP l).drop (sgn (expP l)), isD b = true := by rw [← D.lX]; exact D.hX
theorem dec_expP : (E = [] ∧ expP l = []) ∨ (E ≠ [] ∧ expP l = (l.drop (sgn l)).drop ((I ++ (P ++ F)).length + 1)) := by
  rcases D.hE with ⟨h1, h2, h3⟩ | ⟨e, h1, h2, h3⟩
  · exact .inl ⟨h1, by rw [← D.lE, h2, h3]; rfl⟩
  · refine .inr ⟨by rw [h1]; simp, ?_⟩
    rw [dec_drop D, ← List.drop_drop, List.drop_left, h1, ← D.lE]; rfl
theorem dec_len : l.length = sg.length + (I.length + (P.length + F.length)) + (E.length + (S2.length + X.length)) := by
  have := congrArg List.length D.all
  simp only [List.length_append] at this
  omega
end
end Go.Proofs.YtflehiokbbldgaaDoor
