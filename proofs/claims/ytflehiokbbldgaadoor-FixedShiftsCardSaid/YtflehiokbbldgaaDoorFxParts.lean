/- Layer 1: a decimal taken apart: plain laws. -/
import Derived.Test.YtflehiokbbldgaaDoorFxParsePure
import Derived.Lib.IndexMore
import Derived.Lib.IndexAny
import Derived.Lib.IndexLaws
import Derived.Lib.Atoi
set_option linter.unusedVariables false
set_option linter.unusedSimpArgs false
namespace Go.Proofs.YtflehiokbbldgaaDoor
open Go.RowKit Fx
theorem digs_all (l : List UInt8) : ∀ b ∈ l.take (digs l), isD b = true := by
  have h : l.take (digs l) = l.takeWhile isD := by
    unfold digs
    exact (List.prefix_iff_eq_take.1 (List.takeWhile_prefix isD)).symm
  rw [h]
  have := List.all_takeWhile (p := isD) (l := l)
  rwa [List.all_eq_true] at this
theorem isD_range {b : UInt8} (h : isD b = true) : 48 ≤ b.toNat ∧ b.toNat ≤ 57 := by simpa [isD] using h
/-- what a decimal is made of -/
structure Dec (l : List UInt8) (sg : List UInt8) (I : List UInt8) (P : List UInt8) (F : List UInt8) (E : List UInt8) (S2 : List UInt8) (X : List UInt8) : Prop where
  all : l = sg ++ (I ++ (P ++ F)) ++ (E ++ (S2 ++ X))
  hsg : sg = [] ∨ ∃ b, sg = [b] ∧ (b.toNat = 43 ∨ b.toNat = 45)
  hI : ∀ b ∈ I, isD b = true
  hF : ∀ b ∈ F, isD b = true
  hP : (P = [] ∧ F = []) ∨ (P = [46] ∧ F ≠ [])
  hE : (E = [] ∧ S2 = [] ∧ X = []) ∨ (∃ e, E = [e] ∧ (e.toNat = 101 ∨ e.toNat = 69) ∧ X ≠ [])
  hS : S2 = [] ∨ ∃ b, S2 = [b] ∧ (b.toNat = 43 ∨ b.toNat = 45)
  hX : ∀ b ∈ X, isD b = true
  lsg : sg = l.take (sgn l)
  lI : I = intP l
  lF : F = fracP l
  lA : bodyLen l = sg.length + I.length + P.length + F.length
  lE : S2 ++ X = expP l
  lS2 : S2 = (expP l).take (sgn (expP l))
  lX : X = (expP l).drop (sgn (expP l))
  some : I ≠ [] ∨ F ≠ []
theorem sgn_shape (l : List UInt8) : l.take (sgn l) = [] ∨ ∃ b, l.take (sgn l) = [b] ∧ (b.toNat = 43 ∨ b.toNat = 45) := by
  cases l with
  | nil => exact .inl rfl
  | cons b l =>
    unfold sgn
    simp only []
    split
    · rename_i h; exact .inr ⟨b, rfl, h⟩
    · exact .inl rfl
theorem take_full {α : Type} {l : List α} {n : Nat} (h : l.length = n) : l.take n = l := by subst h; exact List.take_length
theorem dec_of_isP {l : List UInt8} (h : isP l = true) : ∃ sg I P F E S2 X, Dec l sg I P F E S2 X := by
  have h' := of_decide_eq_true h
  obtain ⟨hne, hlen⟩ := h'
  have hpos : 0 < l.length := List.length_pos_iff.2 hne
  have hsome : some_ l = true := by
    cases hs : some_ l with
    | true => rfl
    | false => rw [lenP_none hs] at hlen; omega
  obtain ⟨A, hA⟩ : ∃ A, bodyLen l = A := ⟨_, rfl⟩
  have hAl := bodyLen_le l
  have ht := lenP_tail hsome hA
  have hk0 := sgn_le l
  have hn0 := digs_le (l.drop (sgn l))
  rw [List.length_drop] at hn0
  have hIlen : (intP l).length = digs (l.drop (sgn l)) := by
    unfold intP; rw [List.length_take, List.length_drop]; omega
  -- the body
  have hbody : ∃ P, l.take A = l.take (sgn l) ++ (intP l ++ (P ++ fracP l)) ∧ ((P = [] ∧ fracP l = []) ∨ (P = [46] ∧ fracP l ≠ [])) ∧ A = (l.take (sgn l)).length + (intP l).length + P.length + (fracP l).length := by
    have e1 : l.take (sgn l + digs (l.drop (sgn l))) = l.take (sgn l) ++ intP l := by
      rw [List.take_add]; rfl
    by_cases hd : l[sgn l + digs (l.drop (sgn l))]? = Option.some 46 ∧ 0 < digs (l.drop (sgn l + digs (l.drop (sgn l)) + 1))
    · have hF : fracP l = (l.drop (sgn l + digs (l.drop (sgn l)) + 1)).take (digs (l.drop (sgn l + digs (l.drop (sgn l)) + 1))) := by
        unfold fracP; simp only []; rw [if_pos hd]
      have hFl : (fracP l).length = digs (l.drop (sgn l + digs (l.drop (sgn l)) + 1)) := by
        have := digs_le (l.drop (sgn l + digs (l.drop (sgn l)) + 1))
        rw [hF, List.length_take]; omega
      have hA2 : A = sgn l + digs (l.drop (sgn l)) + 1 + digs (l.drop (sgn l + digs (l.drop (sgn l)) + 1)) := by
        rw [← hA]; unfold bodyLen; simp only []; rw [if_pos hd]
      refine ⟨[46], ?_, .inr ⟨rfl, ?_⟩, ?_⟩
      · rw [hA2, List.take_add, ← hF, take_snoc _ _ _ hd.1, e1]
        simp
      · intro h0; rw [h0] at hFl; simp at hFl; omega
      · rw [hFl, hIlen, List.length_take]; simp; omega
    · have hF : fracP l = [] := by unfold fracP; simp only []; rw [if_neg hd]
      have hA2 : A = sgn l + digs (l.drop (sgn l)) := by
        rw [← hA]; unfold bodyLen; simp only []; rw [if_neg hd]
      refine ⟨[], ?_, .inl ⟨rfl, hF⟩, ?_⟩
      · rw [hA2, e1, hF]; simp
      · rw [hF, hIlen, List.length_take]; simp; omega
  obtain ⟨P, hb1, hb2, hb3⟩ := hbody
  have hsplit : l = l.take A ++ l.drop A := (List.take_append_drop A l).symm
  have hItail : ∀ b ∈ intP l, isD b = true := by unfold intP; exact digs_all _
  have hFtail : ∀ b ∈ fracP l, isD b = true := by
    unfold fracP
    simp only []
    split
    · exact digs_all _
    · simp
  have hsm : intP l ≠ [] ∨ fracP l ≠ [] := by
    by_cases hd : 0 < digs (l.drop (sgn l))
    · left; intro h0; rw [h0] at hIlen; simp at hIlen; omega
    · right
      unfold some_ at hsome
      have hd2 := of_decide_eq_true hsome
      have hd3 := hd2.resolve_left hd
      intro h0
      have hF : fracP l = (l.drop (sgn l + digs (l.drop (sgn l)) + 1)).take (digs (l.drop (sgn l + digs (l.drop (sgn l)) + 1))) := by
        unfold fracP; simp only []; rw [if_pos hd3]
      have hFl : (fracP l).length = digs (l.drop (sgn l + digs (l.drop (sgn l)) + 1)) := by
        have := digs_le (l.drop (sgn l + digs (l.drop (sgn l)) + 1))
        rw [hF, List.length_take]; omega
      rw [h0] at hFl; simp at hFl; omega
  rcases isE_cases l A with ⟨hge, hE⟩ | ⟨e, he, hE3⟩
  · have hX : expP l = [] := by unfold expP; rw [hA, hE]; rfl
    refine ⟨l.take (sgn l), intP l, P, fracP l, [], [], [], ?_⟩
    exact { all := by rw [← hb1, take_full (by omega)]; simp, hsg := sgn_shape l, hI := hItail, hF := hFtail, hP := hb2, hE := .inl ⟨rfl, rfl, rfl⟩, hS := .inl rfl, hX := by simp, lsg := rfl, lI := rfl, lF := rfl, lA := by rw [hA, hb3], lE := by rw [hX]; rfl, lS2 := by rw [hX]; rfl, lX := by rw [hX]; rfl, some := hsm }
  · have hlt : A < l.length := (List.getElem?_eq_some_iff.1 he).1
    have hEt : isE l[A]? = true ∧ (e.toNat = 101 ∨ e.toNat = 69) := by
      rcases hE3 with ⟨h1, h2⟩ | ⟨h1, h2⟩ | ⟨h1, h2, h3⟩
      · exact ⟨h2, .inl h1⟩
      · exact ⟨h2, .inr h1⟩
      · have := ht.1 h3; omega
    have hL := ht.2 hEt.1 _ _ rfl rfl
    have hm2 : 0 < digs (l.drop (A + 1 + sgn (l.drop (A + 1)))) := by
      by_cases hm : 0 < digs (l.drop (A + 1 + sgn (l.drop (A + 1))))
      · exact hm
      · rw [if_neg hm] at hL; omega
    rw [if_pos hm2] at hL
    have hX : expP l = l.drop (A + 1) := by unfold expP; rw [hA, if_pos hEt.1]
    have hXd : (expP l).drop (sgn (expP l)) = l.drop (A + 1 + sgn (l.drop (A + 1))) := by rw [hX, List.drop_drop]
    refine ⟨l.take (sgn l), intP l, P, fracP l, [e], (expP l).take (sgn (expP l)), (expP l).drop (sgn (expP l)), ?_⟩
    have hda : l.drop A = [e] ++ ((expP l).take (sgn (expP l)) ++ (expP l).drop (sgn (expP l))) := by
      rw [List.take_append_drop, hX]
      obtain ⟨hi, rfl⟩ := List.getElem?_eq_some_iff.1 he
      exact List.drop_eq_getElem_cons hi
    have hXlen : (l.drop (A + 1 + sgn (l.drop (A + 1)))).length = digs (l.drop (A + 1 + sgn (l.drop (A + 1)))) := by
      rw [List.length_drop]; omega
    have hXall : ∀ b ∈ (expP l).drop (sgn (expP l)), isD b = true := by
      rw [hXd]
      have := digs_all (l.drop (A + 1 + sgn (l.drop (A + 1))))
      rwa [take_full hXlen] at this
    exact { all := by rw [← hb1, ← hda]; exact hsplit, hsg := sgn_shape l, hI := hItail, hF := hFtail, hP := hb2, hE := .inr ⟨e, rfl, hEt.2, by rw [hXd]; intro h0; have h1 := congrArg List.length h0; rw [hXlen, List.length_nil] at h1; omega⟩, hS := sgn_shape _, hX := hXall, lsg := rfl, lI := rfl, lF := rfl, lA := by rw [hA, hb3], lE := List.take_append_drop _ _, lS2 := rfl, lX := rfl, some := hsm }
end Go.Proofs.YtflehiokbbldgaaDoor
