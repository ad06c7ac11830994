/- Layer 3: a name is walked. -/
import Derived.Test.YthimfoonalfoeaaDoorB04
import Derived.Test.YthimfoonalfoeaaDoorB05
import Derived.Test.YthimfoonalfoeaaDoorB03
import Derived.Deep.DeepCutAuto
import Derived.Deep.CutBlock
import Derived.Maps.AppendAt
import Derived.Maps.RangeWalk
import Derived.WalkMore
import Derived.ScopeJumps
/- Layer 3: how long a decimal is hangs on its characters alone: plain laws. -/
set_option linter.unusedVariables false
set_option linter.unusedSimpArgs false
namespace Go.Proofs.YthimfoonalfoeaaDoor
open Go.RowKit Rn Tk Fx
namespace Np
def asciiT (r : List Int) : List UInt8 := (r.takeWhile (fun c => decide (c < 128))).map Tk.byteOf
def numU (b : UInt8) : Bool := isD b || decide (b.toNat = 43 ∨ b.toNat = 45 ∨ b.toNat = 46 ∨ b.toNat = 101 ∨ b.toNat = 69)
/-- nothing of a decimal goes on there -/
def StopY (y : List UInt8) : Prop := ∀ b t, y = b :: t → numU b = false
theorem stop_isD {y : List UInt8} (h : StopY y) : digs y = 0 := by
  cases y with
  | nil => rfl
  | cons b t =>
    have := h b t rfl
    unfold numU at this
    simp at this
    unfold digs
    rw [List.takeWhile_cons, if_neg (by simp [this.1])]; rfl
theorem digs_app (x y : List UInt8) (h : StopY y) : digs (x ++ y) = digs x := by
  induction x with
  | nil => rw [List.nil_append, stop_isD h]; rfl
  | cons b t ih =>
    unfold digs at ih ⊢
    rw [List.cons_append, List.takeWhile_cons, List.takeWhile_cons]
    split
    · simp only [List.length_cons, ih]
    · rfl
theorem drop_app (x y : List UInt8) {i : Nat} (hi : i ≤ x.length) : (x ++ y).drop i = x.drop i ++ y := by
  rw [List.drop_append_of_le_length hi]
theorem sgn_app (x y : List UInt8) (h : StopY y) : sgn (x ++ y) = sgn x := by
  cases x with
  | nil =>
    cases y with
    | nil => rfl
    | cons b t =>
      have := h b t rfl
      unfold numU at this
      simp at this
      show (if b.toNat = 43 ∨ b.toNat = 45 then 1 else 0) = 0
      rw [if_neg (by omega)]
  | cons b t => rfl
theorem get_app (x y : List UInt8) (h : StopY y) {i : Nat} (hi : i ≤ x.length) : ((x ++ y)[i]? = some 46 ↔ x[i]? = some 46) ∧ isE (x ++ y)[i]? = isE x[i]? := by
  by_cases hl : i < x.length
  · rw [List.getElem?_append_left hl]; exact ⟨Iff.rfl, rfl⟩
  · rw [List.getElem?_append_right (by omega), show i - x.length = 0 by omega, List.getElem?_eq_none (by omega : x.length ≤ i)]
    cases y with
    | nil => exact ⟨Iff.rfl, rfl⟩
    | cons b t =>
      have := h b t rfl
      unfold numU at this
      simp at this
      refine ⟨⟨fun hb => ?_, fun hb => by cases hb⟩, ?_⟩
      · simp at hb; subst hb; exact absurd rfl this.2.2.2.1
      · simp [isE]; omega
theorem sgn_len (x : List UInt8) : sgn x ≤ x.length := by
  cases x with
  | nil => exact Nat.le_refl _
  | cons b t => simp only [sgn, List.length_cons]; split <;> omega
theorem exp_app (x y : List UInt8) (h : StopY y) : expLen (x ++ y) = expLen x := by
  unfold expLen
  rw [sgn_app x y h, drop_app x y (sgn_len x), digs_app _ y h]
theorem int_len (x : List UInt8) : sgn x + digs (x.drop (sgn x)) ≤ x.length := by
  have h1 := sgn_len x
  have h2 := digs_le (x.drop (sgn x))
  rw [List.length_drop] at h2; omega
theorem frac_app (x y : List UInt8) (h : StopY y) {a : Nat} (ha : a ≤ x.length) : ((x ++ y)[a]? = some 46 ∧ 0 < digs ((x ++ y).drop (a + 1))) ↔ (x[a]? = some 46 ∧ 0 < digs (x.drop (a + 1))) := by
  have hg := (get_app x y h ha).1
  constructor
  · rintro ⟨h1, h2⟩
    have h3 := hg.1 h1
    have hlt := (List.getElem?_eq_some_iff.1 h3).1
    rw [drop_app x y (by omega), digs_app _ y h] at h2
    exact ⟨h3, h2⟩
  · rintro ⟨h1, h2⟩
    have hlt := (List.getElem?_eq_some_iff.1 h1).1
    rw [drop_app x y (by omega), digs_app _ y h]
    exact ⟨hg.2 h1, h2⟩
theorem body_app (x y : List UInt8) (h : StopY y) : bodyLen (x ++ y) = bodyLen x := by
  unfold bodyLen
  simp only [sgn_app x y h, drop_app x y (sgn_len x), digs_app _ y h]
  have hf := frac_app x y h (int_len x)
  by_cases hc : x[sgn x + digs (x.drop (sgn x))]? = some 46 ∧ 0 < digs (x.drop (sgn x + digs (x.drop (sgn x)) + 1))
  · have hlt := (List.getElem?_eq_some_iff.1 hc.1).1
    rw [if_pos hc, if_pos (hf.2 hc), drop_app x y (by omega), digs_app _ y h]
  · rw [if_neg hc, if_neg (fun h' => hc (hf.1 h'))]
theorem some_app (x y : List UInt8) (h : StopY y) : some_ (x ++ y) = some_ x := by
  unfold some_
  simp only [sgn_app x y h, drop_app x y (sgn_len x), digs_app _ y h]
  rw [Bool.eq_iff_iff, decide_eq_true_iff, decide_eq_true_iff, frac_app x y h (int_len x)]
theorem body_len (x : List UInt8) : bodyLen x ≤ x.length := by
  unfold bodyLen
  simp only
  split
  · rename_i hc
    have hlt := (List.getElem?_eq_some_iff.1 hc.1).1
    have := digs_le (x.drop (sgn x + digs (x.drop (sgn x)) + 1))
    rw [List.length_drop] at this; omega
  · exact int_len x
theorem len_app (x y : List UInt8) (h : StopY y) : lenP (x ++ y) = lenP x := by
  unfold lenP
  rw [some_app x y h]
  split
  · rfl
  simp only [body_app x y h]
  have hb := body_len x
  have hg := (get_app x y h hb).2
  rw [hg]
  by_cases he : isE x[bodyLen x]? = true
  · have hlt : bodyLen x < x.length := by
      by_cases hl : bodyLen x < x.length
      · exact hl
      · rw [List.getElem?_eq_none (by omega)] at he; cases he
    rw [drop_app x y (by omega), exp_app _ y h]
  · rw [if_neg (fun h' => he h'.1), if_neg (fun h' => he h'.1)]
theorem numU_byte {c : Int} (h0 : 0 ≤ c) (h1 : c < 128) : numU (Tk.byteOf c) = numB c := by
  have : ∀ k : Fin 128, numU (Tk.byteOf (k.val : Int)) = numB (k.val : Int) := by decide +kernel
  have h := this ⟨c.toNat, by omega⟩
  have e : ((c.toNat : Nat) : Int) = c := by omega
  simp only [e] at h; exact h
theorem ascii_num (r : List Int) (hr : ∀ c ∈ r, 0 ≤ c) : ∃ y, asciiT r = numText r ++ y ∧ StopY y := by
  induction r with
  | nil => exact ⟨[], rfl, fun b t h => by cases h⟩
  | cons c r ih =>
    obtain ⟨y, h1, h2⟩ := ih (fun d hd => hr d (by simp [hd]))
    have hc := hr c (by simp)
    unfold asciiT numText at *
    cases hb : numB c with
    | true =>
      have hlt : c < 128 := by unfold numB at hb; simp at hb; omega
      have e1 : (c :: r).takeWhile (fun c => decide (c < 128)) = c :: r.takeWhile (fun c => decide (c < 128)) := by rw [List.takeWhile_cons]; simp [hlt]
      have e2 : (c :: r).takeWhile numB = c :: r.takeWhile numB := by rw [List.takeWhile_cons, hb]; rfl
      rw [e1, e2, List.map_cons, List.map_cons, h1]
      exact ⟨y, rfl, h2⟩
    | false =>
      have e2 : (c :: r).takeWhile numB = [] := by rw [List.takeWhile_cons, hb]; rfl
      rw [e2]
      refine ⟨_, (List.nil_append _).symm, ?_⟩
      intro b t hbt
      by_cases hlt : c < 128
      · have e1 : (c :: r).takeWhile (fun c => decide (c < 128)) = c :: r.takeWhile (fun c => decide (c < 128)) := by rw [List.takeWhile_cons]; simp [hlt]
        rw [e1, List.map_cons] at hbt
        injection hbt with e1 e2
        rw [← e1, numU_byte hc hlt, hb]
      · have e1 : (c :: r).takeWhile (fun c => decide (c < 128)) = [] := by rw [List.takeWhile_cons]; simp [hlt]
        rw [e1] at hbt
        cases hbt
theorem len_ascii (r : List Int) (hr : ∀ c ∈ r, 0 ≤ c) : lenP (asciiT r) = lenP (numText r) ∧ (asciiT r).take (lenP (numText r)) = (numText r).take (lenP (numText r)) := by
  obtain ⟨y, h1, h2⟩ := ascii_num r hr
  refine ⟨by rw [h1, len_app _ y h2], ?_⟩
  rw [h1, List.take_append_of_le_length]
  unfold lenP
  split
  · exact Nat.zero_le _
  simp only
  have hb := body_len (numText r)
  split
  · rename_i hc
    have hlt : bodyLen (numText r) < (numText r).length := by
      by_cases hl : bodyLen (numText r) < (numText r).length
      · exact hl
      · rw [List.getElem?_eq_none (by omega)] at hc; simp [isE] at hc
    have h3 : expLen ((numText r).drop (bodyLen (numText r) + 1)) ≤ ((numText r).drop (bodyLen (numText r) + 1)).length := by
      unfold expLen
      split
      · exact int_len _
      · exact Nat.zero_le _
    rw [List.length_drop] at h3; omega
  · exact hb
/-- may a decimal begin with that? -/
def numStart (c : Int) : Bool := decide (c = 43 ∨ c = 45 ∨ c = 46 ∨ (48 ≤ c ∧ c ≤ 57))
theorem num_none {r : List Int} (hr : ∀ c ∈ r, 0 ≤ c) (h : numStart (pk r 0) = false) : lenP (numText r) = 0 := by
  cases r with
  | nil => rfl
  | cons c r =>
    rw [pk_cons0] at h
    have hc := hr c (by simp)
    have hx : ∀ b t, numText (c :: r) = b :: t → isD b = false ∧ b.toNat ≠ 43 ∧ b.toNat ≠ 45 ∧ b.toNat ≠ 46 := by
      intro b t hbt
      unfold numText at hbt
      rw [List.takeWhile_cons] at hbt
      split at hbt
      · rename_i hb
        rw [List.map_cons] at hbt
        injection hbt with e1 e2
        unfold numStart at h
        simp at h
        have hlt : c < 128 := by unfold numB at hb; simp at hb; omega
        have hn : (b.toNat : Int) = c := by
          rw [← e1]; unfold Tk.byteOf; rw [UInt8.toNat_ofNat']; omega
        refine ⟨?_, by omega, by omega, by omega⟩
        unfold isD; simp; omega
      · cases hbt
    generalize numText (c :: r) = x at hx
    cases x with
    | nil => rfl
    | cons b t =>
      obtain ⟨h1, h2, h3, h4⟩ := hx b t rfl
      have hs : sgn (b :: t) = 0 := by show (if _ then 1 else 0) = 0; rw [if_neg (by omega)]
      have hd : digs (b :: t) = 0 := by unfold digs; rw [List.takeWhile_cons, if_neg (by simp [h1])]; rfl
      unfold lenP
      rw [if_pos]
      unfold some_
      simp only [hs, List.drop_zero, hd]
      simp
      intro hb; subst hb; exact absurd rfl h4
theorem number_none {r : List Int} (h : lenP (numText r) = 0) : numberT r = none := by unfold numberT; simp only [h, if_pos]
end Np
end Go.Proofs.YthimfoonalfoeaaDoor
/- Layer 1: a decimal put together of its parts, with whatever behind it: plain laws. -/
set_option linter.unusedVariables false
set_option linter.unusedSimpArgs false
namespace Go.Proofs.YthimfoonalfoeaaDoor
open Go.RowKit Fx
namespace Fx
/-- parts that make a decimal -/
structure Parts (sg I P F E S2 X : List UInt8) : Prop where
  hsg : sg = [] ∨ ∃ b, sg = [b] ∧ (b.toNat = 43 ∨ b.toNat = 45)
  hI : ∀ b ∈ I, isD b = true
  hF : ∀ b ∈ F, isD b = true
  hP : (P = [] ∧ F = []) ∨ (P = [46] ∧ F ≠ [])
  hE : (E = [] ∧ S2 = [] ∧ X = []) ∨ (∃ e, E = [e] ∧ (e.toNat = 101 ∨ e.toNat = 69) ∧ X ≠ [])
  hS : S2 = [] ∨ ∃ b, S2 = [b] ∧ (b.toNat = 43 ∨ b.toNat = 45)
  hX : ∀ b ∈ X, isD b = true
  some : I ≠ [] ∨ F ≠ []
def glue (sg I P F E S2 X : List UInt8) : List UInt8 := sg ++ (I ++ (P ++ F)) ++ (E ++ (S2 ++ X))
end Fx
theorem Dec.parts {l sg I P F E S2 X : List UInt8} (D : Dec l sg I P F E S2 X) : Parts sg I P F E S2 X :=
  ⟨D.hsg, D.hI, D.hF, D.hP, D.hE, D.hS, D.hX, D.some⟩
theorem digs_app (I t : List UInt8) (h : ∀ b ∈ I, isD b = true) : digs (I ++ t) = I.length + digs t := by
  unfold digs
  induction I with
  | nil => simp
  | cons b I ih =>
    rw [List.cons_append, List.takeWhile_cons, if_pos (h b (by simp)), List.length_cons, ih (fun c hc => h c (by simp [hc])), List.length_cons]
    omega
theorem digs_stop {b : UInt8} (t : List UInt8) (h : isD b = false) : digs (b :: t) = 0 := by
  unfold digs; rw [List.takeWhile_cons, if_neg (by rw [h]; simp)]; rfl
theorem digs_nil : digs [] = 0 := rfl
theorem sgn_digit {b : UInt8} (t : List UInt8) (h : isD b = true) : sgn (b :: t) = 0 := by
  have := isD_range h
  unfold sgn; simp only []; rw [if_neg (by omega)]
theorem sgn_of {sg : List UInt8} (t : List UInt8) (h : sg = [] ∨ ∃ b, sg = [b] ∧ (b.toNat = 43 ∨ b.toNat = 45)) (h2 : sg = [] → sgn t = 0) : sgn (sg ++ t) = sg.length := by
  rcases h with h | ⟨b, h, hb⟩
  · rw [h]; exact h2 h
  · rw [h]; exact if_pos hb
theorem sgn_digits {X : List UInt8} (t : List UInt8) (hX : ∀ b ∈ X, isD b = true) (hne : X ≠ []) : sgn (X ++ t) = 0 := by
  cases X with
  | nil => exact absurd rfl hne
  | cons b X => exact sgn_digit _ (hX b (by simp))
theorem isE_notD {e : UInt8} (h : e.toNat = 101 ∨ e.toNat = 69) : isD e = false := by unfold isD; simp; omega
/-- the longest decimal is at least as long as the one that stands there; its parts are read, where an exponent stands or nothing is behind -/
theorem glue_body {sg I P F E S2 X : List UInt8} (D : Parts sg I P F E S2 X) (rest : List UInt8) (hr : E = [] → rest = []) :
    sgn (glue sg I P F E S2 X ++ rest) = sg.length ∧ digs ((glue sg I P F E S2 X ++ rest).drop sg.length) = I.length ∧ bodyLen (glue sg I P F E S2 X ++ rest) = sg.length + I.length + P.length + F.length ∧ some_ (glue sg I P F E S2 X ++ rest) = true
      ∧ intP (glue sg I P F E S2 X ++ rest) = I ∧ fracP (glue sg I P F E S2 X ++ rest) = F := by
  obtain ⟨Y, hY⟩ : ∃ Y, E ++ (S2 ++ X) ++ rest = Y := ⟨_, rfl⟩
  have hYd : digs Y = 0 ∧ Y[0]? ≠ some 46 := by
    rw [← hY]
    rcases D.hE with ⟨h1, h2, h3⟩ | ⟨e, h1, h2, _⟩
    · rw [h1, h2, h3, hr h1]; exact ⟨rfl, by simp⟩
    · rw [h1]
      refine ⟨digs_stop _ (isE_notD h2), ?_⟩
      simp; intro h; subst h; revert h2; decide
  have hl : glue sg I P F E S2 X ++ rest = sg ++ (I ++ (P ++ (F ++ Y))) := by rw [← hY]; unfold glue; simp
  have hs : sgn (sg ++ (I ++ (P ++ (F ++ Y)))) = sg.length := by
    refine sgn_of _ D.hsg fun _ => ?_
    by_cases hI : I = []
    · have hF : F ≠ [] := D.some.resolve_left (fun h => h hI)
      rcases D.hP with ⟨_, h⟩ | ⟨h, _⟩
      · exact absurd h hF
      · rw [hI, h]; rfl
    · exact sgn_digits _ D.hI hI
  have hd : (sg ++ (I ++ (P ++ (F ++ Y)))).drop sg.length = I ++ (P ++ (F ++ Y)) := by simp
  have hn : digs (I ++ (P ++ (F ++ Y))) = I.length := by
    rw [digs_app _ _ D.hI]
    rcases D.hP with ⟨h, h2⟩ | ⟨h, _⟩
    · rw [h, h2]; simp only [List.nil_append]; omega
    · rw [h]; rw [List.cons_append, digs_stop _ (by rfl)]; omega
  have hd2 : (sg ++ (I ++ (P ++ (F ++ Y)))).drop (sg.length + I.length) = P ++ (F ++ Y) := by
    rw [← List.drop_drop, hd]; simp
  have hat : (sg ++ (I ++ (P ++ (F ++ Y))))[sg.length + I.length]? = (P ++ (F ++ Y))[0]? := by
    rw [← hd2, List.getElem?_drop]; simp
  rw [hl]
  rcases D.hP with ⟨h, h2⟩ | ⟨h, h2⟩
  · have hno : ¬ (P ++ (F ++ Y))[0]? = some 46 := by rw [h, h2]; exact hYd.2
    have hI : I ≠ [] := D.some.resolve_right (fun h => h h2)
    have hIl := List.length_pos_iff.2 hI
    refine ⟨hs, by rw [hd, hn], ?_, ?_, ?_, ?_⟩
    · unfold bodyLen; simp only []; rw [hs, hd, hn, hat, if_neg (fun x => hno x.1), h, h2]; simp
    · unfold some_; simp only []; rw [hs, hd, hn]; simp [hIl]
    · unfold intP; rw [hs, hd, hn]; simp
    · unfold fracP; simp only []; rw [hs, hd, hn, hat, if_neg (fun x => hno x.1), h2]
  · have hyes : (P ++ (F ++ Y))[0]? = some 46 := by rw [h]; rfl
    have hFl := List.length_pos_iff.2 h2
    have hd3 : (sg ++ (I ++ (P ++ (F ++ Y)))).drop (sg.length + I.length + 1) = F ++ Y := by
      rw [← List.drop_drop, hd2, h]; rfl
    have hnF : digs (F ++ Y) = F.length := by rw [digs_app _ _ D.hF, hYd.1]; omega
    refine ⟨hs, by rw [hd, hn], ?_, ?_, ?_, ?_⟩
    · unfold bodyLen; simp only []; rw [hs, hd, hn, hat, hd3, hnF, if_pos ⟨hyes, hFl⟩, h]; simp; 
    · unfold some_; simp only []; rw [hs, hd, hn, hat, hd3, hnF]; simp [hyes, hFl]
    · unfold intP; rw [hs, hd, hn]; simp
    · unfold fracP; simp only []; rw [hs, hd, hn, hat, hd3, hnF, if_pos ⟨hyes, hFl⟩]; simp
theorem glue_len (sg I P F E S2 X : List UInt8) : (glue sg I P F E S2 X).length = sg.length + I.length + P.length + F.length + E.length + S2.length + X.length := by
  unfold glue; simp; omega
/-- a decimal with an exponent, whatever stands behind -/
theorem glue_exp {sg I P F E S2 X : List UInt8} (D : Parts sg I P F E S2 X) (hE : E ≠ []) (rest : List UInt8) :
    lenP (glue sg I P F E S2 X ++ rest) = (glue sg I P F E S2 X).length + digs rest ∧ expP (glue sg I P F E S2 X ++ rest) = S2 ++ X ++ rest := by
  obtain ⟨h1, h2, h3, h4, _, _⟩ := glue_body D rest (fun h => absurd h hE)
  obtain ⟨e, he1, he2, hX⟩ : ∃ e, E = [e] ∧ (e.toNat = 101 ∨ e.toNat = 69) ∧ X ≠ [] := by
    rcases D.hE with ⟨h, _⟩ | h
    · exact absurd h hE
    · exact h
  have hl : glue sg I P F E S2 X ++ rest = (sg ++ (I ++ (P ++ F))) ++ (e :: (S2 ++ (X ++ rest))) := by unfold glue; rw [he1]; simp
  have hA : (sg ++ (I ++ (P ++ F))).length = sg.length + I.length + P.length + F.length := by simp; omega
  have hat : (glue sg I P F E S2 X ++ rest)[sg.length + I.length + P.length + F.length]? = some e := by
    rw [hl, List.getElem?_append_right (by omega), hA]; simp
  have hdr : (glue sg I P F E S2 X ++ rest).drop (sg.length + I.length + P.length + F.length + 1) = S2 ++ (X ++ rest) := by
    rw [hl, ← List.drop_drop, ← hA, List.drop_left]; rfl
  have hie : isE (some e) = true := by unfold isE; simpa using he2
  have hsg : sgn (S2 ++ (X ++ rest)) = S2.length := sgn_of _ D.hS fun _ => sgn_digits _ D.hX hX
  have hXl := List.length_pos_iff.2 hX
  have hdx : digs ((S2 ++ (X ++ rest)).drop S2.length) = X.length + digs rest := by rw [List.drop_left, digs_app _ _ D.hX]
  have hexp : expLen (S2 ++ (X ++ rest)) = S2.length + (X.length + digs rest) := by
    unfold expLen; rw [hsg, hdx, if_pos (by omega)]
  have hSl : S2.length ≤ 1 := by
    rcases D.hS with h | ⟨b, h, _⟩ <;> rw [h] <;> simp
  constructor
  · unfold lenP
    simp only []
    rw [h4, if_neg (by simp), h3, hat, hdr, hexp, if_pos ⟨hie, by omega⟩, glue_len, he1]
    simp; omega
  · unfold expP
    rw [h3, hat, if_pos hie, hdr, List.append_assoc]
/-- parts make a decimal -/
theorem glue_is {sg I P F E S2 X : List UInt8} (D : Parts sg I P F E S2 X) :
    isP (glue sg I P F E S2 X) = true ∧ intP (glue sg I P F E S2 X) = I ∧ fracP (glue sg I P F E S2 X) = F ∧ expP (glue sg I P F E S2 X) = S2 ++ X ∧ lenP (glue sg I P F E S2 X) = (glue sg I P F E S2 X).length := by
  obtain ⟨h1, h2, h3, h4, h5, h6⟩ := glue_body D [] (fun _ => rfl)
  rw [List.append_nil] at h1 h2 h3 h4 h5 h6
  have hpos : 0 < (glue sg I P F E S2 X).length := by
    rw [glue_len]
    rcases D.some with h | h <;> have := List.length_pos_iff.2 h <;> omega
  have hne : glue sg I P F E S2 X ≠ [] := List.length_pos_iff.1 hpos
  have hlen : lenP (glue sg I P F E S2 X) = (glue sg I P F E S2 X).length ∧ expP (glue sg I P F E S2 X) = S2 ++ X := by
    by_cases hE : E = []
    · have hE2 : S2 = [] ∧ X = [] := by
        rcases D.hE with ⟨_, h, h2⟩ | ⟨e, h, _⟩
        · exact ⟨h, h2⟩
        · rw [hE] at h; cases h
      have hnone : (glue sg I P F E S2 X)[sg.length + I.length + P.length + F.length]? = none := by
        refine List.getElem?_eq_none ?_
        rw [glue_len, hE, hE2.1, hE2.2]; simp
      constructor
      · unfold lenP
        simp only []
        rw [h4, if_neg (by simp), h3, hnone, if_neg (fun h => by have := h.1; simp [isE] at this), glue_len, hE, hE2.1, hE2.2]; simp
      · unfold expP
        rw [h3, hnone, if_neg (by simp [isE]), hE2.1, hE2.2]; rfl
    · obtain ⟨a, b⟩ := glue_exp D hE []
      rw [List.append_nil] at a b
      rw [List.append_nil] at b
      exact ⟨by rw [a]; rfl, b⟩
  exact ⟨decide_eq_true ⟨hne, hlen.1⟩, h5, h6, hlen.2, hlen.1⟩
/-- a decimal is no longer than the longest one -/
theorem glue_le {sg I P F E S2 X : List UInt8} (D : Parts sg I P F E S2 X) (rest : List UInt8) : (glue sg I P F E S2 X).length ≤ lenP (glue sg I P F E S2 X ++ rest) := by
  by_cases hE : E = []
  · have hE2 : S2 = [] ∧ X = [] := by
      rcases D.hE with ⟨_, h, h2⟩ | ⟨e, h, _⟩
      · exact ⟨h, h2⟩
      · rw [hE] at h; cases h
    obtain ⟨l, hl⟩ : ∃ l, glue sg I P F E S2 X ++ rest = l := ⟨_, rfl⟩
    have hl2 : l = sg ++ (I ++ (P ++ (F ++ rest))) := by rw [← hl]; unfold glue; rw [hE, hE2.1, hE2.2]; simp
    have hs : sgn l = sg.length := by
      rw [hl2]
      refine sgn_of _ D.hsg fun _ => ?_
      by_cases hI : I = []
      · have hF : F ≠ [] := D.some.resolve_left (fun h => h hI)
        rcases D.hP with ⟨_, h⟩ | ⟨h, _⟩
        · exact absurd h hF
        · rw [hI, h]; rfl
      · exact sgn_digits _ D.hI hI
    have hd : l.drop sg.length = I ++ (P ++ (F ++ rest)) := by rw [hl2]; simp
    have hbody : some_ l = true ∧ (glue sg I P F E S2 X).length ≤ bodyLen l := by
      rw [glue_len, hE, hE2.1, hE2.2]
      rcases D.hP with ⟨h, h2⟩ | ⟨h, h2⟩
      · have hI : I ≠ [] := D.some.resolve_right (fun h => h h2)
        have hIl := List.length_pos_iff.2 hI
        have hdg : I.length ≤ digs (I ++ (P ++ (F ++ rest))) := by rw [digs_app _ _ D.hI]; omega
        constructor
        · unfold some_; simp only []; rw [hs, hd]; exact decide_eq_true (.inl (by omega))
        · unfold bodyLen; simp only []; rw [hs, hd, h, h2] at *; simp only [List.length_nil, List.nil_append] at *
          split <;> omega
      · have hFl := List.length_pos_iff.2 h2
        have hn : digs (I ++ (P ++ (F ++ rest))) = I.length := by rw [digs_app _ _ D.hI, h, List.cons_append, digs_stop _ (by rfl)]; omega
        have hd2 : l.drop (sg.length + I.length) = P ++ (F ++ rest) := by rw [← List.drop_drop, hd]; simp
        have hat : l[sg.length + I.length]? = some 46 := by
          have : l[sg.length + I.length]? = (P ++ (F ++ rest))[0]? := by rw [← hd2, List.getElem?_drop]; simp
          rw [this, h]; rfl
        have hd3 : l.drop (sg.length + I.length + 1) = F ++ rest := by rw [← List.drop_drop, hd2, h]; rfl
        have hnF : F.length ≤ digs (F ++ rest) := by rw [digs_app _ _ D.hF]; omega
        constructor
        · unfold some_; simp only []; rw [hs, hd, hn, hat, hd3]; exact decide_eq_true (.inr ⟨rfl, by omega⟩)
        · unfold bodyLen; simp only []; rw [hs, hd, hn, hat, hd3, if_pos ⟨rfl, by omega⟩, h]; simp; omega
    rw [hl]
    refine Nat.le_trans hbody.2 ?_
    unfold lenP
    simp only []
    rw [hbody.1, if_neg (by simp)]
    split <;> omega
  · rw [(glue_exp D hE rest).1]; omega
/-- a text's longest decimal, taken apart -/
theorem len_parts {l : List UInt8} (h : 0 < lenP l) : ∃ sg I P F E S2 X, Parts sg I P F E S2 X ∧ l.take (lenP l) = glue sg I P F E S2 X := by
  have hsome : some_ l = true := by
    cases hs : some_ l with
    | true => rfl
    | false => rw [lenP_none hs] at h; omega
  obtain ⟨A, hA⟩ : ∃ A, bodyLen l = A := ⟨_, rfl⟩
  have hAl := bodyLen_le l
  have ht := lenP_tail hsome hA
  have hk0 := sgn_le l
  have hn0 := digs_le (l.drop (sgn l))
  rw [List.length_drop] at hn0
  have e1 : l.take (sgn l + digs (l.drop (sgn l))) = l.take (sgn l) ++ intP l := by rw [List.take_add]; rfl
  have hItail : ∀ b ∈ intP l, isD b = true := by unfold intP; exact digs_all _
  have hFtail : ∀ b ∈ fracP l, isD b = true := by
    unfold fracP
    simp only []
    split
    · exact digs_all _
    · simp
  have hbody : ∃ P, l.take A = l.take (sgn l) ++ (intP l ++ (P ++ fracP l)) ∧ ((P = [] ∧ fracP l = []) ∨ (P = [46] ∧ fracP l ≠ [])) ∧ (intP l ≠ [] ∨ fracP l ≠ []) := by
    by_cases hd : l[sgn l + digs (l.drop (sgn l))]? = Option.some 46 ∧ 0 < digs (l.drop (sgn l + digs (l.drop (sgn l)) + 1))
    · have hF : fracP l = (l.drop (sgn l + digs (l.drop (sgn l)) + 1)).take (digs (l.drop (sgn l + digs (l.drop (sgn l)) + 1))) := by
        unfold fracP; simp only []; rw [if_pos hd]
      have hFl : (fracP l).length = digs (l.drop (sgn l + digs (l.drop (sgn l)) + 1)) := by
        have := digs_le (l.drop (sgn l + digs (l.drop (sgn l)) + 1))
        rw [hF, List.length_take]; omega
      have hA2 : A = sgn l + digs (l.drop (sgn l)) + 1 + digs (l.drop (sgn l + digs (l.drop (sgn l)) + 1)) := by
        rw [← hA]; unfold bodyLen; simp only []; rw [if_pos hd]
      have hFne : fracP l ≠ [] := by intro h0; rw [h0] at hFl; simp at hFl; omega
      refine ⟨[46], ?_, .inr ⟨rfl, hFne⟩, .inr hFne⟩
      rw [hA2, List.take_add, ← hF, take_snoc _ _ _ hd.1, e1]
      simp
    · have hF : fracP l = [] := by unfold fracP; simp only []; rw [if_neg hd]
      have hA2 : A = sgn l + digs (l.drop (sgn l)) := by
        rw [← hA]; unfold bodyLen; simp only []; rw [if_neg hd]
      have hIlen : (intP l).length = digs (l.drop (sgn l)) := by
        unfold intP; rw [List.length_take, List.length_drop]; omega
      refine ⟨[], ?_, .inl ⟨rfl, hF⟩, .inl ?_⟩
      · rw [hA2, e1, hF]; simp
      · intro h0
        rw [h0] at hIlen
        unfold some_ at hsome
        have hd2 := of_decide_eq_true hsome
        rcases hd2 with hd2 | hd2
        · simp at hIlen; omega
        · exact hd hd2
  obtain ⟨P, hb1, hb2, hb3⟩ := hbody
  by_cases hx : isE l[A]? = true ∧ 0 < digs (l.drop (A + 1 + sgn (l.drop (A + 1))))
  · have hL := ht.2 hx.1 _ _ rfl rfl
    rw [if_pos hx.2] at hL
    obtain ⟨e, he, hee⟩ : ∃ e, l[A]? = some e ∧ (e.toNat = 101 ∨ e.toNat = 69) := by
      rcases isE_cases l A with ⟨hge, hE⟩ | ⟨e, he, ⟨h1, _⟩ | ⟨h1, _⟩ | ⟨_, _, h3⟩⟩
      · rw [hE] at hx; exact absurd hx.1 (by simp)
      · exact ⟨e, he, .inl h1⟩
      · exact ⟨e, he, .inr h1⟩
      · rw [h3] at hx; exact absurd hx.1 (by simp)
    refine ⟨l.take (sgn l), intP l, P, fracP l, [e], (l.drop (A + 1)).take (sgn (l.drop (A + 1))), (l.drop (A + 1 + sgn (l.drop (A + 1)))).take (digs (l.drop (A + 1 + sgn (l.drop (A + 1))))), ⟨sgn_shape l, hItail, hFtail, hb2, .inr ⟨e, rfl, hee, ?_⟩, sgn_shape _, digs_all _, hb3⟩, ?_⟩
    · intro h0
      have h1 := congrArg List.length h0
      have := digs_le (l.drop (A + 1 + sgn (l.drop (A + 1))))
      rw [List.length_take, List.length_nil] at h1
      omega
    · rw [hL]
      unfold glue
      rw [← hb1]
      rw [List.take_add, List.take_add, take_snoc _ _ _ he]
      simp
  · have hL : lenP l = A := by
      cases hE : isE l[A]? with
      | false => exact ht.1 hE
      | true =>
        rw [hE] at hx
        have := ht.2 hE _ _ rfl rfl
        rw [if_neg (fun h => hx ⟨rfl, h⟩)] at this
        exact this
    refine ⟨l.take (sgn l), intP l, P, fracP l, [], [], [], ⟨sgn_shape l, hItail, hFtail, hb2, .inl ⟨rfl, rfl, rfl⟩, .inl rfl, by simp, hb3⟩, ?_⟩
    rw [hL]; unfold glue; rw [← hb1]; simp
/-- FixedBegins: the longest decimal is one -/
theorem begins_is (l : List UInt8) : isP (l.take (lenP l)) = decide (0 < lenP l) := by
  by_cases h : 0 < lenP l
  · obtain ⟨sg, I, P, F, E, S2, X, D, e⟩ := len_parts h
    rw [e, (glue_is D).1, decide_eq_true h]
  · have h0 : lenP l = 0 := by omega
    rw [h0]; rfl
/-- and none is longer -/
theorem begins_none (l : List UInt8) (k : Nat) (h : lenP l < k) (hk : k ≤ l.length) : isP (l.take k) = false := by
  cases hp : isP (l.take k) with
  | false => rfl
  | true =>
    exfalso
    obtain ⟨sg, I, P, F, E, S2, X, D⟩ := dec_of_isP hp
    have hD : l.take k = glue sg I P F E S2 X := D.all
    have := glue_le D.parts (l.drop k)
    rw [← hD, List.take_append_drop, List.length_take] at this
    omega
theorem lenP_le (l : List UInt8) : lenP l ≤ l.length := by
  by_cases h : 0 < lenP l
  · obtain ⟨sg, I, P, F, E, S2, X, D, e⟩ := len_parts h
    by_cases hle : lenP l ≤ l.length
    · exact hle
    · have h2 := (glue_is D).2.2.2.2
      rw [← e, List.take_of_length_le (by omega)] at h2
      omega
  · omega
end Go.Proofs.YthimfoonalfoeaaDoor
/- Layer 1: a printed number, parsed: plain laws. -/
set_option linter.unusedVariables false
set_option linter.unusedSimpArgs false
namespace Go.Proofs.YthimfoonalfoeaaDoor
open Go.RowKit Fx
namespace Fx
def fracD (r : Nat) : List UInt8 := (fracT r).drop 1
def fracPt (r : Nat) : List UInt8 := if r = 0 then [] else [46]
def scaleN (a : Nat) (e : Int) : Nat := if 0 ≤ e then 10 ^ e.toNat * a else a / 10 ^ (-e).toNat
end Fx
theorem frac_facts : ∀ r : Fin 1000, fracT r.val = fracPt r.val ++ fracD r.val ∧ (r.val ≠ 0 → fracD r.val ≠ []) ∧ (r.val = 0 → fracD r.val = []) ∧ (fracD r.val).all isD = true ∧ (fracD r.val).length ≤ 3 ∧ vA (fracD r.val) 3 = r.val := by decide +kernel
theorem dig_isD {n : Nat} (h : n < 10) : isD (dig n) = true ∧ dv (dig n) = n := by
  have : ∀ k : Fin 10, isD (dig k.val) = true ∧ dv (dig k.val) = k.val := by decide
  exact this ⟨n, h⟩
theorem dec_facts : ∀ k q, q ≤ k → (∀ b ∈ Lib.decDigits q, isD b = true) ∧ val (Lib.decDigits q) = q ∧ Lib.decDigits q ≠ [] := by
  intro k
  induction k with
  | zero =>
    intro q h
    obtain rfl : q = 0 := by omega
    rw [dec_small (by omega)]
    refine ⟨?_, by decide, by simp⟩
    intro b hb
    simp at hb; subst hb; decide
  | succ k ih =>
    intro q h
    by_cases h10 : q < 10
    · rw [dec_small h10]
      have := dig_isD h10
      refine ⟨?_, by simp [val, this.2], by simp⟩
      intro b hb
      simp at hb; subst hb; exact this.1
    · rw [dec_big (by omega)]
      obtain ⟨h1, h2, h3⟩ := ih (q / 10) (by omega)
      have := dig_isD (n := q % 10) (by omega)
      refine ⟨?_, ?_, by simp⟩
      · intro b hb
        rcases List.mem_append.1 hb with hb | hb
        · exact h1 b hb
        · simp at hb; subst hb; exact this.1
      · rw [val_snoc, h2, this.2]; omega
theorem vA_app (a b : List UInt8) (j : Nat) : vA (a ++ b) (a.length + j) = 10 ^ j * val a + vA b j := by
  induction j with
  | zero =>
    rw [Nat.add_zero, vA_append_len a b _ (Nat.le_refl _), val_vA a _ (Nat.le_refl _), List.take_length]; simp [vA]
  | succ j ih =>
    rw [← Nat.add_assoc, vA_succ, ih, vA_succ, List.getElem?_append_right (by omega), Nat.pow_succ, Nat.add_sub_cancel_left]
    have : 10 ^ j * 10 * val a = 10 * (10 ^ j * val a) := by rw [Nat.mul_comm (10 ^ j) 10, Nat.mul_assoc]
    omega
theorem vA_down (d : List UInt8) (h : ∀ b ∈ d, isD b = true) (i : Nat) : vA d i = vA d (i + 1) / 10 := by
  rw [vA_succ]
  have : ((d[i]?).map dv).getD 0 ≤ 9 := by
    cases hb : d[i]? with
    | none => simp
    | some b =>
      have := isD_range (h b (List.mem_of_getElem? hb))
      simp [dv]; omega
  omega
theorem vA_downs (d : List UInt8) (h : ∀ b ∈ d, isD b = true) (i k : Nat) : vA d i = vA d (i + k) / 10 ^ k := by
  induction k with
  | zero => simp
  | succ k ih => rw [ih, vA_down d h (i + k), Nat.div_div_eq_div_mul, Nat.pow_succ, Nat.mul_comm 10, ← Nat.add_assoc]
/-- the digits of a printed number -/
theorem print_digits (a : Nat) (e : Int) (he : -3 ≤ e) :
    foldN (Lib.decDigits (a / 1000) ++ fracD (a % 1000)) ((Lib.decDigits (a / 1000)).length + e + 3) = min (scaleN a e) M := by
  obtain ⟨h1, h2, h3⟩ := dec_facts _ (a / 1000) (Nat.le_refl _)
  obtain ⟨f1, f2, f3, f4, f5, f6⟩ := frac_facts ⟨a % 1000, by omega⟩
  simp only [] at f1 f2 f3 f4 f5 f6
  have hI := List.length_pos_iff.2 h3
  obtain ⟨I, hIe⟩ : ∃ I, Lib.decDigits (a / 1000) = I := ⟨_, rfl⟩
  obtain ⟨F, hFe⟩ : ∃ F, fracD (a % 1000) = F := ⟨_, rfl⟩
  rw [hIe] at h1 h2 h3 hI ⊢
  rw [hFe] at f2 f3 f4 f5 f6 ⊢
  have hall : ∀ b ∈ I ++ F, isD b = true := by
    intro b hb
    rcases List.mem_append.1 hb with hb | hb
    · exact h1 b hb
    · exact List.all_eq_true.1 f4 b hb
  have h0 : vA (I ++ F) (I.length + 3) = a := by rw [vA_app, h2, f6]; omega
  unfold foldN scaleN
  congr 1
  by_cases hp : 0 ≤ e
  · rw [if_pos hp, show (((I.length : Int) + e + 3).toNat) = (I.length + 3) + e.toNat by omega, vA_past _ (by rw [List.length_append]; omega), h0]
  · rw [if_neg hp, vA_downs _ hall (((I.length : Int) + e + 3).toNat) (-e).toNat, show ((I.length : Int) + e + 3).toNat + (-e).toNat = I.length + 3 by omega, h0]
theorem printN_parts (neg : Bool) (a : Nat) (E S2 X : List UInt8)
    (hE : (E = [] ∧ S2 = [] ∧ X = []) ∨ (∃ e, E = [e] ∧ (e.toNat = 101 ∨ e.toNat = 69) ∧ X ≠ [])) (hS : S2 = [] ∨ ∃ b, S2 = [b] ∧ (b.toNat = 43 ∨ b.toNat = 45)) (hX : ∀ b ∈ X, isD b = true) :
    Parts (if neg = true then [45] else []) (Lib.decDigits (a / 1000)) (fracPt (a % 1000)) (fracD (a % 1000)) E S2 X
      ∧ (if neg = true then [45] else []) ++ printN a ++ (E ++ (S2 ++ X)) = glue (if neg = true then [45] else []) (Lib.decDigits (a / 1000)) (fracPt (a % 1000)) (fracD (a % 1000)) E S2 X := by
  obtain ⟨h1, h2, h3⟩ := dec_facts _ (a / 1000) (Nat.le_refl _)
  obtain ⟨f1, f2, f3, f4, f5, f6⟩ := frac_facts ⟨a % 1000, by omega⟩
  simp only [] at f1 f2 f3 f4 f5 f6
  refine ⟨⟨?_, h1, List.all_eq_true.1 f4, ?_, hE, hS, hX, .inl h3⟩, ?_⟩
  · cases neg
    · exact .inl rfl
    · exact .inr ⟨45, rfl, .inr rfl⟩
  · by_cases h0 : a % 1000 = 0
    · exact .inl ⟨by rw [h0]; rfl, f3 h0⟩
    · exact .inr ⟨if_neg h0, f2 h0⟩
  · unfold glue printN; rw [f1]
theorem glue_head {sg I P F E S2 X : List UInt8} (hI : ∀ b ∈ I, isD b = true) (hne : I ≠ []) (neg : Bool) (hs : sg = if neg = true then [45] else []) : ((glue sg I P F E S2 X)[0]? = some 45) = (neg = true) := by
  cases neg with
  | true => simp only [if_true] at hs; rw [hs]; simp [glue]
  | false =>
    simp only [Bool.false_eq_true, if_false] at hs
    rw [hs]
    cases I with
    | nil => exact absurd rfl hne
    | cons b I =>
      have := isD_range (hI b (by simp))
      simp [glue]
      intro h; subst h; revert this; decide
/-- a printed number with an exponent is so many times as much -/
theorem parse_made (neg : Bool) (a : Nat) (E S2 X : List UInt8)
    (hE : (E = [] ∧ S2 = [] ∧ X = []) ∨ (∃ e, E = [e] ∧ (e.toNat = 101 ∨ e.toNat = 69) ∧ X ≠ [])) (hS : S2 = [] ∨ ∃ b, S2 = [b] ∧ (b.toNat = 43 ∨ b.toNat = 45)) (hX : ∀ b ∈ X, isD b = true)
    (e : Int) (he : powP (S2 ++ X) = e) (h3 : -3 ≤ e) (l : List UInt8) (hl : l = (if neg = true then [45] else []) ++ printN a ++ (E ++ (S2 ++ X))) :
    isP l = true ∧ lenP l = l.length ∧ parseP l = if neg = true then -((min (scaleN a e) M : Nat) : Int) else ((min (scaleN a e) M : Nat) : Int) := by
  obtain ⟨D, hg⟩ := printN_parts neg a E S2 X hE hS hX
  rw [hg] at hl
  obtain ⟨g1, g2, g3, g4, g5⟩ := glue_is D
  rw [hl]
  refine ⟨g1, g5, ?_⟩
  obtain ⟨h1, h2, h4⟩ := dec_facts _ (a / 1000) (Nat.le_refl _)
  unfold parseP numP
  rw [if_pos g1, g2, g3, g4, he, print_digits a e h3]
  simp only [glue_head h1 h4 neg rfl]
theorem parse_print (n : Int) : isP (printP n) = true ∧ lenP (printP n) = (printP n).length ∧ parseP (printP n) = stopZ n := by
  obtain ⟨neg, a, ha, hs, hn, hp⟩ := stop_form n
  obtain ⟨h1, h2, h3⟩ := parse_made neg a [] [] [] (.inl ⟨rfl, rfl, rfl⟩) (.inl rfl) (by simp) 0 rfl (by omega) (printP n) (by rw [hp]; simp)
  refine ⟨h1, h2, ?_⟩
  rw [h3, hs]
  have : min (scaleN a 0) M = a := by unfold scaleN M; simp; omega
  rw [this]
theorem printP_len (n : Int) : (printP n).length ≤ 20 := by
  obtain ⟨neg, a, ha, hs, hn, hp⟩ := stop_form n
  rw [hp]
  have h1 := deci_len (a / 1000) (by omega)
  obtain ⟨f1, f2, f3, f4, f5, f6⟩ := frac_facts ⟨a % 1000, by omega⟩
  simp only [] at f1 f5
  unfold printN
  rw [f1]
  have : (fracPt (a % 1000)).length ≤ 1 := by unfold fracPt; split <;> simp
  simp only [List.length_append]
  cases neg <;> simp <;> omega
namespace Fx
/-- what the law's loops make of a number -/
def ups (n : Int) : Nat → Int
  | 0 => n
  | k + 1 => ups n k * 10
def downs (n : Int) : Nat → Int
  | 0 => n
  | k + 1 => (downs n k).tdiv 10
def shiftZ (n e : Int) : Int := downs (ups n e.toNat) (-e).toNat
/-- the law's exponents -/
def expT (e : Int) : List UInt8 := if e = -3 then [45, 51] else if e = -2 then [45, 50] else if e = -1 then [45, 49] else if e = 0 then [48] else if e = 1 then [43, 49] else if e = 2 then [50] else [51]
end Fx
theorem ups_abs (n : Int) (k : Nat) : ups n k = n * 10 ^ k := by
  induction k with
  | zero => simp [ups]
  | succ k ih => rw [ups, ih, Int.pow_succ, Int.mul_assoc]
theorem tdiv10 (x : Nat) : (x : Int).tdiv 10 = ((x / 10 : Nat) : Int) := by rw [Int.tdiv_eq_ediv_of_nonneg (by omega)]; omega
theorem downs_pos (a k : Nat) : downs (a : Int) k = ((a / 10 ^ k : Nat) : Int) := by
  induction k with
  | zero => simp [downs]
  | succ k ih => rw [downs, ih, tdiv10, Nat.div_div_eq_div_mul, Nat.pow_succ]
theorem downs_neg (a k : Nat) : downs (-(a : Int)) k = -((a / 10 ^ k : Nat) : Int) := by
  induction k with
  | zero => simp [downs]
  | succ k ih => rw [downs, ih, Int.neg_tdiv, tdiv10, Nat.div_div_eq_div_mul, Nat.pow_succ]
theorem shift_parse (n e : Int) (h1 : -1073741824 ≤ n) (h2 : n ≤ 1073741824) (h3 : -3 ≤ e) (h4 : e ≤ 3) :
    isP (printP n ++ 101 :: expT e) = true ∧ parseP (printP n ++ 101 :: expT e) = stopZ (shiftZ n e) := by
  have hst : stopZ n = n := stopZ_of (by omega) (by omega)
  obtain ⟨neg, a, ha, hs, hn, hp⟩ := stop_form n
  rw [hst] at hs
  have hab : a ≤ 1073741824 := by cases neg <;> simp at hs <;> omega
  have key : ∀ (S2 X : List UInt8), expT e = S2 ++ X → X ≠ [] → (S2 = [] ∨ ∃ b, S2 = [b] ∧ (b.toNat = 43 ∨ b.toNat = 45)) → (∀ b ∈ X, isD b = true) → powP (S2 ++ X) = e →
      isP (printP n ++ 101 :: expT e) = true ∧ parseP (printP n ++ 101 :: expT e) = if neg = true then -((min (scaleN a e) M : Nat) : Int) else ((min (scaleN a e) M : Nat) : Int) := by
    intro S2 X h5 h6 h7 h8 h9
    obtain ⟨r1, r2, r3⟩ := parse_made neg a [101] S2 X (.inr ⟨101, rfl, .inl rfl, h6⟩) h7 h8 e h9 h3 (printP n ++ 101 :: expT e) (by rw [hp, h5]; simp)
    exact ⟨r1, r3⟩
  have fin : (isP (printP n ++ 101 :: expT e) = true ∧ parseP (printP n ++ 101 :: expT e) = if neg = true then -((min (scaleN a e) M : Nat) : Int) else ((min (scaleN a e) M : Nat) : Int)) := by
    have h : e = -3 ∨ e = -2 ∨ e = -1 ∨ e = 0 ∨ e = 1 ∨ e = 2 ∨ e = 3 := by omega
    rcases h with rfl | rfl | rfl | rfl | rfl | rfl | rfl
    · exact key [45] [51] rfl (by simp) (.inr ⟨45, rfl, .inr rfl⟩) (by decide) (by decide)
    · exact key [45] [50] rfl (by simp) (.inr ⟨45, rfl, .inr rfl⟩) (by decide) (by decide)
    · exact key [45] [49] rfl (by simp) (.inr ⟨45, rfl, .inr rfl⟩) (by decide) (by decide)
    · exact key [] [48] rfl (by simp) (.inl rfl) (by decide) (by decide)
    · exact key [43] [49] rfl (by simp) (.inr ⟨43, rfl, .inl rfl⟩) (by decide) (by decide)
    · exact key [] [50] rfl (by simp) (.inl rfl) (by decide) (by decide)
    · exact key [] [51] rfl (by simp) (.inl rfl) (by decide) (by decide)
  refine ⟨fin.1, ?_⟩
  rw [fin.2]
  clear fin key hp
  have hsh : shiftZ n e = if neg = true then -((scaleN a e : Nat) : Int) else ((scaleN a e : Nat) : Int) := by
    unfold shiftZ scaleN
    by_cases hp : 0 ≤ e
    · rw [if_pos hp, show (-e).toNat = 0 by omega]
      show ups n e.toNat = _
      rw [ups_abs]
      cases neg <;> simp only [Bool.false_eq_true, if_false, if_true] at hs ⊢ <;> rw [hs]
      · push_cast; rw [Int.mul_comm]
      · push_cast; rw [Int.neg_mul, Int.mul_comm]
    · rw [if_neg hp, show e.toNat = 0 by omega]
      show downs n _ = _
      cases neg <;> simp only [Bool.false_eq_true, if_false, if_true] at hs ⊢ <;> rw [hs]
      · rw [downs_pos]
      · rw [downs_neg]
  rw [hsh]
  generalize scaleN a e = x
  unfold stopZ M
  cases neg <;> simp only [Bool.false_eq_true, if_false, if_true] <;> omega
end Go.Proofs.YthimfoonalfoeaaDoor
/- Layer 4: a printed number ahead of a name: how long its decimal is. Plain laws. -/
set_option linter.unusedVariables false
set_option linter.unusedSimpArgs false
namespace Go.Proofs.YthimfoonalfoeaaDoor
open Go.RowKit Rn Tk Fx
namespace Nm
/-- what stands there is no digit, no point, no e -/
def StopM (y : List UInt8) : Prop := ∀ b t, y = b :: t → isD b = false ∧ b.toNat ≠ 46 ∧ b.toNat ≠ 101 ∧ b.toNat ≠ 69
theorem stop_isD {y : List UInt8} (h : StopM y) : digs y = 0 := by
  cases y with
  | nil => rfl
  | cons b t =>
    unfold digs
    rw [List.takeWhile_cons, if_neg (by simp [(h b t rfl).1])]; rfl
theorem digs_app (x y : List UInt8) (h : StopM y) : digs (x ++ y) = digs x := by
  induction x with
  | nil => rw [List.nil_append, stop_isD h]; rfl
  | cons b t ih =>
    unfold digs at ih ⊢
    rw [List.cons_append, List.takeWhile_cons, List.takeWhile_cons]
    split
    · simp only [List.length_cons, ih]
    · rfl
theorem sgn_app (x y : List UInt8) (h : x ≠ []) : sgn (x ++ y) = sgn x := by
  obtain ⟨b, t, rfl⟩ := List.exists_cons_of_ne_nil h
  rfl
theorem get_app (x y : List UInt8) (h : StopM y) {i : Nat} (hi : i ≤ x.length) : ((x ++ y)[i]? = some 46 ↔ x[i]? = some 46) ∧ isE (x ++ y)[i]? = isE x[i]? := by
  by_cases hl : i < x.length
  · rw [List.getElem?_append_left hl]; exact ⟨Iff.rfl, rfl⟩
  · rw [List.getElem?_append_right (by omega), show i - x.length = 0 by omega, List.getElem?_eq_none (by omega : x.length ≤ i)]
    cases y with
    | nil => exact ⟨Iff.rfl, rfl⟩
    | cons b t =>
      have := h b t rfl
      refine ⟨⟨fun hb => ?_, fun hb => by cases hb⟩, ?_⟩
      · simp at hb; subst hb; exact absurd rfl this.2.1
      · simp [isE]; omega
theorem frac_app (x y : List UInt8) (h : StopM y) {a : Nat} (ha : a ≤ x.length) : ((x ++ y)[a]? = some 46 ∧ 0 < digs ((x ++ y).drop (a + 1))) ↔ (x[a]? = some 46 ∧ 0 < digs (x.drop (a + 1))) := by
  have hg := (get_app x y h ha).1
  constructor
  · rintro ⟨h1, h2⟩
    have h3 := hg.1 h1
    have hlt := (List.getElem?_eq_some_iff.1 h3).1
    rw [Np.drop_app x y (by omega), digs_app _ y h] at h2
    exact ⟨h3, h2⟩
  · rintro ⟨h1, h2⟩
    have hlt := (List.getElem?_eq_some_iff.1 h1).1
    rw [Np.drop_app x y (by omega), digs_app _ y h]
    exact ⟨hg.2 h1, h2⟩
theorem body_app (x y : List UInt8) (hx : x ≠ []) (h : StopM y) : bodyLen (x ++ y) = bodyLen x := by
  unfold bodyLen
  simp only [sgn_app x y hx, Np.drop_app x y (Np.sgn_len x), digs_app _ y h]
  have hf := frac_app x y h (Np.int_len x)
  by_cases hc : x[sgn x + digs (x.drop (sgn x))]? = some 46 ∧ 0 < digs (x.drop (sgn x + digs (x.drop (sgn x)) + 1))
  · have hlt := (List.getElem?_eq_some_iff.1 hc.1).1
    rw [if_pos hc, if_pos (hf.2 hc), Np.drop_app x y (by omega), digs_app _ y h]
  · rw [if_neg hc, if_neg (fun h' => hc (hf.1 h'))]
theorem some_app (x y : List UInt8) (hx : x ≠ []) (h : StopM y) : some_ (x ++ y) = some_ x := by
  unfold some_
  simp only [sgn_app x y hx, Np.drop_app x y (Np.sgn_len x), digs_app _ y h]
  rw [Bool.eq_iff_iff, decide_eq_true_iff, decide_eq_true_iff, frac_app x y h (Np.int_len x)]
/-- a decimal without an exponent, all of it, stays as long -/
theorem len_app (x y : List UInt8) (hx : x ≠ []) (h : StopM y) (hb : bodyLen x = x.length) : lenP (x ++ y) = lenP x := by
  unfold lenP
  rw [some_app x y hx h]
  split
  · rfl
  simp only [body_app x y hx h]
  have hg := (get_app x y h (i := bodyLen x) (by omega)).2
  have hn : isE x[bodyLen x]? = false := by rw [hb, List.getElem?_eq_none (Nat.le_refl _)]; rfl
  rw [hg, hn]
  simp
end Nm
theorem dig_frac : ∀ r : Fin 1000, ∀ b ∈ fracT r.val, isD b = true ∨ b = 46 := by decide +kernel
theorem printP_bytes (n : Int) : ∀ b ∈ Fx.printP n, isD b = true ∨ b = 45 ∨ b = 46 := by
  intro b hb
  unfold Fx.printP at hb
  rcases List.mem_append.1 hb with hb | hb
  · split at hb
    · exact .inr (.inl (by simpa using hb))
    · cases hb
  · unfold printN at hb
    rcases List.mem_append.1 hb with hb | hb
    · exact .inl ((dec_facts _ _ (Nat.le_refl _)).1 b hb)
    · have hm : (stopZ n).natAbs % 1000 < 1000 := Nat.mod_lt _ (by omega)
      rcases dig_frac ⟨_, hm⟩ b hb with h | h
      · exact .inl h
      · exact .inr (.inr h)
theorem printP_ne (n : Int) : Fx.printP n ≠ [] := by
  have h := (dec_facts _ ((stopZ n).natAbs / 1000) (Nat.le_refl _)).2.2
  unfold Fx.printP printN
  intro e
  have := (List.append_eq_nil_iff.1 e).2
  exact h (List.append_eq_nil_iff.1 this).1
theorem printP_body (n : Int) : bodyLen (Fx.printP n) = (Fx.printP n).length := by
  have hp := (parse_print n).2.1
  have hb := Np.body_len (Fx.printP n)
  have hne := printP_ne n
  have hpos := List.length_pos_iff.2 hne
  have hE : isE (Fx.printP n)[bodyLen (Fx.printP n)]? = false := by
    cases h : (Fx.printP n)[bodyLen (Fx.printP n)]? with
    | none => rfl
    | some b =>
      have := printP_bytes n b (List.mem_of_getElem? h)
      unfold isE
      simp only
      rcases this with h1 | rfl | rfl
      · unfold isD at h1; simp at h1 ⊢; omega
      · decide
      · decide
  unfold lenP at hp
  split at hp
  · omega
  · simp only [hE] at hp
    simpa using hp
end Go.Proofs.YthimfoonalfoeaaDoor
/- runes.Lower and runes.Hex are walked. -/
set_option linter.unusedVariables false
set_option linter.unusedSimpArgs false
namespace Go.Proofs.YthimfoonalfoeaaDoor
open Go.RowKit Rn
namespace Rn
def low8 (b : UInt8) : UInt8 := if 65 ≤ b.toNat ∧ b.toNat ≤ 90 then b + 32 else b
def lowerP (bs : List UInt8) : List UInt8 := bs.map low8
end Rn
/-- []byte(s): a new block. -/
theorem conv_bytes {P : Program} {src dst e : TypeId} (hs : P.underlying src = some .string) (hd : P.underlying dst = some (.slice e)) (he : P.underlying e = some (.int .u8)) (w : World) (s : ByteArray) :
    ∃ c W1, (convert src dst (.string s)).run P w = .ok (.slice (some ⟨w.heap.size, 0, none⟩) s.size c) W1 ∧ s.size ≤ c ∧ Below w.heap.size w W1 ∧ RowAt W1 w.heap.size (s.data.toList.map b8) := by
  refine ⟨_, _, run_bytes_of_string w src dst e s hs hd he, grownCap_ge _ _ _ _, ((Below.refl _ _).drew).alloc (Nat.le_refl _) _, by simp, fun j u hu => ?_⟩
  have hj : j < s.data.toList.length := by
    have := (List.getElem?_eq_some_iff.1 hu).1
    simpa using this
  have hu' : u = b8 s.data.toList[j] := by
    rw [List.getElem?_map, List.getElem?_eq_getElem hj] at hu
    simpa using hu.symm
  subst hu'
  have hj2 : j < s.data.size := by simpa using hj
  have hj3 : j < s.size := hj2
  refine ⟨?_, ?_⟩
  · simp only [World.cell?, World.drew, World.alloc]
    simp [bytesRow, Array.getElem?_append, b8]
    rw [if_pos hj3, Array.getElem?_eq_getElem hj2]
    rfl
  · simp only [World.frozen?, World.drew, World.alloc]
    simp [bytesRow]
    omega

def LowRel (s : List UInt8) (g B : Nat) (w : World) (i : Value) (wr : World) : Prop := ∃ k : Nat, k ≤ s.length ∧ i = .int .i64 k ∧ RowAt wr g ((lowerP (s.take k) ++ s.drop k).map b8) ∧ Below B w wr
end Go.Proofs.YthimfoonalfoeaaDoor
/- runes.Hex is walked. -/
set_option linter.unusedVariables false
set_option linter.unusedSimpArgs false
namespace Go.Proofs.YthimfoonalfoeaaDoor
open Go.RowKit Rn
def hexText : ByteArray := ⟨#[48, 49, 50, 51, 52, 53, 54, 55, 56, 57, 97, 98, 99, 100, 101, 102]⟩
theorem hex_ascii : ∀ c : Fin 128, Lib.indexByte hexText.data.toList (low8 (UInt8.ofNat c.val)) = hexI (c.val : Int) := by decide +kernel
theorem hex_high : ∀ c : Fin 256, 128 ≤ c.val → Lib.indexByte hexText.data.toList (low8 (UInt8.ofNat c.val)) = -1 := by decide +kernel
theorem hex_first (c : Int) (hc : -2147483648 ≤ c ∧ c ≤ 2147483647) : ∃ b0, (lowerP (writeP [c]))[0]? = some b0 ∧ Lib.indexByte hexText.data.toList b0 = hexI c := by
  have hw : writeP [c] = Lib.encodeRune c := by simp [writeP]
  rw [hw]
  by_cases ha : 0 ≤ c ∧ c ≤ 127
  · refine ⟨low8 (UInt8.ofNat c.toNat), ?_, ?_⟩
    · simp only [Lib.encodeRune, Lib.encodeRuneZ_one ha.1 ha.2, lowerP, List.map_cons, List.map_nil, List.getElem?_cons_zero]
    · have := hex_ascii ⟨c.toNat, by omega⟩
      rw [this]
      have e : ((c.toNat : Nat) : Int) = c := by omega
      show hexI ((c.toNat : Nat) : Int) = hexI c
      rw [e]
  · have hx : hexI c = -1 := by unfold hexI; (repeat' split) <;> omega
    have : ∃ z : Int, 128 ≤ z ∧ z < 256 ∧ (Lib.encodeRune c)[0]? = some (UInt8.ofNat z.toNat) := by
      unfold Lib.encodeRune
      by_cases h2 : 128 ≤ c ∧ c ≤ 2047
      · rw [Lib.encodeRuneZ_two h2.1 h2.2]; exact ⟨192 + c / 64, by omega, by omega, rfl⟩
      · by_cases h3 : (2048 ≤ c ∧ c < 55296) ∨ (57343 < c ∧ c ≤ 65535)
        · rw [Lib.encodeRuneZ_three h3]; exact ⟨224 + c / 4096, by omega, by omega, rfl⟩
        · by_cases h4 : 65536 ≤ c ∧ c ≤ 1114111
          · rw [Lib.encodeRuneZ_four h4.1 h4.2]; exact ⟨240 + c / 262144, by omega, by omega, rfl⟩
          · rw [Lib.encodeRuneZ_bad (by omega)]; exact ⟨239, by omega, by omega, rfl⟩
    obtain ⟨z, z1, z2, hz⟩ := this
    refine ⟨low8 (UInt8.ofNat z.toNat), by rw [lowerP, List.getElem?_map, hz]; rfl, ?_⟩
    rw [hx]
    exact hex_high ⟨z.toNat, by omega⟩ (by simp; omega)

end Go.Proofs.YthimfoonalfoeaaDoor
/- Layer 3: the scanner in memory: where its place lies, and what a step leaves as it was. -/
set_option linter.unusedVariables false
set_option linter.unusedSimpArgs false
namespace Go.Proofs.YthimfoonalfoeaaDoor
open Go.RowKit Rn Tk
/-- The scanner at block S stands at character k of l; its place lies at block P; the characters below B. -/
structure At (w : World) (B S P : Nat) (A : Option Addr) (n cap : Nat) (l : List Int) (k : Nat) : Prop where
  s0 : w.cell? ⟨S, 0, none⟩ = some (.pointer (some ⟨P, 0, none⟩))
  p0 : w.cell? ⟨P, 0, none⟩ = some (.slice A n cap)
  p1 : w.cell? ⟨P, 1, none⟩ = some (.int .i64 (k : Int))
  fz : w.frozen? ⟨P, 1, none⟩ = false
  rd : Reads w B 1 A n (l.map r32)
  hB : B ≤ P
  hPS : P < S
  hS : S < w.heap.size
  hk : k ≤ n
  hn : n ≤ 1000000
  hc : n ≤ cap
  hm : cap ≤ maxLen
/-- What a step that moves the place may turn: block P alone. -/
abbrev Mv (P : Nat) (w w' : World) : Prop := w.grownBy w' (some P)
section
variable {w w' : World} {B S P n cap k : Nat} {A : Option Addr} {l : List Int}
theorem At.len (h : At w B S P A n cap l k) : l.length = n := by simpa using h.rd.len
theorem At.mv (h : At w B S P A n cap l k) (hb : w.grownBy w' none) : At w' B S P A n cap l k := by
  have hS := h.hS
  have hP := h.hPS
  have key : ∀ p : Addr, p.block < w.heap.size → w'.cell? p = w.cell? p := fun p hp => hb.cell_far p hp (by simp)
  exact { s0 := (key _ hS).trans h.s0, p0 := (key _ (Nat.lt_trans hP hS)).trans h.p0, p1 := (key _ (Nat.lt_trans hP hS)).trans h.p1, fz := (hb.frozen_far _ (Nat.lt_trans hP hS) (by simp)).trans h.fz, rd := h.rd.keep fun p hp => key p (Nat.lt_of_lt_of_le hp (by have := h.hB; omega)), hB := h.hB, hPS := h.hPS, hS := Nat.lt_of_lt_of_le hS hb.size, hk := h.hk, hn := h.hn, hc := h.hc, hm := h.hm }
theorem At.store (h : At w B S P A n cap l k) {k' : Nat} (hk : k' ≤ n) : At (w.setCell ⟨P, 1, none⟩ (.int .i64 (k' : Int))) B S P A n cap l k' := by
  have hS := h.hS
  have hP := h.hPS
  have hB := h.hB
  have other : ∀ p : Addr, p ≠ ⟨P, 1, none⟩ → (w.setCell ⟨P, 1, none⟩ (.int .i64 (k' : Int))).cell? p = w.cell? p := fun p hp => World.cell?_setCell_other w _ _ _ (Ne.symm hp)
  exact { s0 := (other _ (by intro e; injection e; omega)).trans h.s0, p0 := (other _ (by intro e; injection e; omega)).trans h.p0, p1 := World.cell?_setCell_same _ _ _ h.p1, fz := (World.frozen?_setCell _ _ _ _).trans h.fz, rd := h.rd.setCell hB _, hB := hB, hPS := hP, hS := by simpa [World.setCell] using hS, hk := hk, hn := h.hn, hc := h.hc, hm := h.hm }
end
theorem Mv.refl (P : Nat) (w : World) : Mv P w w := World.grownBy.refl _ _
theorem Mv.store (w : World) (P : Nat) (v : Value) : Mv P w (w.setCell ⟨P, 1, none⟩ v) := by
  refine ⟨rfl, rfl, rfl, by simp [World.setCell], fun i hi hne => ?_⟩
  simp only [World.setCell]
  rw [Array.getElem?_modify]
  rw [if_neg (fun e => hne (by rw [e]))]
theorem Mv.of {P : Nat} {w w' : World} (h : w.grownBy w' none) : Mv P w w' := h.but _
theorem grown_below {w w' : World} (h : w.grownBy w' none) : Below w.heap.size w w' := ⟨h.os, h.tape, h.output, h.size, fun i hi => h.block i hi (by simp)⟩
theorem below_grown {w w' : World} (h : Below w.heap.size w w') : w.grownBy w' none := ⟨h.os, h.tape, h.output, h.size, fun i hi _ => h.block i hi⟩
theorem grown_drewN (w : World) (q : Nat) : w.grownBy (w.drewN q) none := ⟨rfl, rfl, rfl, Nat.le_refl _, fun _ _ _ => rfl⟩
theorem pk_at {l : List Int} {k m : Nat} (h : k + m < l.length) : l[k + m]? = some (pk (l.drop k) m) := by
  rw [pk_drop, pk, List.getElem?_eq_getElem h]; rfl
theorem pk_end {l : List Int} {k m : Nat} (h : l.length ≤ k + m) : pk (l.drop k) m = -1 := by
  rw [pk_drop, pk, List.getElem?_eq_none h]; rfl
theorem pk_shift (l : List Int) (k m i : Nat) : pk (l.drop k) (m + i) = pk (l.drop (k + m)) i := by rw [pk_drop, pk_drop, Nat.add_assoc]
theorem eq_f {a b : Int} (h : ¬ a = b) : (a == b) = false := by simpa using h
theorem eq_t {a b : Int} (h : a = b) : (a == b) = true := by simpa using h
end Go.Proofs.YthimfoonalfoeaaDoor
/- Layer 3: does a name begin here? is walked. -/
set_option linter.unusedVariables false
set_option linter.unusedSimpArgs false
namespace Go.Proofs.YthimfoonalfoeaaDoor
open Go.RowKit Rn Tk
end Go.Proofs.YthimfoonalfoeaaDoor
/- Layer 3: what an escape means is walked. -/
set_option linter.unusedVariables false
set_option linter.unusedSimpArgs false
namespace Go.Proofs.YthimfoonalfoeaaDoor
open Go.RowKit Rn Tk
def Chars (l : List Int) : Prop := ∀ c ∈ l, isB c = true
theorem isB_range {c : Int} (h : isB c = true) : 0 ≤ c ∧ c ≤ 1114111 := by unfold isB at h; simp at h; omega
theorem pk_range {l : List Int} (h : Chars l) (m : Nat) : -1 ≤ pk l m ∧ pk l m ≤ 1114111 := by
  unfold pk
  cases hm : l[m]? with
  | none => simp
  | some c => have := isB_range (h c (List.mem_of_getElem? hm)); simp; omega
theorem pk_is {l : List Int} (h : Chars l) {m : Nat} (hm : m < l.length) : isB (pk l m) = true := by
  unfold pk; rw [List.getElem?_eq_getElem hm]; exact h _ (List.getElem_mem hm)
theorem pk_pos {l : List Int} {m : Nat} (hm : -1 < pk l m) : m < l.length := by
  unfold pk at hm
  cases hx : l[m]? with
  | none => rw [hx] at hm; simp at hm
  | some c => exact (List.getElem?_eq_some_iff.1 hx).1
theorem Chars.drop {l : List Int} (h : Chars l) (k : Nat) : Chars (l.drop k) := fun c hc => h c (List.mem_of_mem_drop hc)
theorem Chars.tail {l : List Int} (h : Chars l) : Chars l.tail := fun c hc => h c (List.mem_of_mem_tail hc)
theorem hexI_range (c : Int) : -1 ≤ hexI c ∧ hexI c ≤ 15 := by unfold hexI; (repeat' split) <;> omega
theorem hexI_pos {c : Int} (h : 0 ≤ hexI c) : 48 ≤ c := by unfold hexI at h; (repeat' split at h) <;> omega
theorem hexes_yes {f n : Nat} {r : List Int} (h : 0 ≤ hexI (pk r 0)) : hexes (f + 1) n r = hexes f (16 * n + (hexI (pk r 0)).toNat) r.tail := by rw [hexes, if_pos h]
theorem hexes_no {f n : Nat} {r : List Int} (h : hexI (pk r 0) < 0) : hexes f n r = (n, r) := by cases f <;> unfold hexes <;> simp; omega
end Go.Proofs.YthimfoonalfoeaaDoor
set_option linter.unusedVariables false
set_option linter.unusedSimpArgs false
namespace Go.Proofs.YthimfoonalfoeaaDoor
open Go.RowKit Rn Tk
section
variable {w w' w1 w2 : World} {B S P n cap k : Nat} {A : Option Addr} {l : List Int} {row : Option Nat}
theorem At.grown (h : At w B S P A n cap l k) (hg : w.grownBy w' row) (hr : ∀ g, row = some g → S < g) : At w' B S P A n cap l k := by
  have hS := h.hS
  have hP := h.hPS
  have hBP := h.hB
  have ne : ∀ b, b ≤ S → some b ≠ row := fun b hb e => by have := hr b e.symm; omega
  have key : ∀ p : Addr, p.block ≤ S → w'.cell? p = w.cell? p := fun p hp => hg.cell_far p (by omega) (ne _ hp)
  exact { s0 := (key _ (Nat.le_refl _)).trans h.s0, p0 := (key _ (Nat.le_of_lt hP)).trans h.p0, p1 := (key _ (Nat.le_of_lt hP)).trans h.p1, fz := (hg.frozen_far _ (by simp only []; omega) (ne _ (Nat.le_of_lt hP))).trans h.fz, rd := h.rd.keep fun p hp => key p (by omega), hB := h.hB, hPS := h.hPS, hS := Nat.lt_of_lt_of_le hS hg.size, hk := h.hk, hn := h.hn, hc := h.hc, hm := h.hm }
theorem Mv.push {o : Obj} {e : TypeId} {size m : Nat} {v : Value} {xs : List Value} (h : Mv P w w1) (hown : w1.ownsRow w.heap.size e size v m xs) (hg : (w1.alloc o).grownBy w2 v.ownBlock) : Mv P w w2 :=
  (h.trans (Mv.of (World.grownBy_alloc _ _ _))).andThen hg fun j hj => .inl (hown.lt j hj).1
theorem At.push {o : Obj} {e : TypeId} {size m base : Nat} {v : Value} {xs : List Value} (h : At w1 B S P A n cap l k) (hS : S < base) (hown : w1.ownsRow base e size v m xs) (hg : (w1.alloc o).grownBy w2 v.ownBlock) : At w2 B S P A n cap l k :=
  (h.mv (World.grownBy_alloc _ _ _)).grown hg fun g hgr => Nat.lt_of_lt_of_le hS (hown.lt g hgr).1
theorem own_mv {e : TypeId} {size m base : Nat} {v : Value} {xs : List Value} (h : w.ownsRow base e size v m xs) (hP : P < base) (hm : Mv P w w') : w'.ownsRow base e size v m xs := by
  refine h.kept hm ?_
  cases hb : v.ownBlock with
  | none => exact .inl rfl
  | some g => refine .inr ?_; intro hg; injection hg with hg; have := (h.lt g hb).1; omega
end
def posOf (P : Nat) (w : World) : Nat := match w.cell? ⟨P, 1, none⟩ with
  | some (.int _ z) => z.toNat
  | _ => 0
theorem At.pos {w : World} {B S P n cap k : Nat} {A : Option Addr} {l : List Int} (h : At w B S P A n cap l k) : posOf P w = k := by
  unfold posOf; rw [h.p1]; simp
theorem rune_info : (Tryd.prog.info? 21).map (fun i => (i.zero, i.size, i.bytes)) = some (some (.int .i32 0), 1, 4) := by kernel_rfl
theorem info_got {o : Option TypeInfo} {z : Value} {s b : Nat} (h : o.map (fun i => (i.zero, i.size, i.bytes)) = some (some z, s, b)) : ∃ i, o = some i ∧ i.zero = some z ∧ i.size = s ∧ i.bytes = b := by
  cases o with
  | none => cases h
  | some i => simp at h; exact ⟨i, rfl, h.1, h.2.1, h.2.2⟩
theorem nameT_esc {r : List Int} (h : esc r = true) : nameT r = ((meantT r.tail).1 :: (nameT (meantT r.tail).2).1, (nameT (meantT r.tail).2).2) := by rw [nameT, dif_pos h]
theorem nameT_in {r : List Int} (h : esc r = false) (h2 : withinB (pk r 0) = true) : nameT r = (pk r 0 :: (nameT r.tail).1, (nameT r.tail).2) := by rw [nameT, dif_neg (by simp [h]), dif_pos h2]
theorem nameT_end {r : List Int} (h : esc r = false) (h2 : withinB (pk r 0) = false) : nameT r = ([], r) := by rw [nameT, dif_neg (by simp [h]), dif_neg (by simp [h2])]
theorem meantT_is {r : List Int} (h : Chars r) (hne : r ≠ []) : isB (meantT r).1 = true := by
  unfold meantT
  split
  · exact pk_is h (List.length_pos_iff.2 hne)
  · simp only [numC']
    split
    · decide
    · rename_i hx; simp at hx; exact hx.2
theorem hexes_drop (f : Nat) : ∀ n r, ∃ j, (hexes f n r).2 = r.drop j := by
  induction f with
  | zero => intro n r; exact ⟨0, rfl⟩
  | succ f ih =>
    intro n r
    unfold hexes
    split
    · obtain ⟨j, hj⟩ := ih (16 * n + (hexI (pk r 0)).toNat) r.tail
      exact ⟨j + 1, by rw [hj, ← List.drop_one, List.drop_drop, Nat.add_comm]⟩
    · exact ⟨0, rfl⟩
theorem meantT_drop (r : List Int) : ∃ j, (meantT r).2 = r.drop j := by
  unfold meantT
  split
  · exact ⟨1, by simp⟩
  · obtain ⟨j, hj⟩ := hexes_drop 6 0 r
    simp only []
    split
    · exact ⟨j + 1, by rw [hj, ← List.drop_one, List.drop_drop]⟩
    · exact ⟨j, hj⟩
theorem nameT_is (r : List Int) (h : Chars r) : Chars (nameT r).1 ∧ (nameT r).1.length ≤ r.length := by
  fun_induction nameT r with
  | case1 r he ih =>
    obtain ⟨j, hj⟩ := meantT_drop r.tail
    have hlt := meant_lt (esc_ne he)
    have h2 : Chars (meantT r.tail).2 := by rw [hj]; exact h.tail.drop j
    obtain ⟨i1, i2⟩ := ih h2
    refine ⟨?_, by simp only [List.length_cons]; omega⟩
    intro c hc
    rcases List.mem_cons.1 hc with rfl | hc
    · refine meantT_is h.tail ?_
      intro h0
      unfold esc at he
      have := (of_decide_eq_true he).2.1
      rw [← pk_tail, h0, pk_nil] at this; omega
    · exact i1 c hc
  | case2 r he hw ih =>
    have hne := within_ne hw
    obtain ⟨i1, i2⟩ := ih h.tail
    have := tail_lt hne
    refine ⟨?_, by simp only [List.length_cons]; omega⟩
    intro c hc
    rcases List.mem_cons.1 hc with rfl | hc
    · exact pk_is h (List.length_pos_iff.2 hne)
    · exact i1 c hc
  | case3 r => exact ⟨fun c hc => (List.not_mem_nil hc).elim, Nat.zero_le _⟩
/-- what holds at each jump: over the whole frame -/
def NJump (w : World) (B S P : Nat) (A : Option Addr) (n cap : Nat) (l : List Int) (k : Nat) (a' : Act) (w' : World) : Prop :=
  ∃ (k2 : Nat) (outs : List Int) (v u1 u4 u5 u6 u7 u8 u9 u10 u11 u12 u13 u14 u15 u16 u17 u18 u19 u20 u21 u22 u23 u24 u25 u26 u27 u28 u29 u30 u31 u32 u33 u34 u35 u36 u37 u38 u39 : Value), a' = { tmps := #[.pointer (some ⟨S, 0, none⟩), u1, .string ⟨#[]⟩, v, u4, u5, u6, u7, u8, u9, u10, u11, u12, u13, u14, u15, u16, u17, u18, u19, u20, u21, u22, u23, u24, u25, u26, u27, u28, u29, u30, u31, u32, u33, u34, u35, u36, u37, u38, u39], defers := [] } ∧ k ≤ k2 ∧ Hid (nameT (l.drop k) = (outs ++ (nameT (l.drop k2)).1, (nameT (l.drop k2)).2)) ∧ outs.length + k ≤ k2 ∧ w'.ownsRow w.heap.size 21 1 v outs.length (outs.map r32) ∧ At w' B S P A n cap l k2 ∧ Mv P w w' 
theorem wp_scope_pass {P : Program} {a : Act} {w : World} {Q : Exit → Act → World → Prop} {c blk : Code} (l : Nat) (J : Act → World → Prop) (μ : Act → World → Nat) (hf : findLabel c l = some (Code.skip.seq blk))
    (pass : ∀ a w, J a w → blk.wp P (Exit.jump l (fun a' w' => J a' w' ∧ μ a' w' < μ a w) Q) a w)
    (first : (∀ a w, J a w → blk.wp P (Exit.jump l J Q) a w) → c.wp P (Exit.jump l J Q) a w) : (Code.scope c).wp P Q a w :=
  wp_scope_jumps l J μ hf (first fun a w hJ => wp_mono (pass a w hJ) (by
    intro e a' w' hq
    cases e with
    | goto l' => exact ⟨hq.1, hq.2.1⟩
    | _ => exact hq)) fun a w hJ => wp_seq (wp_skip (pass a w hJ))
end Go.Proofs.YthimfoonalfoeaaDoor
