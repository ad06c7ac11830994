/- Layer 3: a character's token is walked: the program's map of kinds is made, and read. -/
import Derived.Test.YthimfoonalfoeaaDoorB06
import Derived.BigRegion
import Derived.Maps.OwnSet
import Derived.Handy
/- Layer 3: white space and comments are walked. -/
set_option linter.unusedVariables false
set_option linter.unusedSimpArgs false
namespace Go.Proofs.YthimfoonalfoeaaDoor
open Go.RowKit Rn Tk
section
variable {w : World} {B S P n cap k : Nat} {A : Option Addr} {l : List Int}
end
theorem spacesT_white {r : List Int} (h : whiteB (pk r 0) = true) : spacesT r = (true, (spacesT r.tail).2) := by rw [spacesT, dif_pos h]
theorem spacesT_comment {r : List Int} (h : whiteB (pk r 0) = false) (h2 : pk r 0 = 47 ∧ pk r 1 = 42) : spacesT r = spacesT (skipC r.tail.tail) := by rw [spacesT, dif_neg (by simp [h]), dif_pos h2]
theorem spacesT_end {r : List Int} (h : whiteB (pk r 0) = false) (h2 : ¬ (pk r 0 = 47 ∧ pk r 1 = 42)) : spacesT r = (false, r) := by rw [spacesT, dif_neg (by simp [h]), dif_neg h2]
theorem skipC_on {l : List Int} {j : Nat} (hj : j < l.length) (h : ¬ (pk (l.drop j) 0 = 42 ∧ pk (l.drop j) 1 = 47)) : skipC (l.drop j) = skipC (l.drop (j + 1)) := by
  rw [List.drop_eq_getElem_cons hj] at h ⊢
  rw [pk_cons0, pk_cons] at h
  rw [skipC, if_neg h]
theorem skipC_stop {l : List Int} {j : Nat} (hj : j < l.length) (h : pk (l.drop j) 0 = 42 ∧ pk (l.drop j) 1 = 47) : skipC (l.drop j) = l.drop (j + 2) := by
  rw [List.drop_eq_getElem_cons hj] at h ⊢
  rw [pk_cons0, pk_cons] at h
  rw [skipC, if_pos h, List.tail_drop]
end Go.Proofs.YthimfoonalfoeaaDoor
set_option linter.unusedVariables false
set_option linter.unusedSimpArgs false
namespace Go.Proofs.YthimfoonalfoeaaDoor
open Go.RowKit Go.Maps Rn Tk
/-- a token in memory -/
def tokV (t : Tok) : Value := .agg #[.int .i64 (t.kind : Int), .string (bytesOf t.text), .int .i64 t.n]
/-- a token that lies in memory, handed back -/
theorem results_tok {fn : Func} {p : Tmp} (h : fn.results = #[.cell p 26]) (tmps : Array Value) (w : World) (g : Nat) (a b c : Value) (hp : tmps.getD p undef = .pointer (some ⟨g, 0, none⟩)) (hr : RowAt w g [a, b, c]) : (results fn tmps).run Tryd.prog w = .ok (.agg #[a, b, c]) w := by
  obtain ⟨c0, _⟩ := hr.2 0 _ rfl
  obtain ⟨c1, _⟩ := hr.2 1 _ rfl
  obtain ⟨c2, _⟩ := hr.2 2 _ rfl
  have hp' : tmps[p]?.getD undef = .pointer (some ⟨g, 0, none⟩) := by simpa using hp
  simp [results, h, hp', asAddr, go_sem, c0, c1, c2]
theorem keyed32 : Keyed Tryd.prog 21 := int_keyed Tryd.underlying21
theorem zero_int (w : World) : (zeroValue 3).run Tryd.prog w = .ok (.int .i64 0) w := by kernel_rfl
abbrev KMap (w : World) (b n : Nat) (D : DataW Unit) : Prop := w.ownsMap Tryd.prog 21 (plainElem Tryd.prog 3) b n D
def signD : DataW Unit := .map [(.int .i32 40, .lit (.int .i64 12)), (.int .i32 41, .lit (.int .i64 13)), (.int .i32 44, .lit (.int .i64 16)), (.int .i32 58, .lit (.int .i64 14)), (.int .i32 59, .lit (.int .i64 15)), (.int .i32 91, .lit (.int .i64 12)), (.int .i32 93, .lit (.int .i64 13)), (.int .i32 123, .lit (.int .i64 12)), (.int .i32 125, .lit (.int .i64 13))]
theorem signD_puts : (((((((((DataW.map [] : DataW Unit).put (.int .i32 40) (.lit (.int .i64 12))).put (.int .i32 91) (.lit (.int .i64 12))).put (.int .i32 123) (.lit (.int .i64 12))).put (.int .i32 41) (.lit (.int .i64 13))).put (.int .i32 93) (.lit (.int .i64 13))).put (.int .i32 125) (.lit (.int .i64 13))).put (.int .i32 58) (.lit (.int .i64 14))).put (.int .i32 59) (.lit (.int .i64 15))).put (.int .i32 44) (.lit (.int .i64 16)) = signD := by rfl
theorem sign_at (c : Int) : (Maps.has signD (.int .i32 c) = true ∧ signD.atKey (.int .i32 c) (.lit (.int .i64 0)) = .lit (.int .i64 (signK c)) ∧ signK c ≠ 11) ∨ (Maps.has signD (.int .i32 c) = false ∧ signK c = 11) := by
  by_cases h : c = 40 ∨ c = 41 ∨ c = 44 ∨ c = 58 ∨ c = 59 ∨ c = 91 ∨ c = 93 ∨ c = 123 ∨ c = 125
  · left
    rcases h with rfl | rfl | rfl | rfl | rfl | rfl | rfl | rfl | rfl <;> exact ⟨rfl, rfl, by decide⟩
  · right
    constructor
    · simp only [Maps.has, signD, List.any_cons, List.any_nil, Lit.sameKey]
      simp; omega
    · unfold signK
      rw [if_neg (by omega), if_neg (by omega), if_neg (by omega), if_neg (by omega), if_neg (by omega)]
theorem grown_new {w W : World} {row : Option Nat} (h : w.grownBy W row) {p : Addr} (hp : w.heap.size ≤ p.block) (v : Value) : w.grownBy (W.setCell p v) row := by
  refine ⟨h.os, h.tape, h.output, by simpa [World.setCell] using h.size, fun i hi hne => ?_⟩
  rw [← h.block i hi hne]
  simp only [World.setCell]
  rw [Array.getElem?_modify, if_neg (by omega)]
theorem grownBy_set (W : World) (p : Addr) (v : Value) : W.grownBy (W.setCell p v) (some p.block) := by
  refine ⟨rfl, rfl, rfl, by simp [World.setCell], fun i hi hne => ?_⟩
  simp only [World.setCell]
  rw [Array.getElem?_modify, if_neg (fun e => hne (by rw [e]))]
theorem RowAt.grown {w w' : World} {g : Nat} {xs : List Value} {row : Option Nat} (h : RowAt w g xs) (hg : w.grownBy w' row) (hne : some g ≠ row) : RowAt w' g xs :=
  ⟨Nat.lt_of_lt_of_le h.1 hg.size, fun j u hu => ⟨(hg.cell_far ⟨g, j, none⟩ h.1 hne).trans (h.2 j u hu).1, (hg.frozen_far ⟨g, j, none⟩ h.1 hne).trans (h.2 j u hu).2⟩⟩
end Go.Proofs.YthimfoonalfoeaaDoor
