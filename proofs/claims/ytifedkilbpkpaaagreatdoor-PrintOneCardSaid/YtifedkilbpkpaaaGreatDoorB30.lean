/- An argument that is a token, by value, opened. -/
import Derived.Test.YtifedkilbpkpaaaGreatDoorB29
import Derived.Test.YtifedkilbpkpaaaGreatDoorB16
import Derived.Lib.SmallJoins
set_option linter.unusedVariables false
namespace Go.Proofs.YtifedkilbpkpaaaGreatDoor
open Go.ChangeShapes Go.WideShapes Go.ChangeAt Go.RowKit Go.Lib Go.Deep
set_option maxRecDepth 100000
section
variable {H : Type} {enc : TypeId × Value → H} {W : World} {base : Nat}
theorem open_tok {b0 : Nat} {sp : Nat → Bool} {hd : Bool} {v : Value} {d : DataW H} {ps : List MemPlace} (hv : Value.okWide Tryz.prog W .any base 23 v) (h : DataW.Trod enc Tryz.prog W b0 sp hd 23 v d ps) :
    ∃ t : GTok, v = tokG t ∧ t.text.length ≤ maxLen ∧ -9223372036854775808 ≤ t.n ∧ t.n ≤ 9223372036854775807 := by
  obtain ⟨f0, f1, f2, hfs, y0, y1, y2, o0, o1, o2⟩ := tok_three tok_fields
  have hst : Tryz.prog.underlying 23 = some (.struct #[f0, f1, f2]) := by
    rw [tok_under]
    congr 2
    apply Array.ext'
    exact hfs
  have ce : Tryz.prog.cellsOf 23 = 3 := by kernel_rfl
  have ci : Tryz.prog.cellsOf 3 = 1 := by kernel_rfl
  have cs1 : Tryz.prog.cellsOf 9 = 1 := by kernel_rfl
  obtain ⟨cs', rfl, hsz⟩ := okWide_struct hst hv
  obtain ⟨fuel, hf0⟩ := h
  obtain ⟨xs, k, hk, hxy, _, hxl, hf⟩ := DataW.trod_struct hst hf0
  have hlen : cs'.toList.length = 3 := by rw [Array.length_toList, hsz, ce]
  obtain ⟨l, rfl⟩ : ∃ l : List Value, cs' = l.toArray := ⟨cs'.toList, by simp⟩
  rw [show (Value.agg l.toArray).cells.toList = l from by simp [Value.cells]] at hf
  have hlen : l.length = 3 := by simpa using hlen
  match xs, hxl, l, hlen with
  | [z0, z1, z2], _, [v0, v1, v2], _ =>
    have g0 := hf 0 f0 rfl
    have g1 := hf 1 f1 rfl
    have g2 := hf 2 f2 rfl
    simp [o0, o1, o2, y0, y1, y2, ci, cs1] at g0 g1 g2
    obtain ⟨n0, q0, _, w0⟩ := DataW.trod_int Tryz.underlying3 g0
    obtain ⟨s1, q1, _, w1⟩ := DataW.trod_string Tryz.underlying9 g1
    obtain ⟨n2, q2, _, w2⟩ := DataW.trod_int Tryz.underlying3 g2
    simp only [List.cons.injEq, and_true] at q0 q1 q2
    subst q0 q1 q2
    refine ⟨⟨n0, s1.data.toList, n2⟩, ?_, ?_, bounds_i64 w2⟩
    · unfold tokG; rw [bytesOf_eta]
    · have : s1.data.toList.length = s1.size := by rw [Array.length_toList]; rfl
      rw [this]; exact w1
end
end Go.Proofs.YtifedkilbpkpaaaGreatDoor
