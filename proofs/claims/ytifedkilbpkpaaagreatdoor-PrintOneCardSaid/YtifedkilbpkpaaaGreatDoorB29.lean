/- An argument that is a slice of tokens, opened: it reads as a list of tokens. -/
import Derived.Test.YtifedkilbpkpaaaGreatDoorB15
import Derived.OpenShut
import Derived.Carry
import Derived.Deep.SlicePairs
set_option linter.unusedVariables false
namespace Go.Proofs.YtifedkilbpkpaaaGreatDoor
open Go.ChangeShapes Go.WideShapes Go.ChangeAt Go.RowKit Go.Lib Go.Deep
set_option maxRecDepth 100000
section
variable {H : Type} {enc : TypeId × Value → H} {W : World} {base : Nat}
theorem tok_three {fs : List Field} (hf : fs.map (fun f => (f.name, f.type, f.offset)) = [("Kind", 3, 0), ("Text", 9, 1), ("N", 3, 2)]) : ∃ f0 f1 f2, fs = [f0, f1, f2] ∧ f0.type = 3 ∧ f1.type = 9 ∧ f2.type = 3 ∧ f0.offset = 0 ∧ f1.offset = 1 ∧ f2.offset = 2 := by
  rcases fs with _ | ⟨a, _ | ⟨b, _ | ⟨c, _ | ⟨d, fs⟩⟩⟩⟩
  · simp at hf
  · simp at hf
  · simp at hf
  · simp only [List.map_cons, List.map_nil, List.cons.injEq, Prod.mk.injEq, and_true] at hf
    obtain ⟨⟨_, a2, a3⟩, ⟨_, b2, b3⟩, _, c2, c3⟩ := hf
    exact ⟨a, b, c, rfl, a2, b2, c2, a3, b3, c3⟩
  · simp at hf
instance : Inhabited GTok := ⟨⟨0, [], 0⟩⟩
theorem cellsG_get {l : List GTok} {j : Nat} {u : Value} (h : (cellsG l)[j]? = some u) : ∃ i t, i < l.length ∧ l[i]? = some t ∧ ((j = i * 3 ∧ u = .int .i64 t.kind) ∨ (j = i * 3 + 1 ∧ u = .string (bytesOf t.text)) ∨ (j = i * 3 + 2 ∧ u = .int .i64 t.n)) := by
  have hj : j < l.length * 3 := by have := (List.getElem?_eq_some_iff.1 h).1; rw [cellsG_len] at this; exact this
  have hi : j / 3 < l.length := by omega
  have ht : l[j / 3]? = some l[j / 3] := List.getElem?_eq_getElem hi
  obtain ⟨h1, h2, h3⟩ := cellsG_at l (j / 3) _ ht
  refine ⟨j / 3, _, hi, ht, ?_⟩
  have hr : j = j / 3 * 3 ∨ j = j / 3 * 3 + 1 ∨ j = j / 3 * 3 + 2 := by omega
  rcases hr with e | e | e
  · rw [← e, h] at h1; injection h1 with h1; exact .inl ⟨e, h1⟩
  · rw [← e, h] at h2; injection h2 with h2; exact .inr (.inl ⟨e, h2⟩)
  · rw [← e, h] at h3; injection h3 with h3; exact .inr (.inr ⟨e, h3⟩)
theorem open_toks {b0 : Nat} {sp : Nat → Bool} {hd : Bool} {v : Value} {d : DataW H} {ps : List MemPlace} (hv : Value.okWide Tryz.prog W .any base 27 v) (h : DataW.Trod enc Tryz.prog W b0 sp hd 27 v d ps) :
    ∃ (A : Option Addr) (n c : Nat) (l : List GTok), v = .slice A n c ∧ n ≤ c ∧ c ≤ maxLen ∧ ReadsT W W.heap.size A n l ∧ ∀ t ∈ l, t.text.length ≤ maxLen ∧ -9223372036854775808 ≤ t.n ∧ t.n ≤ 9223372036854775807 := by
  obtain ⟨a0, len, cap, rfl⟩ := okWide_slice Tryz.underlying27 hv
  obtain ⟨fuel, hf⟩ := h
  rcases open_slice Tryz.underlying27 hf with ⟨hcs, _⟩ | ⟨a, len', cap', m, fu, D, Pl, hcs, _, hl, hm, hmm, _, hx⟩
  · simp only [Value.cells, List.cons.injEq, Value.slice.injEq, and_true] at hcs
    obtain ⟨rfl, rfl, rfl⟩ := hcs
    exact ⟨none, 0, 0, [], rfl, Nat.le_refl _, Nat.zero_le _, ⟨by simp [cellsG], fun h => absurd h (by omega)⟩, fun t ht => by cases ht⟩
  · simp only [Value.cells, List.cons.injEq, Value.slice.injEq, and_true] at hcs
    obtain ⟨rfl, rfl, rfl⟩ := hcs
    have hlm : len ≤ m := by rw [hmm]; split <;> omega
    obtain ⟨f0, f1, f2, hfs, y0, y1, y2, o0, o1, o2⟩ := tok_three tok_fields
    have hst : Tryz.prog.underlying 23 = some (.struct #[f0, f1, f2]) := by
      rw [tok_under]
      congr 2
      apply Array.ext'
      exact hfs
    have ce : Tryz.prog.cellsOf 23 = 3 := by kernel_rfl
    have ci : Tryz.prog.cellsOf 3 = 1 := by kernel_rfl
    have cs1 : Tryz.prog.cellsOf 9 = 1 := by kernel_rfl
    have each : ∀ i, i < m → ∃ t : GTok, W.cell? (a.add (i * 3)) = some (.int .i64 t.kind) ∧ W.cell? (a.add (i * 3 + 1)) = some (.string (bytesOf t.text)) ∧ W.cell? (a.add (i * 3 + 2)) = some (.int .i64 t.n) ∧ t.text.length ≤ maxLen ∧ -9223372036854775808 ≤ t.n ∧ t.n ≤ 9223372036854775807 := by
      intro i hi
      obtain ⟨cs', h1, h2⟩ := hx i hi
      rw [ce] at h1
      obtain ⟨_, hlen, hcell⟩ := World.cells?_some h1
      obtain ⟨xs, k, hk, hxy, _, hxl, hf⟩ := DataW.trod_struct hst h2
      match xs, hxl, cs', hlen with
      | [z0, z1, z2], _, [v0, v1, v2], _ =>
        have g0 := hf 0 f0 rfl
        have g1 := hf 1 f1 rfl
        have g2 := hf 2 f2 rfl
        simp [o0, o1, o2, y0, y1, y2, ci, cs1] at g0 g1 g2
        have e0 := hcell 0 (by omega)
        have e1 := hcell 1 (by omega)
        have e2 := hcell 2 (by omega)
        rw [Go.Deep.add_add] at e0 e1 e2
        obtain ⟨n0, q0, _, w0⟩ := DataW.trod_int Tryz.underlying3 g0
        obtain ⟨s1, q1, _, w1⟩ := DataW.trod_string Tryz.underlying9 g1
        obtain ⟨n2, q2, _, w2⟩ := DataW.trod_int Tryz.underlying3 g2
        simp only [List.cons.injEq, and_true] at q0 q1 q2
        subst q0 q1 q2
        refine ⟨⟨n0, s1.data.toList, n2⟩, by simpa using e0, by rw [bytesOf_eta]; simpa using e1, by simpa using e2, ?_, bounds_i64 w2⟩
        have : s1.data.toList.length = s1.size := by rw [Array.length_toList]; rfl
        rw [this]; exact w1
    obtain ⟨q, hq⟩ := choose_lt each
    refine ⟨some a, len, cap, (List.range len).map q, rfl, hl, hm, ⟨by rw [cellsG_len]; simp, fun hn => ?_⟩, fun t ht => ?_⟩
    · obtain ⟨b, off, fld⟩ := a
      have hspot : fld = none := by simpa [Addr.add] using World.cell?_spot (hq 0 (by omega)).1
      subst hspot
      refine ⟨b, off, rfl, ?_, fun j u hu => ?_⟩
      · have h0 := (hq 0 (by omega)).1
        rw [Go.WideShapes.add_plain] at h0
        exact World.block_lt_of_cell? _ _ h0
      · obtain ⟨i, t, hi, ht, hc⟩ := cellsG_get hu
        have hil : i < len := by simpa using hi
        rw [List.getElem?_map, List.getElem?_range hil] at ht
        injection ht with ht
        obtain ⟨g0, g1, g2, _⟩ := hq i (by omega)
        rw [Go.WideShapes.add_plain] at g0 g1 g2
        rw [← ht] at hc
        rcases hc with ⟨rfl, rfl⟩ | ⟨rfl, rfl⟩ | ⟨rfl, rfl⟩
        · exact g0
        · exact g1
        · exact g2
    · obtain ⟨i, hi, rfl⟩ := List.mem_map.1 ht
      exact (hq i (by have := List.mem_range.1 hi; omega)).2.2.2
end
end Go.Proofs.YtifedkilbpkpaaaGreatDoor
