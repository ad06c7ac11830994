/- Arguments of the laws' rows opened: a slice of bytes, or of characters, reads as a list. -/
import Derived.Test.YtfhdihdafmahgaaGreatDoorP01
import Derived.OpenShut
import Derived.Carry
set_option linter.unusedVariables false
namespace Go.Proofs.YtfhdihdafmahgaaGreatDoor
open Go.ChangeShapes Go.WideShapes Go.ChangeAt Go.RowKit Go.Lib
set_option maxRecDepth 100000
theorem laidOut : laidOutB Tryz.prog = true := by kernel_rfl
section
variable {H : Type} {enc : TypeId × Value → H} {W : World} {base : Nat}
theorem open_reads {P : Program} {t e : TypeId} {k : IntKind} (ht : P.underlying t = some (.slice e)) (he : P.underlying e = some (.int k)) (hc : P.cellsOf e = 1) {b0 : Nat} {sp : Nat → Bool} {hd : Bool} {v : Value} {d : DataW H} {ps : List MemPlace}
    (hv : Value.okWide P W .any base t v) (h : DataW.Trod enc P W b0 sp hd t v d ps) :
    ∃ (A : Option Addr) (n c : Nat) (zs : List Int), v = .slice A n c ∧ n ≤ c ∧ c ≤ maxLen ∧ Reads W W.heap.size 1 A n (zs.map (Value.int k)) ∧ ∀ z ∈ zs, (Lit.int k z).wf = true := by
  obtain ⟨a0, len, cap, rfl⟩ := okWide_slice ht hv
  obtain ⟨fuel, hf⟩ := h
  rcases open_ints ht he hc hf with ⟨hcs, _⟩ | ⟨a, len', cap', zs, hcs, _, hl, hm, hz, _, hcell, hw⟩
  · simp only [Value.cells, List.cons.injEq, Value.slice.injEq, and_true] at hcs
    obtain ⟨rfl, rfl, rfl⟩ := hcs
    exact ⟨none, 0, 0, [], rfl, Nat.le_refl _, Nat.zero_le _, Reads.none_, fun z hz => by cases hz⟩
  · simp only [Value.cells, List.cons.injEq, Value.slice.injEq, and_true] at hcs
    obtain ⟨rfl, rfl, rfl⟩ := hcs
    have hlz : len ≤ zs.length := by rw [hz]; split <;> omega
    refine ⟨some a, len, cap, zs.take len, rfl, hl, hm, ⟨by rw [List.length_map, List.length_take]; omega, fun hn => ?_⟩, fun z hz => hw z (List.mem_of_mem_take hz)⟩
    obtain ⟨b, off, rfl, hc2⟩ := ints_at hcell (by omega)
    have h0 := hc2 0 (by omega)
    refine ⟨b, off, rfl, World.block_lt_of_cell? _ _ h0, fun j u hu => ?_⟩
    have hj : j < len := by
      have := (List.getElem?_eq_some_iff.1 hu).1
      rw [List.length_map, List.length_take] at this
      omega
    rw [hc2 j (by omega)]
    rw [List.getElem?_map, List.getElem?_take, if_pos hj, List.getElem?_eq_getElem (by omega)] at hu
    rw [← hu]
    simp [List.getD, List.getElem?_eq_getElem (show j < zs.length by omega)]
theorem bytes_of_wf (zs : List Int) (h : ∀ z ∈ zs, (Lit.int .u8 z).wf = true) : zs.map (Value.int .u8) = (zs.map fun z => UInt8.ofNat z.toNat).map b8 := by
  rw [List.map_map]
  apply List.map_congr_left
  intro z hz
  have := bounds_u8 (h z hz)
  simp only [Function.comp, b8]
  congr 1
  have h2 : (UInt8.ofNat z.toNat).toNat = z.toNat := by simp; omega
  rw [h2]; omega
theorem open_bytes {b0 : Nat} {sp : Nat → Bool} {hd : Bool} {v : Value} {d : DataW H} {ps : List MemPlace} (hv : Value.okWide Tryz.prog W .any base 22 v) (h : DataW.Trod enc Tryz.prog W b0 sp hd 22 v d ps) :
    ∃ (A : Option Addr) (n c : Nat) (bs : List UInt8), v = .slice A n c ∧ n ≤ c ∧ c ≤ maxLen ∧ Reads W W.heap.size 1 A n (bs.map b8) := by
  obtain ⟨A, n, c, zs, h1, h2, h3, h4, h5⟩ := open_reads Tryz.underlying22 Tryz.underlying5 (by kernel_rfl) hv h
  exact ⟨A, n, c, _, h1, h2, h3, by rw [bytes_of_wf zs h5] at h4; exact h4⟩
end
end Go.Proofs.YtfhdihdafmahgaaGreatDoor
