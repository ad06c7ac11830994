/- Layer 1: which number a decimal is, and what its loops reckon: plain laws. -/
import Derived.Test.YtflehiokbbldgaaDoorFxRefLen
set_option linter.unusedVariables false
set_option linter.unusedSimpArgs false
namespace Go.Proofs.YtflehiokbbldgaaDoor
open Go.RowKit Fx
namespace Fx
/-- a digit's number -/
def dv (b : UInt8) : Nat := b.toNat - 48
/-- the number of a row of digits -/
def val (l : List UInt8) : Nat := l.foldl (fun n b => 10 * n + dv b) 0
/-- the number of the first i digits of a row, noughts behind its end -/
def vA (d : List UInt8) : Nat → Nat
  | 0 => 0
  | i + 1 => 10 * vA d i + ((d[i]?).map dv).getD 0
def M : Nat := 1099511627776
def foldN (d : List UInt8) (p : Int) : Nat := min (vA d p.toNat) M
/-- an exponent's number -/
def powP (x : List UInt8) : Int :=
  if x = [] then 0 else
  let n : Nat := if x.length - sgn x ≤ 6 then val (x.drop (sgn x)) else 999999
  if x[0]? = some 45 then -(n : Int) else (n : Int)
/-- the digits ahead of the point, and those behind it -/
def intP (l : List UInt8) : List UInt8 := (l.drop (sgn l)).take (digs (l.drop (sgn l)))
def fracP (l : List UInt8) : List UInt8 :=
  let a := sgn l + digs (l.drop (sgn l))
  if l[a]? = some 46 ∧ 0 < digs (l.drop (a + 1)) then (l.drop (a + 1)).take (digs (l.drop (a + 1))) else []
/-- what stands behind the exponent's letter -/
def expP (l : List UInt8) : List UInt8 := if isE l[bodyLen l]? = true then l.drop (bodyLen l + 1) else []
def isP (l : List UInt8) : Bool := decide (l ≠ [] ∧ lenP l = l.length)
def numP (l : List UInt8) : Nat := foldN (intP l ++ fracP l) ((intP l).length + powP (expP l) + 3)
def parseP (l : List UInt8) : Int := if isP l = true then (if l[0]? = some 45 then -(numP l : Int) else (numP l : Int)) else 0
end Fx
theorem vA_succ (d : List UInt8) (i : Nat) : vA d (i + 1) = 10 * vA d i + ((d[i]?).map dv).getD 0 := rfl
theorem vA_mono (d : List UInt8) {i j : Nat} (h : i ≤ j) : vA d i ≤ vA d j := by
  obtain ⟨k, rfl⟩ := Nat.exists_eq_add_of_le h
  clear h
  induction k with
  | zero => exact Nat.le_refl _
  | succ k ih => rw [← Nat.add_assoc, vA_succ]; omega
theorem vA_past (d : List UInt8) {i : Nat} (h : d.length ≤ i) (k : Nat) : vA d (i + k) = 10 ^ k * vA d i := by
  induction k with
  | zero => simp
  | succ k ih =>
    rw [← Nat.add_assoc, vA_succ, List.getElem?_eq_none (by omega), ih, Nat.pow_succ]
    simp; rw [Nat.mul_comm (10 ^ k) 10, Nat.mul_assoc]
theorem vA_step (d : List UInt8) (i : Nat) : min (10 * min (vA d i) M + ((d[i]?).map dv).getD 0) M = min (vA d (i + 1)) M := by
  rw [vA_succ]; omega
theorem vA_full (d : List UInt8) {i j : Nat} (h : i ≤ j) (hm : M ≤ vA d i) : min (vA d j) M = M := by
  have := vA_mono d h; omega
theorem vA_nought (d : List UInt8) {i j : Nat} (h : i ≤ j) (hd : d.length ≤ i) (hm : vA d i = 0) : vA d j = 0 := by
  obtain ⟨k, rfl⟩ := Nat.exists_eq_add_of_le h
  rw [vA_past d hd, hm, Nat.mul_zero]
theorem vA_far (d : List UInt8) {i : Nat} (h : d.length + 60 ≤ i) (hm : vA d i ≠ 0) : M ≤ vA d i := by
  obtain ⟨k, rfl⟩ := Nat.exists_eq_add_of_le h
  rw [Nat.add_assoc, vA_past d (Nat.le_refl _)] at hm ⊢
  have h0 : 0 < vA d d.length := Nat.pos_of_ne_zero fun h => hm (by rw [h, Nat.mul_zero])
  calc M ≤ 10 ^ 60 := by decide
    _ ≤ 10 ^ (60 + k) := Nat.pow_le_pow_right (by omega) (by omega)
    _ ≤ 10 ^ (60 + k) * vA d d.length := Nat.le_mul_of_pos_right _ h0
theorem vA_lead0 (z t : List UInt8) (hz : ∀ b ∈ z, b = 48) : ∀ j, j ≤ z.length → vA (z ++ t) j = 0
  | 0, _ => rfl
  | j + 1, h => by
    have hj : (z ++ t)[j]? = some z[j] := by rw [List.getElem?_append_left (by omega), List.getElem?_eq_getElem (by omega)]
    rw [vA_succ, vA_lead0 z t hz j (by omega), hj]
    have := hz z[j] (List.getElem_mem _)
    simp [this, dv]
theorem vA_lead (z t : List UInt8) (hz : ∀ b ∈ z, b = 48) : ∀ j, vA (z ++ t) (z.length + j) = vA t j
  | 0 => by rw [Nat.add_zero, vA_lead0 z t hz _ (Nat.le_refl _)]; rfl
  | j + 1 => by
    rw [← Nat.add_assoc, vA_succ, vA_lead z t hz j, vA_succ, List.getElem?_append_right (by omega)]
    congr 4; omega
theorem vA_append_len (d t : List UInt8) (i : Nat) (h : i ≤ d.length) : vA (d ++ t) i = vA d i := by
  induction i with
  | zero => rfl
  | succ i ih => rw [vA_succ, vA_succ, ih (by omega), List.getElem?_append_left (by omega)]
/-- leading noughts do not count -/
theorem foldN_lead (z t : List UInt8) (hz : ∀ b ∈ z, b = 48) (p : Int) : foldN (z ++ t) p = foldN t (p - z.length) := by
  unfold foldN
  by_cases h : p ≤ z.length
  · have h1 : (p - z.length).toNat = 0 := by omega
    rw [h1, vA_lead0 z t hz _ (by omega)]; rfl
  · have h1 : p.toNat = z.length + (p - z.length).toNat := by omega
    rw [h1, vA_lead z t hz]
theorem trim_split (l : List UInt8) : ∃ z, l = z ++ l.dropWhile (· == 48) ∧ (∀ b ∈ z, b = 48) := by
  refine ⟨l.takeWhile (· == 48), (List.takeWhile_append_dropWhile).symm, ?_⟩
  intro b hb
  have := List.all_takeWhile (p := fun b : UInt8 => b == 48) (l := l)
  rw [List.all_eq_true] at this
  simpa using this b hb
theorem foldN_trim (l : List UInt8) (p : Int) : foldN l p = foldN (l.dropWhile (· == 48)) (p - (l.length - (l.dropWhile (· == 48)).length : Nat)) := by
  obtain ⟨z, h1, h2⟩ := trim_split l
  have hl : l.length - (l.dropWhile (· == 48)).length = z.length := by
    have := congrArg List.length h1
    rw [List.length_append] at this; omega
  conv => lhs; rw [h1]
  rw [foldN_lead z _ h2, hl]
theorem val_snoc (l : List UInt8) (b : UInt8) : val (l ++ [b]) = 10 * val l + dv b := by simp [val]
theorem val_vA (l : List UInt8) : ∀ i, i ≤ l.length → vA l i = val (l.take i)
  | 0, _ => by simp [vA, val]
  | i + 1, h => by
    rw [vA_succ, val_vA l i (by omega), List.take_add_one, List.getElem?_eq_getElem (by omega)]
    simp only [Option.map_some, Option.getD_some, Option.toList_some, val_snoc]
end Go.Proofs.YtflehiokbbldgaaDoor
