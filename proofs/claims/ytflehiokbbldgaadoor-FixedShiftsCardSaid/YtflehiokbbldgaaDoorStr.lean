/- Strings given as lists of bytes: slices, indexes, conversions of them, as the walk asks for them. -/
import Derived.Test.YtflehiokbbldgaaDoorWords
import Derived.Laws.IdiomStrings
import Derived.Laws.BytesArg
import Derived.Lib.IndexBytes
set_option linter.unusedVariables false
set_option linter.unusedSimpArgs false
namespace Go.Proofs.YtflehiokbbldgaaDoor
open Go.RowKit
def bytesOf (l : List UInt8) : ByteArray := ⟨l.toArray⟩
theorem bytesOf_size (l : List UInt8) : (bytesOf l).size = l.length := by simp [bytesOf, ByteArray.size]
theorem bytesOf_list (l : List UInt8) : (bytesOf l).data.toList = l := by simp [bytesOf]
theorem bytesOf_eta (s : ByteArray) : bytesOf s.data.toList = s := by simp [bytesOf]
theorem bytesOf_toList (l : List UInt8) : (bytesOf l).toList = l := by rw [ByteArray.toList_eq]; exact bytesOf_list l
/-- the walk's test s == "" -/
theorem str_some {l : List UInt8} (h : l ≠ []) : ¬ (bytesOf l).toList = [] ∧ (bytesOf l).toList.isEmpty = false := by
  rw [bytesOf_toList]; exact ⟨h, by cases l <;> simp_all⟩
theorem str_none : (bytesOf []).toList = [] ∧ (bytesOf []).toList.isEmpty = true := by
  rw [bytesOf_toList]; exact ⟨rfl, rfl⟩
theorem byte_ne {b : UInt8} {n : Nat} (h : ¬ b.toNat = n) : ((b.toNat : Int) == (n : Int)) = false := by simp; omega
theorem bytesOf_get (l : List UInt8) (j : Nat) : (bytesOf l).get! j = l[j]?.getD 0 := by
  simp [bytesOf, ByteArray.get!]
  rfl
theorem extract_from (l : List UInt8) (a : Nat) : (bytesOf l).extract a (bytesOf l).size = bytesOf (l.drop a) := by
  rw [← bytesOf_eta ((bytesOf l).extract a (bytesOf l).size), Lib.extract_to_end, bytesOf_list]
theorem extract_to (l : List UInt8) (b : Nat) : (bytesOf l).extract 0 b = bytesOf (l.take b) := by
  rw [← bytesOf_eta ((bytesOf l).extract 0 b), Lib.extract_data, bytesOf_list]; rfl
section
variable {P : Program} {T : TypeId} (ht : P.underlying T = some .string) (l : List UInt8)
include ht
/-- s[a:] -/
theorem str_from (kd : IntKind) (a : Nat) (h : a ≤ l.length) (W : World) : (Instr.slice T (.string (bytesOf l)) (some (.int kd (a : Int))) none none).run P W = .ok (.string (bytesOf (l.drop a))) W := by
  rw [run_slice_string_l W T (bytesOf l) ht kd (a : Int) (by omega) (by rw [bytesOf_size]; omega), Int.toNat_natCast, extract_from]
/-- s[:b] -/
theorem str_to (kd : IntKind) (b : Nat) (h : b ≤ l.length) (W : World) : (Instr.slice T (.string (bytesOf l)) none (some (.int kd (b : Int))) none).run P W = .ok (.string (bytesOf (l.take b))) W := by
  rw [run_slice_string_h W T (bytesOf l) ht kd (b : Int) (by omega) (by rw [bytesOf_size]; omega), Int.toNat_natCast, extract_to]
/-- s[i] -/
theorem str_at (kd : IntKind) (i : Nat) (b : UInt8) (h : l[i]? = some b) (W : World) : (Instr.index T (.string (bytesOf l)) (.int kd (i : Int))).run P W = .ok (.int .u8 (b.toNat : Int)) W := by
  have hi : i < l.length := (List.getElem?_eq_some_iff.1 h).1
  rw [run_index_string W T (bytesOf l) kd (i : Int) ht, dif_pos ⟨by omega, by rw [bytesOf_size]; omega⟩]
  have : (bytesOf l)[(i : Int).toNat]'(by rw [bytesOf_size]; omega) = b := by
    have h2 : (bytesOf l).data.toList[i]? = some ((bytesOf l)[(i : Int).toNat]'(by rw [bytesOf_size]; omega)) := by
      rw [List.getElem?_eq_getElem (by rw [bytesOf_list]; exact hi)]; rfl
    rw [bytesOf_list, h] at h2
    injection h2 with h2
    exact h2.symm
  rw [this]
end
/-- string(b) of a slice that reads as bytes. -/
theorem run_str {P : Program} {src dst e : TypeId} (hs : P.underlying src = some (.slice e)) (he : P.underlying e = some (.int .u8)) (hd : P.underlying dst = some .string)
    {w : World} {B n : Nat} {A : Option Addr} {bs : List UInt8} (c : Nat) (hr : Reads w B 1 A n (bs.map b8)) : (convert src dst (.slice A n c)).run P w = .ok (.string (bytesOf bs)) w := by
  have hlen : bs.length = n := by simpa using hr.len
  subst hlen
  rcases Nat.eq_zero_or_pos bs.length with h0 | h0
  · have : bs = [] := List.eq_nil_of_length_eq_zero h0
    subst this
    cases A with
    | none => exact run_convert_bytes_nil w src e hs he 0 c dst hd
    | some a => exact run_convert_bytes_back w src dst e a c [] hs he hd (fun j hj => by simp at hj)
  · obtain ⟨b, off, rfl, _, hc⟩ := hr.open_ h0
    refine run_convert_bytes_back w src dst e _ c bs hs he hd (fun j hj => ?_)
    have := hc j (b8 bs[j]) (by simp [List.getElem?_eq_getElem hj])
    have ha : (⟨b, off, none⟩ : Addr).add j = ⟨b, off + j, none⟩ := by unfold Addr.add; split <;> simp_all
    rw [ha]; exact this
theorem take_snoc {α : Type} (l : List α) (k : Nat) (x : α) (h : l[k]? = some x) : l.take (k + 1) = l.take k ++ [x] := by
  rw [List.take_add_one, h]; rfl
end Go.Proofs.YtflehiokbbldgaaDoor
