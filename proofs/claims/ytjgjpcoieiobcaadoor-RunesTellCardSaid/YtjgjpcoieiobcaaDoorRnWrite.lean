/- runes.Write and runes.Lower, runes.Hex are walked. -/
import Derived.Test.YtjgjpcoieiobcaaDoorRnDecode
import Derived.Laws.BytesArg
import Derived.Lib.ConvBytes
set_option linter.unusedVariables false
set_option linter.unusedSimpArgs false
namespace Go.Proofs.YtjgjpcoieiobcaaDoor
open Go.RowKit Rn
namespace Rn
/-- the bytes of characters, of what is none those of 0xFFFD -/
def writeP (l : List Int) : List UInt8 := l.flatMap Lib.encodeRune
end Rn
theorem runeCells_b8 (r : Int) : Lib.runeCells r = (Lib.encodeRune r).map b8 := by
  unfold Lib.runeCells Lib.encodeRune
  rw [List.map_map]
  apply List.map_congr_left
  intro x hx
  have := Lib.encodeRuneZ_byte r x hx
  simp only [Function.comp, b8]
  congr 1
  have h2 : x.toNat.toUInt8.toNat = x.toNat := by simp; omega
  rw [h2]; omega
theorem encode_len (r : Int) : 1 ≤ (Lib.encodeRune r).length ∧ (Lib.encodeRune r).length ≤ 4 := by
  unfold Lib.encodeRune Lib.encodeRuneZ
  (repeat' split) <;> simp
theorem encode_bad (c : Int) (h : isB c = false) : Lib.encodeRune c = Lib.encodeRune 65533 := by
  unfold Lib.encodeRune
  rw [Lib.encodeRuneZ_bad (by unfold isB at h; simp at h; omega), Lib.encodeRuneZ_three (by omega)]
  rfl
theorem writeP_len (l : List Int) : (writeP l).length ≤ 4 * l.length := by
  induction l with
  | nil => simp [writeP]
  | cons c l ih =>
    have := (encode_len c).2
    simp only [writeP, List.flatMap_cons, List.length_append, List.length_cons] at ih ⊢
    omega
theorem writeP_snoc (l : List Int) (c : Int) : writeP (l ++ [c]) = writeP l ++ Lib.encodeRune c := by simp [writeP]
theorem take_snoc {α : Type} (l : List α) (k : Nat) (x : α) (h : l[k]? = some x) : l.take (k + 1) = l.take k ++ [x] := by
  rw [List.take_add_one, h]; rfl

/-- string(b) of a slice that reads as bytes. -/
theorem run_str {P : Program} {src dst e : TypeId} (hs : P.underlying src = some (.slice e)) (he : P.underlying e = some (.int .u8)) (hd : P.underlying dst = some .string)
    {w : World} {B n : Nat} {A : Option Addr} {bs : List UInt8} (c : Nat) (hr : Reads w B 1 A n (bs.map b8)) : (convert src dst (.slice A n c)).run P w = .ok (.string (bytesOf bs)) w := by
  have hlen : bs.length = n := by simpa using hr.len
  subst hlen
  rcases Nat.eq_zero_or_pos bs.length with h0 | h0
  · have : bs = [] := List.eq_nil_of_length_eq_zero h0
    subst this
    cases A with
    | none => exact run_convert_bytes_nil w src e hs he 0 c dst hd
    | some a => exact run_convert_bytes_back w src dst e a c [] hs he hd (fun j hj => by simp at hj)
  · obtain ⟨b, off, rfl, _, hc⟩ := hr.open_ h0
    refine run_convert_bytes_back w src dst e _ c bs hs he hd (fun j hj => ?_)
    have := hc j (b8 bs[j]) (by simp [List.getElem?_eq_getElem hj])
    have ha : (⟨b, off, none⟩ : Addr).add j = ⟨b, off + j, none⟩ := by unfold Addr.add; split <;> simp_all
    rw [ha]; exact this

set_option maxRecDepth 100000 in
set_option maxHeartbeats 1000000 in
theorem rn_write (l : List Int) (A : Option Addr) (n cap : Nat) (w : World) (hr : Reads w w.heap.size 1 A n (l.map r32)) (hl : ∀ c ∈ l, -2147483648 ≤ c ∧ c ≤ 2147483647) (hn : n ≤ 1000000) :
    Calls Tryd.prog 15 #[.slice A n cap] w fun e w' => ∃ v, e = .returned v ∧ w'.ownsRow w.heap.size 5 1 v (writeP l).length ((writeP l).map b8) ∧ Below w.heap.size w w' := by
  have hlen : l.length = n := by simpa using hr.len
  have Hlen := Lib.hid hlen
  have Hl := Lib.hid hl
  clear hlen hl
  go_enter Tryd.func15, Tryd.ntmps15
  go_wp2
  go_loopw [3, 8] (fun o i wr => ∃ k : Nat, k ≤ n ∧ i = .int .i64 k ∧ wr.ownsRow w.heap.size 5 1 o (writeP (l.take k)).length ((writeP (l.take k)).map b8) ∧ Below w.heap.size w wr) (fun _ i _ => n - (intOf i).toNat)
  case atStart => exact ⟨0, by omega, rfl, World.ownsRow_nil _ _ _ _, Below.refl _ _⟩
  case round =>
    obtain ⟨k, hk, rfl, hown, hb⟩ := hrel
    have hs2 := hb.size
    by_cases hlt : k < n
    · obtain ⟨b, off, u, hA, hbw, hx, hcell0⟩ := hr.at_ hlt
      subst hA
      obtain ⟨c, hc⟩ : ∃ c, l[k]? = some c := ⟨_, List.getElem?_eq_getElem (by rw [Hlen.out]; omega)⟩
      rw [List.getElem?_map, hc] at hx
      obtain rfl : u = r32 c := by simpa using hx.symm
      unfold r32 at hcell0
      have hcell : wr.cell? ⟨b, off + k, none⟩ = some (.int .i32 c) := (hb.cell (p := ⟨b, off + k, none⟩) hbw).trans hcell0
      have hcr := Hl.out c (List.mem_of_getElem? hc)
      have hwl := writeP_len (l.take k)
      rw [List.length_take] at hwl
      have hst : writeP (l.take (k + 1)) = writeP (l.take k) ++ Lib.encodeRune c := by rw [take_snoc l k c hc, writeP_snoc]
      have Hst := Lib.hid hst
      have Hc := Lib.hid hc
      clear hst hc hx hcell0
      by_cases his : isB c = true
      · go_wp2_with (first | (go_at_call 19; refine (rn_is _ _).mono ?_; rintro e w' ⟨rfl, rfl⟩; rw [his]) | (go_at_call 30; refine (Tryd.utf8_AppendRune_plain w.heap.size _ _ _ c hcr.1 hcr.2 _ hown (by omega) hs2).mono ?_; rintro e w2 ⟨v', rfl, hown', o, hg⟩))
        have hbn := push_below hb hs2 hown hg
        rw [runeCells_b8, List.length_map, ← List.map_append, ← List.length_append, ← Hst.out] at hown'
        go_roundw
        case rel => exact ⟨k + 1, by omega, by go_num, hown', hbn⟩
        case measure => simp [intOf]; omega
      · have his' : isB c = false := by simpa using his
        have Hbad := Lib.hid (encode_bad c his')
        go_wp2_with (first | (go_at_call 19; refine (rn_is _ _).mono ?_; rintro e w' ⟨rfl, rfl⟩; rw [his']) | (go_at_call 30; refine (Tryd.utf8_AppendRune_plain w.heap.size _ _ _ 65533 (by omega) (by omega) _ hown (by omega) hs2).mono ?_; rintro e w2 ⟨v', rfl, hown', o, hg⟩))
        have hbn := push_below hb hs2 hown hg
        rw [runeCells_b8, List.length_map, ← List.map_append, ← List.length_append, ← Hbad.out, ← Hst.out] at hown'
        go_roundw
        case rel => exact ⟨k + 1, by omega, by go_num, hown', hbn⟩
        case measure => simp [intOf]; omega
    · obtain rfl : k = n := by omega
      go_wp2
      go_ret
      rw [List.take_of_length_le (by rw [Hlen.out]; omega)] at hown
      exact ⟨_, rfl, hown, hb⟩
end Go.Proofs.YtjgjpcoieiobcaaDoor
