/- The library's DecodeRune at bytes that runes.next has found to be one character's: it answers that character and their number. Asked of the world: the library's two tables (Lib.Utf8Tabs). -/
import Derived.Test.YtjgjpcoieiobcaaDoorRnNext
import Derived.Test.YtjgjpcoieiobcaaDoorShelf
set_option linter.unusedVariables false
namespace Go.Proofs.YtjgjpcoieiobcaaDoor
open Go.RowKit Rn
def bytesOf (l : List UInt8) : ByteArray := ⟨l.toArray⟩
theorem bytesOf_size (l : List UInt8) : (bytesOf l).size = l.length := by simp [bytesOf, ByteArray.size]
theorem bytesOf_get (l : List UInt8) (j : Nat) : (bytesOf l).get! j = l[j]?.getD 0 := by
  simp [bytesOf, ByteArray.get!]
  rfl

theorem ok_of_stop {bs : List UInt8} {lo hi : Nat} : ∀ (f k : Nat), scan bs lo hi f k = k + f → ∀ j, k ≤ j → j < k + f → okAt bs lo hi j = true
  | 0, k, _, j, h1, h2 => by omega
  | f + 1, k, h, j, h1, h2 => by
    cases hk : okAt bs lo hi k with
    | false => simp [scan, hk] at h
    | true =>
      by_cases e : j = k
      · rw [e]; exact hk
      · simp [scan, hk] at h
        exact ok_of_stop f (k + 1) (by omega) j (by omega) (by omega)
theorem okAt_mem {bs : List UInt8} {c k : Nat} (h : okAt bs (bLo c) (bHi c) k = true) : ∃ b, bs[k]? = some b ∧ loAt c k ≤ b.toNat ∧ b.toNat ≤ hiAt c k := by
  cases hb : bs[k]? with
  | none => simp [okAt, hb] at h
  | some b => rw [okAt_some hb] at h; exact ⟨b, rfl, by simpa using h⟩

theorem decode_valid (bs : List UInt8) (m : Nat) (hl : m ≤ bs.length) (hm : m = bN (bs[0]?.getD 0).toNat) (hs : stopP bs = m) (h0 : 0 < m) :
    Lib.decodeGo (bytesOf (bs.take m)) = (val bs m, m) := by
  have hN : m ≤ 4 := by rw [hm]; unfold bN; (repeat' split) <;> omega
  have hs2 : scan bs (bLo (bs[0]?.getD 0).toNat) (bHi (bs[0]?.getD 0).toNat) (m - 1) 1 = 1 + (m - 1) := by
    have h := hs
    unfold stopP at h
    simp only at h
    rw [← hm] at h
    omega
  have hok := ok_of_stop (m - 1) 1 hs2
  have hsz : (bytesOf (bs.take m)).size = m := by rw [bytesOf_size, List.length_take]; omega
  have hg : ∀ j, j < m → (bytesOf (bs.take m)).get! j = bs[j]?.getD 0 := fun j hj => by
    rw [bytesOf_get, List.getElem?_take, if_pos hj]
  unfold Lib.decodeGo
  rw [hsz, if_neg (by omega), Lib.decode_at, hsz]
  have hb0 : (bs[0]?.getD 0).toNat < 256 := UInt8.toNat_lt _
  generalize hc : (bs[0]?.getD 0).toNat = c at *
  have e0 : ((bytesOf (bs.take m)).get! 0).toNat = c := by rw [hg 0 h0, hc]
  obtain rfl | rfl | rfl | rfl : m = 1 ∨ m = 2 ∨ m = 3 ∨ m = 4 := by omega
  · have h1 : c < 128 := by revert hm; unfold bN; (repeat' split) <;> omega
    simp only [Nat.zero_add, e0, Lib.decodeN, if_pos h1, val, if_true, hc]
  · have h1 : 194 ≤ c ∧ c < 224 := by revert hm; unfold bN; (repeat' split) <;> omega
    obtain ⟨b1, g1, l1, u1⟩ := okAt_mem (hok 1 (by omega) (by omega))
    have e1 : ((bytesOf (bs.take 2)).get! (0 + 1)).toNat = b1.toNat := by rw [hg 1 (by omega), g1]; rfl
    have hb : 128 ≤ b1.toNat ∧ b1.toNat ≤ 191 := by
      revert l1 u1; unfold loAt hiAt bLo bHi; (repeat' split) <;> omega
    simp only [e0, e1, val, hc, g1, Option.getD_some, if_neg (show ¬ (2 = 1) from by omega), if_true]
    unfold Lib.decodeN
    rw [if_neg (by omega), if_pos (by omega), if_pos (by omega)]
  · have h1 : 224 ≤ c ∧ c < 240 := by revert hm; unfold bN; (repeat' split) <;> omega
    obtain ⟨b1, g1, l1, u1⟩ := okAt_mem (hok 1 (by omega) (by omega))
    obtain ⟨b2, g2, l2, u2⟩ := okAt_mem (hok 2 (by omega) (by omega))
    have e1 : ((bytesOf (bs.take 3)).get! (0 + 1)).toNat = b1.toNat := by rw [hg 1 (by omega), g1]; rfl
    have e2 : ((bytesOf (bs.take 3)).get! (0 + 2)).toNat = b2.toNat := by rw [hg 2 (by omega), g2]; rfl
    have hb : 128 ≤ b1.toNat ∧ b1.toNat ≤ 191 ∧ (c = 224 → 160 ≤ b1.toNat) ∧ (c = 237 → b1.toNat ≤ 159) := by
      revert l1 u1; unfold loAt hiAt bLo bHi; (repeat' split) <;> omega
    have hb2 : 128 ≤ b2.toNat ∧ b2.toNat ≤ 191 := by
      revert l2 u2; unfold loAt hiAt; (repeat' split) <;> omega
    simp only [e0, e1, e2, val, hc, g1, g2, Option.getD_some, if_neg (show ¬ (3 = 1) from by omega), if_neg (show ¬ (3 = 2) from by omega), if_true]
    unfold Lib.decodeN
    rw [if_neg (by omega), if_neg (by omega), if_pos (by omega), if_pos (by omega)]
  · have h1 : 240 ≤ c ∧ c ≤ 244 := by revert hm; unfold bN; (repeat' split) <;> omega
    obtain ⟨b1, g1, l1, u1⟩ := okAt_mem (hok 1 (by omega) (by omega))
    obtain ⟨b2, g2, l2, u2⟩ := okAt_mem (hok 2 (by omega) (by omega))
    obtain ⟨b3, g3, l3, u3⟩ := okAt_mem (hok 3 (by omega) (by omega))
    have e1 : ((bytesOf (bs.take 4)).get! (0 + 1)).toNat = b1.toNat := by rw [hg 1 (by omega), g1]; rfl
    have e2 : ((bytesOf (bs.take 4)).get! (0 + 2)).toNat = b2.toNat := by rw [hg 2 (by omega), g2]; rfl
    have e3 : ((bytesOf (bs.take 4)).get! (0 + 3)).toNat = b3.toNat := by rw [hg 3 (by omega), g3]; rfl
    have hb : 128 ≤ b1.toNat ∧ b1.toNat ≤ 191 ∧ (c = 240 → 144 ≤ b1.toNat) ∧ (c = 244 → b1.toNat ≤ 143) := by
      revert l1 u1; unfold loAt hiAt bLo bHi; (repeat' split) <;> omega
    have hb2 : 128 ≤ b2.toNat ∧ b2.toNat ≤ 191 := by
      revert l2 u2; unfold loAt hiAt; (repeat' split) <;> omega
    have hb3 : 128 ≤ b3.toNat ∧ b3.toNat ≤ 191 := by
      revert l3 u3; unfold loAt hiAt; (repeat' split) <;> omega
    simp only [e0, e1, e2, e3, val, hc, g1, g2, g3, Option.getD_some, if_neg (show ¬ (4 = 1) from by omega), if_neg (show ¬ (4 = 2) from by omega), if_neg (show ¬ (4 = 3) from by omega)]
    unfold Lib.decodeN
    rw [if_neg (by omega), if_neg (by omega), if_neg (by omega), if_pos (by omega), if_pos (by omega)]

/-- The two tables, as blocks of the variables. -/
abbrev Tabs (w : World) : Prop := Lib.Utf8Tabs 0 1 w
theorem Tabs.lt {w : World} (h : Tabs w) : 0 < w.heap.size ∧ 1 < w.heap.size :=
  ⟨World.block_lt_of_cell? _ _ (h.1 0 (by omega)), World.block_lt_of_cell? _ _ (h.2 0 (by omega)).1⟩
theorem Tabs.below {w w' : World} (h : Tabs w) (hb : Below w.heap.size w w') : Tabs w' :=
  ⟨fun c hc => (hb.cell (p := ⟨_, c, none⟩) h.lt.1).trans (h.1 c hc), fun i hi => ⟨(hb.cell (p := ⟨_, 2 * i, none⟩) h.lt.2).trans (h.2 i hi).1, (hb.cell (p := ⟨_, 2 * i + 1, none⟩) h.lt.2).trans (h.2 i hi).2⟩⟩

theorem rn_next_any (bs : List UInt8) (A : Option Addr) (n cap B : Nat) (w : World) (hr : Reads w B 1 A n (bs.map b8)) (hn : 0 < n) (hm : n ≤ cap) (hcap : cap ≤ maxLen) (hT : Tabs w) :
    Calls Tryd.prog 28 #[.slice A n cap] w fun e w' => e = .returned (.tuple #[.int .i32 (nextC bs), .int .i64 (nextN bs)]) ∧ Below w.heap.size w w' := by
  refine rn_next bs A n cap B w hr hn hm hcap fun m hm1 hm2 hst h0 => ?_
  obtain ⟨b, off, rfl, hb, hcell⟩ := hr.open_ hn
  have hlen : bs.length = n := by simpa using hr.len
  have hsz : (bytesOf (bs.take m)).size = m := by rw [bytesOf_size, List.length_take]; omega
  have hd := decode_valid bs m (by omega) hm1 hst h0
  have h := Tryd.utf8_DecodeRune (bytesOf (bs.take m)) b off cap w hT (fun j hj => by
    rw [hsz] at hj
    rw [bytesOf_get, List.getElem?_take, if_pos hj, hcell j (b8 (bs[j]'(by omega))) (by simp; exact ⟨_, List.getElem?_eq_getElem (by omega), rfl⟩)]
    simp [b8, List.getElem?_eq_getElem (show j < bs.length by omega)])
  rw [hd, hsz] at h
  exact h
end Go.Proofs.YtjgjpcoieiobcaaDoor
