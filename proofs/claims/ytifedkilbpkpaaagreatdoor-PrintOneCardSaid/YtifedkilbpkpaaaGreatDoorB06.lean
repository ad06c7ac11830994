/- Layer 3: white space and comments are walked. -/
import Derived.Test.YtifedkilbpkpaaaGreatDoorB05
import Derived.Test.YtifedkilbpkpaaaGreatDoorB03
import Derived.Test.YtifedkilbpkpaaaGreatDoorB04
import Derived.Deep.DeepCutAuto
import Derived.Deep.CutBlock
import Derived.Maps.AppendAt
import Derived.Maps.RangeWalk
import Derived.WalkMore
import Derived.ScopeJumps
import Derived.BigRegion
/- Layer 4: a printed number ahead of a name: how long its decimal is. Plain laws. -/
set_option linter.unusedVariables false
set_option linter.unusedSimpArgs false
namespace Go.Proofs.YtifedkilbpkpaaaGreatDoor
open Go.RowKit Rn Tk Fx
namespace Nm
/-- what stands there is no digit, no point, no e -/
def StopM (y : List UInt8) : Prop := ∀ b t, y = b :: t → isD b = false ∧ b.toNat ≠ 46 ∧ b.toNat ≠ 101 ∧ b.toNat ≠ 69
theorem stop_isD {y : List UInt8} (h : StopM y) : digs y = 0 := by
  cases y with
  | nil => rfl
  | cons b t =>
    unfold digs
    rw [List.takeWhile_cons, if_neg (by simp [(h b t rfl).1])]; rfl
theorem digs_app (x y : List UInt8) (h : StopM y) : digs (x ++ y) = digs x := by
  induction x with
  | nil => rw [List.nil_append, stop_isD h]; rfl
  | cons b t ih =>
    unfold digs at ih ⊢
    rw [List.cons_append, List.takeWhile_cons, List.takeWhile_cons]
    split
    · simp only [List.length_cons, ih]
    · rfl
theorem sgn_app (x y : List UInt8) (h : x ≠ []) : sgn (x ++ y) = sgn x := by
  obtain ⟨b, t, rfl⟩ := List.exists_cons_of_ne_nil h
  rfl
theorem get_app (x y : List UInt8) (h : StopM y) {i : Nat} (hi : i ≤ x.length) : ((x ++ y)[i]? = some 46 ↔ x[i]? = some 46) ∧ isE (x ++ y)[i]? = isE x[i]? := by
  by_cases hl : i < x.length
  · rw [List.getElem?_append_left hl]; exact ⟨Iff.rfl, rfl⟩
  · rw [List.getElem?_append_right (by omega), show i - x.length = 0 by omega, List.getElem?_eq_none (by omega : x.length ≤ i)]
    cases y with
    | nil => exact ⟨Iff.rfl, rfl⟩
    | cons b t =>
      have := h b t rfl
      refine ⟨⟨fun hb => ?_, fun hb => by cases hb⟩, ?_⟩
      · simp at hb; subst hb; exact absurd rfl this.2.1
      · simp [isE]; omega
theorem frac_app (x y : List UInt8) (h : StopM y) {a : Nat} (ha : a ≤ x.length) : ((x ++ y)[a]? = some 46 ∧ 0 < digs ((x ++ y).drop (a + 1))) ↔ (x[a]? = some 46 ∧ 0 < digs (x.drop (a + 1))) := by
  have hg := (get_app x y h ha).1
  constructor
  · rintro ⟨h1, h2⟩
    have h3 := hg.1 h1
    have hlt := (List.getElem?_eq_some_iff.1 h3).1
    rw [Np.drop_app x y (by omega), digs_app _ y h] at h2
    exact ⟨h3, h2⟩
  · rintro ⟨h1, h2⟩
    have hlt := (List.getElem?_eq_some_iff.1 h1).1
    rw [Np.drop_app x y (by omega), digs_app _ y h]
    exact ⟨hg.2 h1, h2⟩
theorem body_app (x y : List UInt8) (hx : x ≠ []) (h : StopM y) : bodyLen (x ++ y) = bodyLen x := by
  unfold bodyLen
  simp only [sgn_app x y hx, Np.drop_app x y (Np.sgn_len x), digs_app _ y h]
  have hf := frac_app x y h (Np.int_len x)
  by_cases hc : x[sgn x + digs (x.drop (sgn x))]? = some 46 ∧ 0 < digs (x.drop (sgn x + digs (x.drop (sgn x)) + 1))
  · have hlt := (List.getElem?_eq_some_iff.1 hc.1).1
    rw [if_pos hc, if_pos (hf.2 hc), Np.drop_app x y (by omega), digs_app _ y h]
  · rw [if_neg hc, if_neg (fun h' => hc (hf.1 h'))]
theorem some_app (x y : List UInt8) (hx : x ≠ []) (h : StopM y) : some_ (x ++ y) = some_ x := by
  unfold some_
  simp only [sgn_app x y hx, Np.drop_app x y (Np.sgn_len x), digs_app _ y h]
  rw [Bool.eq_iff_iff, decide_eq_true_iff, decide_eq_true_iff, frac_app x y h (Np.int_len x)]
/-- a decimal without an exponent, all of it, stays as long -/
theorem len_app (x y : List UInt8) (hx : x ≠ []) (h : StopM y) (hb : bodyLen x = x.length) : lenP (x ++ y) = lenP x := by
  unfold lenP
  rw [some_app x y hx h]
  split
  · rfl
  simp only [body_app x y hx h]
  have hg := (get_app x y h (i := bodyLen x) (by omega)).2
  have hn : isE x[bodyLen x]? = false := by rw [hb, List.getElem?_eq_none (Nat.le_refl _)]; rfl
  rw [hg, hn]
  simp
end Nm
theorem dig_frac : ∀ r : Fin 1000, ∀ b ∈ fracT r.val, isD b = true ∨ b = 46 := by decide +kernel
theorem printP_bytes (n : Int) : ∀ b ∈ Fx.printP n, isD b = true ∨ b = 45 ∨ b = 46 := by
  intro b hb
  unfold Fx.printP at hb
  rcases List.mem_append.1 hb with hb | hb
  · split at hb
    · exact .inr (.inl (by simpa using hb))
    · cases hb
  · unfold printN at hb
    rcases List.mem_append.1 hb with hb | hb
    · exact .inl ((dec_facts _ _ (Nat.le_refl _)).1 b hb)
    · have hm : (stopZ n).natAbs % 1000 < 1000 := Nat.mod_lt _ (by omega)
      rcases dig_frac ⟨_, hm⟩ b hb with h | h
      · exact .inl h
      · exact .inr (.inr h)
theorem printP_ne (n : Int) : Fx.printP n ≠ [] := by
  have h := (dec_facts _ ((stopZ n).natAbs / 1000) (Nat.le_refl _)).2.2
  unfold Fx.printP printN
  intro e
  have := (List.append_eq_nil_iff.1 e).2
  exact h (List.append_eq_nil_iff.1 this).1
theorem printP_body (n : Int) : bodyLen (Fx.printP n) = (Fx.printP n).length := by
  have hp := (parse_print n).2.1
  have hb := Np.body_len (Fx.printP n)
  have hne := printP_ne n
  have hpos := List.length_pos_iff.2 hne
  have hE : isE (Fx.printP n)[bodyLen (Fx.printP n)]? = false := by
    cases h : (Fx.printP n)[bodyLen (Fx.printP n)]? with
    | none => rfl
    | some b =>
      have := printP_bytes n b (List.mem_of_getElem? h)
      unfold isE
      simp only
      rcases this with h1 | rfl | rfl
      · unfold isD at h1; simp at h1 ⊢; omega
      · decide
      · decide
  unfold lenP at hp
  split at hp
  · omega
  · simp only [hE] at hp
    simpa using hp
end Go.Proofs.YtifedkilbpkpaaaGreatDoor
/- runes.Lower and runes.Hex are walked. -/
set_option linter.unusedVariables false
set_option linter.unusedSimpArgs false
namespace Go.Proofs.YtifedkilbpkpaaaGreatDoor
open Go.RowKit Rn
namespace Rn
def low8 (b : UInt8) : UInt8 := if 65 ≤ b.toNat ∧ b.toNat ≤ 90 then b + 32 else b
def lowerP (bs : List UInt8) : List UInt8 := bs.map low8
end Rn
/-- []byte(s): a new block. -/
theorem conv_bytes {P : Program} {src dst e : TypeId} (hs : P.underlying src = some .string) (hd : P.underlying dst = some (.slice e)) (he : P.underlying e = some (.int .u8)) (w : World) (s : ByteArray) :
    ∃ c W1, (convert src dst (.string s)).run P w = .ok (.slice (some ⟨w.heap.size, 0, none⟩) s.size c) W1 ∧ s.size ≤ c ∧ Below w.heap.size w W1 ∧ RowAt W1 w.heap.size (s.data.toList.map b8) := by
  refine ⟨_, _, run_bytes_of_string w src dst e s hs hd he, grownCap_ge _ _ _ _, ((Below.refl _ _).drew).alloc (Nat.le_refl _) _, by simp, fun j u hu => ?_⟩
  have hj : j < s.data.toList.length := by
    have := (List.getElem?_eq_some_iff.1 hu).1
    simpa using this
  have hu' : u = b8 s.data.toList[j] := by
    rw [List.getElem?_map, List.getElem?_eq_getElem hj] at hu
    simpa using hu.symm
  subst hu'
  have hj2 : j < s.data.size := by simpa using hj
  have hj3 : j < s.size := hj2
  refine ⟨?_, ?_⟩
  · simp only [World.cell?, World.drew, World.alloc]
    simp [bytesRow, Array.getElem?_append, b8]
    rw [if_pos hj3, Array.getElem?_eq_getElem hj2]
    rfl
  · simp only [World.frozen?, World.drew, World.alloc]
    simp [bytesRow]
    omega

def LowRel (s : List UInt8) (g B : Nat) (w : World) (i : Value) (wr : World) : Prop := ∃ k : Nat, k ≤ s.length ∧ i = .int .i64 k ∧ RowAt wr g ((lowerP (s.take k) ++ s.drop k).map b8) ∧ Below B w wr
set_option maxRecDepth 100000 in
set_option maxHeartbeats 1000000 in
theorem rn_lower (s : ByteArray) (w : World) (hs : s.size ≤ 1000000) :
    Calls Tryz.prog 96 #[.string s] w fun e w' => e = .returned (.string (bytesOf (lowerP s.data.toList))) ∧ Below w.heap.size w w' := by
  obtain ⟨c, W1, hconv, hc, hb1, hrow⟩ := conv_bytes (P := Tryz.prog) Tryz.underlying9 Tryz.underlying31 Tryz.underlying5 w s
  have hlen : s.data.toList.length = s.size := Array.length_toList
  have Hlen := Lib.hid hlen
  have Hrow := Lib.hid hrow
  clear hlen hrow
  go_enter Tryz.func96, Tryz.ntmps96
  go_wp2
  clear hconv
  go_loopw [10] (fun i wr => LowRel s.data.toList w.heap.size w.heap.size w i wr) (fun i _ => s.size - (intOf i).toNat)
  case atStart => exact ⟨0, by omega, rfl, by simpa [lowerP] using Hrow.out, hb1⟩
  case round =>
    obtain ⟨k, hk, rfl, hrow, hb⟩ := hrel
    rw [Hlen.out] at hk
    by_cases hlt : k < s.size
    · obtain ⟨x, hx⟩ : ∃ x, s.data.toList[k]? = some x := ⟨_, List.getElem?_eq_getElem (by rw [Hlen.out]; exact hlt)⟩
      have hkl : (lowerP (s.data.toList.take k)).length = k := by rw [lowerP, List.length_map, List.length_take, Hlen.out]; omega
      have hat : ((lowerP (s.data.toList.take k) ++ s.data.toList.drop k).map b8)[k]? = some (b8 x) := by
        rw [List.getElem?_map, List.getElem?_append_right (by omega), hkl, Nat.sub_self, List.getElem?_drop, Nat.add_zero, hx]; rfl
      obtain ⟨hcell, hfr⟩ := hrow.2 k _ hat
      have hnew : ∀ y, y = low8 x → RowAt (wr.setCell ⟨w.heap.size, k, none⟩ (b8 y)) w.heap.size ((lowerP (s.data.toList.take (k + 1)) ++ s.data.toList.drop (k + 1)).map b8) := by
        intro y hy
        have h1 := hrow.store k (b8 y)
        rw [← List.map_set, List.set_append_right _ _ (by omega), hkl, Nat.sub_self] at h1
        have hd : s.data.toList.drop k = x :: s.data.toList.drop (k + 1) := by
          rw [List.drop_eq_getElem_cons (by rw [Hlen.out]; exact hlt)]
          rw [List.getElem?_eq_getElem (by rw [Hlen.out]; exact hlt)] at hx
          injection hx with hx; rw [hx]
        rw [hd, List.set_cons_zero] at h1
        rw [take_snoc _ k x hx, lowerP, List.map_append, hy] at *
        simpa [lowerP] using h1
      have hsame : low8 x = x → RowAt wr w.heap.size ((lowerP (s.data.toList.take (k + 1)) ++ s.data.toList.drop (k + 1)).map b8) := by
        intro hy
        have hd : s.data.toList.drop k = x :: s.data.toList.drop (k + 1) := by
          rw [List.drop_eq_getElem_cons (by rw [Hlen.out]; exact hlt)]
          rw [List.getElem?_eq_getElem (by rw [Hlen.out]; exact hlt)] at hx
          injection hx with hx; rw [hx]
        rw [hd] at hrow
        rw [take_snoc _ k x hx, lowerP, List.map_append]
        simpa [lowerP, hy] using hrow
      unfold b8 at hcell
      have hx256 : x.toNat < 256 := x.toNat_lt
      have Hnew := Lib.hid hnew
      have Hsame := Lib.hid hsame
      clear hnew hsame hat hkl hrow hx
      by_cases hup : 65 ≤ x.toNat ∧ x.toNat ≤ 90
      · obtain ⟨u1, u2⟩ := hup
        have hy : (b8 (x + 32)) = .int .u8 ((x.toNat : Int) + 32) := by
          unfold b8; congr 1
          have : (x + 32).toNat = x.toNat + 32 := by rw [UInt8.toNat_add]; simp; omega
          rw [this]; rfl
        have hfin := Hnew.out (x + 32) (by simp [low8, u1, u2])
        rw [hy] at hfin
        have Hfin := Lib.hid hfin
        clear hy hfin Hnew Hsame
        have hbn : Below w.heap.size w (wr.setCell ⟨w.heap.size, k, none⟩ (.int .u8 ((x.toNat : Int) + 32))) := hb.setCell (Nat.le_refl _) _
        go_wp2
        go_roundw
        case rel => exact ⟨k + 1, by rw [Hlen.out]; omega, by go_num, Hfin.out, hbn⟩
        case measure => simp [intOf]; omega
      · have hfin := Hsame.out (by simp [low8]; omega)
        have Hfin := Lib.hid hfin
        clear hfin Hnew Hsame
        by_cases u1 : 65 ≤ x.toNat
        all_goals
          go_wp2
          go_roundw
          case rel => exact ⟨k + 1, by rw [Hlen.out]; omega, by go_num, Hfin.out, hb⟩
          case measure => simp [intOf]; omega
    · obtain rfl : k = s.size := by omega
      have hfull : RowAt wr w.heap.size ((lowerP s.data.toList).map b8) := by
        rw [List.take_of_length_le (by rw [Hlen.out]; omega), List.drop_of_length_le (by rw [Hlen.out]; omega), List.append_nil] at hrow
        exact hrow
      have hrd := hfull.reads (B := w.heap.size + 1) (by omega)
      rw [List.length_map, show (lowerP s.data.toList).length = s.size from by rw [lowerP, List.length_map]; exact Hlen.out] at hrd
      have hback := run_str (P := Tryz.prog) (src := 31) (dst := 9) Tryz.underlying31 Tryz.underlying5 Tryz.underlying9 c hrd
      clear hrow hfull hrd
      go_wp2
      go_ret
      exact ⟨rfl, hb⟩
end Go.Proofs.YtifedkilbpkpaaaGreatDoor
/- runes.Hex is walked. -/
set_option linter.unusedVariables false
set_option linter.unusedSimpArgs false
namespace Go.Proofs.YtifedkilbpkpaaaGreatDoor
open Go.RowKit Rn
def hexText : ByteArray := ⟨#[48, 49, 50, 51, 52, 53, 54, 55, 56, 57, 97, 98, 99, 100, 101, 102]⟩
theorem hex_ascii : ∀ c : Fin 128, Lib.indexByte hexText.data.toList (low8 (UInt8.ofNat c.val)) = hexI (c.val : Int) := by decide +kernel
theorem hex_high : ∀ c : Fin 256, 128 ≤ c.val → Lib.indexByte hexText.data.toList (low8 (UInt8.ofNat c.val)) = -1 := by decide +kernel
theorem hex_first (c : Int) (hc : -2147483648 ≤ c ∧ c ≤ 2147483647) : ∃ b0, (lowerP (writeP [c]))[0]? = some b0 ∧ Lib.indexByte hexText.data.toList b0 = hexI c := by
  have hw : writeP [c] = Lib.encodeRune c := by simp [writeP]
  rw [hw]
  by_cases ha : 0 ≤ c ∧ c ≤ 127
  · refine ⟨low8 (UInt8.ofNat c.toNat), ?_, ?_⟩
    · simp only [Lib.encodeRune, Lib.encodeRuneZ_one ha.1 ha.2, lowerP, List.map_cons, List.map_nil, List.getElem?_cons_zero]
    · have := hex_ascii ⟨c.toNat, by omega⟩
      rw [this]
      have e : ((c.toNat : Nat) : Int) = c := by omega
      show hexI ((c.toNat : Nat) : Int) = hexI c
      rw [e]
  · have hx : hexI c = -1 := by unfold hexI; (repeat' split) <;> omega
    have : ∃ z : Int, 128 ≤ z ∧ z < 256 ∧ (Lib.encodeRune c)[0]? = some (UInt8.ofNat z.toNat) := by
      unfold Lib.encodeRune
      by_cases h2 : 128 ≤ c ∧ c ≤ 2047
      · rw [Lib.encodeRuneZ_two h2.1 h2.2]; exact ⟨192 + c / 64, by omega, by omega, rfl⟩
      · by_cases h3 : (2048 ≤ c ∧ c < 55296) ∨ (57343 < c ∧ c ≤ 65535)
        · rw [Lib.encodeRuneZ_three h3]; exact ⟨224 + c / 4096, by omega, by omega, rfl⟩
        · by_cases h4 : 65536 ≤ c ∧ c ≤ 1114111
          · rw [Lib.encodeRuneZ_four h4.1 h4.2]; exact ⟨240 + c / 262144, by omega, by omega, rfl⟩
          · rw [Lib.encodeRuneZ_bad (by omega)]; exact ⟨239, by omega, by omega, rfl⟩
    obtain ⟨z, z1, z2, hz⟩ := this
    refine ⟨low8 (UInt8.ofNat z.toNat), by rw [lowerP, List.getElem?_map, hz]; rfl, ?_⟩
    rw [hx]
    exact hex_high ⟨z.toNat, by omega⟩ (by simp; omega)

set_option maxRecDepth 100000 in
set_option maxHeartbeats 1000000 in
theorem rn_hex (c : Int) (w : World) (hc : -2147483648 ≤ c ∧ c ≤ 2147483647) :
    Calls Tryz.prog 78 #[.int .i32 c] w fun e w' => e = .returned (.int .i64 (hexI c)) ∧ Below w.heap.size w w' := by
  obtain ⟨b0, hb0, hx⟩ := hex_first c hc
  have Hb0 := Lib.hid hb0
  have Hx := Lib.hid hx
  clear hb0 hx
  go_enter Tryz.func78, Tryz.ntmps78
  go_wp2_with fail
  have hrow : RowAt (w.alloc (.cells #[.int .i32 c] 21)) w.heap.size ([c].map r32) := RowAt.new _ _ _
  have hr := (hrow.reads (B := w.heap.size + 1) (by omega))
  have hsz : (w.alloc (.cells #[.int .i32 c] 21)).heap.size = w.heap.size + 1 := by simp
  refine (rn_write [c] _ 1 1 _ (by rw [hsz]; exact hr) (by intro d hd; simp at hd; subst hd; exact hc) (by omega)).mono ?_
  rintro e w1 ⟨v, rfl, hown, hb1⟩
  obtain ⟨A, cp, rfl, _, _⟩ := own_form hown
  have hrd := Reads.of_own hown
  have hstr := run_str (P := Tryz.prog) (src := 31) (dst := 9) Tryz.underlying31 Tryz.underlying5 Tryz.underlying9 cp hrd
  have hbw : Below w.heap.size w w1 := ((Below.refl _ _).alloc (Nat.le_refl _) _).trans (hb1.mono (by rw [hsz]; omega))
  have hlen := writeP_len [c]
  clear hrd hown hrow hr hb1
  go_wp2_with fail
  refine (rn_lower (bytesOf (writeP [c])) _ (by rw [bytesOf_size]; simp at hlen; omega)).mono ?_
  rintro e w2 ⟨rfl, hb2⟩
  have hfin : Below w.heap.size w w2 := hbw.trans (hb2.mono hbw.size)
  have hS : (bytesOf (lowerP (bytesOf (writeP [c])).data.toList)).data.toList[0]? = some b0 := by simpa [bytesOf] using Hb0.out
  generalize bytesOf (lowerP (bytesOf (writeP [c])).data.toList) = S at *
  have hS0 : 0 < S.size := by
    rcases Nat.eq_zero_or_pos S.size with h | h
    · have : S.data.toList = [] := List.eq_nil_of_length_eq_zero (by rw [Array.length_toList]; exact h)
      rw [this] at hS; cases hS
    · exact h
  have hS1 : S[0]'hS0 = b0 := by
    have : S.data.toList[0]? = some (S[0]'hS0) := by
      rw [List.getElem?_eq_getElem (by rw [Array.length_toList]; exact hS0)]; rfl
    rw [this] at hS; injection hS
  have HS1 := Lib.hid hS1
  clear hS hS1 hstr hbw hb2 hlen
  go_wp2_with fail
  refine (Tryz.strings_IndexByte _ _ _).mono ?_
  rintro e w3 ⟨rfl, rfl⟩
  go_wp2
  go_ret
  refine ⟨ret_int ?_, hfin⟩
  rw [HS1.out]
  exact Hx.out
end Go.Proofs.YtifedkilbpkpaaaGreatDoor
/- Layer 3: the scanner in memory: where its place lies, and what a step leaves as it was. -/
set_option linter.unusedVariables false
set_option linter.unusedSimpArgs false
namespace Go.Proofs.YtifedkilbpkpaaaGreatDoor
open Go.RowKit Rn Tk
/-- The scanner at block S stands at character k of l; its place lies at block P; the characters below B. -/
structure At (w : World) (B S P : Nat) (A : Option Addr) (n cap : Nat) (l : List Int) (k : Nat) : Prop where
  s0 : w.cell? ⟨S, 0, none⟩ = some (.pointer (some ⟨P, 0, none⟩))
  p0 : w.cell? ⟨P, 0, none⟩ = some (.slice A n cap)
  p1 : w.cell? ⟨P, 1, none⟩ = some (.int .i64 (k : Int))
  fz : w.frozen? ⟨P, 1, none⟩ = false
  rd : Reads w B 1 A n (l.map r32)
  hB : B ≤ P
  hPS : P < S
  hS : S < w.heap.size
  hk : k ≤ n
  hn : n ≤ 1000000
  hc : n ≤ cap
  hm : cap ≤ maxLen
/-- What a step that moves the place may turn: block P alone. -/
abbrev Mv (P : Nat) (w w' : World) : Prop := w.grownBy w' (some P)
section
variable {w w' : World} {B S P n cap k : Nat} {A : Option Addr} {l : List Int}
theorem At.len (h : At w B S P A n cap l k) : l.length = n := by simpa using h.rd.len
theorem At.mv (h : At w B S P A n cap l k) (hb : w.grownBy w' none) : At w' B S P A n cap l k := by
  have hS := h.hS
  have hP := h.hPS
  have key : ∀ p : Addr, p.block < w.heap.size → w'.cell? p = w.cell? p := fun p hp => hb.cell_far p hp (by simp)
  exact { s0 := (key _ hS).trans h.s0, p0 := (key _ (Nat.lt_trans hP hS)).trans h.p0, p1 := (key _ (Nat.lt_trans hP hS)).trans h.p1, fz := (hb.frozen_far _ (Nat.lt_trans hP hS) (by simp)).trans h.fz, rd := h.rd.keep fun p hp => key p (Nat.lt_of_lt_of_le hp (by have := h.hB; omega)), hB := h.hB, hPS := h.hPS, hS := Nat.lt_of_lt_of_le hS hb.size, hk := h.hk, hn := h.hn, hc := h.hc, hm := h.hm }
theorem At.store (h : At w B S P A n cap l k) {k' : Nat} (hk : k' ≤ n) : At (w.setCell ⟨P, 1, none⟩ (.int .i64 (k' : Int))) B S P A n cap l k' := by
  have hS := h.hS
  have hP := h.hPS
  have hB := h.hB
  have other : ∀ p : Addr, p ≠ ⟨P, 1, none⟩ → (w.setCell ⟨P, 1, none⟩ (.int .i64 (k' : Int))).cell? p = w.cell? p := fun p hp => World.cell?_setCell_other w _ _ _ (Ne.symm hp)
  exact { s0 := (other _ (by intro e; injection e; omega)).trans h.s0, p0 := (other _ (by intro e; injection e; omega)).trans h.p0, p1 := World.cell?_setCell_same _ _ _ h.p1, fz := (World.frozen?_setCell _ _ _ _).trans h.fz, rd := h.rd.setCell hB _, hB := hB, hPS := hP, hS := by simpa [World.setCell] using hS, hk := hk, hn := h.hn, hc := h.hc, hm := h.hm }
end
theorem Mv.refl (P : Nat) (w : World) : Mv P w w := World.grownBy.refl _ _
theorem Mv.store (w : World) (P : Nat) (v : Value) : Mv P w (w.setCell ⟨P, 1, none⟩ v) := by
  refine ⟨rfl, rfl, rfl, by simp [World.setCell], fun i hi hne => ?_⟩
  simp only [World.setCell]
  rw [Array.getElem?_modify]
  rw [if_neg (fun e => hne (by rw [e]))]
theorem Mv.of {P : Nat} {w w' : World} (h : w.grownBy w' none) : Mv P w w' := h.but _
theorem grown_below {w w' : World} (h : w.grownBy w' none) : Below w.heap.size w w' := ⟨h.os, h.tape, h.output, h.size, fun i hi => h.block i hi (by simp)⟩
theorem below_grown {w w' : World} (h : Below w.heap.size w w') : w.grownBy w' none := ⟨h.os, h.tape, h.output, h.size, fun i hi _ => h.block i hi⟩
theorem grown_drewN (w : World) (q : Nat) : w.grownBy (w.drewN q) none := ⟨rfl, rfl, rfl, Nat.le_refl _, fun _ _ _ => rfl⟩
theorem pk_at {l : List Int} {k m : Nat} (h : k + m < l.length) : l[k + m]? = some (pk (l.drop k) m) := by
  rw [pk_drop, pk, List.getElem?_eq_getElem h]; rfl
theorem pk_end {l : List Int} {k m : Nat} (h : l.length ≤ k + m) : pk (l.drop k) m = -1 := by
  rw [pk_drop, pk, List.getElem?_eq_none h]; rfl
set_option maxRecDepth 100000 in
set_option maxHeartbeats 1000000 in
theorem tk_peek {w : World} {B S P n cap k : Nat} {A : Option Addr} {l : List Int} (m : Nat) (h : At w B S P A n cap l k) (hm : m ≤ 100) :
    Calls Tryz.prog 25 #[.pointer (some ⟨P, 0, none⟩), .int .i64 (m : Int)] w fun e w' => e = .returned (.int .i32 (pk (l.drop k) m)) ∧ w.grownBy w' none := by
  have hlen := h.len
  have hk := h.hk
  have hn := h.hn
  have p0 := h.p0
  have p1 := h.p1
  by_cases hlt : k + m < n
  · obtain ⟨b, off, u, hA, hbB, hu, hcell⟩ := h.rd.at_ hlt
    subst hA
    have hv : u = .int .i32 (pk (l.drop k) m) := by
      rw [List.getElem?_map, pk_at (by omega)] at hu
      simp at hu
      rw [← hu]; rfl
    subst hv
    have hx1 : (0 : Int) ≤ (k : Int) + (m : Int) := by omega
    have hx2 : (k : Int) + (m : Int) < (n : Int) := by omega
    have hx3 : ((k : Int) + (m : Int)).toNat = k + m := by omega
    generalize pk (l.drop k) m = c at *
    go_enter Tryz.func25, Tryz.ntmps25
    go_wp2_with fail
    go_quiet (fail)
    go_wp2_with fail
    go_quiet (fail)
    go_wp2
    go_ret
    exact ⟨rfl, (grown_drewN _ _).trans (grown_drewN _ _)⟩
  · have hv : pk (l.drop k) m = -1 := pk_end (by omega)
    rw [hv]
    have hx2 : (n : Int) ≤ (k : Int) + (m : Int) := by omega
    go_enter Tryz.func25, Tryz.ntmps25
    go_wp2_with fail
    go_quiet (fail)
    go_wp2
    go_ret
    exact ⟨rfl, grown_drewN _ _⟩
theorem pk_shift (l : List Int) (k m i : Nat) : pk (l.drop k) (m + i) = pk (l.drop (k + m)) i := by rw [pk_drop, pk_drop, Nat.add_assoc]
theorem eq_f {a b : Int} (h : ¬ a = b) : (a == b) = false := by simpa using h
theorem eq_t {a b : Int} (h : a = b) : (a == b) = true := by simpa using h
set_option maxRecDepth 100000 in
set_option maxHeartbeats 1000000 in
theorem tk_escape {w : World} {B S P n cap k : Nat} {A : Option Addr} {l : List Int} (m : Nat) (h : At w B S P A n cap l k) (hm : m ≤ 50) :
    Calls Tryz.prog 43 #[.pointer (some ⟨S, 0, none⟩), .int .i64 (m : Int)] w fun e w' => e = .returned (.bool (esc (l.drop (k + m)))) ∧ w.grownBy w' none := by
  have s0 := h.s0
  have hp0 := tk_peek m h (by omega)
  have hp1 := fun w' (g : w.grownBy w' none) => tk_peek (m + 1) (h.mv g) (by omega)
  have hv : esc (l.drop (k + m)) = decide (pk (l.drop k) m = 92 ∧ 0 ≤ pk (l.drop k) (m + 1) ∧ pk (l.drop k) (m + 1) ≠ 10) := by
    unfold esc; rw [← pk_shift, ← pk_shift]; rfl
  rw [hv]
  clear hv
  generalize pk (l.drop k) m = c0 at *
  generalize pk (l.drop k) (m + 1) = c1 at *
  have hcast : ((m + 1 : Nat) : Int) = (m : Int) + 1 := by omega
  rw [hcast] at hp1
  by_cases e0 : c0 = 92
  · have b0 := eq_t e0
    by_cases e1 : 0 ≤ c1
    · have b1 : decide (0 ≤ c1) = true := by simpa using e1
      have hfin : decide (c0 = 92 ∧ 0 ≤ c1 ∧ c1 ≠ 10) = (c1 != 10) := by rw [Bool.eq_iff_iff]; simp [e0, e1]
      rw [hfin]
      clear e0 hfin
      go_enter Tryz.func43, Tryz.ntmps43
      go_wp2_with fail
      refine hp0.mono ?_
      rintro e w1 ⟨rfl, g1⟩
      have s1 := (h.mv g1).s0
      go_wp2_with fail
      refine (hp1 w1 g1).mono ?_
      rintro e w2 ⟨rfl, g2⟩
      have g2 := g1.trans g2
      have s2 := (h.mv g2).s0
      go_wp2_with fail
      refine (hp1 w2 g2).mono ?_
      rintro e w3 ⟨rfl, g3⟩
      have g3 := g2.trans g3
      go_wp2
      go_ret
      exact ⟨rfl, g3⟩
    · have b1 : decide (0 ≤ c1) = false := by simpa using e1
      have hfin : decide (c0 = 92 ∧ 0 ≤ c1 ∧ c1 ≠ 10) = false := by simp [e1]
      rw [hfin]
      clear e0 hfin
      go_enter Tryz.func43, Tryz.ntmps43
      go_wp2_with fail
      refine hp0.mono ?_
      rintro e w1 ⟨rfl, g1⟩
      have s1 := (h.mv g1).s0
      go_wp2_with fail
      refine (hp1 w1 g1).mono ?_
      rintro e w2 ⟨rfl, g2⟩
      have g2 := g1.trans g2
      go_wp2
      go_ret
      exact ⟨rfl, g2⟩
  · have b0 := eq_f e0
    have hfin : decide (c0 = 92 ∧ 0 ≤ c1 ∧ c1 ≠ 10) = false := by simp [e0]
    rw [hfin]
    go_enter Tryz.func43, Tryz.ntmps43
    go_wp2_with fail
    refine hp0.mono ?_
    rintro e w1 ⟨rfl, g1⟩
    go_wp2
    go_ret
    exact ⟨rfl, g1⟩
end Go.Proofs.YtifedkilbpkpaaaGreatDoor
/- Layer 3: does a name begin here? is walked. -/
set_option linter.unusedVariables false
set_option linter.unusedSimpArgs false
namespace Go.Proofs.YtifedkilbpkpaaaGreatDoor
open Go.RowKit Rn Tk
set_option maxRecDepth 100000 in
set_option maxHeartbeats 1000000 in
theorem tk_may {w : World} {B S P n cap k X : Nat} {A : Option Addr} {l : List Int} (m : Nat) (h : At w B S P A n cap l k) (hm : m ≤ 50) (hX : w.cell? ⟨X, 0, none⟩ = some (.pointer (some ⟨S, 0, none⟩))) (hXl : X < w.heap.size) :
    Calls Tryz.prog 66 #[.int .i64 (m : Int), .pointer (some ⟨X, 0, none⟩)] w fun e w' => e = .returned (.bool (may (l.drop (k + m)))) ∧ w.grownBy w' none := by
  have s0 := h.s0
  have hp0 := tk_peek m h (by omega)
  have hp1 := fun w' (g : w.grownBy w' none) => tk_escape m (h.mv g) (by omega)
  have hv : may (l.drop (k + m)) = (beginsB (pk (l.drop k) m) || esc (l.drop (k + m))) := by unfold may; rw [← pk_shift]; rfl
  rw [hv]
  clear hv
  generalize pk (l.drop k) m = c0 at *
  generalize esc (l.drop (k + m)) = b1 at *
  cases hb : beginsB c0 with
  | true =>
    rw [Bool.true_or]
    go_enter Tryz.func66, Tryz.ntmps66
    go_wp2_with fail
    refine hp0.mono ?_
    rintro e w1 ⟨rfl, g1⟩
    go_wp2_with fail
    refine (rn_begins c0 w1).mono ?_
    rintro e w2 ⟨rfl, rfl⟩
    rw [hb]
    go_wp2
    go_ret
    exact ⟨rfl, g1⟩
  | false =>
    rw [Bool.false_or]
    go_enter Tryz.func66, Tryz.ntmps66
    go_wp2_with fail
    refine hp0.mono ?_
    rintro e w1 ⟨rfl, g1⟩
    have hX1 := (g1.cell_far ⟨X, 0, none⟩ hXl (by simp)).trans hX
    go_wp2_with fail
    refine (rn_begins c0 w1).mono ?_
    rintro e w2 ⟨rfl, rfl⟩
    rw [hb]
    go_wp2_with fail
    refine (hp1 w1 g1).mono ?_
    rintro e w2 ⟨rfl, g2⟩
    have g2 := g1.trans g2
    go_wp2
    go_ret
    exact ⟨rfl, g2⟩
set_option maxRecDepth 100000 in
set_option maxHeartbeats 2000000 in
theorem tk_begins {w : World} {B S P n cap k : Nat} {A : Option Addr} {l : List Int} (m : Nat) (h : At w B S P A n cap l k) (hm : m ≤ 20) :
    Calls Tryz.prog 46 #[.pointer (some ⟨S, 0, none⟩), .int .i64 (m : Int)] w fun e w' => e = .returned (.bool (beg (l.drop (k + m)))) ∧ w.grownBy w' none := by
  have ga : w.grownBy (w.alloc (.cells #[.pointer (some ⟨S, 0, none⟩)] 47)) none := World.grownBy_alloc _ _ _
  have hXa : (w.alloc (.cells #[.pointer (some ⟨S, 0, none⟩)] 47)).cell? ⟨w.heap.size, 0, none⟩ = some (.pointer (some ⟨S, 0, none⟩)) := ((RowAt.new w _ #[_]).2 0 _ rfl).1
  have hXl : w.heap.size < (w.alloc (.cells #[.pointer (some ⟨S, 0, none⟩)] 47)).heap.size := by simp
  have hv : beg (l.drop (k + m)) = (may (l.drop (k + m)) || (decide (pk (l.drop k) m = 45) && (may (l.drop (k + (m + 1))) || decide (pk (l.drop k) (m + 1) = 45)))) := by
    unfold beg; rw [List.tail_drop, ← pk_shift, ← pk_shift]; rfl
  rw [hv]
  clear hv
  obtain ⟨w0, hw0⟩ : ∃ w0, w.alloc (.cells #[.pointer (some ⟨S, 0, none⟩)] 47) = w0 := ⟨_, rfl⟩
  rw [hw0] at ga hXa hXl
  have h0 := h.mv ga
  have kX : ∀ w', w0.grownBy w' none → w'.cell? ⟨w.heap.size, 0, none⟩ = some (.pointer (some ⟨S, 0, none⟩)) := fun w' g => (g.cell_far ⟨w.heap.size, 0, none⟩ hXl (by simp)).trans hXa
  have kL : ∀ w', w0.grownBy w' none → w.heap.size < w'.heap.size := fun w' g => Nat.lt_of_lt_of_le hXl g.size
  have cM := tk_may m h0 (by omega) hXa hXl
  have cM1 := fun w' (g : w0.grownBy w' none) => tk_may (m + 1) (h0.mv g) (by omega) (kX w' g) (kL w' g)
  have cP := fun w' (g : w0.grownBy w' none) => tk_peek m (h0.mv g) (by omega)
  have cP1 := fun w' (g : w0.grownBy w' none) => tk_peek (m + 1) (h0.mv g) (by omega)
  have kS : ∀ w', w0.grownBy w' none → w'.cell? ⟨S, 0, none⟩ = some (.pointer (some ⟨P, 0, none⟩)) := fun w' g => (h0.mv g).s0
  have hcast : ((m + 1 : Nat) : Int) = (m : Int) + 1 := by omega
  rw [hcast] at cM1 cP1
  generalize pk (l.drop k) m = c0 at *
  generalize pk (l.drop k) (m + 1) = c1 at *
  generalize may (l.drop (k + m)) = b0 at *
  generalize may (l.drop (k + (m + 1))) = b1 at *
  clear h h0
  cases b0 with
  | true =>
    go_enter Tryz.func46, Tryz.ntmps46
    go_wp2_with fail
    refine cM.mono ?_
    rintro e w1 ⟨rfl, g1⟩
    go_wp2
    go_ret
    exact ⟨rfl, ga.trans g1⟩
  | false =>
    by_cases e0 : c0 = 45
    · have t0 := eq_t e0
      cases b1 with
      | true =>
        have hfin : (false || (decide (c0 = 45) && (true || decide (c1 = 45)))) = true := by simp [e0]
        rw [hfin]
        clear e0 hfin
        go_enter Tryz.func46, Tryz.ntmps46
        go_wp2_with fail
        refine cM.mono ?_
        rintro e w1 ⟨rfl, g1⟩
        have x1 := kX w1 g1
        have y1 := kS w1 g1
        go_wp2_with fail
        refine (cP w1 g1).mono ?_
        rintro e w2 ⟨rfl, g2⟩
        have g2 := g1.trans g2
        go_wp2_with fail
        refine (cM1 w2 g2).mono ?_
        rintro e w3 ⟨rfl, g3⟩
        have g3 := g2.trans g3
        go_wp2
        go_ret
        exact ⟨rfl, ga.trans g3⟩
      | false =>
        have hfin : (false || (decide (c0 = 45) && (false || decide (c1 = 45)))) = (c1 == 45) := by rw [Bool.eq_iff_iff]; simp [e0]
        rw [hfin]
        clear e0 hfin
        go_enter Tryz.func46, Tryz.ntmps46
        go_wp2_with fail
        refine cM.mono ?_
        rintro e w1 ⟨rfl, g1⟩
        have x1 := kX w1 g1
        have y1 := kS w1 g1
        go_wp2_with fail
        refine (cP w1 g1).mono ?_
        rintro e w2 ⟨rfl, g2⟩
        have g2 := g1.trans g2
        go_wp2_with fail
        refine (cM1 w2 g2).mono ?_
        rintro e w3 ⟨rfl, g3⟩
        have g3 := g2.trans g3
        have x3 := kX w3 g3
        have y3 := kS w3 g3
        go_wp2_with fail
        refine (cP1 w3 g3).mono ?_
        rintro e w4 ⟨rfl, g4⟩
        have g4 := g3.trans g4
        go_wp2
        go_ret
        exact ⟨rfl, ga.trans g4⟩
    · have t0 := eq_f e0
      have hfin : (false || (decide (c0 = 45) && (b1 || decide (c1 = 45)))) = false := by simp [e0]
      rw [hfin]
      clear hfin
      go_enter Tryz.func46, Tryz.ntmps46
      go_wp2_with fail
      refine cM.mono ?_
      rintro e w1 ⟨rfl, g1⟩
      have x1 := kX w1 g1
      have y1 := kS w1 g1
      go_wp2_with fail
      refine (cP w1 g1).mono ?_
      rintro e w2 ⟨rfl, g2⟩
      have g2 := g1.trans g2
      go_wp2
      go_ret
      exact ⟨rfl, ga.trans g2⟩
end Go.Proofs.YtifedkilbpkpaaaGreatDoor
/- Layer 3: what an escape means is walked. -/
set_option linter.unusedVariables false
set_option linter.unusedSimpArgs false
namespace Go.Proofs.YtifedkilbpkpaaaGreatDoor
open Go.RowKit Rn Tk
def Chars (l : List Int) : Prop := ∀ c ∈ l, isB c = true
theorem isB_range {c : Int} (h : isB c = true) : 0 ≤ c ∧ c ≤ 1114111 := by unfold isB at h; simp at h; omega
theorem pk_range {l : List Int} (h : Chars l) (m : Nat) : -1 ≤ pk l m ∧ pk l m ≤ 1114111 := by
  unfold pk
  cases hm : l[m]? with
  | none => simp
  | some c => have := isB_range (h c (List.mem_of_getElem? hm)); simp; omega
theorem pk_is {l : List Int} (h : Chars l) {m : Nat} (hm : m < l.length) : isB (pk l m) = true := by
  unfold pk; rw [List.getElem?_eq_getElem hm]; exact h _ (List.getElem_mem hm)
theorem pk_pos {l : List Int} {m : Nat} (hm : -1 < pk l m) : m < l.length := by
  unfold pk at hm
  cases hx : l[m]? with
  | none => rw [hx] at hm; simp at hm
  | some c => exact (List.getElem?_eq_some_iff.1 hx).1
theorem Chars.drop {l : List Int} (h : Chars l) (k : Nat) : Chars (l.drop k) := fun c hc => h c (List.mem_of_mem_drop hc)
theorem Chars.tail {l : List Int} (h : Chars l) : Chars l.tail := fun c hc => h c (List.mem_of_mem_tail hc)
theorem hexI_range (c : Int) : -1 ≤ hexI c ∧ hexI c ≤ 15 := by unfold hexI; (repeat' split) <;> omega
theorem hexI_pos {c : Int} (h : 0 ≤ hexI c) : 48 ≤ c := by unfold hexI at h; (repeat' split at h) <;> omega
theorem hexes_yes {f n : Nat} {r : List Int} (h : 0 ≤ hexI (pk r 0)) : hexes (f + 1) n r = hexes f (16 * n + (hexI (pk r 0)).toNat) r.tail := by rw [hexes, if_pos h]
theorem hexes_no {f n : Nat} {r : List Int} (h : hexI (pk r 0) < 0) : hexes f n r = (n, r) := by cases f <;> unfold hexes <;> simp; omega
set_option maxRecDepth 100000 in
set_option maxHeartbeats 4000000 in
theorem tk_meant {w : World} {B S P n cap k : Nat} {A : Option Addr} {l : List Int} (h : At w B S P A n cap l k) (hch : Chars l) (hk1 : k + 1 < n) :
    Calls Tryz.prog 63 #[.pointer (some ⟨S, 0, none⟩)] w fun e w' => e = .returned (.int .i32 (meantT (l.drop (k + 1))).1) ∧ Mv P w w' ∧ ∃ k', k + 1 < k' ∧ l.drop k' = (meantT (l.drop (k + 1))).2 ∧ At w' B S P A n cap l k' := by
  have hlen := h.len
  have hn := h.hn
  have hr := fun j m => pk_range (hch.drop j) m
  obtain ⟨M, hM⟩ : ∃ M, meantT (l.drop (k + 1)) = M := ⟨_, rfl⟩
  rw [hM]
  have HM := Lib.hid hM
  have Hch := Lib.hid hch
  have Hr := Lib.hid hr
  clear hM hch hr
  have a1 := h.s0
  have a2 := h.p0
  have a3 := h.p1
  have a4 := h.fz
  have h1 := h.store (k' := k + 1) (by omega)
  have m1 := Mv.store w P (.int .i64 ((k + 1 : Nat) : Int))
  rw [Int.natCast_add] at h1 m1
  go_enter Tryz.func63, Tryz.ntmps63
  go_upto_block 0 with (fail)
  go_cut [3, 4] (fun x y wx => ∃ (i N j : Nat), i ≤ 6 ∧ Hid (j = k + 1 + i) ∧ Hid (hexes 6 0 (l.drop (k + 1)) = (N, l.drop j)) ∧ N ≤ 16777215 ∧ (0 < i → 0 ≤ hexI (pk (l.drop (k + 1)) 0)) ∧ (i = 0 → hexI (pk (l.drop (k + 1)) 0) < 0) ∧ At wx B S P A n cap l j ∧ Mv P w wx ∧ x = .int .i64 (N : Int) ∧ y = .int .i64 (i : Int))
  case first =>
    go_wp2_with fail
    go_loopw [3, 4] (fun x y wr => ∃ (i N j : Nat), i ≤ 6 ∧ Hid (j = k + 1 + i) ∧ Hid (hexes (6 - i) N (l.drop j) = hexes 6 0 (l.drop (k + 1))) ∧ N < 16 ^ i ∧ (0 < i → 0 ≤ hexI (pk (l.drop (k + 1)) 0)) ∧ At wr B S P A n cap l j ∧ Mv P w wr ∧ x = .int .i64 (N : Int) ∧ y = .int .i64 (i : Int)) (fun _ y _ => 6 - (intOf y).toNat)
    case atStart => exact ⟨0, 0, k + 1, by omega, rfl, rfl, by omega, by omega, h1, m1, rfl, rfl⟩
    case round =>
      obtain ⟨i, N, j, hi, hj, hrun, hN, hpos, hat, hmv, rfl, rfl⟩ := hrel
      have b1 := hat.s0
      by_cases hi6 : i < 6
      · have hp := tk_peek 0 hat (by omega)
        obtain ⟨c, hc⟩ : ∃ c, pk (l.drop j) 0 = c := ⟨_, rfl⟩
        have hcr := Hr.out j 0
        rw [hc] at hcr hp
        have hxr := hexI_range c
        have hN5 : N < 1048576 := Nat.lt_of_lt_of_le hN (Nat.pow_le_pow_right (n := 16) (by omega) (show i ≤ 5 by omega))
        by_cases hx : 0 ≤ hexI c
        · have hjn : j < n := by
            have h48 := hexI_pos hx
            have := pk_pos (l := l.drop j) (m := 0) (by rw [hc]; omega)
            rw [List.length_drop] at this; omega
          have hfirst : 0 ≤ hexI (pk (l.drop (k + 1)) 0) := by
            by_cases h0 : i = 0
            · have : j = k + 1 := by have := hj.out; omega
              rw [← this, hc]; exact hx
            · exact hpos (by omega)
          have hnew : hexes (6 - (i + 1)) (16 * N + (hexI c).toNat) (l.drop (j + 1)) = hexes 6 0 (l.drop (k + 1)) := by
            rw [← hrun.out, show 6 - i = (6 - (i + 1)) + 1 by omega, hexes_yes (by rw [hc]; exact hx), hc, List.tail_drop]
          obtain ⟨x, hxe⟩ : ∃ x : Nat, hexI c = (x : Int) := ⟨(hexI c).toNat, by omega⟩
          have hxx : (hexI c).toNat = x := by omega
          rw [hxx] at hnew
          have Hnew := Lib.hid hnew
          have Hx := Lib.hid hxe
          have hx15 : x ≤ 15 := by omega
          have hNn : 16 * N + x < 16 ^ (i + 1) := by rw [Nat.pow_succ]; omega
          have hdx : decide ((0 : Int) ≤ (x : Int)) = true := by simp
          clear hnew hxe hxx hx
          go_wp2_with fail
          refine hp.mono ?_
          rintro e w1 ⟨rfl, g1⟩
          have hat1 := hat.mv g1
          go_wp2_with fail
          refine (rn_hex c w1 (by omega)).mono ?_
          rintro e w2 ⟨rfl, g2⟩
          rw [Hx.out]
          have hat2 := hat1.mv (below_grown g2)
          have mv2 : Mv P w w2 := (hmv.trans (Mv.of g1)).trans (Mv.of (below_grown g2))
          have b2 := hat2.s0
          have hp2 := tk_peek 0 hat2 (by omega)
          rw [hc] at hp2
          go_wp2_with fail
          refine hp2.mono ?_
          rintro e w3 ⟨rfl, g3⟩
          have hat3 := hat2.mv g3
          go_wp2_with fail
          refine (rn_hex c w3 (by omega)).mono ?_
          rintro e w4 ⟨rfl, g4⟩
          rw [Hx.out]
          have hat4 := hat3.mv (below_grown g4)
          have mv4 : Mv P w w4 := (mv2.trans (Mv.of g3)).trans (Mv.of (below_grown g4))
          have b4 := hat4.s0
          have c4 := hat4.p1
          have d4 := hat4.fz
          have e4 := hat4.p0
          have h5 := hat4.store (k' := j + 1) (by omega)
          have m5 := mv4.trans (Mv.store w4 P (.int .i64 ((j + 1 : Nat) : Int)))
          rw [Int.natCast_add] at h5 m5
          go_wp2_with fail
          go_roundw
          case rel => exact ⟨i + 1, 16 * N + x, j + 1, by omega, (by have := hj.out; show _ = _; omega), Hnew, hNn, fun _ => hfirst, h5, m5, congrArg (Value.int IntKind.i64) (by omega), congrArg (Value.int IntKind.i64) (by omega)⟩
          case measure => simp [intOf]; omega
        · have hneg : hexI c < 0 := by omega
          have hx1 : hexI c = -1 := by omega
          have hdx : decide ((0 : Int) ≤ hexI c) = false := by simpa using hneg
          have hend : hexes 6 0 (l.drop (k + 1)) = (N, l.drop j) := by rw [← hrun.out, hexes_no (by rw [hc]; exact hneg)]
          have Hend := Lib.hid hend
          have hN9 : N ≤ 16777215 := by omega
          have hz : i = 0 → hexI (pk (l.drop (k + 1)) 0) < 0 := by
            intro h0
            have : j = k + 1 := by have := hj.out; omega
            rw [← this, hc]; exact hneg
          clear hend
          go_wp2_with fail
          refine hp.mono ?_
          rintro e w1 ⟨rfl, g1⟩
          have hat1 := hat.mv g1
          go_wp2_with fail
          refine (rn_hex c w1 (by omega)).mono ?_
          rintro e w2 ⟨rfl, g2⟩
          have hat2 := hat1.mv (below_grown g2)
          have mv2 : Mv P w w2 := (hmv.trans (Mv.of g1)).trans (Mv.of (below_grown g2))
          go_wp2_with fail
          go_meet
          exact ⟨i, N, j, hi, hj, Hend, hN9, hpos, hz, hat2, mv2, rfl, rfl⟩
      · obtain rfl : i = 6 := by omega
        have hend : hexes 6 0 (l.drop (k + 1)) = (N, l.drop j) := by rw [← hrun.out]; rfl
        have Hend := Lib.hid hend
        have hN9 : N ≤ 16777215 := by omega
        clear hend
        go_wp2_with fail
        go_meet
        exact ⟨6, N, j, by omega, hj, Hend, hN9, hpos, by omega, hat, hmv, rfl, rfl⟩
  case rest =>
    obtain ⟨i, N, j, hi, hj, Hend, hN, hpos, hz, hat, hmv, rfl, rfl⟩ := hcut
    clear a1 a2 a3 a4 h1 m1
    have a1 := hat.s0
    have a2 := hat.p0
    have a3 := hat.p1
    have a4 := hat.fz
    have hjn := hat.hk
    by_cases h0 : i = 0
    · obtain rfl : j = k + 1 := by have := hj.out; omega
      clear hj
      have hneg := hz h0
      have hm : M = (pk (l.drop (k + 1)) 0, (l.drop (k + 1)).tail) := by rw [← HM.out]; unfold meantT; rw [if_pos hneg]
      have hbz : ((i : Int) == 0) = true := by simp; omega
      have h5 := hat.store (k' := k + 1 + 1) (by omega)
      have m5 := hmv.trans (Mv.store wc P (.int .i64 ((k + 1 + 1 : Nat) : Int)))
      push_cast at h5 m5 a3
      obtain ⟨b, off, hA, _, hcell'⟩ := h5.rd.open_ (by omega)
      subst hA
      have hcell5 := hcell' (k + 1) (.int .i32 (pk (l.drop (k + 1)) 0)) (by rw [List.getElem?_map, show k + 1 = k + 1 + 0 from rfl, pk_at (by omega)]; rfl)
      have hM1 : M.1 = pk (l.drop (k + 1)) 0 := by rw [hm]
      have hM2 : M.2 = l.drop (k + 2) := by rw [hm, List.tail_drop]
      have HM1 := Lib.hid hM1
      have HM2 := Lib.hid hM2
      have x1 : (0 : Int) ≤ (k : Int) + 1 := by omega
      have x2 : (k : Int) + 1 < (n : Int) := by omega
      have x3 : ((k : Int) + 1).toNat = k + 1 := by omega
      have y1 := h5.s0
      have y2 := h5.p0
      have y3 := h5.p1
      push_cast at y3
      clear hm hM1 hM2 h0 hneg hcell' hz hpos Hend HM
      generalize pk (l.drop (k + 1)) 0 = c at *
      go_wp2_with fail
      go_quiet (fail)
      go_wp2
      go_ret
      refine ⟨by rw [HM1.out]; rfl, m5.trans (Mv.of (grown_drewN _ _)), k + 2, by omega, by rw [HM2.out], h5.mv (grown_drewN _ _)⟩
    · have hfst := hpos (by omega)
      obtain ⟨c, hc⟩ : ∃ c, pk (l.drop j) 0 = c := ⟨_, rfl⟩
      have hcr := Hr.out j 0
      have hp := tk_peek 0 hat (by omega)
      rw [hc] at hcr hp
      have hM1 : M.1 = numC' N := by rw [← HM.out]; unfold meantT; rw [if_neg (by omega), Hend.out]
      have hM2 : M.2 = if whiteB c = true then l.drop (j + 1) else l.drop j := by
        rw [← HM.out]; unfold meantT; rw [if_neg (by omega), Hend.out]
        simp only [hc, List.tail_drop]
      have hjk : k + 1 < j := by have := hj.out; omega
      have hbz : ((i : Int) == 0) = false := by simp; omega
      have HM1 := Lib.hid hM1
      have HM2 := Lib.hid hM2
      have Hc := Lib.hid hc
      clear hM1 hM2 hfst hz hpos Hend HM hc
      go_upto_if 81 with (first | (go_at_call 25; refine hp.mono ?_; rintro e w1 ⟨rfl, g1⟩) | (go_at_call 41; refine (rn_white c _).mono ?_; rintro e w2 ⟨rfl, rfl⟩))
      have hat1 := hat.mv g1
      have mv1 : Mv P w w1 := hmv.trans (Mv.of g1)
      go_cut [3] (fun x wx => x = .int .i64 (N : Int) ∧ ∃ k', k + 1 < k' ∧ Hid (l.drop k' = M.2) ∧ At wx B S P A n cap l k' ∧ Mv P w wx)
      case first =>
        cases hwt : whiteB c with
        | true =>
          have hjl : j < n := by
            have hpos : -1 < pk (l.drop j) 0 := by
              rw [Hc.out]; unfold whiteB at hwt; simp at hwt; omega
            have := pk_pos hpos
            rw [List.length_drop] at this; omega
          have b1 := hat1.s0
          have b2 := hat1.p0
          have b3 := hat1.p1
          have b4 := hat1.fz
          have h5 := hat1.store (k' := j + 1) (by omega)
          have m5 := mv1.trans (Mv.store w1 P (.int .i64 ((j + 1 : Nat) : Int)))
          push_cast at h5 m5
          go_wp2_with fail
          go_meet
          exact ⟨rfl, j + 1, by omega, (by show _ = _; rw [HM2.out, if_pos hwt]), h5, m5⟩
        | false =>
          go_wp2_with fail
          go_meet
          exact ⟨rfl, j, hjk, (by show _ = _; rw [HM2.out, if_neg (by rw [hwt]; simp)]), hat1, mv1⟩
      case rest =>
        obtain ⟨rfl, k', hk', hd, hat', hmv'⟩ := hcut
        by_cases hN0 : N = 0
        · have hM1' : M.1 = 65533 := by rw [HM1.out]; unfold numC'; rw [if_pos (.inl hN0)]
          have H1 := Lib.hid hM1'
          have hz0 : ((N : Int) == 0) = true := by simp; omega
          clear hM1' hN0
          generalize (N : Int) = z at *
          go_wp2
          go_ret
          exact ⟨by rw [H1.out]; rfl, hmv', k', hk', hd.out, hat'⟩
        · have hz0 : ((N : Int) == 0) = false := by simp; omega
          cases hB : isB (N : Int) with
          | true =>
            have hM1' : M.1 = N := by rw [HM1.out]; unfold numC'; rw [if_neg (by simp [hN0, hB])]
            have H1 := Lib.hid hM1'
            clear hM1'
            go_wp2_with fail
            refine (rn_is (N : Int) _).mono ?_
            rintro e w9 ⟨rfl, rfl⟩
            rw [hB]
            go_wp2
            go_ret
            exact ⟨by rw [H1.out]; rfl, hmv', k', hk', hd.out, hat'⟩
          | false =>
            have hM1' : M.1 = 65533 := by rw [HM1.out]; unfold numC'; rw [if_pos (.inr hB)]
            have H1 := Lib.hid hM1'
            clear hM1'
            go_wp2_with fail
            refine (rn_is (N : Int) _).mono ?_
            rintro e w9 ⟨rfl, rfl⟩
            rw [hB]
            go_wp2
            go_ret
            exact ⟨by rw [H1.out]; rfl, hmv', k', hk', hd.out, hat'⟩
end Go.Proofs.YtifedkilbpkpaaaGreatDoor
/- Layer 3: a name is walked. -/
set_option linter.unusedVariables false
set_option linter.unusedSimpArgs false
namespace Go.Proofs.YtifedkilbpkpaaaGreatDoor
open Go.RowKit Rn Tk
section
variable {w w' w1 w2 : World} {B S P n cap k : Nat} {A : Option Addr} {l : List Int} {row : Option Nat}
theorem At.grown (h : At w B S P A n cap l k) (hg : w.grownBy w' row) (hr : ∀ g, row = some g → S < g) : At w' B S P A n cap l k := by
  have hS := h.hS
  have hP := h.hPS
  have hBP := h.hB
  have ne : ∀ b, b ≤ S → some b ≠ row := fun b hb e => by have := hr b e.symm; omega
  have key : ∀ p : Addr, p.block ≤ S → w'.cell? p = w.cell? p := fun p hp => hg.cell_far p (by omega) (ne _ hp)
  exact { s0 := (key _ (Nat.le_refl _)).trans h.s0, p0 := (key _ (Nat.le_of_lt hP)).trans h.p0, p1 := (key _ (Nat.le_of_lt hP)).trans h.p1, fz := (hg.frozen_far _ (by simp only []; omega) (ne _ (Nat.le_of_lt hP))).trans h.fz, rd := h.rd.keep fun p hp => key p (by omega), hB := h.hB, hPS := h.hPS, hS := Nat.lt_of_lt_of_le hS hg.size, hk := h.hk, hn := h.hn, hc := h.hc, hm := h.hm }
theorem Mv.push {o : Obj} {e : TypeId} {size m : Nat} {v : Value} {xs : List Value} (h : Mv P w w1) (hown : w1.ownsRow w.heap.size e size v m xs) (hg : (w1.alloc o).grownBy w2 v.ownBlock) : Mv P w w2 :=
  (h.trans (Mv.of (World.grownBy_alloc _ _ _))).andThen hg fun j hj => .inl (hown.lt j hj).1
theorem At.push {o : Obj} {e : TypeId} {size m base : Nat} {v : Value} {xs : List Value} (h : At w1 B S P A n cap l k) (hS : S < base) (hown : w1.ownsRow base e size v m xs) (hg : (w1.alloc o).grownBy w2 v.ownBlock) : At w2 B S P A n cap l k :=
  (h.mv (World.grownBy_alloc _ _ _)).grown hg fun g hgr => Nat.lt_of_lt_of_le hS (hown.lt g hgr).1
theorem own_mv {e : TypeId} {size m base : Nat} {v : Value} {xs : List Value} (h : w.ownsRow base e size v m xs) (hP : P < base) (hm : Mv P w w') : w'.ownsRow base e size v m xs := by
  refine h.kept hm ?_
  cases hb : v.ownBlock with
  | none => exact .inl rfl
  | some g => refine .inr ?_; intro hg; injection hg with hg; have := (h.lt g hb).1; omega
end
def posOf (P : Nat) (w : World) : Nat := match w.cell? ⟨P, 1, none⟩ with
  | some (.int _ z) => z.toNat
  | _ => 0
theorem At.pos {w : World} {B S P n cap k : Nat} {A : Option Addr} {l : List Int} (h : At w B S P A n cap l k) : posOf P w = k := by
  unfold posOf; rw [h.p1]; simp
theorem rune_info : (Tryz.prog.info? 21).map (fun i => (i.zero, i.size, i.bytes)) = some (some (.int .i32 0), 1, 4) := by kernel_rfl
theorem info_got {o : Option TypeInfo} {z : Value} {s b : Nat} (h : o.map (fun i => (i.zero, i.size, i.bytes)) = some (some z, s, b)) : ∃ i, o = some i ∧ i.zero = some z ∧ i.size = s ∧ i.bytes = b := by
  cases o with
  | none => cases h
  | some i => simp at h; exact ⟨i, rfl, h.1, h.2.1, h.2.2⟩
theorem nameT_esc {r : List Int} (h : esc r = true) : nameT r = ((meantT r.tail).1 :: (nameT (meantT r.tail).2).1, (nameT (meantT r.tail).2).2) := by rw [nameT, dif_pos h]
theorem nameT_in {r : List Int} (h : esc r = false) (h2 : withinB (pk r 0) = true) : nameT r = (pk r 0 :: (nameT r.tail).1, (nameT r.tail).2) := by rw [nameT, dif_neg (by simp [h]), dif_pos h2]
theorem nameT_end {r : List Int} (h : esc r = false) (h2 : withinB (pk r 0) = false) : nameT r = ([], r) := by rw [nameT, dif_neg (by simp [h]), dif_neg (by simp [h2])]
theorem meantT_is {r : List Int} (h : Chars r) (hne : r ≠ []) : isB (meantT r).1 = true := by
  unfold meantT
  split
  · exact pk_is h (List.length_pos_iff.2 hne)
  · simp only [numC']
    split
    · decide
    · rename_i hx; simp at hx; exact hx.2
theorem hexes_drop (f : Nat) : ∀ n r, ∃ j, (hexes f n r).2 = r.drop j := by
  induction f with
  | zero => intro n r; exact ⟨0, rfl⟩
  | succ f ih =>
    intro n r
    unfold hexes
    split
    · obtain ⟨j, hj⟩ := ih (16 * n + (hexI (pk r 0)).toNat) r.tail
      exact ⟨j + 1, by rw [hj, ← List.drop_one, List.drop_drop, Nat.add_comm]⟩
    · exact ⟨0, rfl⟩
theorem meantT_drop (r : List Int) : ∃ j, (meantT r).2 = r.drop j := by
  unfold meantT
  split
  · exact ⟨1, by simp⟩
  · obtain ⟨j, hj⟩ := hexes_drop 6 0 r
    simp only []
    split
    · exact ⟨j + 1, by rw [hj, ← List.drop_one, List.drop_drop]⟩
    · exact ⟨j, hj⟩
theorem nameT_is (r : List Int) (h : Chars r) : Chars (nameT r).1 ∧ (nameT r).1.length ≤ r.length := by
  fun_induction nameT r with
  | case1 r he ih =>
    obtain ⟨j, hj⟩ := meantT_drop r.tail
    have hlt := meant_lt (esc_ne he)
    have h2 : Chars (meantT r.tail).2 := by rw [hj]; exact h.tail.drop j
    obtain ⟨i1, i2⟩ := ih h2
    refine ⟨?_, by simp only [List.length_cons]; omega⟩
    intro c hc
    rcases List.mem_cons.1 hc with rfl | hc
    · refine meantT_is h.tail ?_
      intro h0
      unfold esc at he
      have := (of_decide_eq_true he).2.1
      rw [← pk_tail, h0, pk_nil] at this; omega
    · exact i1 c hc
  | case2 r he hw ih =>
    have hne := within_ne hw
    obtain ⟨i1, i2⟩ := ih h.tail
    have := tail_lt hne
    refine ⟨?_, by simp only [List.length_cons]; omega⟩
    intro c hc
    rcases List.mem_cons.1 hc with rfl | hc
    · exact pk_is h (List.length_pos_iff.2 hne)
    · exact i1 c hc
  | case3 r => exact ⟨fun c hc => (List.not_mem_nil hc).elim, Nat.zero_le _⟩
/-- what holds at each jump: over the whole frame -/
def NJump (w : World) (B S P : Nat) (A : Option Addr) (n cap : Nat) (l : List Int) (k : Nat) (a' : Act) (w' : World) : Prop :=
  ∃ (k2 : Nat) (outs : List Int) (v u1 u4 u5 u6 u7 u8 u9 u10 u11 u12 u13 u14 u15 u16 u17 u18 u19 u20 u21 u22 u23 u24 u25 u26 u27 u28 u29 u30 u31 u32 u33 u34 u35 u36 u37 u38 u39 : Value), a' = { tmps := #[.pointer (some ⟨S, 0, none⟩), u1, .string ⟨#[]⟩, v, u4, u5, u6, u7, u8, u9, u10, u11, u12, u13, u14, u15, u16, u17, u18, u19, u20, u21, u22, u23, u24, u25, u26, u27, u28, u29, u30, u31, u32, u33, u34, u35, u36, u37, u38, u39], defers := [] } ∧ k ≤ k2 ∧ Hid (nameT (l.drop k) = (outs ++ (nameT (l.drop k2)).1, (nameT (l.drop k2)).2)) ∧ outs.length + k ≤ k2 ∧ w'.ownsRow w.heap.size 21 1 v outs.length (outs.map r32) ∧ At w' B S P A n cap l k2 ∧ Mv P w w' 
theorem wp_scope_pass {P : Program} {a : Act} {w : World} {Q : Exit → Act → World → Prop} {c blk : Code} (l : Nat) (J : Act → World → Prop) (μ : Act → World → Nat) (hf : findLabel c l = some (Code.skip.seq blk))
    (pass : ∀ a w, J a w → blk.wp P (Exit.jump l (fun a' w' => J a' w' ∧ μ a' w' < μ a w) Q) a w)
    (first : (∀ a w, J a w → blk.wp P (Exit.jump l J Q) a w) → c.wp P (Exit.jump l J Q) a w) : (Code.scope c).wp P Q a w :=
  wp_scope_jumps l J μ hf (first fun a w hJ => wp_mono (pass a w hJ) (by
    intro e a' w' hq
    cases e with
    | goto l' => exact ⟨hq.1, hq.2.1⟩
    | _ => exact hq)) fun a w hJ => wp_seq (wp_skip (pass a w hJ))
set_option maxRecDepth 100000 in
set_option maxHeartbeats 4000000 in
theorem tk_name {w : World} {B S P n cap k : Nat} {A : Option Addr} {l : List Int} (h : At w B S P A n cap l k) (hch : Chars l) :
    Calls Tryz.prog 44 #[.pointer (some ⟨S, 0, none⟩)] w fun e w' => e = .returned (.string (bytesOf (writeP (nameT (l.drop k)).1))) ∧ Mv P w w' ∧ ∃ k', k ≤ k' ∧ l.drop k' = (nameT (l.drop k)).2 ∧ At w' B S P A n cap l k' := by
  have Hch := Lib.hid hch
  have hSb := h.hS
  have hPb := Nat.lt_trans h.hPS h.hS
  obtain ⟨T, hT⟩ : ∃ T, nameT (l.drop k) = T := ⟨_, rfl⟩
  rw [hT]
  have HT := Lib.hid hT
  clear hT hch
  go_enter Tryz.func44, Tryz.ntmps44
  go_wp2_with fail
  refine wp_scope_pass 0 (NJump w B S P A n cap l k) (fun _ w' => n - posOf P w') rfl ?_ ?_
  · rintro a' w0 ⟨k2, outs, v, u1, u4, u5, u6, u7, u8, u9, u10, u11, u12, u13, u14, u15, u16, u17, u18, u19, u20, u21, u22, u23, u24, u25, u26, u27, u28, u29, u30, u31, u32, u33, u34, u35, u36, u37, u38, u39, rfl, hkk, hrun, hol, hown, hat, hmv⟩
    obtain ⟨hlen, hn, hk2n⟩ : l.length = n ∧ n ≤ 1000000 ∧ k2 ≤ n := ⟨hat.len, hat.hn, hat.hk⟩
    have hesc := tk_escape 0 hat (by omega)
    rw [Nat.add_zero] at hesc
    obtain ⟨hi0, hi, hz0, hz1, hz2⟩ := info_got rune_info
    have hpos := hat.pos
    cases he : esc (l.drop k2) with
    | true =>
      rw [he] at hesc
      have hk1 : k2 + 1 < n := by
        unfold esc at he
        have := (of_decide_eq_true he).2.1
        have := pk_pos (l := l.drop k2) (m := 1) (by omega)
        rw [List.length_drop] at this; omega
      have hnm := nameT_esc he
      have hrun2 := hrun.out
      rw [hnm, List.tail_drop] at hrun2
      have HR := Lib.hid hrun2
      have hmr : isB (meantT (l.drop (k2 + 1))).1 = true := meantT_is (Hch.out.drop _) (by intro h0; have := congrArg List.length h0; rw [List.length_drop] at this; simp at this; omega)
      have hmr2 := isB_range hmr
      clear hnm hrun2 hrun he hmr
      go_wp2_with fail
      refine hesc.mono ?_
      rintro e w1 ⟨rfl, g1⟩
      have hat1 := hat.mv g1
      have hmv1 := hmv.trans (Mv.of g1)
      have hown1 := own_mv hown hPb (Mv.of g1)
      go_wp2_with fail
      refine (tk_meant hat1 Hch.out hk1).mono ?_
      rintro e w2 ⟨rfl, m2, k3, hk3, hd3, hat2⟩
      have hmv2 := hmv1.trans m2
      have hown2 := own_mv hown1 hPb m2
      have hs2 := hmv2.size
      have Hd3 := Lib.hid hd3
      generalize hc : (meantT (l.drop (k2 + 1))).1 = c at *
      have Hc := Lib.hid hc
      clear hd3 hc
      go_wp2_with (at_builtin; refine wpList_append_own _ rfl _ _ 49 rfl w.heap.size 21 hi0 (.int .i32 0) 1 4 Tryz.underlying49 hi hz0 hz1 hz2 rfl (by decide) _ _ _ rfl (hown2.alloc _) ⟨w2.heap.size, 0, none⟩ 1 1 [.int .i32 c] rfl rfl ?c1 ?c2 ?c3 ?c4 ?c5 ?_)
      case c1 => exact cell_one_new _ _ _
      case c2 => intro u hu; simp at hu; subst hu; rfl
      case c3 => unfold maxLen; omega
      case c4 => have := hat2.hk; (try simp only [List.length_map]); omega
      case c5 => simp; omega
      intro v' w3 hown3 hgrow _
      have hat3 := hat2.push hSb hown2 hgrow
      have hmv3 := Mv.push hmv2 hown2 hgrow
      go_wp2_with fail
      go_step3
      refine ⟨rfl, ⟨k3, outs ++ [c], v', _, _, _, _, _, _, _, _, _, _, _, _, _, _, _, _, _, _, _, _, _, _, _, _, _, _, _, _, _, _, _, _, _, _, _, _, _, rfl, by omega, (by show _ = _; rw [HR.out, Hd3.out]; simp), by simp; omega, by simpa [r32] using hown3, hat3, hmv3⟩, ?_⟩
      have q1 := hat3.pos
      have q2 := hat3.hk
      rw [q1, hpos]; omega
    | false =>
      rw [he] at hesc
      have hp := fun w' (g : w0.grownBy w' none) => tk_peek 0 (hat.mv g) (by omega)
      obtain ⟨c, hc⟩ : ∃ c, pk (l.drop k2) 0 = c := ⟨_, rfl⟩
      rw [hc] at hp
      have Hc := Lib.hid hc
      cases hwi : withinB c with
      | true =>
        have hk1 : k2 < n := by
          have h0 : l.drop k2 ≠ [] := within_ne (by rw [hc]; exact hwi)
          have := List.length_pos_iff.2 h0
          rw [List.length_drop] at this; omega
        have hnm := nameT_in he (by rw [hc]; exact hwi)
        have hrun2 := hrun.out
        rw [hnm, List.tail_drop, hc] at hrun2
        have HR := Lib.hid hrun2
        clear hnm hrun2 hrun he hc
        go_wp2_with fail
        refine hesc.mono ?_
        rintro e w1 ⟨rfl, g1⟩
        have x1 := (hat.mv g1).s0
        go_wp2_with fail
        refine (hp w1 g1).mono ?_
        rintro e w2 ⟨rfl, g2⟩
        have g2 := g1.trans g2
        go_wp2_with fail
        refine (rn_within c _).mono ?_
        rintro e w3 ⟨rfl, rfl⟩
        rw [hwi]
        have x2 := (hat.mv g2).s0
        go_wp2_with fail
        refine (hp w2 g2).mono ?_
        rintro e w3 ⟨rfl, g3⟩
        have g3 := g2.trans g3
        have hat1 := hat.mv g3
        have hmv1 := hmv.trans (Mv.of g3)
        have hown1 := own_mv hown hPb (Mv.of g3)
        have hs1 := hmv1.size
        go_wp2_with (at_builtin; refine wpList_append_own _ rfl _ _ 49 rfl w.heap.size 21 hi0 (.int .i32 0) 1 4 Tryz.underlying49 hi hz0 hz1 hz2 rfl (by decide) _ _ _ rfl (hown1.alloc _) ⟨w3.heap.size, 0, none⟩ 1 1 [.int .i32 c] rfl rfl ?d1 ?d2 ?d3 ?d4 ?d5 ?_)
        case d1 => exact cell_one_new _ _ _
        case d2 => intro u hu; simp at hu; subst hu; rfl
        case d3 => unfold maxLen; omega
        case d4 => (try simp only [List.length_map]); omega
        case d5 => simp; omega
        intro v' w4 hown4 hgrow _
        have hat4 := hat1.push hSb hown1 hgrow
        have hmv4 := Mv.push hmv1 hown1 hgrow
        have y1 := hat4.s0
        have y2 := hat4.p0
        have y3 := hat4.p1
        have y4 := hat4.fz
        have h5 := hat4.store (k' := k2 + 1) (by omega)
        have m5 := Mv.store w4 P (.int .i64 ((k2 + 1 : Nat) : Int))
        have o5 := own_mv hown4 hPb m5
        have mv5 := hmv4.trans m5
        push_cast at h5 m5 o5 mv5
        go_wp2_with fail
        go_step3
        refine ⟨rfl, ⟨k2 + 1, outs ++ [c], v', _, _, _, _, _, _, _, _, _, _, _, _, _, _, _, _, _, _, _, _, _, _, _, _, _, _, _, _, _, _, _, _, _, _, _, _, _, rfl, by omega, (by show _ = _; rw [HR.out]; simp), by simp; omega, by simpa [r32] using o5, h5, mv5⟩, ?_⟩
        have q1 := h5.pos
        rw [q1, hpos]; omega
      | false =>
        have hnm := nameT_end he (by rw [hc]; exact hwi)
        have hrun2 := hrun.out
        rw [hnm, List.append_nil] at hrun2
        have HR := Lib.hid hrun2
        clear hnm hrun2 hrun he hc
        go_wp2_with fail
        refine hesc.mono ?_
        rintro e w1 ⟨rfl, g1⟩
        have x1 := (hat.mv g1).s0
        go_wp2_with fail
        refine (hp w1 g1).mono ?_
        rintro e w2 ⟨rfl, g2⟩
        have g2 := g1.trans g2
        go_wp2_with fail
        refine (rn_within c _).mono ?_
        rintro e w3 ⟨rfl, rfl⟩
        rw [hwi]
        have hat1 := hat.mv g2
        have hmv1 := hmv.trans (Mv.of g2)
        have hown1 := own_mv hown hPb (Mv.of g2)
        obtain ⟨A3, c3, rfl, hcc, hcm⟩ := own_form hown1
        have hrd := Reads.of_own hown1
        have hon : Chars outs := by
          have := (nameT_is (l.drop k) (Hch.out.drop k)).1
          rw [HR.out] at this; exact this
        have Hon := Lib.hid hon
        clear hon
        go_wp2_with fail
        refine (rn_write outs A3 outs.length c3 w2 hrd (fun d hd => by have := isB_range (Hon.out d hd); omega) (by omega)).mono ?_
        rintro e w3 ⟨v3, rfl, hown3, hb3⟩
        obtain ⟨A4, c4, rfl, hcc4, hcm4⟩ := own_form hown3
        have hrd4 := Reads.of_own hown3
        have hstr := run_str (P := Tryz.prog) (src := 31) (dst := 9) Tryz.underlying31 Tryz.underlying5 Tryz.underlying9 c4 hrd4
        have hat3 := hat1.mv (below_grown hb3)
        have hmv3 := hmv1.trans (Mv.of (below_grown hb3))
        clear hrd4 hown3 hrd
        go_wp2_with fail
        simp only [Exit.jump]
        go_ret
        exact ⟨by rw [← HT.out, HR.out]; rfl, hmv3, k2, hkk, by rw [← HT.out, HR.out], hat3⟩
  · intro hrest
    go_wp2_with fail
    go_step3
    rename_i K hK
    exact hK _ _ (hrest _ _ ⟨k, [], .slice none 0 0, _, _, _, _, _, _, _, _, _, _, _, _, _, _, _, _, _, _, _, _, _, _, _, _, _, _, _, _, _, _, _, _, _, _, _, _, _, rfl, Nat.le_refl _, rfl, by simp, World.ownsRow_nil _ _ _ _, h, Mv.refl _ _⟩)
end Go.Proofs.YtifedkilbpkpaaaGreatDoor
set_option linter.unusedVariables false
set_option linter.unusedSimpArgs false
namespace Go.Proofs.YtifedkilbpkpaaaGreatDoor
open Go.RowKit Rn Tk
section
variable {w : World} {B S P n cap k : Nat} {A : Option Addr} {l : List Int}
theorem tk_peek0 (h : At w B S P A n cap l k) : Calls Tryz.prog 25 #[.pointer (some ⟨P, 0, none⟩), .int .i64 0] w fun e w' => e = .returned (.int .i32 (pk (l.drop k) 0)) ∧ w.grownBy w' none := by
  have := tk_peek 0 h (by omega); rwa [Int.natCast_zero] at this
theorem tk_peek1 (h : At w B S P A n cap l k) : Calls Tryz.prog 25 #[.pointer (some ⟨P, 0, none⟩), .int .i64 1] w fun e w' => e = .returned (.int .i32 (pk (l.drop k) 1)) ∧ w.grownBy w' none := by
  have := tk_peek 1 h (by omega); rwa [Int.natCast_one] at this
theorem tk_escape0 (h : At w B S P A n cap l k) : Calls Tryz.prog 43 #[.pointer (some ⟨S, 0, none⟩), .int .i64 0] w fun e w' => e = .returned (.bool (esc (l.drop k))) ∧ w.grownBy w' none := by
  have := tk_escape 0 h (by omega); rwa [Int.natCast_zero, Nat.add_zero] at this
theorem tk_escape1 (h : At w B S P A n cap l k) : Calls Tryz.prog 43 #[.pointer (some ⟨S, 0, none⟩), .int .i64 1] w fun e w' => e = .returned (.bool (esc (l.drop (k + 1)))) ∧ w.grownBy w' none := by
  have := tk_escape 1 h (by omega); rwa [Int.natCast_one] at this
theorem tk_begins0 (h : At w B S P A n cap l k) : Calls Tryz.prog 46 #[.pointer (some ⟨S, 0, none⟩), .int .i64 0] w fun e w' => e = .returned (.bool (beg (l.drop k))) ∧ w.grownBy w' none := by
  have := tk_begins 0 h (by omega); rwa [Int.natCast_zero, Nat.add_zero] at this
theorem tk_begins1 (h : At w B S P A n cap l k) : Calls Tryz.prog 46 #[.pointer (some ⟨S, 0, none⟩), .int .i64 1] w fun e w' => e = .returned (.bool (beg (l.drop (k + 1)))) ∧ w.grownBy w' none := by
  have := tk_begins 1 h (by omega); rwa [Int.natCast_one] at this
end
theorem spacesT_white {r : List Int} (h : whiteB (pk r 0) = true) : spacesT r = (true, (spacesT r.tail).2) := by rw [spacesT, dif_pos h]
theorem spacesT_comment {r : List Int} (h : whiteB (pk r 0) = false) (h2 : pk r 0 = 47 ∧ pk r 1 = 42) : spacesT r = spacesT (skipC r.tail.tail) := by rw [spacesT, dif_neg (by simp [h]), dif_pos h2]
theorem spacesT_end {r : List Int} (h : whiteB (pk r 0) = false) (h2 : ¬ (pk r 0 = 47 ∧ pk r 1 = 42)) : spacesT r = (false, r) := by rw [spacesT, dif_neg (by simp [h]), dif_neg h2]
theorem skipC_on {l : List Int} {j : Nat} (hj : j < l.length) (h : ¬ (pk (l.drop j) 0 = 42 ∧ pk (l.drop j) 1 = 47)) : skipC (l.drop j) = skipC (l.drop (j + 1)) := by
  rw [List.drop_eq_getElem_cons hj] at h ⊢
  rw [pk_cons0, pk_cons] at h
  rw [skipC, if_neg h]
theorem skipC_stop {l : List Int} {j : Nat} (hj : j < l.length) (h : pk (l.drop j) 0 = 42 ∧ pk (l.drop j) 1 = 47) : skipC (l.drop j) = l.drop (j + 2) := by
  rw [List.drop_eq_getElem_cons hj] at h ⊢
  rw [pk_cons0, pk_cons] at h
  rw [skipC, if_pos h, List.tail_drop]
set_option maxRecDepth 100000 in
set_option maxHeartbeats 1000000 in
theorem tk_space {w : World} {B S P n cap k : Nat} {A : Option Addr} {l : List Int} (h : At w B S P A n cap l k) (hch : Chars l) :
    Calls Tryz.prog 24 #[.pointer (some ⟨S, 0, none⟩)] w fun e w' => e = .returned (.bool (spacesT (l.drop k)).1) ∧ Mv P w w' ∧ ∃ k', k ≤ k' ∧ l.drop k' = (spacesT (l.drop k)).2 ∧ At w' B S P A n cap l k' := by
  have hlen := h.len
  have hn := h.hn
  have Hr := Lib.hid (fun j m => pk_range (hch.drop j) m)
  have Hch := Lib.hid hch
  obtain ⟨T, hT⟩ : ∃ T, spacesT (l.drop k) = T := ⟨_, rfl⟩
  rw [hT]
  have HT := Lib.hid hT
  clear hT hch
  go_enter Tryz.func24, Tryz.ntmps24
  go_wp2_with fail
  go_loopw [3] (fun x wr => ∃ (k2 : Nat) (b : Bool), k ≤ k2 ∧ Hid ((b || (spacesT (l.drop k2)).1, (spacesT (l.drop k2)).2) = T) ∧ x = .bool b ∧ At wr B S P A n cap l k2 ∧ Mv P w wr) (fun _ wr => n - posOf P wr)
  case atStart => exact ⟨k, false, Nat.le_refl _, (by show _ = _; rw [HT.out]; simp), rfl, h, Mv.refl _ _⟩
  case round =>
    obtain ⟨k2, b, hkk, hrun, rfl, hat, hmv⟩ := hrel
    have hk2 := hat.hk
    have hpos := hat.pos
    have hp := fun w' (g : wr.grownBy w' none) => tk_peek0 (hat.mv g)
    have hp1 := fun w' (g : wr.grownBy w' none) => tk_peek1 (hat.mv g)
    have ks := fun w' (g : wr.grownBy w' none) => (hat.mv g).s0
    obtain ⟨c, hc⟩ : ∃ c, pk (l.drop k2) 0 = c := ⟨_, rfl⟩
    obtain ⟨d, hd⟩ : ∃ d, pk (l.drop k2) 1 = d := ⟨_, rfl⟩
    have hcr := Hr.out k2 0
    rw [hc] at hp hcr
    rw [hd] at hp1
    have x0 := hat.s0
    cases hw : whiteB c with
    | true =>
      have hkn : k2 < n := by
        have := pk_pos (l := l.drop k2) (m := 0) (by rw [hc]; unfold whiteB at hw; simp at hw; omega)
        rw [List.length_drop] at this; omega
      have hnew : ((true || (spacesT (l.drop (k2 + 1))).1, (spacesT (l.drop (k2 + 1))).2) = T) := by
        rw [← hrun.out, spacesT_white (r := l.drop k2) (by rw [hc]; exact hw), List.tail_drop]; simp
      have Hnew := Lib.hid hnew
      clear hnew hrun
      go_wp2_with fail
      refine (hp wr (World.grownBy.refl _ _)).mono ?_
      rintro e w1 ⟨rfl, g1⟩
      have hat1 := hat.mv g1
      have hmv1 := hmv.trans (Mv.of g1)
      have y1 := hat1.s0
      have y2 := hat1.p0
      have y3 := hat1.p1
      have y4 := hat1.fz
      have h5 := hat1.store (k' := k2 + 1) (by omega)
      have m5 := hmv1.trans (Mv.store w1 P (.int .i64 ((k2 + 1 : Nat) : Int)))
      have q5 := h5.pos
      push_cast at h5 m5 q5
      go_wp2_with fail
      refine (rn_white c _).mono ?_
      rintro e w3 ⟨rfl, rfl⟩
      rw [hw]
      go_wp2_with fail
      go_roundw
      case rel => exact ⟨k2 + 1, true, by omega, Hnew, rfl, h5, m5⟩
      case measure => rw [q5, hpos]; omega
    | false =>
      by_cases hcd : c = 47 ∧ d = 42
      · have hk1 : k2 + 1 < n := by
          have := pk_pos (l := l.drop k2) (m := 1) (by rw [hd]; omega)
          rw [List.length_drop] at this; omega
        have hnew : ((b || (spacesT (skipC (l.drop (k2 + 2)))).1, (spacesT (skipC (l.drop (k2 + 2)))).2) = T) := by
          rw [← hrun.out, spacesT_comment (r := l.drop k2) (by rw [hc]; exact hw) (by rw [hc, hd]; exact hcd), List.tail_drop, List.tail_drop]
        have Hnew := Lib.hid hnew
        have t47 := eq_t hcd.1
        have t42 := eq_t hcd.2
        clear hnew hrun hcd
        go_wp2_with fail
        refine (hp wr (World.grownBy.refl _ _)).mono ?_
        rintro e w1 ⟨rfl, g1⟩
        have y1 := ks w1 g1
        go_wp2_with fail
        refine (rn_white c _).mono ?_
        rintro e w3 ⟨rfl, rfl⟩
        rw [hw]
        go_wp2_with fail
        refine (hp w1 g1).mono ?_
        rintro e w2 ⟨rfl, g2⟩
        have g2 := g1.trans g2
        have y2 := ks w2 g2
        go_wp2_with fail
        refine (hp1 w2 g2).mono ?_
        rintro e w3 ⟨rfl, g3⟩
        have g3 := g2.trans g3
        have hat3 := hat.mv g3
        have hmv3 := hmv.trans (Mv.of g3)
        have z1 := hat3.s0
        have z2 := hat3.p0
        have z3 := hat3.p1
        have z4 := hat3.fz
        have h5 := hat3.store (k' := k2 + 2) (by omega)
        have m5 := hmv3.trans (Mv.store w3 P (.int .i64 ((k2 + 2 : Nat) : Int)))
        push_cast at h5 m5
        have q0 : k ≤ k2 + 2 := by omega
        clear hp hp1 ks y1 y2 x0
        go_upto_block 3 with (fail)
        go_cut [3] (fun x wx => x = .bool b ∧ ∃ j, k2 + 2 ≤ j ∧ Hid (skipC (l.drop (k2 + 2)) = skipC (l.drop j)) ∧ Hid (j = n ∨ (j < n ∧ pk (l.drop j) 0 = 42 ∧ pk (l.drop j) 1 = 47)) ∧ At wx B S P A n cap l j ∧ Mv P w wx)
        case first =>
          go_wp2_with fail
          go_loopw [47] (fun z wi => ∃ j, k2 + 2 ≤ j ∧ Hid (skipC (l.drop (k2 + 2)) = skipC (l.drop j)) ∧ At wi B S P A n cap l j ∧ Mv P w wi) (fun _ wi => n - posOf P wi)
          case atStart => exact ⟨k2 + 2, Nat.le_refl _, rfl, h5, m5⟩
          case round =>
            obtain ⟨j, hj, hrj, hatj, hmvj⟩ := hrel
            have hjn := hatj.hk
            have hposj := hatj.pos
            have ks := hatj.s0
            have hp := tk_peek0 hatj
            have Hre := fun (e : Int) (he : pk (l.drop j) 0 = e) => he
            by_cases hjl : j < n
            · obtain ⟨e0, he0⟩ : ∃ c, pk (l.drop j) 0 = c := ⟨_, rfl⟩
              have hpos0 := isB_range (pk_is (l := l) Hch.out (m := j) (by omega))
              rw [show pk l j = pk (l.drop j) 0 from by rw [pk_drop]; rfl, he0] at hpos0
              have d0 : decide ((0 : Int) ≤ e0) = true := by simp; omega
              rw [he0] at hp
              have hp' := fun w' (g : wr.grownBy w' none) => tk_peek0 (hatj.mv g)
              have hp1 := fun w' (g : wr.grownBy w' none) => tk_peek1 (hatj.mv g)
              have ks' := fun w' (g : wr.grownBy w' none) => (hatj.mv g).s0
              obtain ⟨e1, he1⟩ : ∃ c, pk (l.drop j) 1 = c := ⟨_, rfl⟩
              rw [he0] at hp'
              rw [he1] at hp1
              by_cases h42 : e0 = 42
              · by_cases h47 : e1 = 47
                · have hst : Hid (j = n ∨ (j < n ∧ pk (l.drop j) 0 = 42 ∧ pk (l.drop j) 1 = 47)) := .inr ⟨hjl, by rw [he0]; exact h42, by rw [he1]; exact h47⟩
                  have t42 : (e0 != 42) = false := by simp [h42]
                  have t47 : (e1 != 47) = false := by simp [h47]
                  clear h42 h47 he0 he1
                  go_wp2_with fail
                  refine hp.mono ?_
                  rintro e w5 ⟨rfl, g5⟩
                  have y5 := ks' w5 g5
                  go_wp2_with fail
                  refine (hp' w5 g5).mono ?_
                  rintro e w6 ⟨rfl, g6⟩
                  have g6 := g5.trans g6
                  have y6 := ks' w6 g6
                  go_wp2_with fail
                  refine (hp1 w6 g6).mono ?_
                  rintro e w7 ⟨rfl, g7⟩
                  have g7 := g6.trans g7
                  go_wp2_with fail
                  go_meet
                  exact ⟨rfl, j, hj, hrj, hst, hatj.mv g7, hmvj.trans (Mv.of g7)⟩
                · have hnx : Hid (skipC (l.drop (k2 + 2)) = skipC (l.drop (j + 1))) := by
                    show _ = _; rw [hrj.out, skipC_on (by omega) (by rw [he1]; exact fun h => h47 h.2)]
                  have t42 : (e0 != 42) = false := by simp [h42]
                  have t47 : (e1 != 47) = true := by simp [h47]
                  clear h42 h47 he0 he1
                  go_wp2_with fail
                  refine hp.mono ?_
                  rintro e w5 ⟨rfl, g5⟩
                  have y5 := ks' w5 g5
                  go_wp2_with fail
                  refine (hp' w5 g5).mono ?_
                  rintro e w6 ⟨rfl, g6⟩
                  have g6 := g5.trans g6
                  have y6 := ks' w6 g6
                  go_wp2_with fail
                  refine (hp1 w6 g6).mono ?_
                  rintro e w7 ⟨rfl, g7⟩
                  have g7 := g6.trans g7
                  have hat7 := hatj.mv g7
                  have u1 := hat7.s0
                  have u2 := hat7.p0
                  have u3 := hat7.p1
                  have u4 := hat7.fz
                  have h8 := hat7.store (k' := j + 1) (by omega)
                  have m8 := (hmvj.trans (Mv.of g7)).trans (Mv.store w7 P (.int .i64 ((j + 1 : Nat) : Int)))
                  have q8 := h8.pos
                  push_cast at h8 m8 q8
                  go_wp2_with fail
                  go_roundw
                  case rel => exact ⟨j + 1, by omega, hnx, h8, m8⟩
                  case measure => rw [q8, hposj]; omega
              · have hnx : Hid (skipC (l.drop (k2 + 2)) = skipC (l.drop (j + 1))) := by
                  show _ = _; rw [hrj.out, skipC_on (by omega) (by rw [he0]; exact fun h => h42 h.1)]
                have t42 : (e0 != 42) = true := by simp [h42]
                clear h42 he0 he1
                go_wp2_with fail
                refine hp.mono ?_
                rintro e w5 ⟨rfl, g5⟩
                have y5 := ks' w5 g5
                go_wp2_with fail
                refine (hp' w5 g5).mono ?_
                rintro e w6 ⟨rfl, g6⟩
                have g6 := g5.trans g6
                have hat7 := hatj.mv g6
                have u1 := hat7.s0
                have u2 := hat7.p0
                have u3 := hat7.p1
                have u4 := hat7.fz
                have h8 := hat7.store (k' := j + 1) (by omega)
                have m8 := (hmvj.trans (Mv.of g6)).trans (Mv.store w6 P (.int .i64 ((j + 1 : Nat) : Int)))
                have q8 := h8.pos
                push_cast at h8 m8 q8
                go_wp2_with fail
                go_roundw
                case rel => exact ⟨j + 1, by omega, hnx, h8, m8⟩
                case measure => rw [q8, hposj]; omega
            · have hpe := pk_end (l := l) (k := j) (m := 0) (by omega)
              rw [hpe] at hp
              have hst : Hid (j = n ∨ (j < n ∧ pk (l.drop j) 0 = 42 ∧ pk (l.drop j) 1 = 47)) := .inl (by omega)
              clear hpe
              go_wp2_with fail
              refine hp.mono ?_
              rintro e w5 ⟨rfl, g5⟩
              go_wp2_with fail
              go_meet
              exact ⟨rfl, j, hj, hrj, hst, hatj.mv g5, hmvj.trans (Mv.of g5)⟩
        case rest =>
          obtain ⟨rfl, j, hj, hrj, hstop, hatj, hmvj⟩ := hcut
          have hjn := hatj.hk
          obtain ⟨j', hj'⟩ : ∃ j', min (j + 2) n = j' := ⟨_, rfl⟩
          have hmin : min ((j : Int) + 2) (n : Int) = (j' : Int) := by omega
          have hj'n : j' ≤ n := by omega
          have hdrop : skipC (l.drop (k2 + 2)) = l.drop j' := by
            rw [hrj.out]
            rcases hstop.out with h | ⟨h1, h2⟩
            · have e1 : j' = n := by omega
              have e2 : l.drop j = [] := List.drop_eq_nil_of_le (by omega)
              have e3 : l.drop j' = [] := List.drop_eq_nil_of_le (by omega)
              rw [e2, e3]; rfl
            · rw [skipC_stop (by omega) h2]
              have := pk_pos (l := l.drop j) (m := 1) (by rw [h2.2]; omega)
              rw [List.length_drop] at this
              have e1 : j' = j + 2 := by omega
              rw [e1]
          have Hnew2 := Hnew.out
          rw [hdrop] at Hnew2
          have HN := Lib.hid Hnew2
          have hkj : k ≤ j' := by omega
          have hlt : n - j' < n - k2 := by omega
          clear Hnew2 hdrop hj' hstop hrj Hnew
          have u1 := hatj.s0
          have u2 := hatj.p0
          have u3 := hatj.p1
          have u4 := hatj.fz
          have h8 := hatj.store hj'n
          have m8 := hmvj.trans (Mv.store wc P (.int .i64 (j' : Int)))
          have gd : ∀ W : World, W.grownBy W.drew none := fun W => ⟨rfl, rfl, rfl, Nat.le_refl _, fun _ _ _ => rfl⟩
          have h8 := h8.mv (gd _)
          have m8 := m8.trans (Mv.of (gd _))
          have q8 := h8.pos
          go_wp2_with fail
          go_region
          all_goals
            go_wp2_with fail
            go_roundw
            case rel => exact ⟨j', b, hkj, HN, rfl, h8, m8⟩
            case measure => rw [q8, hpos]; exact hlt
      · have hend : (b, l.drop k2) = T := by
          rw [← hrun.out, spacesT_end (r := l.drop k2) (by rw [hc]; exact hw) (by rw [hc, hd]; exact hcd)]; simp
        have Hend := Lib.hid hend
        clear hend hrun
        by_cases h47 : c = 47
        · have t47 := eq_t h47
          have t42 := eq_f (show ¬ d = 42 from fun h => hcd ⟨h47, h⟩)
          clear hcd h47
          go_wp2_with fail
          refine (hp wr (World.grownBy.refl _ _)).mono ?_
          rintro e w1 ⟨rfl, g1⟩
          have y1 := ks w1 g1
          go_wp2_with fail
          refine (rn_white c _).mono ?_
          rintro e w3 ⟨rfl, rfl⟩
          rw [hw]
          go_wp2_with fail
          refine (hp w1 g1).mono ?_
          rintro e w2 ⟨rfl, g2⟩
          have g2 := g1.trans g2
          have y2 := ks w2 g2
          go_wp2_with fail
          refine (hp1 w2 g2).mono ?_
          rintro e w3 ⟨rfl, g3⟩
          have g3 := g2.trans g3
          go_wp2_with fail
          go_ret
          exact ⟨by rw [← Hend.out]; rfl, hmv.trans (Mv.of g3), k2, hkk, by rw [← Hend.out], hat.mv g3⟩
        · have t47 := eq_f h47
          go_wp2_with fail
          refine (hp wr (World.grownBy.refl _ _)).mono ?_
          rintro e w1 ⟨rfl, g1⟩
          have y1 := ks w1 g1
          go_wp2_with fail
          refine (rn_white c _).mono ?_
          rintro e w3 ⟨rfl, rfl⟩
          rw [hw]
          go_wp2_with fail
          refine (hp w1 g1).mono ?_
          rintro e w2 ⟨rfl, g2⟩
          have g2 := g1.trans g2
          go_wp2_with fail
          go_ret
          exact ⟨by rw [← Hend.out]; rfl, hmv.trans (Mv.of g2), k2, hkk, by rw [← Hend.out], hat.mv g2⟩
end Go.Proofs.YtifedkilbpkpaaaGreatDoor
