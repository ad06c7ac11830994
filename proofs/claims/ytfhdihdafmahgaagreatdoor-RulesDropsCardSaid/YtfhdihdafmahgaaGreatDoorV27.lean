/- Layer 4, the document: a text's characters are walked. -/
import Derived.Test.YtfhdihdafmahgaaGreatDoorV24
import Derived.Test.YtfhdihdafmahgaaGreatDoorV08
import Derived.Test.YtfhdihdafmahgaaGreatDoorV19
import Derived.Lib.Bytealg
import Derived.Test.YtfhdihdafmahgaaGreatDoorV01
import Derived.Deep.RegionWith
import Derived.BigQuiet
import Derived.Test.YtfhdihdafmahgaaGreatDoorV13
import Derived.WalkMore
import Derived.Lib.OthersKept
import Derived.Test.YtfhdihdafmahgaaGreatDoorV11
import Derived.Deep.DeepCutAuto
import Derived.Test.YtfhdihdafmahgaaGreatDoorV23
import Derived.Test.YtfhdihdafmahgaaGreatDoorV12
/- Layer 4: may a text be, may a token be? The program's plain, one, right are walked. -/
set_option linter.unusedVariables false
set_option linter.unusedSimpArgs false
namespace Go.Proofs.YtfhdihdafmahgaaGreatDoor
open Go.RowKit Rn Tp
namespace Tp
/-- characters that may be told: UTF-8, no 0 -/
def plainB (l : List UInt8) : Bool := match utfP l with
  | none => false
  | some cs => !decide ((0 : Int) ∈ cs)
end Tp
theorem index_mem (l : List UInt8) (b : UInt8) : (0 ≤ Lib.indexByte l b) ↔ b ∈ l := by
  induction l with
  | nil => simp [Lib.indexByte]
  | cons c l ih =>
    have hg := Lib.indexByte_ge l b
    unfold Lib.indexByte
    by_cases h : c = b
    · subst h; simp
    · simp only [List.mem_cons]
      rw [if_neg (by simpa using h)]
      have hb : ¬ b = c := fun e => h e.symm
      simp only [hb, false_or]
      rw [← ih]
      split
      · rename_i h1
        have h1 : Lib.indexByte l b = -1 := by simpa using h1
        omega
      · rename_i h1
        have h1 : ¬ Lib.indexByte l b = -1 := by simpa using h1
        omega
theorem enc_zero {c : Int} (hc : isB c = true) : (0 : UInt8) ∈ Lib.encodeRune c ↔ c = 0 := by
  have hr := isB_range' hc
  have hc' : 0 ≤ c ∧ c ≤ 1114111 ∧ (c < 55296 ∨ 57343 < c) := by simpa [isB] using hc
  constructor
  · intro h
    by_cases c1 : c < 128
    · have e : Lib.encodeRune c = [c.toNat.toUInt8] := by simp [Lib.encodeRune, Lib.encodeRuneZ_one hr.1 (by omega : c ≤ 127)]
      have g0 := b_of c hr.1 (by omega)
      rw [e] at h
      have : (0 : UInt8) = c.toNat.toUInt8 := by simpa using h
      rw [← this] at g0
      have : (0 : UInt8).toNat = 0 := rfl
      omega
    · exfalso
      by_cases c2 : c < 2048
      · have e : Lib.encodeRune c = [(192 + c / 64).toNat.toUInt8, (128 + c % 64).toNat.toUInt8] := by simp [Lib.encodeRune, Lib.encodeRuneZ_two (by omega : 128 ≤ c) (by omega)]
        have g0 := b_of (192 + c / 64) (by omega) (by omega)
        have g1 := b_of (128 + c % 64) (by omega) (by omega)
        rw [e] at h
        have z : (0 : UInt8).toNat = 0 := rfl
        simp only [List.mem_cons, List.not_mem_nil, or_false] at h
        rcases h with h | h
        · rw [← h] at g0; omega
        · rw [← h] at g1; omega
      · by_cases c3 : c < 65536
        · have e : Lib.encodeRune c = [(224 + c / 4096).toNat.toUInt8, (128 + c / 64 % 64).toNat.toUInt8, (128 + c % 64).toNat.toUInt8] := by simp [Lib.encodeRune, Lib.encodeRuneZ_three (r := c) (by omega)]
          have g0 := b_of (224 + c / 4096) (by omega) (by omega)
          have g1 := b_of (128 + c / 64 % 64) (by omega) (by omega)
          have g2 := b_of (128 + c % 64) (by omega) (by omega)
          rw [e] at h
          have z : (0 : UInt8).toNat = 0 := rfl
          simp only [List.mem_cons, List.not_mem_nil, or_false] at h
          rcases h with h | h | h
          · rw [← h] at g0; omega
          · rw [← h] at g1; omega
          · rw [← h] at g2; omega
        · have e : Lib.encodeRune c = [(240 + c / 262144).toNat.toUInt8, (128 + c / 4096 % 64).toNat.toUInt8, (128 + c / 64 % 64).toNat.toUInt8, (128 + c % 64).toNat.toUInt8] := by simp [Lib.encodeRune, Lib.encodeRuneZ_four (by omega : 65536 ≤ c) (by omega)]
          have g0 := b_of (240 + c / 262144) (by omega) (by omega)
          have g1 := b_of (128 + c / 4096 % 64) (by omega) (by omega)
          have g2 := b_of (128 + c / 64 % 64) (by omega) (by omega)
          have g3 := b_of (128 + c % 64) (by omega) (by omega)
          rw [e] at h
          have z : (0 : UInt8).toNat = 0 := rfl
          simp only [List.mem_cons, List.not_mem_nil, or_false] at h
          rcases h with h | h | h | h
          · rw [← h] at g0; omega
          · rw [← h] at g1; omega
          · rw [← h] at g2; omega
          · rw [← h] at g3; omega
  · rintro rfl; decide
theorem zero_write : ∀ (cs : List Int), (∀ c ∈ cs, isB c = true) → ((0 : UInt8) ∈ writeP cs ↔ (0 : Int) ∈ cs)
  | [], _ => by simp [writeP]
  | c :: cs, h => by
    have ih := zero_write cs (fun d hd => h d (by simp [hd]))
    have h0 := enc_zero (h c (by simp))
    have e : writeP (c :: cs) = Lib.encodeRune c ++ writeP cs := by simp [writeP]
    rw [e, List.mem_append, ih, h0, List.mem_cons]
    constructor
    · rintro (h | h)
      · exact .inl h.symm
      · exact .inr h
    · rintro (h | h)
      · exact .inl h.symm
      · exact .inr h
set_option maxRecDepth 100000 in
set_option maxHeartbeats 1000000 in
theorem tp_plain (l : List UInt8) (w : World) (hl : l.length ≤ maxLen) (hT : Tabs w) :
    Calls Tryz.prog 117 #[.string (bytesOf l)] w fun e w' => e = .returned (.bool (plainB l)) ∧ Below w.heap.size w w' := by
  have hz := bytesOf_size l
  unfold maxLen at hl
  have hv := Tryz.utf8_ValidString (bytesOf l) w (by omega) hT
  rw [bytesOf_list, utf_valid] at hv
  unfold plainB
  cases hu : utfP l with
  | none =>
    rw [hu] at hv
    simp only [Option.isSome_none] at hv
    go_enter Tryz.func117, Tryz.ntmps117
    go_wp2_with fail
    refine hv.mono ?_
    rintro e w1 ⟨rfl, hb⟩
    go_wp2
    go_ret
    exact ⟨rfl, hb⟩
  | some cs =>
    rw [hu] at hv
    simp only [Option.isSome_some] at hv
    obtain ⟨u1, u2⟩ := utf_some hu
    have hc := fun w => Tryz.strings_ContainsRune_ascii (bytesOf l) 0 w (by omega) (by omega)
    have hd : decide (0 ≤ Lib.indexByte (bytesOf l).data.toList (0 : Int).toNat.toUInt8) = decide ((0 : Int) ∈ cs) := by
      rw [bytesOf_list, Bool.eq_iff_iff, decide_eq_true_iff, decide_eq_true_iff, index_mem, u1]
      exact zero_write cs u2
    rw [hd] at hc
    clear hd u1 u2 hu
    show Calls _ _ _ _ fun e w' => e = .returned (.bool (!decide ((0 : Int) ∈ cs))) ∧ _
    generalize decide ((0 : Int) ∈ cs) = m at *
    go_enter Tryz.func117, Tryz.ntmps117
    go_wp2_with fail
    refine hv.mono ?_
    rintro e w1 ⟨rfl, hb⟩
    go_wp2_with fail
    refine (hc w1).mono ?_
    rintro e w2 ⟨rfl, rfl⟩
    go_wp2
    go_ret
    exact ⟨rfl, hb⟩
def oneS : List UInt8 := [34, 39, 40, 41, 91, 93, 123, 125, 58, 59, 44, 12, 13]
theorem oneS_at : ∀ c : Fin 128, decide (0 ≤ Lib.indexByte (bytesOf oneS).data.toList (c.val : Int).toNat.toUInt8) = decide ((c.val : Int) ∈ ([34, 39, 40, 41, 91, 93, 123, 125, 58, 59, 44, 12, 13] : List Int)) := by decide +kernel
set_option maxRecDepth 100000 in
set_option maxHeartbeats 1000000 in
theorem tp_one (l : List UInt8) (cs : List Int) (w : World) (hl : l.length ≤ maxLen) (hT : Tabs w) (hu : utfP l = some cs) :
    Calls Tryz.prog 118 #[.string (bytesOf l)] w fun e w' => e = .returned (.bool (kindB 11 cs)) ∧ Below w.heap.size w w' := by
  have hz := bytesOf_size l
  unfold maxLen at hl
  obtain ⟨u1, u2⟩ := utf_some hu
  have hd := Tryz.utf8_DecodeRuneInString (bytesOf l) w hT
  cases cs with
  | nil =>
    have hn : l = [] := by rw [u1]; simp [writeP]
    subst hn
    have e0 : Lib.decodeGo (bytesOf []) = (65533, 0) := by rfl
    rw [e0] at hd
    obtain ⟨s1, s2⟩ := str_none
    clear u1 u2 hu
    show Calls _ _ _ _ fun e w' => e = .returned (.bool false) ∧ _
    go_enter Tryz.func118, Tryz.ntmps118
    go_wp2_with fail
    refine hd.mono ?_
    rintro e w1 ⟨rfl, hb⟩
    go_wp2
    go_ret
    exact ⟨rfl, hb⟩
  | cons c r =>
    have hc := u2 c (by simp)
    have hcr := isB_range' hc
    have hw : l = Lib.encodeRune c ++ writeP r := by rw [u1]; simp [writeP]
    have hne : l ≠ [] := by rw [hw]; exact enc_ne c _
    have hdl := decL_write c hc (writeP r)
    rw [← hw] at hdl
    have e0 : Lib.decodeGo (bytesOf l) = (c.toNat, (Lib.encodeRune c).length) := by
      unfold Lib.decodeGo
      have := List.length_pos_iff.2 hne
      rw [if_neg (by omega)]
      exact hdl
    rw [e0] at hd
    have hel := encode_len c
    have hll : l.length = (Lib.encodeRune c).length + (writeP r).length := by rw [hw, List.length_append]
    rw [show ((c.toNat : Nat) : Int) = c by omega] at hd
    obtain ⟨s1, s2⟩ := str_some hne
    obtain ⟨k, hk⟩ : ∃ k, (Lib.encodeRune c).length = k := ⟨_, rfl⟩
    rw [hk] at hd hel hll
    cases r with
    | cons d r =>
      have h2 : 0 < (writeP (d :: r)).length := by
        have e : writeP (d :: r) = Lib.encodeRune d ++ writeP r := by simp [writeP]
        rw [e, List.length_append]
        have := encode_len d; omega
      have tn : ((k : Int) != ((bytesOf l).size : Int)) = true := by rw [hz]; simp; omega
      clear u1 u2 hu hw hdl e0 hk
      show Calls _ _ _ _ fun e w' => e = .returned (.bool false) ∧ _
      go_enter Tryz.func118, Tryz.ntmps118
      go_wp2_with fail
      refine hd.mono ?_
      rintro e w1 ⟨rfl, hb⟩
      go_wp2
      go_ret
      exact ⟨rfl, hb⟩
    | nil =>
      have h2 : (writeP []).length = 0 := by simp [writeP]
      have tn : ((k : Int) != ((bytesOf l).size : Int)) = false := by rw [hz]; simp; omega
      clear u1 u2 hu hw hdl e0 hk
      show Calls _ _ _ _ fun e w' => e = .returned (.bool (delimB c)) ∧ _
      have hB := fun w => rn_begins c w
      have hW := fun w => rn_white c w
      have hD := fun w => rn_digit c w
      have hS : beginsB c = false → ∀ w, Calls Tryz.prog 126 #[.string ⟨#[34, 39, 40, 41, 91, 93, 123, 125, 58, 59, 44, 12, 13]⟩, .int .i32 c] w fun e w' => e = .returned (.bool (decide (c ∈ ([34, 39, 40, 41, 91, 93, 123, 125, 58, 59, 44, 12, 13] : List Int)))) ∧ w' = w := by
        intro hb w
        have hlow : c < 128 := by
          unfold beginsB at hb
          rw [hc] at hb
          simp at hb; omega
        have h := Tryz.strings_ContainsRune_ascii (bytesOf oneS) c w hcr.1 hlow
        have h1 := oneS_at ⟨c.toNat, by omega⟩
        have e : ((c.toNat : Nat) : Int) = c := by omega
        simp only [e] at h1
        rw [h1] at h
        exact h
      have hdel : delimB c = (!whiteB c && !beginsB c && !digitB c && !decide (c ∈ ([34, 39, 40, 41, 91, 93, 123, 125, 58, 59, 44, 12, 13] : List Int))) := by
        unfold delimB
        congr 1
        rw [Bool.eq_iff_iff]; simp
      rw [hdel]
      generalize decide (c ∈ ([34, 39, 40, 41, 91, 93, 123, 125, 58, 59, 44, 12, 13] : List Int)) = m at *
      generalize whiteB c = b1 at *
      generalize beginsB c = b2 at *
      generalize digitB c = b3 at *
      clear hdel
      have hun : (undef : Value) = .tuple #[] := rfl
      cases b1 with
      | true =>
        go_enter Tryz.func118, Tryz.ntmps118
        go_wp2_with fail
        refine hd.mono ?_
        rintro e w1 ⟨rfl, hb⟩
        go_wp2_with fail
        refine (hW w1).mono ?_
        rintro e w2 ⟨rfl, rfl⟩
        go_wp2
        go_ret
        exact ⟨rfl, hb⟩
      | false =>
        cases b2 with
        | true =>
          go_enter Tryz.func118, Tryz.ntmps118
          go_wp2_with fail
          refine hd.mono ?_
          rintro e w1 ⟨rfl, hb⟩
          go_wp2_with fail
          refine (hW w1).mono ?_
          rintro e w2 ⟨rfl, rfl⟩
          go_wp2_with fail
          refine (hB w1).mono ?_
          rintro e w2 ⟨rfl, rfl⟩
          go_wp2
          go_ret
          exact ⟨rfl, hb⟩
        | false =>
          have hS2 := hS rfl
          clear hS
          cases b3 with
          | true =>
            go_enter Tryz.func118, Tryz.ntmps118
            go_wp2_with fail
            refine hd.mono ?_
            rintro e w1 ⟨rfl, hb⟩
            go_wp2_with fail
            refine (hW w1).mono ?_
            rintro e w2 ⟨rfl, rfl⟩
            go_wp2_with fail
            refine (hB w1).mono ?_
            rintro e w2 ⟨rfl, rfl⟩
            go_wp2_with fail
            refine (hD w1).mono ?_
            rintro e w2 ⟨rfl, rfl⟩
            go_wp2
            go_ret
            exact ⟨rfl, hb⟩
          | false =>
            go_enter Tryz.func118, Tryz.ntmps118
            go_wp2_with fail
            refine hd.mono ?_
            rintro e w1 ⟨rfl, hb⟩
            go_wp2_with fail
            refine (hW w1).mono ?_
            rintro e w2 ⟨rfl, rfl⟩
            go_wp2_with fail
            refine (hB w1).mono ?_
            rintro e w2 ⟨rfl, rfl⟩
            go_wp2_with fail
            refine (hD w1).mono ?_
            rintro e w2 ⟨rfl, rfl⟩
            go_wp2_with fail
            refine (hS2 w1).mono ?_
            rintro e w2 ⟨rfl, rfl⟩
            go_wp2
            go_ret
            exact ⟨rfl, hb⟩
end Go.Proofs.YtfhdihdafmahgaaGreatDoor
/- Layer 4: may a token be? The program's right is walked. -/
set_option linter.unusedVariables false
set_option linter.unusedSimpArgs false
namespace Go.Proofs.YtfhdihdafmahgaaGreatDoor
open Go.RowKit Rn Tp Fx
/-- a text that is none of one constant -/
theorem str_not {l c : List UInt8} (h : l ≠ c) : ¬ (bytesOf l).toList = c ∧ ((bytesOf l).toList == c) = false := by
  rw [bytesOf_toList]; exact ⟨h, by simpa using h⟩
theorem str_is {l c : List UInt8} (h : l = c) : (bytesOf l).toList = c ∧ ((bytesOf l).toList == c) = true := by
  rw [bytesOf_toList]; exact ⟨h, by simpa using h⟩
theorem utf_empty {l : List UInt8} {cs : List Int} (h : utfP l = some cs) : l = [] ↔ cs = [] := by
  obtain ⟨h1, _⟩ := utf_some h
  constructor
  · rintro rfl
    rw [utfP_nil] at h; injection h with h; exact h.symm
  · rintro rfl
    rw [h1]; simp [writeP]
theorem utf_low {l : List UInt8} {cs : List Int} (h : utfP l = some cs) (b : UInt8) (hb : b.toNat < 128) : l = [b] ↔ cs = [(b.toNat : Int)] := by
  obtain ⟨h1, h2⟩ := utf_some h
  constructor
  · intro e
    have hw : writeP [(b.toNat : Int)] = [b] := by rw [write_one, enc_low b hb]
    have hu := utf_write [(b.toNat : Int)] (fun c hc => by
      obtain rfl : c = (b.toNat : Int) := by simpa using hc
      unfold isB; simp; omega)
    rw [hw, ← e, h] at hu
    injection hu
  · rintro rfl
    rw [h1, write_one, enc_low b hb]
/-- what of a token is wrong by its number and its characters -/
def badB (t : GTok) : Bool := (decide (t.n ≠ 0) && (decide (t.kind < 8) || decide (10 < t.kind))) || decide (t.n ≠ stopZ t.n) || !plainB t.text
theorem one_bad {t : GTok} (h : badB t = true) : oneB t = false := by
  unfold badB at h
  unfold oneB
  unfold plainB at h
  cases hu : utfP t.text with
  | none => rfl
  | some l =>
    rw [hu] at h
    simp only [] at h ⊢
    rw [Bool.and_eq_false_iff, Bool.and_eq_false_iff]
    left
    simp only [Bool.or_eq_true, Bool.and_eq_true, decide_eq_true_eq, Bool.not_eq_true', Bool.not_eq_false'] at h
    unfold numOk
    rcases h with (h | h) | h
    · right; simp; omega
    · right; simp; intro e; omega
    · left; simpa using h
theorem one_good {t : GTok} (h : badB t = false) : ∃ cs, utfP t.text = some cs ∧ oneB t = kindB t.kind cs := by
  unfold badB at h
  unfold plainB at h
  cases hu : utfP t.text with
  | none => rw [hu] at h; simp at h
  | some l =>
    rw [hu] at h
    refine ⟨l, rfl, ?_⟩
    unfold oneB
    rw [hu]
    simp only [Bool.or_eq_false_iff, Bool.and_eq_false_iff, decide_eq_false_iff_not, Bool.not_eq_false', Bool.not_not] at h
    obtain ⟨⟨h1, h2⟩, h3⟩ := h
    have h4 : decide ((0 : Int) ∉ l) = true := by simpa using h3
    have h5 : numOk t.kind t.n = true := by
      unfold numOk
      simp
      refine ⟨by omega, ?_⟩
      by_cases h0 : t.n = 0
      · exact .inr h0
      · rcases h1 with h1 | h1
        · exact absurd h0 h1
        · left; omega
    simp only [h4, h5, Bool.true_and]
abbrev tokG (t : GTok) : Value := .agg #[.int .i64 t.kind, .string (bytesOf t.text), .int .i64 t.n]
set_option maxRecDepth 100000 in
set_option maxHeartbeats 4000000 in
theorem tp_right (t : GTok) (w : World) (hl : t.text.length ≤ maxLen) (hn : -9223372036854775808 ≤ t.n ∧ t.n ≤ 9223372036854775807) (hT : Tabs w) :
    Calls Tryz.prog 83 #[tokG t] w fun e w' => e = .returned (.bool (oneB t)) ∧ Below w.heap.size w w' := by
  obtain ⟨kind, text, n⟩ := t
  simp only [] at hl hn
  obtain ⟨wA, hwA⟩ : ∃ wA, w.alloc (.cells #[.int .i64 kind, .string (bytesOf text), .int .i64 n] 58) = wA := ⟨_, rfl⟩
  have bA : Below w.heap.size w wA := by rw [← hwA]; exact (Below.refl _ _).alloc (Nat.le_refl _) _
  have rA : RowAt wA w.heap.size [.int .i64 kind, .string (bytesOf text), .int .i64 n] := by rw [← hwA]; exact RowAt.new _ _ _
  obtain ⟨x0, _⟩ := rA.2 0 _ rfl
  obtain ⟨x1, _⟩ := rA.2 1 _ rfl
  obtain ⟨x2, _⟩ := rA.2 2 _ rfl
  have hTA := hT.below bA
  obtain ⟨R, hR⟩ : ∃ R, oneB ⟨kind, text, n⟩ = R := ⟨_, rfl⟩
  rw [hR]
  have HR := Lib.hid hR
  clear hR
  obtain ⟨bad, hbad⟩ : ∃ b, badB ⟨kind, text, n⟩ = b := ⟨_, rfl⟩
  have Hbad := Lib.hid hbad
  obtain ⟨s, hs⟩ : ∃ s, stopZ n = s := ⟨_, rfl⟩
  obtain ⟨pl, hpl⟩ : ∃ p, plainB text = p := ⟨_, rfl⟩
  have hb2 : bad = ((decide (n ≠ 0) && (decide (kind < 8) || decide (10 < kind))) || decide (n ≠ s) || !pl) := by rw [← hbad, ← hs, ← hpl]; rfl
  have hstop := fun w => fx_stop n w hn.1 hn.2
  rw [hs] at hstop
  have hplain : ∀ w', Tabs w' → Calls Tryz.prog 117 #[.string (bytesOf text)] w' fun e w2 => e = .returned (.bool pl) ∧ Below w'.heap.size w' w2 := fun w' h => by rw [← hpl]; exact tp_plain text w' hl h
  clear hs hpl hbad
  have y0 := bw_cell (B := wA.heap.size) x0 rA.1
  have y1 := bw_cell (B := wA.heap.size) x1 rA.1
  have y2 := bw_cell (B := wA.heap.size) x2 rA.1
  go_enter Tryz.func83, Tryz.ntmps83
  go_upto_region 1 with (fail)
  go_cut [29] (fun x wx => x = .bool bad ∧ Below wA.heap.size wA wx)
  case first =>
    by_cases n0 : n = 0
    · have t0 : (n != 0) = false := by simp [n0]
      by_cases ns : n = s
      · have t1 : (n != s) = false := by simp [ns]
        have hfin : bad = !pl := by rw [hb2]; simp [n0, ← ns]
        clear ns hb2 n0
        refine wp_region_bw wA.heap.size (by kernel_rfl) (by kernel_rfl) ?_
        repeat (go_big_quiet_step (first | (go_at_call 116; exact calls_bw_same (hstop _)) | (go_at_call 117; rename_i W; exact calls_bw (Nat.le_refl _) (hplain _ (hTA.below W.is)))))
        refine wpQuiet_nil ?_
        intro _ hw'
        obtain ⟨W, rfl⟩ := hw'
        go_wp2_with fail
        go_meet
        exact ⟨by rw [hfin], W.is⟩
      · have t1 : (n != s) = true := by simp [ns]
        have hfin : bad = true := by rw [hb2]; simp [ns]
        clear ns hb2 n0
        refine wp_region_bw wA.heap.size (by kernel_rfl) (by kernel_rfl) ?_
        repeat (go_big_quiet_step (first | (go_at_call 116; exact calls_bw_same (hstop _)) | (go_at_call 117; rename_i W; exact calls_bw (Nat.le_refl _) (hplain _ (hTA.below W.is)))))
        refine wpQuiet_nil ?_
        intro _ hw'
        obtain ⟨W, rfl⟩ := hw'
        go_wp2_with fail
        go_meet
        exact ⟨by rw [hfin], W.is⟩
    · have t0 : (n != 0) = true := by simp [n0]
      by_cases k8 : kind < 8
      · have t8 : decide (kind < 8) = true := by simp [k8]
        have hfin : bad = true := by rw [hb2]; simp [n0, k8]
        clear n0 k8 hb2
        refine wp_region_bw wA.heap.size (by kernel_rfl) (by kernel_rfl) ?_
        repeat (go_big_quiet_step (first | (go_at_call 116; exact calls_bw_same (hstop _)) | (go_at_call 117; rename_i W; exact calls_bw (Nat.le_refl _) (hplain _ (hTA.below W.is)))))
        refine wpQuiet_nil ?_
        intro _ hw'
        obtain ⟨W, rfl⟩ := hw'
        go_wp2_with fail
        go_meet
        exact ⟨by rw [hfin], W.is⟩
      · have t8 : decide (kind < 8) = false := by simp; omega
        by_cases k10 : 10 < kind
        · have t10 : decide (10 < kind) = true := by simp [k10]
          have hfin : bad = true := by rw [hb2]; simp [n0, k10]
          clear n0 k8 k10 hb2
          refine wp_region_bw wA.heap.size (by kernel_rfl) (by kernel_rfl) ?_
          repeat (go_big_quiet_step (first | (go_at_call 116; exact calls_bw_same (hstop _)) | (go_at_call 117; rename_i W; exact calls_bw (Nat.le_refl _) (hplain _ (hTA.below W.is)))))
          refine wpQuiet_nil ?_
          intro _ hw'
          obtain ⟨W, rfl⟩ := hw'
          go_wp2_with fail
          go_meet
          exact ⟨by rw [hfin], W.is⟩
        · have t10 : decide (10 < kind) = false := by simp; omega
          by_cases ns : n = s
          · have t1 : (n != s) = false := by simp [ns]
            have hfin : bad = !pl := by rw [hb2]; simp [t8, t10, ← ns]
            clear ns hb2 n0 k8 k10
            refine wp_region_bw wA.heap.size (by kernel_rfl) (by kernel_rfl) ?_
            repeat (go_big_quiet_step (first | (go_at_call 116; exact calls_bw_same (hstop _)) | (go_at_call 117; rename_i W; exact calls_bw (Nat.le_refl _) (hplain _ (hTA.below W.is)))))
            refine wpQuiet_nil ?_
            intro _ hw'
            obtain ⟨W, rfl⟩ := hw'
            go_wp2_with fail
            go_meet
            exact ⟨by rw [hfin], W.is⟩
          · have t1 : (n != s) = true := by simp [ns]
            have hfin : bad = true := by rw [hb2]; simp [ns]
            clear ns hb2 n0 k8 k10
            refine wp_region_bw wA.heap.size (by kernel_rfl) (by kernel_rfl) ?_
            repeat (go_big_quiet_step (first | (go_at_call 116; exact calls_bw_same (hstop _)) | (go_at_call 117; rename_i W; exact calls_bw (Nat.le_refl _) (hplain _ (hTA.below W.is)))))
            refine wpQuiet_nil ?_
            intro _ hw'
            obtain ⟨W, rfl⟩ := hw'
            go_wp2_with fail
            go_meet
            exact ⟨by rw [hfin], W.is⟩
  case rest =>
    obtain ⟨rfl, hbx⟩ := hcut
    have hTx := hTA.below hbx
    have bx : Below w.heap.size w wc := bA.trans (hbx.mono bA.size)
    have z0 := (hbx.cell (p := ⟨w.heap.size, 0, none⟩) rA.1).trans x0
    have z1 := (hbx.cell (p := ⟨w.heap.size, 1, none⟩) rA.1).trans x1
    clear hstop hplain y0 y1 y2 x0 x1 x2 hwA hb2
    cases bad with
    | true =>
      obtain rfl : R = false := by rw [← HR.out]; exact one_bad Hbad.out
      go_wp2
      go_ret
      exact ⟨rfl, bx⟩
    | false =>
      obtain ⟨cs, hu, hO1⟩ := one_good Hbad.out
      simp only [] at hO1 hu
      have hO : R = kindB kind cs := by rw [← HR.out]; exact hO1
      have he := utf_empty hu
      clear hO1 Hbad HR
      have hK : kind = 2 ∨ kind = 3 ∨ kind = 4 ∨ kind = 5 ∨ kind = 10 ∨ kind = 6 ∨ kind = 7 ∨ kind = 11 ∨ kind = 12 ∨ kind = 13 ∨ ((kind == 2) = false ∧ (kind == 3) = false ∧ (kind == 4) = false ∧ (kind == 5) = false ∧ (kind == 10) = false ∧ (kind == 6) = false ∧ (kind == 7) = false ∧ (kind == 11) = false ∧ (kind == 12) = false ∧ (kind == 13) = false) := by simp; omega
      rcases hK with rfl | rfl | rfl | rfl | rfl | rfl | rfl | rfl | rfl | rfl | ⟨h2, h3, h4, h5, h10, h6, h7, h11, h12, h13⟩
      case inr.inr.inr.inr.inr.inr.inr.inl =>
        have h1 := tp_one text cs wc hl hTx hu
        subst hO
        clear hu he
        go_wp2_with fail
        refine h1.mono ?_
        rintro e w2 ⟨rfl, hb2⟩
        go_wp2
        go_ret
        exact ⟨rfl, bx.trans (hb2.mono bx.size)⟩
      case inr.inr.inr.inr.inr.inr.inr.inr.inl =>
        have u1 := utf_low hu 40 (by decide)
        have u2 := utf_low hu 91 (by decide)
        have u3 := utf_low hu 123 (by decide)
        have hfin : kindB 12 cs = (decide (text = [40]) || decide (text = [91]) || decide (text = [123])) := by
          unfold kindB
          simp only [u1, u2, u3]
          rw [Bool.eq_iff_iff]; simp [or_assoc]
        clear u1 u2 u3 hu he
        by_cases c1 : text = [40]
        · obtain ⟨f1, g1⟩ := str_is c1
          obtain rfl : R = true := by rw [hO, hfin]; simp [c1]
          clear hO hfin c1
          go_wp2
          go_ret
          exact ⟨rfl, bx⟩
        · obtain ⟨d1, e1⟩ := str_not c1
          by_cases c2 : text = [91]
          · obtain ⟨f2, g2⟩ := str_is c2
            obtain rfl : R = true := by rw [hO, hfin]; simp [c2]
            clear hO hfin c2
            go_wp2
            go_ret
            exact ⟨rfl, bx⟩
          · obtain ⟨d2, e2⟩ := str_not c2
            by_cases c3 : text = [123]
            · obtain ⟨f3, g3⟩ := str_is c3
              obtain rfl : R = true := by rw [hO, hfin]; simp [c3]
              clear hO hfin c3
              go_wp2
              go_ret
              exact ⟨rfl, bx⟩
            · obtain ⟨d3, e3⟩ := str_not c3
              obtain rfl : R = false := by rw [hO, hfin]; simp [c1, c2, c3]
              clear hO hfin c1 c2 c3
              go_wp2
              go_ret
              exact ⟨rfl, bx⟩
      case inr.inr.inr.inr.inr.inr.inr.inr.inr.inl =>
        have u1 := utf_low hu 41 (by decide)
        have u2 := utf_low hu 93 (by decide)
        have u3 := utf_low hu 125 (by decide)
        have hfin : kindB 13 cs = (decide (text = [41]) || decide (text = [93]) || decide (text = [125])) := by
          unfold kindB
          simp only [u1, u2, u3]
          rw [Bool.eq_iff_iff]; simp [or_assoc]
        clear u1 u2 u3 hu he
        by_cases c1 : text = [41]
        · obtain ⟨f1, g1⟩ := str_is c1
          obtain rfl : R = true := by rw [hO, hfin]; simp [c1]
          clear hO hfin c1
          go_wp2
          go_ret
          exact ⟨rfl, bx⟩
        · obtain ⟨d1, e1⟩ := str_not c1
          by_cases c2 : text = [93]
          · obtain ⟨f2, g2⟩ := str_is c2
            obtain rfl : R = true := by rw [hO, hfin]; simp [c2]
            clear hO hfin c2
            go_wp2
            go_ret
            exact ⟨rfl, bx⟩
          · obtain ⟨d2, e2⟩ := str_not c2
            by_cases c3 : text = [125]
            · obtain ⟨f3, g3⟩ := str_is c3
              obtain rfl : R = true := by rw [hO, hfin]; simp [c3]
              clear hO hfin c3
              go_wp2
              go_ret
              exact ⟨rfl, bx⟩
            · obtain ⟨d3, e3⟩ := str_not c3
              obtain rfl : R = false := by rw [hO, hfin]; simp [c1, c2, c3]
              clear hO hfin c1 c2 c3
              go_wp2
              go_ret
              exact ⟨rfl, bx⟩
      case inr.inr.inr.inr.inr.inr.inr.inr.inr.inr =>
        have hfin : kindB kind cs = (decide (1 ≤ kind) && (decide (kind ≤ 16) && decide (text = []))) := by
          simp at h2 h3 h4 h5 h10 h6 h7 h11 h12 h13
          unfold kindB
          rw [if_neg (by omega), if_neg (by omega), if_neg h11, if_neg h12, if_neg h13]
          rw [Bool.eq_iff_iff]; simp [he]
        clear hu he
        by_cases k1 : 1 ≤ kind
        · have e1 : decide (1 ≤ kind) = true := by simp [k1]
          by_cases k16 : kind ≤ 16
          · have e16 : decide (kind ≤ 16) = true := by simp [k16]
            by_cases ht : text = []
            · subst ht
              obtain ⟨s1, s2⟩ := str_none
              obtain rfl : R = true := by rw [hO, hfin]; simp [k1, k16]
              clear hO hfin k1 k16
              go_wp2
              go_ret
              exact ⟨rfl, bx⟩
            · obtain ⟨s1, s2⟩ := str_some ht
              obtain rfl : R = false := by rw [hO, hfin]; simp [ht]
              clear hO hfin k1 k16 ht
              go_wp2
              go_ret
              exact ⟨rfl, bx⟩
          · have e16 : decide (kind ≤ 16) = false := by simp; omega
            obtain rfl : R = false := by rw [hO, hfin]; simp [e16]
            clear hO hfin k1 k16
            go_wp2
            go_ret
            exact ⟨rfl, bx⟩
        · have e1 : decide (1 ≤ kind) = false := by simp; omega
          obtain rfl : R = false := by rw [hO, hfin]; simp [e1]
          clear hO hfin k1
          go_wp2
          go_ret
          exact ⟨rfl, bx⟩
      case inr.inr.inr.inr.inr.inl =>
        obtain rfl : R = true := by rw [hO]; rfl
        clear hu he hO
        go_wp2
        go_ret
        exact ⟨rfl, bx⟩
      case inr.inr.inr.inr.inr.inr.inl =>
        obtain rfl : R = true := by rw [hO]; rfl
        clear hu he hO
        go_wp2
        go_ret
        exact ⟨rfl, bx⟩
      all_goals
        have hgen : ∀ k, ((2 ≤ k ∧ k ≤ 5) ∨ k = 10) → kindB k cs = !decide (text = []) := by
          intro k hk
          unfold kindB
          rw [if_pos hk, Bool.eq_iff_iff]; simp [he]
        rw [hgen _ (by omega)] at hO
        clear hgen hu he
        by_cases ht : text = []
        · subst ht
          obtain ⟨s1, s2⟩ := str_none
          obtain rfl : R = false := by rw [hO]; simp
          clear hO
          go_wp2
          go_ret
          exact ⟨rfl, bx⟩
        · obtain ⟨s1, s2⟩ := str_some ht
          obtain rfl : R = true := by rw [hO]; simp [ht]
          clear hO ht
          go_wp2
          go_ret
          exact ⟨rfl, bx⟩
end Go.Proofs.YtfhdihdafmahgaaGreatDoor
/- Layer 4: a text that is UTF-8, gone through character by character. Plain facts. -/
set_option linter.unusedVariables false
set_option linter.unusedSimpArgs false
namespace Go.Proofs.YtfhdihdafmahgaaGreatDoor
open Go.RowKit Rn Tp
theorem decU_drop (l : List UInt8) (p : Nat) : Utf8.decode (bytesOf l) p = Lib.decodeL (l.drop p) := by
  rw [decL_N, Lib.decode_at, bytesOf_size, bytesOf_get, bytesOf_get, bytesOf_get, bytesOf_get, List.length_drop, List.getElem?_drop, List.getElem?_drop, List.getElem?_drop, List.getElem?_drop]; rfl
/-- where the k-th character begins -/
def posU (cs : List Int) (k : Nat) : Nat := (writeP (cs.take k)).length
theorem posU_split (cs : List Int) (k : Nat) : writeP cs = writeP (cs.take k) ++ writeP (cs.drop k) := by rw [← write_app, List.take_append_drop]
theorem posU_drop (cs : List Int) (k : Nat) : (writeP cs).drop (posU cs k) = writeP (cs.drop k) := by
  conv => lhs; rw [posU_split cs k]
  unfold posU
  rw [List.drop_left]
theorem posU_succ {cs : List Int} {k : Nat} {c : Int} (h : cs[k]? = some c) : posU cs (k + 1) = posU cs k + (Lib.encodeRune c).length := by
  unfold posU
  rw [take_snoc cs k c h, write_app, List.length_append, write_one]
theorem posU_ge (cs : List Int) : ∀ k, k ≤ cs.length → k ≤ posU cs k
  | 0, _ => Nat.zero_le _
  | k + 1, h => by
    have := posU_ge cs k (by omega)
    rw [posU_succ (List.getElem?_eq_getElem (by omega))]
    have := (encode_len cs[k]).1
    omega
theorem posU_zero (cs : List Int) : posU cs 0 = 0 := by unfold posU; simp [writeP]
theorem posU_end (cs : List Int) : posU cs cs.length = (writeP cs).length := by unfold posU; rw [List.take_length]
theorem posU_step {cs : List Int} (hv : ∀ c ∈ cs, isB c = true) {k : Nat} {c : Int} (h : cs[k]? = some c) : Utf8.decode (bytesOf (writeP cs)) (posU cs k) = (c.toNat, (Lib.encodeRune c).length) ∧ posU cs k < (writeP cs).length := by
  have hc := hv c (List.mem_of_getElem? h)
  have hk : k < cs.length := (List.getElem?_eq_some_iff.1 h).1
  have hd : cs.drop k = c :: cs.drop (k + 1) := by
    rw [List.drop_eq_getElem_cons hk]
    rw [List.getElem?_eq_getElem hk] at h
    injection h with h
    rw [h]
  refine ⟨?_, ?_⟩
  · rw [decU_drop, posU_drop, hd, write_cons]
    exact decL_write c hc _
  · have := congrArg List.length (posU_split cs k)
    rw [List.length_append, hd, write_cons, List.length_append] at this
    have h4 := (encode_len c).1
    unfold posU
    omega
theorem enc_two {c : Int} (hc : isB c = true) (h : 128 ≤ c) : 2 ≤ (Lib.encodeRune c).length := by
  have hc' : 0 ≤ c ∧ c ≤ 1114111 ∧ (c < 55296 ∨ 57343 < c) := by simpa [isB] using hc
  by_cases c2 : c < 2048
  · have e : Lib.encodeRune c = [(192 + c / 64).toNat.toUInt8, (128 + c % 64).toNat.toUInt8] := by simp [Lib.encodeRune, Lib.encodeRuneZ_two (by omega : 128 ≤ c) (by omega)]
    rw [e]; simp
  · by_cases c3 : c < 65536
    · have e : Lib.encodeRune c = [(224 + c / 4096).toNat.toUInt8, (128 + c / 64 % 64).toNat.toUInt8, (128 + c % 64).toNat.toUInt8] := by simp [Lib.encodeRune, Lib.encodeRuneZ_three (r := c) (by omega)]
      rw [e]; simp
    · have e : Lib.encodeRune c = [(240 + c / 262144).toNat.toUInt8, (128 + c / 4096 % 64).toNat.toUInt8, (128 + c / 64 % 64).toNat.toUInt8, (128 + c % 64).toNat.toUInt8] := by simp [Lib.encodeRune, Lib.encodeRuneZ_four (by omega : 65536 ≤ c) (by omega)]
      rw [e]; simp
theorem enc_low1 {c : Int} (h0 : 0 ≤ c) (h : c < 128) : ∃ b : UInt8, Lib.encodeRune c = [b] ∧ (b.toNat : Int) = c := by
  have e : Lib.encodeRune c = [c.toNat.toUInt8] := by simp [Lib.encodeRune, Lib.encodeRuneZ_one h0 (by omega : c ≤ 127)]
  have g0 := b_of c h0 (by omega)
  exact ⟨_, e, by rw [g0]; omega⟩
/-- a character as the language turns it into a string -/
theorem encode_is {c : Int} (hc : isB c = true) : Utf8.encode c = bytesOf (Lib.encodeRune c) := by
  have hc' : 0 ≤ c ∧ c ≤ 1114111 ∧ (c < 55296 ∨ 57343 < c) := by simpa [isB] using hc
  obtain ⟨n, rfl⟩ : ∃ n : Nat, c = n := ⟨c.toNat, by omega⟩
  have hv : Utf8.valid (n : Int) = true := by unfold Utf8.valid; simp; omega
  have e : (n : Int).toNat = n := by omega
  unfold Utf8.encode
  simp only [hv, if_true, e]
  by_cases c1 : n < 128
  · rw [if_pos c1]
    simp [Lib.encodeRune, Lib.encodeRuneZ_one (by omega : (0 : Int) ≤ n) (by omega : (n : Int) ≤ 127), bytesOf]
  · rw [if_neg c1]
    by_cases c2 : n < 2048
    · rw [if_pos c2]
      have z0 : (192 + (n : Int) / 64).toNat = 192 + n / 64 := by omega
      have z1 : (128 + (n : Int) % 64).toNat = 128 + n % 64 := by omega
      simp [Lib.encodeRune, Lib.encodeRuneZ_two (by omega : (128 : Int) ≤ n) (by omega : (n : Int) ≤ 2047), bytesOf, z0, z1]
    · rw [if_neg c2]
      by_cases c3 : n < 65536
      · rw [if_pos c3]
        have z0 : (224 + (n : Int) / 4096).toNat = 224 + n / 4096 := by omega
        have z1 : (128 + (n : Int) / 64 % 64).toNat = 128 + n / 64 % 64 := by omega
        have z2 : (128 + (n : Int) % 64).toNat = 128 + n % 64 := by omega
        simp [Lib.encodeRune, Lib.encodeRuneZ_three (r := (n : Int)) (by omega), bytesOf, z0, z1, z2]
      · rw [if_neg c3]
        have z0 : (240 + (n : Int) / 262144).toNat = 240 + n / 262144 := by omega
        have z1 : (128 + (n : Int) / 4096 % 64).toNat = 128 + n / 4096 % 64 := by omega
        have z2 : (128 + (n : Int) / 64 % 64).toNat = 128 + n / 64 % 64 := by omega
        have z3 : (128 + (n : Int) % 64).toNat = 128 + n % 64 := by omega
        simp [Lib.encodeRune, Lib.encodeRuneZ_four (by omega : (65536 : Int) ≤ n) (by omega), bytesOf, z0, z1, z2, z3]
/-- which bytes stand at the first places -/
theorem first_cases {cs : List Int} (hv : ∀ c ∈ cs, isB c = true) {k : Nat} (hk : k < cs.length) :
    (posU cs k = 0 ∧ k = 0 ∧ decide (k = 0 ∨ k = 1 ∧ cs[0]? = some 45) = true) ∨ (k ≠ 0 ∧ posU cs k = 1 ∧ ∃ b : UInt8, (writeP cs)[0]? = some b ∧ ((b.toNat = 45 ∧ decide (k = 0 ∨ k = 1 ∧ cs[0]? = some 45) = true) ∨ (b.toNat ≠ 45 ∧ decide (k = 0 ∨ k = 1 ∧ cs[0]? = some 45) = false))) ∨ (k ≠ 0 ∧ 2 ≤ posU cs k ∧ decide (k = 0 ∨ k = 1 ∧ cs[0]? = some 45) = false) := by
  cases k with
  | zero => exact .inl ⟨posU_zero cs, rfl, by simp⟩
  | succ k =>
    right
    have hge := posU_ge cs (k + 1) (by omega)
    obtain ⟨c0, r, rfl⟩ := List.exists_cons_of_length_pos (l := cs) (by omega)
    have hc0 := hv c0 (by simp)
    have hr0 := isB_range' hc0
    have hp1 : posU (c0 :: r) 1 = (Lib.encodeRune c0).length := by
      have : posU (c0 :: r) 1 = posU (c0 :: r) 0 + (Lib.encodeRune c0).length := posU_succ (cs := c0 :: r) (k := 0) (c := c0) rfl
      rw [posU_zero] at this; omega
    by_cases h2 : 2 ≤ posU (c0 :: r) (k + 1)
    · right
      refine ⟨by omega, h2, ?_⟩
      simp only [decide_eq_false_iff_not, not_or, not_and]
      refine ⟨by omega, fun h1 h3 => ?_⟩
      obtain rfl : k = 0 := by omega
      have h3 : c0 = 45 := by simpa using h3
      subst h3
      rw [hp1] at h2
      exact absurd h2 (by decide)
    · left
      obtain rfl : k = 0 := by omega
      have hlen : (Lib.encodeRune c0).length = 1 := by rw [hp1] at h2; have := encode_len c0; omega
      have hlow : c0 < 128 := by
        by_cases h : c0 < 128
        · exact h
        · have := enc_two hc0 (by omega); omega
      obtain ⟨b, e, hb⟩ := enc_low1 hr0.1 hlow
      refine ⟨by omega, by rw [hp1]; exact hlen, b, by rw [write_cons, e]; rfl, ?_⟩
      by_cases h45 : c0 = 45
      · left; exact ⟨by omega, by simp [h45]⟩
      · right; exact ⟨by omega, by simp [h45]⟩
end Go.Proofs.YtfhdihdafmahgaaGreatDoor
/- Layer 4: a printed name, a printed text: the program's name and quoted are walked. -/
set_option linter.unusedVariables false
set_option linter.unusedSimpArgs false
namespace Go.Proofs.YtfhdihdafmahgaaGreatDoor
open Go.RowKit Rn Tp
theorem part_len {c : Int} (hc : isB c = true) (b : Bool) : (partP c b).length ≤ 10 := by
  unfold partP
  split
  · exact esc_len c hc
  · have := (encode_len c).2; omega
set_option maxRecDepth 100000 in
set_option maxHeartbeats 8000000 in
theorem tp_name (cs : List Int) (dim : Bool) (w : World) (hv : ∀ c ∈ cs, isB c = true) (hl : cs.length ≤ 1000000) (hD : Db w) :
    Calls Tryz.prog 113 #[.string (bytesOf (writeP cs)), .bool dim] w fun e w' => e = .returned (.string (bytesOf (nameP cs dim))) ∧ Below w.heap.size w w' := by
  have hwl := writeP_len cs
  have hz := bytesOf_size (writeP cs)
  have Hv := Lib.hid hv
  have hu := utf_write cs hv
  have h45 := utf_low hu 45 (by decide)
  have Hu := Lib.hid h45
  clear hv hu h45
  have hit0 : (w.iter (bytesOf (writeP cs)) 0).heap[w.heap.size]? = some (.stringIter (bytesOf (writeP cs)) 0) := World.iter_heap _ _ _
  have hb0 : Below w.heap.size w (w.iter (bytesOf (writeP cs)) 0) := (Below.refl _ _).alloc (Nat.le_refl _) _
  go_enter Tryz.func113, Tryz.ntmps113
  go_wp2_with fail
  go_loopw [5] (fun o wr => ∃ (k : Nat) (out : List UInt8), k ≤ cs.length ∧ Hid (out ++ nameF cs dim k (cs.drop k) = nameP cs dim) ∧ out.length ≤ 10 * k ∧ o = .string (bytesOf out) ∧ wr.heap[w.heap.size]? = some (.stringIter (bytesOf (writeP cs)) (posU cs k)) ∧ Below w.heap.size w wr) (fun _ wr => (writeP cs).length - wr.iterPos w.heap.size)
  case atStart => exact ⟨0, [], Nat.zero_le _, rfl, by simp, rfl, by rw [posU_zero]; exact hit0, hb0⟩
  case round =>
    obtain ⟨k, out, hk, hrun, hol, rfl, hit, hb⟩ := hrel
    have hip := iterPos_of hit
    have hoz := bytesOf_size out
    by_cases hlt : k < cs.length
    · obtain ⟨c, hc⟩ : ∃ c, cs[k]? = some c := ⟨_, List.getElem?_eq_getElem hlt⟩
      have hcB := Hv.out c (List.mem_of_getElem? hc)
      have hcr := isB_range' hcB
      obtain ⟨hdec, hpl⟩ := posU_step Hv.out hc
      have hsuc := posU_succ hc
      have hel := encode_len c
      have hfc := first_cases Hv.out hlt
      have hdrop : cs.drop k = c :: cs.drop (k + 1) := by
        rw [List.drop_eq_getElem_cons hlt]
        rw [List.getElem?_eq_getElem hlt] at hc
        injection hc with hc
        rw [hc]
      have hnx : ∀ ty, (Instr.next (.pointer (some ⟨w.heap.size, 0, none⟩)) true ty).run Tryz.prog wr = _ := fun ty => Lib.run_next_any_at wr w.heap.size (bytesOf (writeP cs)) (posU cs k) ty hit (by rw [hz]; exact hpl)
      have hit1 := Lib.iterAt_heap wr w.heap.size (bytesOf (writeP cs)) (posU cs k) (posU cs k + (Lib.encodeRune c).length) hit
      have hb1 := Lib.below_iterAt hb (k := w.heap.size) (Nat.le_refl _) (bytesOf (writeP cs)) (posU cs k + (Lib.encodeRune c).length)
      rw [hdec] at hnx
      simp only [] at hnx
      rw [show ((c.toNat : Nat) : Int) = c by omega] at hnx
      obtain ⟨F, hF⟩ : ∃ F, decide (k = 0 ∨ k = 1 ∧ cs[0]? = some 45) = F := ⟨_, rfl⟩
      obtain ⟨nd, hnd⟩ : ∃ nd, needB c F (decide (cs = [45])) (dim && decide (k = 0)) = nd := ⟨_, rfl⟩
      have hnew : Hid ((out ++ partP c nd) ++ nameF cs dim (k + 1) (cs.drop (k + 1)) = nameP cs dim) := by
        show _ = _
        rw [← hrun.out, hdrop, ← hnd, ← hF, List.append_assoc]; rfl
      have hpl10 := part_len hcB nd
      have hpz := bytesOf_size (partP c nd)
      rw [hF] at hfc
      rw [← hsuc] at hnx hit1 hb1
      have Hnd := Lib.hid hnd
      have HcB := Lib.hid hcB
      have HF := Lib.hid hfc
      generalize wr.iterAt w.heap.size (bytesOf (writeP cs)) (posU cs (k + 1)) = W1 at *
      obtain ⟨p, hp⟩ : ∃ p, posU cs k = p := ⟨_, rfl⟩
      rw [hp] at hnx HF hpl hip hsuc
      clear hrun hdrop hc hF hnd hdec hcB hit hfc hp
      go_upto_region 5 with (fail)
      go_cut [8] (fun x wx => x = .bool F ∧ wx = W1)
      case first =>
        have hun : (undef : Value) = .tuple #[] := rfl
        rcases HF.out with ⟨h0, _, hF⟩ | ⟨_, h1, b, hb, ⟨hbb, hF⟩ | ⟨hbb, hF⟩⟩ | ⟨_, h2, hF⟩
        · have t0 : ((p : Int) == 0) = true := by simp; omega
          clear h0 HF Hnd hnew
          have HN := Lib.hid hF
          clear hF
          go_wp2_with fail
          go_meet
          exact ⟨by rw [HN.out], rfl⟩
        · have t0 : ((p : Int) == 0) = false := by simp; omega
          have t1 : ((p : Int) == 1) = true := by simp; omega
          have hix : ∀ W, (Instr.index 9 (.string (bytesOf (writeP cs))) (.int .i64 0)).run Tryz.prog W = .ok (.int .u8 (b.toNat : Int)) W := fun W => str_at (P := Tryz.prog) (T := 9) Tryz.underlying9 (writeP cs) .i64 0 b hb W
          have tb : ((b.toNat : Int) == 45) = true := by simp; omega
          clear h1 HF Hnd hnew hb hbb
          have HN := Lib.hid hF
          clear hF
          go_wp2_with fail
          go_meet
          exact ⟨by rw [HN.out], rfl⟩
        · have t0 : ((p : Int) == 0) = false := by simp; omega
          have t1 : ((p : Int) == 1) = true := by simp; omega
          have hix : ∀ W, (Instr.index 9 (.string (bytesOf (writeP cs))) (.int .i64 0)).run Tryz.prog W = .ok (.int .u8 (b.toNat : Int)) W := fun W => str_at (P := Tryz.prog) (T := 9) Tryz.underlying9 (writeP cs) .i64 0 b hb W
          have tb : ((b.toNat : Int) == 45) = false := by simp; omega
          clear h1 HF Hnd hnew hb hbb
          have HN := Lib.hid hF
          clear hF
          go_wp2_with fail
          go_meet
          exact ⟨by rw [HN.out], rfl⟩
        · have t0 : ((p : Int) == 0) = false := by simp; omega
          have t1 : ((p : Int) == 1) = false := by simp; omega
          clear h2 HF Hnd hnew
          have HN := Lib.hid hF
          clear hF
          go_wp2_with fail
          go_meet
          exact ⟨by rw [HN.out], rfl⟩
      case rest =>
        obtain ⟨rfl, rfl⟩ := hcut
        have hkp : decide (k = 0) = ((p : Int) == 0) := by
          rcases HF.out with ⟨h0, hk0, _⟩ | ⟨hk0, h1, _⟩ | ⟨hk0, h2, _⟩
          · rw [Bool.eq_iff_iff]; simp [h0, hk0]
          · rw [Bool.eq_iff_iff]; simp [hk0]; omega
          · rw [Bool.eq_iff_iff]; simp [hk0]; omega
        have hnd2 := Hnd.out
        rw [hkp] at hnd2
        obtain ⟨E, hE⟩ : ∃ E, (dim && ((p : Int) == 0) && decide (c = 101 ∨ c = 69)) = E := ⟨_, rfl⟩
        have hnd3 : (!withinB c || (F && digitB c) || decide (cs = [45]) || E) = nd := by rw [← hnd2, ← hE]; unfold needB; rfl
        have Hnd3 := Lib.hid hnd3
        have HE := Lib.hid hE
        clear hnd2 hnd3 hE hkp Hnd HF
        go_upto_region 6 with (fail)
        go_cut [9] (fun x wx => x = .bool E ∧ wx = wc)
        case first =>
          have hun : (undef : Value) = .tuple #[] := rfl
          have hE := HE.out
          cases dim with
          | false =>
            simp only [Bool.false_and] at hE
            have HN := Lib.hid hE
            clear hE
            go_wp2_with fail
            go_meet
            exact ⟨by rw [HN.out], rfl⟩
          | true =>
            cases hp0 : ((p : Int) == 0) with
            | false =>
              rw [hp0] at hE
              simp only [Bool.and_false, Bool.false_and] at hE
              have HN := Lib.hid hE
              clear hE
              go_wp2_with fail
              go_meet
              exact ⟨by rw [HN.out], rfl⟩
            | true =>
              rw [hp0] at hE
              simp only [Bool.and_true, Bool.true_and] at hE
              by_cases c1 : c = 101
              · have t1 := eq_t c1
                have hE2 : E = true := by rw [← hE]; simp [c1]
                have HN := Lib.hid hE2
                clear c1 hE hE2
                go_wp2_with fail
                go_meet
                exact ⟨by rw [HN.out], rfl⟩
              · have t1 := eq_f c1
                have hE2 : E = (c == 69) := by rw [← hE, Bool.eq_iff_iff]; simp [c1]
                have HN := Lib.hid hE2
                clear c1 hE hE2
                go_wp2_with fail
                go_meet
                exact ⟨by rw [HN.out], rfl⟩
        case rest =>
          obtain ⟨rfl, rfl⟩ := hcut
          clear HE hnx
          go_upto_region 7 with (fail)
          go_cut [56] (fun x wx => x = .bool nd ∧ wx = wc)
          case first =>
            have hun : (undef : Value) = .tuple #[] := rfl
            have hW := fun w => rn_within c w
            have hD1 := fun w => rn_digit c w
            have hnd := Hnd3.out
            generalize withinB c = b1 at *
            generalize digitB c = b2 at *
            have hU := Hu.out
            obtain ⟨o, ho⟩ : ∃ o, decide (cs = [45]) = o := ⟨_, rfl⟩
            rw [ho] at hnd
            have hS : (o = true ∧ (bytesOf (writeP cs)).toList = [45] ∧ ((bytesOf (writeP cs)).toList == [45]) = true) ∨ (o = false ∧ ¬ (bytesOf (writeP cs)).toList = [45] ∧ ((bytesOf (writeP cs)).toList == [45]) = false) := by
              by_cases h : cs = [45]
              · left; exact ⟨by rw [← ho]; simp [h], str_is (hU.2 h)⟩
              · right; exact ⟨by rw [← ho]; simp [h], str_not (fun e => h (hU.1 e))⟩
            clear ho hU
            cases b1 with
            | false =>
              simp only [Bool.not_false, Bool.true_or] at hnd
              clear hS
              have HN := Lib.hid hnd
              clear hnd
              go_wp2_with (first | (go_at_call 87; refine (hW _).mono ?_; rintro e w' ⟨rfl, rfl⟩))
              go_meet
              exact ⟨by rw [HN.out], rfl⟩
            | true =>
              simp only [Bool.not_true, Bool.false_or] at hnd
              cases F with
              | true =>
                simp only [Bool.true_and] at hnd
                cases b2 with
                | true =>
                  simp only [Bool.true_or] at hnd
                  clear hS
                  have HN := Lib.hid hnd
                  clear hnd
                  go_wp2_with (first | (go_at_call 87; refine (hW _).mono ?_; rintro e w' ⟨rfl, rfl⟩) | (go_at_call 125; refine (hD1 _).mono ?_; rintro e w' ⟨rfl, rfl⟩))
                  go_meet
                  exact ⟨by rw [HN.out], rfl⟩
                | false =>
                  simp only [Bool.false_or] at hnd
                  rcases hS with ⟨rfl, s1, s2⟩ | ⟨rfl, s1, s2⟩
                  · simp only [Bool.true_or] at hnd
                    have HN := Lib.hid hnd
                    clear hnd
                    go_wp2_with (first | (go_at_call 87; refine (hW _).mono ?_; rintro e w' ⟨rfl, rfl⟩) | (go_at_call 125; refine (hD1 _).mono ?_; rintro e w' ⟨rfl, rfl⟩))
                    go_meet
                    exact ⟨by rw [HN.out], rfl⟩
                  · simp only [Bool.false_or] at hnd
                    have HN := Lib.hid hnd
                    clear hnd
                    go_wp2_with (first | (go_at_call 87; refine (hW _).mono ?_; rintro e w' ⟨rfl, rfl⟩) | (go_at_call 125; refine (hD1 _).mono ?_; rintro e w' ⟨rfl, rfl⟩))
                    go_meet
                    exact ⟨by rw [HN.out], rfl⟩
              | false =>
                simp only [Bool.false_and, Bool.false_or] at hnd
                rcases hS with ⟨rfl, s1, s2⟩ | ⟨rfl, s1, s2⟩
                · simp only [Bool.true_or] at hnd
                  have HN := Lib.hid hnd
                  clear hnd
                  go_wp2_with (first | (go_at_call 87; refine (hW _).mono ?_; rintro e w' ⟨rfl, rfl⟩))
                  go_meet
                  exact ⟨by rw [HN.out], rfl⟩
                · simp only [Bool.false_or] at hnd
                  have HN := Lib.hid hnd
                  clear hnd
                  go_wp2_with (first | (go_at_call 87; refine (hW _).mono ?_; rintro e w' ⟨rfl, rfl⟩))
                  go_meet
                  exact ⟨by rw [HN.out], rfl⟩
          case rest =>
            obtain ⟨rfl, rfl⟩ := hcut
            have hbs := hb1.size
            clear Hnd3 Hu
            cases nd with
            | true =>
              have hesc := tp_escaped c wc HcB.out (hD.below hb1)
              have hpe : partP c true = escP c := rfl
              rw [hpe] at hnew hpl10 hpz
              clear hpe
              go_wp2_with fail
              refine hesc.mono ?_
              rintro e w2 ⟨rfl, hb2⟩
              have hit2 := (hb2.block w.heap.size (Array.getElem?_eq_some_iff.1 hit1).1).trans hit1
              have hip2 := iterPos_of hit2
              go_wp2_with fail
              refine ⟨⟨k + 1, out ++ escP c, by omega, hnew, by rw [List.length_append]; omega, by rw [bytesOf_append], hit2, hb1.trans (hb2.mono hbs)⟩, ?_⟩
              rw [hip2, hip]; omega
            | false =>
              have henc := encode_is HcB.out
              have hpe : partP c false = Lib.encodeRune c := rfl
              rw [hpe] at hnew hpl10 hpz
              clear hpe
              have hip2 := iterPos_of hit1
              go_wp2_with fail
              refine ⟨⟨k + 1, out ++ Lib.encodeRune c, by omega, hnew, by rw [List.length_append]; omega, by rw [bytesOf_append], hit1, hb1⟩, ?_⟩
              rw [hip2, hip]; omega
    · obtain rfl : k = cs.length := by omega
      have hfin : out = nameP cs dim := by rw [← hrun.out, List.drop_length]; simp [nameF]
      have hnx : ∀ ty, (Instr.next (.pointer (some ⟨w.heap.size, 0, none⟩)) true ty).run Tryz.prog wr = _ := fun ty => Lib.run_next_end_at wr w.heap.size (bytesOf (writeP cs)) (posU cs cs.length) ty hit (by rw [hz, posU_end]; omega)
      have HN := Lib.hid hfin
      clear hfin hrun
      go_wp2
      go_ret
      exact ⟨congrArg (fun x => Ending.returned (Value.string (bytesOf x))) HN.out, hb⟩
set_option maxRecDepth 100000 in
set_option maxHeartbeats 8000000 in
theorem tp_quoted (cs : List Int) (w : World) (hv : ∀ c ∈ cs, isB c = true) (hl : cs.length ≤ 1000000) (hD : Db w) :
    Calls Tryz.prog 114 #[.string (bytesOf (writeP cs))] w fun e w' => e = .returned (.string (bytesOf (quotedP cs))) ∧ Below w.heap.size w w' := by
  have hwl := writeP_len cs
  have hz := bytesOf_size (writeP cs)
  have Hv := Lib.hid hv
  clear hv
  have hit0 : (w.iter (bytesOf (writeP cs)) 0).heap[w.heap.size]? = some (.stringIter (bytesOf (writeP cs)) 0) := World.iter_heap _ _ _
  have hb0 : Below w.heap.size w (w.iter (bytesOf (writeP cs)) 0) := (Below.refl _ _).alloc (Nat.le_refl _) _
  go_enter Tryz.func114, Tryz.ntmps114
  go_wp2_with fail
  go_loopw [3] (fun o wr => ∃ (k : Nat) (out : List UInt8), k ≤ cs.length ∧ Hid (out ++ (cs.drop k).flatMap (fun c => partP c (quoteB c)) = quotedP cs) ∧ out.length ≤ 10 * k + 1 ∧ o = .string (bytesOf out) ∧ wr.heap[w.heap.size]? = some (.stringIter (bytesOf (writeP cs)) (posU cs k)) ∧ Below w.heap.size w wr) (fun _ wr => (writeP cs).length - wr.iterPos w.heap.size)
  case atStart => exact ⟨0, [34], Nat.zero_le _, rfl, by simp, rfl, by rw [posU_zero]; exact hit0, hb0⟩
  case round =>
    obtain ⟨k, out, hk, hrun, hol, rfl, hit, hb⟩ := hrel
    have hip := iterPos_of hit
    have hoz := bytesOf_size out
    by_cases hlt : k < cs.length
    · obtain ⟨c, hc⟩ : ∃ c, cs[k]? = some c := ⟨_, List.getElem?_eq_getElem hlt⟩
      have hcB := Hv.out c (List.mem_of_getElem? hc)
      have hcr := isB_range' hcB
      obtain ⟨hdec, hpl⟩ := posU_step Hv.out hc
      have hsuc := posU_succ hc
      have hel := encode_len c
      have hdrop : cs.drop k = c :: cs.drop (k + 1) := by
        rw [List.drop_eq_getElem_cons hlt]
        rw [List.getElem?_eq_getElem hlt] at hc
        injection hc with hc
        rw [hc]
      have hnx : ∀ ty, (Instr.next (.pointer (some ⟨w.heap.size, 0, none⟩)) true ty).run Tryz.prog wr = _ := fun ty => Lib.run_next_any_at wr w.heap.size (bytesOf (writeP cs)) (posU cs k) ty hit (by rw [hz]; exact hpl)
      have hit1 := Lib.iterAt_heap wr w.heap.size (bytesOf (writeP cs)) (posU cs k) (posU cs k + (Lib.encodeRune c).length) hit
      have hb1 := Lib.below_iterAt hb (k := w.heap.size) (Nat.le_refl _) (bytesOf (writeP cs)) (posU cs k + (Lib.encodeRune c).length)
      rw [hdec] at hnx
      simp only [] at hnx
      rw [show ((c.toNat : Nat) : Int) = c by omega] at hnx
      obtain ⟨nd, hnd⟩ : ∃ nd, quoteB c = nd := ⟨_, rfl⟩
      have hnew : Hid ((out ++ partP c nd) ++ (cs.drop (k + 1)).flatMap (fun c => partP c (quoteB c)) = quotedP cs) := by
        show _ = _
        rw [← hrun.out, hdrop, ← hnd, List.append_assoc]; rfl
      have hpl10 := part_len hcB nd
      have hpz := bytesOf_size (partP c nd)
      rw [← hsuc] at hnx hit1 hb1
      have HcB := Lib.hid hcB
      have hnd2 : (c = 34 ∧ nd = true) ∨ (c = 92 ∧ nd = true) ∨ (c = 10 ∧ nd = true) ∨ (c = 12 ∧ nd = true) ∨ (c = 13 ∧ nd = true) ∨ ((c == 34) = false ∧ (c == 92) = false ∧ (c == 10) = false ∧ (c == 12) = false ∧ (c == 13) = false ∧ nd = false) := by
        rw [← hnd]
        unfold quoteB
        simp; omega
      have Hnd := Lib.hid hnd2
      generalize wr.iterAt w.heap.size (bytesOf (writeP cs)) (posU cs (k + 1)) = W1 at *
      obtain ⟨p, hp⟩ : ∃ p, posU cs k = p := ⟨_, rfl⟩
      rw [hp] at hnx hpl hip hsuc
      clear hrun hdrop hc hnd hdec hcB hit hp hnd2
      go_upto_region 5 with (fail)
      go_cut [28] (fun x wx => x = .bool nd ∧ wx = W1)
      case first =>
        have hun : (undef : Value) = .tuple #[] := rfl
        rcases Hnd.out with ⟨h, hn⟩ | ⟨h, hn⟩ | ⟨h, hn⟩ | ⟨h, hn⟩ | ⟨h, hn⟩ | ⟨e1, e2, e3, e4, e5, hn⟩
        case inr.inr.inr.inr.inr =>
          have HN := Lib.hid hn
          clear hn Hnd hnew
          go_wp2_with fail
          go_meet
          exact ⟨by rw [HN.out], rfl⟩
        case inl =>
          have HN := Lib.hid hn
          have e0 : (c == 34) = true := by rw [h]; decide
          clear h hn Hnd hnew
          go_wp2_with fail
          go_meet
          exact ⟨by rw [HN.out], rfl⟩
        case inr.inl =>
          have HN := Lib.hid hn
          have e0 : (c == 34) = false := by rw [h]; decide
          have e1 : (c == 92) = true := by rw [h]; decide
          clear h hn Hnd hnew
          go_wp2_with fail
          go_meet
          exact ⟨by rw [HN.out], rfl⟩
        case inr.inr.inl =>
          have HN := Lib.hid hn
          have e0 : (c == 34) = false := by rw [h]; decide
          have e1 : (c == 92) = false := by rw [h]; decide
          have e2 : (c == 10) = true := by rw [h]; decide
          clear h hn Hnd hnew
          go_wp2_with fail
          go_meet
          exact ⟨by rw [HN.out], rfl⟩
        case inr.inr.inr.inl =>
          have HN := Lib.hid hn
          have e0 : (c == 34) = false := by rw [h]; decide
          have e1 : (c == 92) = false := by rw [h]; decide
          have e2 : (c == 10) = false := by rw [h]; decide
          have e3 : (c == 12) = true := by rw [h]; decide
          clear h hn Hnd hnew
          go_wp2_with fail
          go_meet
          exact ⟨by rw [HN.out], rfl⟩
        case inr.inr.inr.inr.inl =>
          have HN := Lib.hid hn
          have e0 : (c == 34) = false := by rw [h]; decide
          have e1 : (c == 92) = false := by rw [h]; decide
          have e2 : (c == 10) = false := by rw [h]; decide
          have e3 : (c == 12) = false := by rw [h]; decide
          have e4 : (c == 13) = true := by rw [h]; decide
          clear h hn Hnd hnew
          go_wp2_with fail
          go_meet
          exact ⟨by rw [HN.out], rfl⟩
      case rest =>
        obtain ⟨rfl, rfl⟩ := hcut
        have hbs := hb1.size
        clear Hnd
        cases nd with
        | true =>
          have hesc := tp_escaped c wc HcB.out (hD.below hb1)
          have hpe : partP c true = escP c := rfl
          rw [hpe] at hnew hpl10 hpz
          clear hpe
          go_wp2_with fail
          refine hesc.mono ?_
          rintro e w2 ⟨rfl, hb2⟩
          have hit2 := (hb2.block w.heap.size (Array.getElem?_eq_some_iff.1 hit1).1).trans hit1
          have hip2 := iterPos_of hit2
          go_wp2_with fail
          refine ⟨⟨k + 1, out ++ escP c, by omega, hnew, by rw [List.length_append]; omega, by rw [bytesOf_append], hit2, hb1.trans (hb2.mono hbs)⟩, ?_⟩
          rw [hip2, hip]; omega
        | false =>
          have henc := encode_is HcB.out
          have hpe : partP c false = Lib.encodeRune c := rfl
          rw [hpe] at hnew hpl10 hpz
          clear hpe
          have hip2 := iterPos_of hit1
          go_wp2_with fail
          refine ⟨⟨k + 1, out ++ Lib.encodeRune c, by omega, hnew, by rw [List.length_append]; omega, by rw [bytesOf_append], hit1, hb1⟩, ?_⟩
          rw [hip2, hip]; omega
    · obtain rfl : k = cs.length := by omega
      have hfin : out = quotedP cs := by rw [← hrun.out, List.drop_length]; simp
      have hnx : ∀ ty, (Instr.next (.pointer (some ⟨w.heap.size, 0, none⟩)) true ty).run Tryz.prog wr = _ := fun ty => Lib.run_next_end_at wr w.heap.size (bytesOf (writeP cs)) (posU cs cs.length) ty hit (by rw [hz, posU_end]; omega)
      have HN := Lib.hid hfin
      clear hfin hrun
      go_wp2
      go_ret
      exact ⟨congrArg (fun x => Ending.returned (Value.string (bytesOf x))) HN.out, hb⟩
end Go.Proofs.YtfhdihdafmahgaaGreatDoor
set_option linter.unusedVariables false
set_option linter.unusedSimpArgs false
namespace Go.Proofs.YtfhdihdafmahgaaGreatDoor
open Go.RowKit Rn Tp Tk
end Go.Proofs.YtfhdihdafmahgaaGreatDoor
