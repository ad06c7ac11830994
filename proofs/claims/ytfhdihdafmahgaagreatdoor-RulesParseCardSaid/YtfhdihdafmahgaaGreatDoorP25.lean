/- Layer 4: may a token be? The program's right is walked. -/
import Derived.Test.YtfhdihdafmahgaaGreatDoorP23
import Derived.Test.YtfhdihdafmahgaaGreatDoorP08
import Derived.Test.YtfhdihdafmahgaaGreatDoorP19
import Derived.Lib.Bytealg
import Derived.Test.YtfhdihdafmahgaaGreatDoorP01
import Derived.Deep.RegionWith
import Derived.BigQuiet
import Derived.Test.YtfhdihdafmahgaaGreatDoorP13
import Derived.WalkMore
/- Layer 4: may a text be, may a token be? The program's plain, one, right are walked. -/
set_option linter.unusedVariables false
set_option linter.unusedSimpArgs false
namespace Go.Proofs.YtfhdihdafmahgaaGreatDoor
open Go.RowKit Rn Tp
namespace Tp
/-- characters that may be told: UTF-8, no 0 -/
def plainB (l : List UInt8) : Bool := match utfP l with
  | none => false
  | some cs => !decide ((0 : Int) ∈ cs)
end Tp
theorem index_mem (l : List UInt8) (b : UInt8) : (0 ≤ Lib.indexByte l b) ↔ b ∈ l := by
  induction l with
  | nil => simp [Lib.indexByte]
  | cons c l ih =>
    have hg := Lib.indexByte_ge l b
    unfold Lib.indexByte
    by_cases h : c = b
    · subst h; simp
    · simp only [List.mem_cons]
      rw [if_neg (by simpa using h)]
      have hb : ¬ b = c := fun e => h e.symm
      simp only [hb, false_or]
      rw [← ih]
      split
      · rename_i h1
        have h1 : Lib.indexByte l b = -1 := by simpa using h1
        omega
      · rename_i h1
        have h1 : ¬ Lib.indexByte l b = -1 := by simpa using h1
        omega
theorem enc_zero {c : Int} (hc : isB c = true) : (0 : UInt8) ∈ Lib.encodeRune c ↔ c = 0 := by
  have hr := isB_range' hc
  have hc' : 0 ≤ c ∧ c ≤ 1114111 ∧ (c < 55296 ∨ 57343 < c) := by simpa [isB] using hc
  constructor
  · intro h
    by_cases c1 : c < 128
    · have e : Lib.encodeRune c = [c.toNat.toUInt8] := by simp [Lib.encodeRune, Lib.encodeRuneZ_one hr.1 (by omega : c ≤ 127)]
      have g0 := b_of c hr.1 (by omega)
      rw [e] at h
      have : (0 : UInt8) = c.toNat.toUInt8 := by simpa using h
      rw [← this] at g0
      have : (0 : UInt8).toNat = 0 := rfl
      omega
    · exfalso
      by_cases c2 : c < 2048
      · have e : Lib.encodeRune c = [(192 + c / 64).toNat.toUInt8, (128 + c % 64).toNat.toUInt8] := by simp [Lib.encodeRune, Lib.encodeRuneZ_two (by omega : 128 ≤ c) (by omega)]
        have g0 := b_of (192 + c / 64) (by omega) (by omega)
        have g1 := b_of (128 + c % 64) (by omega) (by omega)
        rw [e] at h
        have z : (0 : UInt8).toNat = 0 := rfl
        simp only [List.mem_cons, List.not_mem_nil, or_false] at h
        rcases h with h | h
        · rw [← h] at g0; omega
        · rw [← h] at g1; omega
      · by_cases c3 : c < 65536
        · have e : Lib.encodeRune c = [(224 + c / 4096).toNat.toUInt8, (128 + c / 64 % 64).toNat.toUInt8, (128 + c % 64).toNat.toUInt8] := by simp [Lib.encodeRune, Lib.encodeRuneZ_three (r := c) (by omega)]
          have g0 := b_of (224 + c / 4096) (by omega) (by omega)
          have g1 := b_of (128 + c / 64 % 64) (by omega) (by omega)
          have g2 := b_of (128 + c % 64) (by omega) (by omega)
          rw [e] at h
          have z : (0 : UInt8).toNat = 0 := rfl
          simp only [List.mem_cons, List.not_mem_nil, or_false] at h
          rcases h with h | h | h
          · rw [← h] at g0; omega
          · rw [← h] at g1; omega
          · rw [← h] at g2; omega
        · have e : Lib.encodeRune c = [(240 + c / 262144).toNat.toUInt8, (128 + c / 4096 % 64).toNat.toUInt8, (128 + c / 64 % 64).toNat.toUInt8, (128 + c % 64).toNat.toUInt8] := by simp [Lib.encodeRune, Lib.encodeRuneZ_four (by omega : 65536 ≤ c) (by omega)]
          have g0 := b_of (240 + c / 262144) (by omega) (by omega)
          have g1 := b_of (128 + c / 4096 % 64) (by omega) (by omega)
          have g2 := b_of (128 + c / 64 % 64) (by omega) (by omega)
          have g3 := b_of (128 + c % 64) (by omega) (by omega)
          rw [e] at h
          have z : (0 : UInt8).toNat = 0 := rfl
          simp only [List.mem_cons, List.not_mem_nil, or_false] at h
          rcases h with h | h | h | h
          · rw [← h] at g0; omega
          · rw [← h] at g1; omega
          · rw [← h] at g2; omega
          · rw [← h] at g3; omega
  · rintro rfl; decide
theorem zero_write : ∀ (cs : List Int), (∀ c ∈ cs, isB c = true) → ((0 : UInt8) ∈ writeP cs ↔ (0 : Int) ∈ cs)
  | [], _ => by simp [writeP]
  | c :: cs, h => by
    have ih := zero_write cs (fun d hd => h d (by simp [hd]))
    have h0 := enc_zero (h c (by simp))
    have e : writeP (c :: cs) = Lib.encodeRune c ++ writeP cs := by simp [writeP]
    rw [e, List.mem_append, ih, h0, List.mem_cons]
    constructor
    · rintro (h | h)
      · exact .inl h.symm
      · exact .inr h
    · rintro (h | h)
      · exact .inl h.symm
      · exact .inr h
set_option maxRecDepth 100000 in
set_option maxHeartbeats 1000000 in
theorem tp_plain (l : List UInt8) (w : World) (hl : l.length ≤ maxLen) (hT : Tabs w) :
    Calls Tryz.prog 117 #[.string (bytesOf l)] w fun e w' => e = .returned (.bool (plainB l)) ∧ Below w.heap.size w w' := by
  have hz := bytesOf_size l
  unfold maxLen at hl
  have hv := Tryz.utf8_ValidString (bytesOf l) w (by omega) hT
  rw [bytesOf_list, utf_valid] at hv
  unfold plainB
  cases hu : utfP l with
  | none =>
    rw [hu] at hv
    simp only [Option.isSome_none] at hv
    go_enter Tryz.func117, Tryz.ntmps117
    go_wp2_with fail
    refine hv.mono ?_
    rintro e w1 ⟨rfl, hb⟩
    go_wp2
    go_ret
    exact ⟨rfl, hb⟩
  | some cs =>
    rw [hu] at hv
    simp only [Option.isSome_some] at hv
    obtain ⟨u1, u2⟩ := utf_some hu
    have hc := fun w => Tryz.strings_ContainsRune_ascii (bytesOf l) 0 w (by omega) (by omega)
    have hd : decide (0 ≤ Lib.indexByte (bytesOf l).data.toList (0 : Int).toNat.toUInt8) = decide ((0 : Int) ∈ cs) := by
      rw [bytesOf_list, Bool.eq_iff_iff, decide_eq_true_iff, decide_eq_true_iff, index_mem, u1]
      exact zero_write cs u2
    rw [hd] at hc
    clear hd u1 u2 hu
    show Calls _ _ _ _ fun e w' => e = .returned (.bool (!decide ((0 : Int) ∈ cs))) ∧ _
    generalize decide ((0 : Int) ∈ cs) = m at *
    go_enter Tryz.func117, Tryz.ntmps117
    go_wp2_with fail
    refine hv.mono ?_
    rintro e w1 ⟨rfl, hb⟩
    go_wp2_with fail
    refine (hc w1).mono ?_
    rintro e w2 ⟨rfl, rfl⟩
    go_wp2
    go_ret
    exact ⟨rfl, hb⟩
def oneS : List UInt8 := [34, 39, 40, 41, 91, 93, 123, 125, 58, 59, 44, 12, 13]
theorem oneS_at : ∀ c : Fin 128, decide (0 ≤ Lib.indexByte (bytesOf oneS).data.toList (c.val : Int).toNat.toUInt8) = decide ((c.val : Int) ∈ ([34, 39, 40, 41, 91, 93, 123, 125, 58, 59, 44, 12, 13] : List Int)) := by decide +kernel
set_option maxRecDepth 100000 in
set_option maxHeartbeats 1000000 in
theorem tp_one (l : List UInt8) (cs : List Int) (w : World) (hl : l.length ≤ maxLen) (hT : Tabs w) (hu : utfP l = some cs) :
    Calls Tryz.prog 118 #[.string (bytesOf l)] w fun e w' => e = .returned (.bool (kindB 11 cs)) ∧ Below w.heap.size w w' := by
  have hz := bytesOf_size l
  unfold maxLen at hl
  obtain ⟨u1, u2⟩ := utf_some hu
  have hd := Tryz.utf8_DecodeRuneInString (bytesOf l) w hT
  cases cs with
  | nil =>
    have hn : l = [] := by rw [u1]; simp [writeP]
    subst hn
    have e0 : Lib.decodeGo (bytesOf []) = (65533, 0) := by rfl
    rw [e0] at hd
    obtain ⟨s1, s2⟩ := str_none
    clear u1 u2 hu
    show Calls _ _ _ _ fun e w' => e = .returned (.bool false) ∧ _
    go_enter Tryz.func118, Tryz.ntmps118
    go_wp2_with fail
    refine hd.mono ?_
    rintro e w1 ⟨rfl, hb⟩
    go_wp2
    go_ret
    exact ⟨rfl, hb⟩
  | cons c r =>
    have hc := u2 c (by simp)
    have hcr := isB_range' hc
    have hw : l = Lib.encodeRune c ++ writeP r := by rw [u1]; simp [writeP]
    have hne : l ≠ [] := by rw [hw]; exact enc_ne c _
    have hdl := decL_write c hc (writeP r)
    rw [← hw] at hdl
    have e0 : Lib.decodeGo (bytesOf l) = (c.toNat, (Lib.encodeRune c).length) := by
      unfold Lib.decodeGo
      have := List.length_pos_iff.2 hne
      rw [if_neg (by omega)]
      exact hdl
    rw [e0] at hd
    have hel := encode_len c
    have hll : l.length = (Lib.encodeRune c).length + (writeP r).length := by rw [hw, List.length_append]
    rw [show ((c.toNat : Nat) : Int) = c by omega] at hd
    obtain ⟨s1, s2⟩ := str_some hne
    obtain ⟨k, hk⟩ : ∃ k, (Lib.encodeRune c).length = k := ⟨_, rfl⟩
    rw [hk] at hd hel hll
    cases r with
    | cons d r =>
      have h2 : 0 < (writeP (d :: r)).length := by
        have e : writeP (d :: r) = Lib.encodeRune d ++ writeP r := by simp [writeP]
        rw [e, List.length_append]
        have := encode_len d; omega
      have tn : ((k : Int) != ((bytesOf l).size : Int)) = true := by rw [hz]; simp; omega
      clear u1 u2 hu hw hdl e0 hk
      show Calls _ _ _ _ fun e w' => e = .returned (.bool false) ∧ _
      go_enter Tryz.func118, Tryz.ntmps118
      go_wp2_with fail
      refine hd.mono ?_
      rintro e w1 ⟨rfl, hb⟩
      go_wp2
      go_ret
      exact ⟨rfl, hb⟩
    | nil =>
      have h2 : (writeP []).length = 0 := by simp [writeP]
      have tn : ((k : Int) != ((bytesOf l).size : Int)) = false := by rw [hz]; simp; omega
      clear u1 u2 hu hw hdl e0 hk
      show Calls _ _ _ _ fun e w' => e = .returned (.bool (delimB c)) ∧ _
      have hB := fun w => rn_begins c w
      have hW := fun w => rn_white c w
      have hD := fun w => rn_digit c w
      have hS : beginsB c = false → ∀ w, Calls Tryz.prog 126 #[.string ⟨#[34, 39, 40, 41, 91, 93, 123, 125, 58, 59, 44, 12, 13]⟩, .int .i32 c] w fun e w' => e = .returned (.bool (decide (c ∈ ([34, 39, 40, 41, 91, 93, 123, 125, 58, 59, 44, 12, 13] : List Int)))) ∧ w' = w := by
        intro hb w
        have hlow : c < 128 := by
          unfold beginsB at hb
          rw [hc] at hb
          simp at hb; omega
        have h := Tryz.strings_ContainsRune_ascii (bytesOf oneS) c w hcr.1 hlow
        have h1 := oneS_at ⟨c.toNat, by omega⟩
        have e : ((c.toNat : Nat) : Int) = c := by omega
        simp only [e] at h1
        rw [h1] at h
        exact h
      have hdel : delimB c = (!whiteB c && !beginsB c && !digitB c && !decide (c ∈ ([34, 39, 40, 41, 91, 93, 123, 125, 58, 59, 44, 12, 13] : List Int))) := by
        unfold delimB
        congr 1
        rw [Bool.eq_iff_iff]; simp
      rw [hdel]
      generalize decide (c ∈ ([34, 39, 40, 41, 91, 93, 123, 125, 58, 59, 44, 12, 13] : List Int)) = m at *
      generalize whiteB c = b1 at *
      generalize beginsB c = b2 at *
      generalize digitB c = b3 at *
      clear hdel
      have hun : (undef : Value) = .tuple #[] := rfl
      cases b1 with
      | true =>
        go_enter Tryz.func118, Tryz.ntmps118
        go_wp2_with fail
        refine hd.mono ?_
        rintro e w1 ⟨rfl, hb⟩
        go_wp2_with fail
        refine (hW w1).mono ?_
        rintro e w2 ⟨rfl, rfl⟩
        go_wp2
        go_ret
        exact ⟨rfl, hb⟩
      | false =>
        cases b2 with
        | true =>
          go_enter Tryz.func118, Tryz.ntmps118
          go_wp2_with fail
          refine hd.mono ?_
          rintro e w1 ⟨rfl, hb⟩
          go_wp2_with fail
          refine (hW w1).mono ?_
          rintro e w2 ⟨rfl, rfl⟩
          go_wp2_with fail
          refine (hB w1).mono ?_
          rintro e w2 ⟨rfl, rfl⟩
          go_wp2
          go_ret
          exact ⟨rfl, hb⟩
        | false =>
          have hS2 := hS rfl
          clear hS
          cases b3 with
          | true =>
            go_enter Tryz.func118, Tryz.ntmps118
            go_wp2_with fail
            refine hd.mono ?_
            rintro e w1 ⟨rfl, hb⟩
            go_wp2_with fail
            refine (hW w1).mono ?_
            rintro e w2 ⟨rfl, rfl⟩
            go_wp2_with fail
            refine (hB w1).mono ?_
            rintro e w2 ⟨rfl, rfl⟩
            go_wp2_with fail
            refine (hD w1).mono ?_
            rintro e w2 ⟨rfl, rfl⟩
            go_wp2
            go_ret
            exact ⟨rfl, hb⟩
          | false =>
            go_enter Tryz.func118, Tryz.ntmps118
            go_wp2_with fail
            refine hd.mono ?_
            rintro e w1 ⟨rfl, hb⟩
            go_wp2_with fail
            refine (hW w1).mono ?_
            rintro e w2 ⟨rfl, rfl⟩
            go_wp2_with fail
            refine (hB w1).mono ?_
            rintro e w2 ⟨rfl, rfl⟩
            go_wp2_with fail
            refine (hD w1).mono ?_
            rintro e w2 ⟨rfl, rfl⟩
            go_wp2_with fail
            refine (hS2 w1).mono ?_
            rintro e w2 ⟨rfl, rfl⟩
            go_wp2
            go_ret
            exact ⟨rfl, hb⟩
end Go.Proofs.YtfhdihdafmahgaaGreatDoor
set_option linter.unusedVariables false
set_option linter.unusedSimpArgs false
namespace Go.Proofs.YtfhdihdafmahgaaGreatDoor
open Go.RowKit Rn Tp Fx
/-- a text that is none of one constant -/
theorem str_not {l c : List UInt8} (h : l ≠ c) : ¬ (bytesOf l).toList = c ∧ ((bytesOf l).toList == c) = false := by
  rw [bytesOf_toList]; exact ⟨h, by simpa using h⟩
theorem str_is {l c : List UInt8} (h : l = c) : (bytesOf l).toList = c ∧ ((bytesOf l).toList == c) = true := by
  rw [bytesOf_toList]; exact ⟨h, by simpa using h⟩
theorem utf_empty {l : List UInt8} {cs : List Int} (h : utfP l = some cs) : l = [] ↔ cs = [] := by
  obtain ⟨h1, _⟩ := utf_some h
  constructor
  · rintro rfl
    rw [utfP_nil] at h; injection h with h; exact h.symm
  · rintro rfl
    rw [h1]; simp [writeP]
theorem utf_low {l : List UInt8} {cs : List Int} (h : utfP l = some cs) (b : UInt8) (hb : b.toNat < 128) : l = [b] ↔ cs = [(b.toNat : Int)] := by
  obtain ⟨h1, h2⟩ := utf_some h
  constructor
  · intro e
    have hw : writeP [(b.toNat : Int)] = [b] := by rw [write_one, enc_low b hb]
    have hu := utf_write [(b.toNat : Int)] (fun c hc => by
      obtain rfl : c = (b.toNat : Int) := by simpa using hc
      unfold isB; simp; omega)
    rw [hw, ← e, h] at hu
    injection hu
  · rintro rfl
    rw [h1, write_one, enc_low b hb]
/-- what of a token is wrong by its number and its characters -/
def badB (t : GTok) : Bool := (decide (t.n ≠ 0) && (decide (t.kind < 8) || decide (10 < t.kind))) || decide (t.n ≠ stopZ t.n) || !plainB t.text
theorem one_bad {t : GTok} (h : badB t = true) : oneB t = false := by
  unfold badB at h
  unfold oneB
  unfold plainB at h
  cases hu : utfP t.text with
  | none => rfl
  | some l =>
    rw [hu] at h
    simp only [] at h ⊢
    rw [Bool.and_eq_false_iff, Bool.and_eq_false_iff]
    left
    simp only [Bool.or_eq_true, Bool.and_eq_true, decide_eq_true_eq, Bool.not_eq_true', Bool.not_eq_false'] at h
    unfold numOk
    rcases h with (h | h) | h
    · right; simp; omega
    · right; simp; intro e; omega
    · left; simpa using h
theorem one_good {t : GTok} (h : badB t = false) : ∃ cs, utfP t.text = some cs ∧ oneB t = kindB t.kind cs := by
  unfold badB at h
  unfold plainB at h
  cases hu : utfP t.text with
  | none => rw [hu] at h; simp at h
  | some l =>
    rw [hu] at h
    refine ⟨l, rfl, ?_⟩
    unfold oneB
    rw [hu]
    simp only [Bool.or_eq_false_iff, Bool.and_eq_false_iff, decide_eq_false_iff_not, Bool.not_eq_false', Bool.not_not] at h
    obtain ⟨⟨h1, h2⟩, h3⟩ := h
    have h4 : decide ((0 : Int) ∉ l) = true := by simpa using h3
    have h5 : numOk t.kind t.n = true := by
      unfold numOk
      simp
      refine ⟨by omega, ?_⟩
      by_cases h0 : t.n = 0
      · exact .inr h0
      · rcases h1 with h1 | h1
        · exact absurd h0 h1
        · left; omega
    simp only [h4, h5, Bool.true_and]
abbrev tokG (t : GTok) : Value := .agg #[.int .i64 t.kind, .string (bytesOf t.text), .int .i64 t.n]
set_option maxRecDepth 100000 in
set_option maxHeartbeats 4000000 in
theorem tp_right (t : GTok) (w : World) (hl : t.text.length ≤ maxLen) (hn : -9223372036854775808 ≤ t.n ∧ t.n ≤ 9223372036854775807) (hT : Tabs w) :
    Calls Tryz.prog 83 #[tokG t] w fun e w' => e = .returned (.bool (oneB t)) ∧ Below w.heap.size w w' := by
  obtain ⟨kind, text, n⟩ := t
  simp only [] at hl hn
  obtain ⟨wA, hwA⟩ : ∃ wA, w.alloc (.cells #[.int .i64 kind, .string (bytesOf text), .int .i64 n] 58) = wA := ⟨_, rfl⟩
  have bA : Below w.heap.size w wA := by rw [← hwA]; exact (Below.refl _ _).alloc (Nat.le_refl _) _
  have rA : RowAt wA w.heap.size [.int .i64 kind, .string (bytesOf text), .int .i64 n] := by rw [← hwA]; exact RowAt.new _ _ _
  obtain ⟨x0, _⟩ := rA.2 0 _ rfl
  obtain ⟨x1, _⟩ := rA.2 1 _ rfl
  obtain ⟨x2, _⟩ := rA.2 2 _ rfl
  have hTA := hT.below bA
  obtain ⟨R, hR⟩ : ∃ R, oneB ⟨kind, text, n⟩ = R := ⟨_, rfl⟩
  rw [hR]
  have HR := Lib.hid hR
  clear hR
  obtain ⟨bad, hbad⟩ : ∃ b, badB ⟨kind, text, n⟩ = b := ⟨_, rfl⟩
  have Hbad := Lib.hid hbad
  obtain ⟨s, hs⟩ : ∃ s, stopZ n = s := ⟨_, rfl⟩
  obtain ⟨pl, hpl⟩ : ∃ p, plainB text = p := ⟨_, rfl⟩
  have hb2 : bad = ((decide (n ≠ 0) && (decide (kind < 8) || decide (10 < kind))) || decide (n ≠ s) || !pl) := by rw [← hbad, ← hs, ← hpl]; rfl
  have hstop := fun w => fx_stop n w hn.1 hn.2
  rw [hs] at hstop
  have hplain : ∀ w', Tabs w' → Calls Tryz.prog 117 #[.string (bytesOf text)] w' fun e w2 => e = .returned (.bool pl) ∧ Below w'.heap.size w' w2 := fun w' h => by rw [← hpl]; exact tp_plain text w' hl h
  clear hs hpl hbad
  have y0 := bw_cell (B := wA.heap.size) x0 rA.1
  have y1 := bw_cell (B := wA.heap.size) x1 rA.1
  have y2 := bw_cell (B := wA.heap.size) x2 rA.1
  go_enter Tryz.func83, Tryz.ntmps83
  go_upto_region 1 with (fail)
  go_cut [29] (fun x wx => x = .bool bad ∧ Below wA.heap.size wA wx)
  case first =>
    by_cases n0 : n = 0
    · have t0 : (n != 0) = false := by simp [n0]
      by_cases ns : n = s
      · have t1 : (n != s) = false := by simp [ns]
        have hfin : bad = !pl := by rw [hb2]; simp [n0, ← ns]
        clear ns hb2 n0
        refine wp_region_bw wA.heap.size (by kernel_rfl) (by kernel_rfl) ?_
        repeat (go_big_quiet_step (first | (go_at_call 116; exact calls_bw_same (hstop _)) | (go_at_call 117; rename_i W; exact calls_bw (Nat.le_refl _) (hplain _ (hTA.below W.is)))))
        refine wpQuiet_nil ?_
        intro _ hw'
        obtain ⟨W, rfl⟩ := hw'
        go_wp2_with fail
        go_meet
        exact ⟨by rw [hfin], W.is⟩
      · have t1 : (n != s) = true := by simp [ns]
        have hfin : bad = true := by rw [hb2]; simp [ns]
        clear ns hb2 n0
        refine wp_region_bw wA.heap.size (by kernel_rfl) (by kernel_rfl) ?_
        repeat (go_big_quiet_step (first | (go_at_call 116; exact calls_bw_same (hstop _)) | (go_at_call 117; rename_i W; exact calls_bw (Nat.le_refl _) (hplain _ (hTA.below W.is)))))
        refine wpQuiet_nil ?_
        intro _ hw'
        obtain ⟨W, rfl⟩ := hw'
        go_wp2_with fail
        go_meet
        exact ⟨by rw [hfin], W.is⟩
    · have t0 : (n != 0) = true := by simp [n0]
      by_cases k8 : kind < 8
      · have t8 : decide (kind < 8) = true := by simp [k8]
        have hfin : bad = true := by rw [hb2]; simp [n0, k8]
        clear n0 k8 hb2
        refine wp_region_bw wA.heap.size (by kernel_rfl) (by kernel_rfl) ?_
        repeat (go_big_quiet_step (first | (go_at_call 116; exact calls_bw_same (hstop _)) | (go_at_call 117; rename_i W; exact calls_bw (Nat.le_refl _) (hplain _ (hTA.below W.is)))))
        refine wpQuiet_nil ?_
        intro _ hw'
        obtain ⟨W, rfl⟩ := hw'
        go_wp2_with fail
        go_meet
        exact ⟨by rw [hfin], W.is⟩
      · have t8 : decide (kind < 8) = false := by simp; omega
        by_cases k10 : 10 < kind
        · have t10 : decide (10 < kind) = true := by simp [k10]
          have hfin : bad = true := by rw [hb2]; simp [n0, k10]
          clear n0 k8 k10 hb2
          refine wp_region_bw wA.heap.size (by kernel_rfl) (by kernel_rfl) ?_
          repeat (go_big_quiet_step (first | (go_at_call 116; exact calls_bw_same (hstop _)) | (go_at_call 117; rename_i W; exact calls_bw (Nat.le_refl _) (hplain _ (hTA.below W.is)))))
          refine wpQuiet_nil ?_
          intro _ hw'
          obtain ⟨W, rfl⟩ := hw'
          go_wp2_with fail
          go_meet
          exact ⟨by rw [hfin], W.is⟩
        · have t10 : decide (10 < kind) = false := by simp; omega
          by_cases ns : n = s
          · have t1 : (n != s) = false := by simp [ns]
            have hfin : bad = !pl := by rw [hb2]; simp [t8, t10, ← ns]
            clear ns hb2 n0 k8 k10
            refine wp_region_bw wA.heap.size (by kernel_rfl) (by kernel_rfl) ?_
            repeat (go_big_quiet_step (first | (go_at_call 116; exact calls_bw_same (hstop _)) | (go_at_call 117; rename_i W; exact calls_bw (Nat.le_refl _) (hplain _ (hTA.below W.is)))))
            refine wpQuiet_nil ?_
            intro _ hw'
            obtain ⟨W, rfl⟩ := hw'
            go_wp2_with fail
            go_meet
            exact ⟨by rw [hfin], W.is⟩
          · have t1 : (n != s) = true := by simp [ns]
            have hfin : bad = true := by rw [hb2]; simp [ns]
            clear ns hb2 n0 k8 k10
            refine wp_region_bw wA.heap.size (by kernel_rfl) (by kernel_rfl) ?_
            repeat (go_big_quiet_step (first | (go_at_call 116; exact calls_bw_same (hstop _)) | (go_at_call 117; rename_i W; exact calls_bw (Nat.le_refl _) (hplain _ (hTA.below W.is)))))
            refine wpQuiet_nil ?_
            intro _ hw'
            obtain ⟨W, rfl⟩ := hw'
            go_wp2_with fail
            go_meet
            exact ⟨by rw [hfin], W.is⟩
  case rest =>
    obtain ⟨rfl, hbx⟩ := hcut
    have hTx := hTA.below hbx
    have bx : Below w.heap.size w wc := bA.trans (hbx.mono bA.size)
    have z0 := (hbx.cell (p := ⟨w.heap.size, 0, none⟩) rA.1).trans x0
    have z1 := (hbx.cell (p := ⟨w.heap.size, 1, none⟩) rA.1).trans x1
    clear hstop hplain y0 y1 y2 x0 x1 x2 hwA hb2
    cases bad with
    | true =>
      obtain rfl : R = false := by rw [← HR.out]; exact one_bad Hbad.out
      go_wp2
      go_ret
      exact ⟨rfl, bx⟩
    | false =>
      obtain ⟨cs, hu, hO1⟩ := one_good Hbad.out
      simp only [] at hO1 hu
      have hO : R = kindB kind cs := by rw [← HR.out]; exact hO1
      have he := utf_empty hu
      clear hO1 Hbad HR
      have hK : kind = 2 ∨ kind = 3 ∨ kind = 4 ∨ kind = 5 ∨ kind = 10 ∨ kind = 6 ∨ kind = 7 ∨ kind = 11 ∨ kind = 12 ∨ kind = 13 ∨ ((kind == 2) = false ∧ (kind == 3) = false ∧ (kind == 4) = false ∧ (kind == 5) = false ∧ (kind == 10) = false ∧ (kind == 6) = false ∧ (kind == 7) = false ∧ (kind == 11) = false ∧ (kind == 12) = false ∧ (kind == 13) = false) := by simp; omega
      rcases hK with rfl | rfl | rfl | rfl | rfl | rfl | rfl | rfl | rfl | rfl | ⟨h2, h3, h4, h5, h10, h6, h7, h11, h12, h13⟩
      case inr.inr.inr.inr.inr.inr.inr.inl =>
        have h1 := tp_one text cs wc hl hTx hu
        subst hO
        clear hu he
        go_wp2_with fail
        refine h1.mono ?_
        rintro e w2 ⟨rfl, hb2⟩
        go_wp2
        go_ret
        exact ⟨rfl, bx.trans (hb2.mono bx.size)⟩
      case inr.inr.inr.inr.inr.inr.inr.inr.inl =>
        have u1 := utf_low hu 40 (by decide)
        have u2 := utf_low hu 91 (by decide)
        have u3 := utf_low hu 123 (by decide)
        have hfin : kindB 12 cs = (decide (text = [40]) || decide (text = [91]) || decide (text = [123])) := by
          unfold kindB
          simp only [u1, u2, u3]
          rw [Bool.eq_iff_iff]; simp [or_assoc]
        clear u1 u2 u3 hu he
        by_cases c1 : text = [40]
        · obtain ⟨f1, g1⟩ := str_is c1
          obtain rfl : R = true := by rw [hO, hfin]; simp [c1]
          clear hO hfin c1
          go_wp2
          go_ret
          exact ⟨rfl, bx⟩
        · obtain ⟨d1, e1⟩ := str_not c1
          by_cases c2 : text = [91]
          · obtain ⟨f2, g2⟩ := str_is c2
            obtain rfl : R = true := by rw [hO, hfin]; simp [c2]
            clear hO hfin c2
            go_wp2
            go_ret
            exact ⟨rfl, bx⟩
          · obtain ⟨d2, e2⟩ := str_not c2
            by_cases c3 : text = [123]
            · obtain ⟨f3, g3⟩ := str_is c3
              obtain rfl : R = true := by rw [hO, hfin]; simp [c3]
              clear hO hfin c3
              go_wp2
              go_ret
              exact ⟨rfl, bx⟩
            · obtain ⟨d3, e3⟩ := str_not c3
              obtain rfl : R = false := by rw [hO, hfin]; simp [c1, c2, c3]
              clear hO hfin c1 c2 c3
              go_wp2
              go_ret
              exact ⟨rfl, bx⟩
      case inr.inr.inr.inr.inr.inr.inr.inr.inr.inl =>
        have u1 := utf_low hu 41 (by decide)
        have u2 := utf_low hu 93 (by decide)
        have u3 := utf_low hu 125 (by decide)
        have hfin : kindB 13 cs = (decide (text = [41]) || decide (text = [93]) || decide (text = [125])) := by
          unfold kindB
          simp only [u1, u2, u3]
          rw [Bool.eq_iff_iff]; simp [or_assoc]
        clear u1 u2 u3 hu he
        by_cases c1 : text = [41]
        · obtain ⟨f1, g1⟩ := str_is c1
          obtain rfl : R = true := by rw [hO, hfin]; simp [c1]
          clear hO hfin c1
          go_wp2
          go_ret
          exact ⟨rfl, bx⟩
        · obtain ⟨d1, e1⟩ := str_not c1
          by_cases c2 : text = [93]
          · obtain ⟨f2, g2⟩ := str_is c2
            obtain rfl : R = true := by rw [hO, hfin]; simp [c2]
            clear hO hfin c2
            go_wp2
            go_ret
            exact ⟨rfl, bx⟩
          · obtain ⟨d2, e2⟩ := str_not c2
            by_cases c3 : text = [125]
            · obtain ⟨f3, g3⟩ := str_is c3
              obtain rfl : R = true := by rw [hO, hfin]; simp [c3]
              clear hO hfin c3
              go_wp2
              go_ret
              exact ⟨rfl, bx⟩
            · obtain ⟨d3, e3⟩ := str_not c3
              obtain rfl : R = false := by rw [hO, hfin]; simp [c1, c2, c3]
              clear hO hfin c1 c2 c3
              go_wp2
              go_ret
              exact ⟨rfl, bx⟩
      case inr.inr.inr.inr.inr.inr.inr.inr.inr.inr =>
        have hfin : kindB kind cs = (decide (1 ≤ kind) && (decide (kind ≤ 16) && decide (text = []))) := by
          simp at h2 h3 h4 h5 h10 h6 h7 h11 h12 h13
          unfold kindB
          rw [if_neg (by omega), if_neg (by omega), if_neg h11, if_neg h12, if_neg h13]
          rw [Bool.eq_iff_iff]; simp [he]
        clear hu he
        by_cases k1 : 1 ≤ kind
        · have e1 : decide (1 ≤ kind) = true := by simp [k1]
          by_cases k16 : kind ≤ 16
          · have e16 : decide (kind ≤ 16) = true := by simp [k16]
            by_cases ht : text = []
            · subst ht
              obtain ⟨s1, s2⟩ := str_none
              obtain rfl : R = true := by rw [hO, hfin]; simp [k1, k16]
              clear hO hfin k1 k16
              go_wp2
              go_ret
              exact ⟨rfl, bx⟩
            · obtain ⟨s1, s2⟩ := str_some ht
              obtain rfl : R = false := by rw [hO, hfin]; simp [ht]
              clear hO hfin k1 k16 ht
              go_wp2
              go_ret
              exact ⟨rfl, bx⟩
          · have e16 : decide (kind ≤ 16) = false := by simp; omega
            obtain rfl : R = false := by rw [hO, hfin]; simp [e16]
            clear hO hfin k1 k16
            go_wp2
            go_ret
            exact ⟨rfl, bx⟩
        · have e1 : decide (1 ≤ kind) = false := by simp; omega
          obtain rfl : R = false := by rw [hO, hfin]; simp [e1]
          clear hO hfin k1
          go_wp2
          go_ret
          exact ⟨rfl, bx⟩
      case inr.inr.inr.inr.inr.inl =>
        obtain rfl : R = true := by rw [hO]; rfl
        clear hu he hO
        go_wp2
        go_ret
        exact ⟨rfl, bx⟩
      case inr.inr.inr.inr.inr.inr.inl =>
        obtain rfl : R = true := by rw [hO]; rfl
        clear hu he hO
        go_wp2
        go_ret
        exact ⟨rfl, bx⟩
      all_goals
        have hgen : ∀ k, ((2 ≤ k ∧ k ≤ 5) ∨ k = 10) → kindB k cs = !decide (text = []) := by
          intro k hk
          unfold kindB
          rw [if_pos hk, Bool.eq_iff_iff]; simp [he]
        rw [hgen _ (by omega)] at hO
        clear hgen hu he
        by_cases ht : text = []
        · subst ht
          obtain ⟨s1, s2⟩ := str_none
          obtain rfl : R = false := by rw [hO]; simp
          clear hO
          go_wp2
          go_ret
          exact ⟨rfl, bx⟩
        · obtain ⟨s1, s2⟩ := str_some ht
          obtain rfl : R = true := by rw [hO]; simp [ht]
          clear hO ht
          go_wp2
          go_ret
          exact ⟨rfl, bx⟩
end Go.Proofs.YtfhdihdafmahgaaGreatDoor
