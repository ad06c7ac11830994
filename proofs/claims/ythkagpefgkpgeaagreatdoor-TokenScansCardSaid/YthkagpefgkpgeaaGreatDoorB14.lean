/- Layer 3, the document: a name is walked. -/
import Derived.Test.YthkagpefgkpgeaaGreatDoorB02
import Derived.Test.YthkagpefgkpgeaaGreatDoorB12
import Derived.Lib.SlBytesConst
import Derived.Test.YthkagpefgkpgeaaGreatDoorB13
import Derived.Test.YthkagpefgkpgeaaGreatDoorB01
import Derived.Test.YthkagpefgkpgeaaGreatDoorB03
/- The laws' own helpers of layer 2 are walked: ints, same, awake. -/
set_option linter.unusedVariables false
set_option linter.unusedSimpArgs false
namespace Go.Proofs.YthkagpefgkpgeaaGreatDoor
open Go.RowKit Rn

theorem RowAt.mark (w : World) (e : TypeId) (cs : Array Value) (k : Nat) (hk : cs.size ≤ k) : RowAt (w.alloc (.cells cs e (k, k + 1))) w.heap.size cs.toList := by
  refine ⟨by simp, fun j u hu => ?_⟩
  have hj : j < cs.size := by
    have := (List.getElem?_eq_some_iff.1 hu).1
    simpa using this
  have h := heap_alloc_new w (.cells cs e (k, k + 1))
  constructor
  · unfold World.cell?
    rw [h]
    simpa using hu
  · unfold World.frozen?
    rw [h]
    simp
    omega
theorem own_open {w : World} {base : Nat} {e : TypeId} {v : Value} {n : Nat} {xs : List Value} (h : w.ownsRow base e 1 v n xs) (hn : 0 < n) :
    ∃ g c, v = .slice (some ⟨g, 0, none⟩) n c ∧ base ≤ g ∧ g < w.heap.size ∧ n ≤ c ∧ c ≤ maxLen ∧ ∀ j u, xs[j]? = some u → w.cell? ⟨g, j, none⟩ = some u := by
  have hrd : ∀ A c, v = .slice A n c → Reads w w.heap.size 1 A n xs := fun A c e => Reads.of_own (c := c) (by rw [← e]; exact h)
  obtain ⟨h0, ⟨rfl, rfl⟩ | ⟨g, cap, cur, rfl, h1, h2, h3, h4, _⟩⟩ := id h
  · omega
  · obtain ⟨b, off, e, hb, hc⟩ := (hrd _ _ rfl).open_ hn
    injection e with e
    injection e with e1 e2
    subst e1 e2
    exact ⟨_, _, rfl, h1, hb, h3, h4, fun j u hu => by have := hc j u hu; rwa [Nat.zero_add] at this⟩
theorem awake_read : readP [240, 159, 152, 65, 13, 10] = [65533, 65, 10] := by decide +kernel
theorem awake_hex : hexI 102 = 15 := by decide
theorem awake_begins : beginsB 95 = true := by decide
end Go.Proofs.YthkagpefgkpgeaaGreatDoor
/- Layer 3: what the laws ask of one sheet. -/
set_option linter.unusedVariables false
set_option linter.unusedSimpArgs false
namespace Go.Proofs.YthkagpefgkpgeaaGreatDoor
open Go.RowKit Rn Tk
theorem awake_len : (scanT (readP [97, 58, 49, 46, 53, 101, 109, 47, 42, 42, 47, 98])).length = 4 := by rw [awake_scan]; rfl
set_option maxRecDepth 100000 in
set_option maxHeartbeats 1000000 in
theorem tk_awake (w : World) (hT : Tabs w) (hE : Env w) :
    Calls Tryz.prog 4 #[] w fun e w' => e = .returned (.bool true) ∧ Below w.heap.size w w' := by
  have kc := fun (w : World) (C : Array Value) (n c : Nat) => Lib.run_convert_bytes_const (P := Tryz.prog) w 22 5 C n c Tryz.underlying22 Tryz.underlying5
  have hgu := tok_guard
  have hq1 : ∀ W, (binOp .eql 31 (.agg #[.int .i64 2, .string (bytesOf [97]), .int .i64 0]) (.agg #[.int .i64 2, .string ⟨#[97]⟩, .int .i64 0])).run Tryz.prog W = .ok (.bool true) W := fun W => toks_eql ⟨2, [97], 0⟩ ⟨2, [97], 0⟩ W
  have hq2 : ∀ W, (binOp .eql 31 (.agg #[.int .i64 10, .string (bytesOf [101, 109]), .int .i64 1500]) (.agg #[.int .i64 10, .string ⟨#[101, 109]⟩, .int .i64 1500])).run Tryz.prog W = .ok (.bool true) W := fun W => toks_eql ⟨10, [101, 109], 1500⟩ ⟨10, [101, 109], 1500⟩ W
  have htl := bytesOf_toList [98]
  go_enter Tryz.func4, Tryz.ntmps4
  go_wp2_with fail
  have hrow := RowAt.mark w 5 (#[.int .u8 97, .int .u8 58, .int .u8 49, .int .u8 46, .int .u8 53, .int .u8 101, .int .u8 109, .int .u8 47, .int .u8 42, .int .u8 42, .int .u8 47, .int .u8 98]) 12 (by decide)
  have hsz : (w.alloc (.cells #[.int .u8 97, .int .u8 58, .int .u8 49, .int .u8 46, .int .u8 53, .int .u8 101, .int .u8 109, .int .u8 47, .int .u8 42, .int .u8 42, .int .u8 47, .int .u8 98] 5 (12, 13))).heap.size = w.heap.size + 1 := by simp
  have hb0 : Below w.heap.size w (w.alloc (.cells #[.int .u8 97, .int .u8 58, .int .u8 49, .int .u8 46, .int .u8 53, .int .u8 101, .int .u8 109, .int .u8 47, .int .u8 42, .int .u8 42, .int .u8 47, .int .u8 98] 5 (12, 13))) := (Below.refl _ _).alloc (Nat.le_refl _) _
  have hrd := hrow.reads (B := w.heap.size + 1) (by omega)
  refine (tk_scan [97, 58, 49, 46, 53, 101, 109, 47, 42, 42, 47, 98] _ 12 12 _ (by rw [hsz]; exact hrd) (Nat.le_refl _) (by unfold maxLen; omega) (hT.below hb0) (hE.below hb0)).mono ?_
  rintro e w1 ⟨hb1, hret⟩
  have hb2 : Below w.heap.size w w1 := hb0.trans (hb1.mono (by rw [hsz]; omega))
  unfold ScanRet at hret
  rw [if_neg (by rw [awake_len]; omega)] at hret
  obtain ⟨v, rfl, hown⟩ := hret
  rw [awake_scan] at hown
  obtain ⟨A, c, rfl, _, _⟩ := own_form hown
  obtain ⟨g, off, rfl, _, hc⟩ := (Reads.of_own hown).open_ (by decide)
  have c0 : w1.cell? ⟨g, off, none⟩ = some (.int .i64 2) := hc 0 _ rfl
  have c1 : w1.cell? ⟨g, off + 1, none⟩ = some (.string (bytesOf [97])) := hc 1 _ rfl
  have c2 : w1.cell? ⟨g, off + 2, none⟩ = some (.int .i64 0) := hc 2 _ rfl
  have c6 : w1.cell? ⟨g, off + 6, none⟩ = some (.int .i64 10) := hc 6 _ rfl
  have c7 : w1.cell? ⟨g, off + 7, none⟩ = some (.string (bytesOf [101, 109])) := hc 7 _ rfl
  have c8 : w1.cell? ⟨g, off + 8, none⟩ = some (.int .i64 1500) := hc 8 _ rfl
  have c10 : w1.cell? ⟨g, off + 10, none⟩ = some (.string (bytesOf [98])) := hc 10 _ rfl
  clear hc hown hb1 hrd hrow hb0 hT hE
  simp only [List.length_cons, List.length_nil]
  go_wp2
  go_ret
  exact ⟨rfl, hb2⟩
end Go.Proofs.YthkagpefgkpgeaaGreatDoor
/- Layer 3: how long a decimal is hangs on its characters alone: plain laws. -/
set_option linter.unusedVariables false
set_option linter.unusedSimpArgs false
namespace Go.Proofs.YthkagpefgkpgeaaGreatDoor
open Go.RowKit Rn Tk Fx
namespace Np
def asciiT (r : List Int) : List UInt8 := (r.takeWhile (fun c => decide (c < 128))).map Tk.byteOf
def numU (b : UInt8) : Bool := isD b || decide (b.toNat = 43 ∨ b.toNat = 45 ∨ b.toNat = 46 ∨ b.toNat = 101 ∨ b.toNat = 69)
/-- nothing of a decimal goes on there -/
def StopY (y : List UInt8) : Prop := ∀ b t, y = b :: t → numU b = false
theorem stop_isD {y : List UInt8} (h : StopY y) : digs y = 0 := by
  cases y with
  | nil => rfl
  | cons b t =>
    have := h b t rfl
    unfold numU at this
    simp at this
    unfold digs
    rw [List.takeWhile_cons, if_neg (by simp [this.1])]; rfl
theorem digs_app (x y : List UInt8) (h : StopY y) : digs (x ++ y) = digs x := by
  induction x with
  | nil => rw [List.nil_append, stop_isD h]; rfl
  | cons b t ih =>
    unfold digs at ih ⊢
    rw [List.cons_append, List.takeWhile_cons, List.takeWhile_cons]
    split
    · simp only [List.length_cons, ih]
    · rfl
theorem drop_app (x y : List UInt8) {i : Nat} (hi : i ≤ x.length) : (x ++ y).drop i = x.drop i ++ y := by
  rw [List.drop_append_of_le_length hi]
theorem sgn_app (x y : List UInt8) (h : StopY y) : sgn (x ++ y) = sgn x := by
  cases x with
  | nil =>
    cases y with
    | nil => rfl
    | cons b t =>
      have := h b t rfl
      unfold numU at this
      simp at this
      show (if b.toNat = 43 ∨ b.toNat = 45 then 1 else 0) = 0
      rw [if_neg (by omega)]
  | cons b t => rfl
theorem get_app (x y : List UInt8) (h : StopY y) {i : Nat} (hi : i ≤ x.length) : ((x ++ y)[i]? = some 46 ↔ x[i]? = some 46) ∧ isE (x ++ y)[i]? = isE x[i]? := by
  by_cases hl : i < x.length
  · rw [List.getElem?_append_left hl]; exact ⟨Iff.rfl, rfl⟩
  · rw [List.getElem?_append_right (by omega), show i - x.length = 0 by omega, List.getElem?_eq_none (by omega : x.length ≤ i)]
    cases y with
    | nil => exact ⟨Iff.rfl, rfl⟩
    | cons b t =>
      have := h b t rfl
      unfold numU at this
      simp at this
      refine ⟨⟨fun hb => ?_, fun hb => by cases hb⟩, ?_⟩
      · simp at hb; subst hb; exact absurd rfl this.2.2.2.1
      · simp [isE]; omega
theorem sgn_len (x : List UInt8) : sgn x ≤ x.length := by
  cases x with
  | nil => exact Nat.le_refl _
  | cons b t => simp only [sgn, List.length_cons]; split <;> omega
theorem exp_app (x y : List UInt8) (h : StopY y) : expLen (x ++ y) = expLen x := by
  unfold expLen
  rw [sgn_app x y h, drop_app x y (sgn_len x), digs_app _ y h]
theorem int_len (x : List UInt8) : sgn x + digs (x.drop (sgn x)) ≤ x.length := by
  have h1 := sgn_len x
  have h2 := digs_le (x.drop (sgn x))
  rw [List.length_drop] at h2; omega
theorem frac_app (x y : List UInt8) (h : StopY y) {a : Nat} (ha : a ≤ x.length) : ((x ++ y)[a]? = some 46 ∧ 0 < digs ((x ++ y).drop (a + 1))) ↔ (x[a]? = some 46 ∧ 0 < digs (x.drop (a + 1))) := by
  have hg := (get_app x y h ha).1
  constructor
  · rintro ⟨h1, h2⟩
    have h3 := hg.1 h1
    have hlt := (List.getElem?_eq_some_iff.1 h3).1
    rw [drop_app x y (by omega), digs_app _ y h] at h2
    exact ⟨h3, h2⟩
  · rintro ⟨h1, h2⟩
    have hlt := (List.getElem?_eq_some_iff.1 h1).1
    rw [drop_app x y (by omega), digs_app _ y h]
    exact ⟨hg.2 h1, h2⟩
theorem body_app (x y : List UInt8) (h : StopY y) : bodyLen (x ++ y) = bodyLen x := by
  unfold bodyLen
  simp only [sgn_app x y h, drop_app x y (sgn_len x), digs_app _ y h]
  have hf := frac_app x y h (int_len x)
  by_cases hc : x[sgn x + digs (x.drop (sgn x))]? = some 46 ∧ 0 < digs (x.drop (sgn x + digs (x.drop (sgn x)) + 1))
  · have hlt := (List.getElem?_eq_some_iff.1 hc.1).1
    rw [if_pos hc, if_pos (hf.2 hc), drop_app x y (by omega), digs_app _ y h]
  · rw [if_neg hc, if_neg (fun h' => hc (hf.1 h'))]
theorem some_app (x y : List UInt8) (h : StopY y) : some_ (x ++ y) = some_ x := by
  unfold some_
  simp only [sgn_app x y h, drop_app x y (sgn_len x), digs_app _ y h]
  rw [Bool.eq_iff_iff, decide_eq_true_iff, decide_eq_true_iff, frac_app x y h (int_len x)]
theorem body_len (x : List UInt8) : bodyLen x ≤ x.length := by
  unfold bodyLen
  simp only
  split
  · rename_i hc
    have hlt := (List.getElem?_eq_some_iff.1 hc.1).1
    have := digs_le (x.drop (sgn x + digs (x.drop (sgn x)) + 1))
    rw [List.length_drop] at this; omega
  · exact int_len x
theorem len_app (x y : List UInt8) (h : StopY y) : lenP (x ++ y) = lenP x := by
  unfold lenP
  rw [some_app x y h]
  split
  · rfl
  simp only [body_app x y h]
  have hb := body_len x
  have hg := (get_app x y h hb).2
  rw [hg]
  by_cases he : isE x[bodyLen x]? = true
  · have hlt : bodyLen x < x.length := by
      by_cases hl : bodyLen x < x.length
      · exact hl
      · rw [List.getElem?_eq_none (by omega)] at he; cases he
    rw [drop_app x y (by omega), exp_app _ y h]
  · rw [if_neg (fun h' => he h'.1), if_neg (fun h' => he h'.1)]
theorem numU_byte {c : Int} (h0 : 0 ≤ c) (h1 : c < 128) : numU (Tk.byteOf c) = numB c := by
  have : ∀ k : Fin 128, numU (Tk.byteOf (k.val : Int)) = numB (k.val : Int) := by decide +kernel
  have h := this ⟨c.toNat, by omega⟩
  have e : ((c.toNat : Nat) : Int) = c := by omega
  simp only [e] at h; exact h
theorem ascii_num (r : List Int) (hr : ∀ c ∈ r, 0 ≤ c) : ∃ y, asciiT r = numText r ++ y ∧ StopY y := by
  induction r with
  | nil => exact ⟨[], rfl, fun b t h => by cases h⟩
  | cons c r ih =>
    obtain ⟨y, h1, h2⟩ := ih (fun d hd => hr d (by simp [hd]))
    have hc := hr c (by simp)
    unfold asciiT numText at *
    cases hb : numB c with
    | true =>
      have hlt : c < 128 := by unfold numB at hb; simp at hb; omega
      have e1 : (c :: r).takeWhile (fun c => decide (c < 128)) = c :: r.takeWhile (fun c => decide (c < 128)) := by rw [List.takeWhile_cons]; simp [hlt]
      have e2 : (c :: r).takeWhile numB = c :: r.takeWhile numB := by rw [List.takeWhile_cons, hb]; rfl
      rw [e1, e2, List.map_cons, List.map_cons, h1]
      exact ⟨y, rfl, h2⟩
    | false =>
      have e2 : (c :: r).takeWhile numB = [] := by rw [List.takeWhile_cons, hb]; rfl
      rw [e2]
      refine ⟨_, (List.nil_append _).symm, ?_⟩
      intro b t hbt
      by_cases hlt : c < 128
      · have e1 : (c :: r).takeWhile (fun c => decide (c < 128)) = c :: r.takeWhile (fun c => decide (c < 128)) := by rw [List.takeWhile_cons]; simp [hlt]
        rw [e1, List.map_cons] at hbt
        injection hbt with e1 e2
        rw [← e1, numU_byte hc hlt, hb]
      · have e1 : (c :: r).takeWhile (fun c => decide (c < 128)) = [] := by rw [List.takeWhile_cons]; simp [hlt]
        rw [e1] at hbt
        cases hbt
theorem len_ascii (r : List Int) (hr : ∀ c ∈ r, 0 ≤ c) : lenP (asciiT r) = lenP (numText r) ∧ (asciiT r).take (lenP (numText r)) = (numText r).take (lenP (numText r)) := by
  obtain ⟨y, h1, h2⟩ := ascii_num r hr
  refine ⟨by rw [h1, len_app _ y h2], ?_⟩
  rw [h1, List.take_append_of_le_length]
  unfold lenP
  split
  · exact Nat.zero_le _
  simp only
  have hb := body_len (numText r)
  split
  · rename_i hc
    have hlt : bodyLen (numText r) < (numText r).length := by
      by_cases hl : bodyLen (numText r) < (numText r).length
      · exact hl
      · rw [List.getElem?_eq_none (by omega)] at hc; simp [isE] at hc
    have h3 : expLen ((numText r).drop (bodyLen (numText r) + 1)) ≤ ((numText r).drop (bodyLen (numText r) + 1)).length := by
      unfold expLen
      split
      · exact int_len _
      · exact Nat.zero_le _
    rw [List.length_drop] at h3; omega
  · exact hb
/-- may a decimal begin with that? -/
def numStart (c : Int) : Bool := decide (c = 43 ∨ c = 45 ∨ c = 46 ∨ (48 ≤ c ∧ c ≤ 57))
theorem num_none {r : List Int} (hr : ∀ c ∈ r, 0 ≤ c) (h : numStart (pk r 0) = false) : lenP (numText r) = 0 := by
  cases r with
  | nil => rfl
  | cons c r =>
    rw [pk_cons0] at h
    have hc := hr c (by simp)
    have hx : ∀ b t, numText (c :: r) = b :: t → isD b = false ∧ b.toNat ≠ 43 ∧ b.toNat ≠ 45 ∧ b.toNat ≠ 46 := by
      intro b t hbt
      unfold numText at hbt
      rw [List.takeWhile_cons] at hbt
      split at hbt
      · rename_i hb
        rw [List.map_cons] at hbt
        injection hbt with e1 e2
        unfold numStart at h
        simp at h
        have hlt : c < 128 := by unfold numB at hb; simp at hb; omega
        have hn : (b.toNat : Int) = c := by
          rw [← e1]; unfold Tk.byteOf; rw [UInt8.toNat_ofNat']; omega
        refine ⟨?_, by omega, by omega, by omega⟩
        unfold isD; simp; omega
      · cases hbt
    generalize numText (c :: r) = x at hx
    cases x with
    | nil => rfl
    | cons b t =>
      obtain ⟨h1, h2, h3, h4⟩ := hx b t rfl
      have hs : sgn (b :: t) = 0 := by show (if _ then 1 else 0) = 0; rw [if_neg (by omega)]
      have hd : digs (b :: t) = 0 := by unfold digs; rw [List.takeWhile_cons, if_neg (by simp [h1])]; rfl
      unfold lenP
      rw [if_pos]
      unfold some_
      simp only [hs, List.drop_zero, hd]
      simp
      intro hb; subst hb; exact absurd rfl h4
theorem number_none {r : List Int} (h : lenP (numText r) = 0) : numberT r = none := by unfold numberT; simp only [h, if_pos]
end Np
end Go.Proofs.YthkagpefgkpgeaaGreatDoor
/- Layer 3: plain laws of the scanner's model: how many tokens there are, what each may be. No program in sight. -/
set_option linter.unusedVariables false
set_option linter.unusedSimpArgs false
namespace Go.Proofs.YthkagpefgkpgeaaGreatDoor
open Go.RowKit Rn Tk
theorem spaces_true {r : List Int} (h : (spacesT r).1 = true) : (spacesT r).2.length < r.length := by
  fun_induction spacesT r with
  | case1 r h1 ih => exact Nat.lt_of_le_of_lt (spaces_len _) (tail_lt (white_ne h1))
  | case2 r h1 h2 ih =>
    have h3 := skipC_len r.tail.tail
    have h4 : r.tail.tail.length ≤ r.length := by simp; omega
    have := ih h; omega
  | case3 r => cases h
theorem scan_len (r : List Int) : (scanT r).length ≤ r.length := by
  have key : ∀ n, ∀ r : List Int, r.length ≤ n → (scanT r).length ≤ r.length := by
    intro n
    induction n with
    | zero =>
      intro r h
      have : r = [] := List.eq_nil_of_length_eq_zero (by omega)
      subst this; rw [scanT_nil]; exact Nat.le_refl _
    | succ n ih =>
      intro r hr
      have h2 := spaces_len r
      have h3 := fun h => spaces_true (r := r) h
      by_cases h : (spacesT r).2 = []
      · rw [scanT_end h]
        cases hb : (spacesT r).1 with
        | true => have := h3 hb; simp; omega
        | false => simp
      · have h1 := next_lt h
        have := ih (nextT (spacesT r).2).2 (by omega)
        rw [scanT_step h, List.length_append, List.length_cons]
        cases hb : (spacesT r).1 with
        | true => have := h3 hb; simp; omega
        | false => simp; omega
  exact key _ r (Nat.le_refl _)
/-- a token may be -/
def TokOk (t : Tok) : Prop :=
  1 ≤ t.kind ∧ t.kind ≤ 16 ∧ ((2 ≤ t.kind ∧ t.kind ≤ 5 ∨ t.kind = 10 ∨ 11 ≤ t.kind ∧ t.kind ≤ 13) → t.text ≠ []) ∧
  (¬ (2 ≤ t.kind ∧ t.kind ≤ 5 ∨ t.kind = 10 ∨ 11 ≤ t.kind ∧ t.kind ≤ 13) → t.kind ≠ 6 → t.kind ≠ 7 → t.text = []) ∧ (t.n ≠ 0 → 8 ≤ t.kind ∧ t.kind ≤ 10)
def headK (l : List Tok) : Nat := match l with
  | [] => 0
  | t :: _ => t.kind
def chainOk : List Tok → Prop
  | [] => True
  | t :: l => TokOk t ∧ (t.kind = 1 → headK l ≠ 1) ∧ (t.kind = 7 → headK l = 1) ∧ chainOk l
theorem write_ne {l : List Int} (h : l ≠ []) : writeP l ≠ [] := by
  obtain ⟨c, r, rfl⟩ := List.exists_cons_of_ne_nil h
  have e : writeP (c :: r) = Lib.encodeRune c ++ writeP r := by simp [writeP]
  rw [e]; exact enc_ne c _
theorem name_ne {r : List Int} (h : esc r = true ∨ withinB (pk r 0) = true) : writeP (nameT r).1 ≠ [] := write_ne (name_some h).2
theorem quote_bad (e : Int) (r : List Int) (h : (quoteT e r).2.1 = true) : pk (quoteT e r).2.2 0 = 10 := by
  fun_induction quoteT e r with
  | case1 => cases h
  | case2 => rfl
  | case3 t h => cases h
  | case4 c t h h2 h3 ih => exact ih h
  | case5 t h h2 h3 ih => exact ih h
  | case6 c t h h2 h3 h4 ih => exact ih h
theorem sign_ok (c : Int) : TokOk (signT c) ∧ (signT c).kind ≠ 1 ∧ (signT c).kind ≠ 7 := by
  have hk : (11 ≤ signK c ∧ signK c ≤ 16) := by unfold signK; (repeat' split) <;> omega
  have hw := write_ne (l := [c]) (by simp)
  unfold TokOk signT
  simp only
  refine ⟨⟨by omega, by omega, fun h => ?_, fun h _ _ => ?_, fun h => absurd rfl h⟩, by omega, by omega⟩
  · rw [if_pos (by omega)]; exact hw
  · rw [if_neg (by omega)]
theorem number_ok {r : List Int} {x : Tok × List Int} (h : numberT r = some x) : TokOk x.1 ∧ x.1.kind ≠ 1 ∧ x.1.kind ≠ 7 := by
  unfold numberT at h
  simp only [] at h
  split at h
  · cases h
  · split at h
    · rename_i hb
      cases h
      exact ⟨⟨by simp, by simp, fun _ => name_ne (beg_first hb), fun h => absurd (.inr (.inl rfl)) h, fun _ => by simp⟩, by simp, by simp⟩
    · split at h
      · cases h; exact ⟨⟨by simp, by simp, fun h => by simp at h, fun _ _ _ => rfl, fun _ => by simp⟩, by simp, by simp⟩
      · cases h; exact ⟨⟨by simp, by simp, fun h => by simp at h, fun _ _ _ => rfl, fun _ => by simp⟩, by simp, by simp⟩
theorem next_ok (r : List Int) : TokOk (nextT r).1 ∧ (nextT r).1.kind ≠ 1 ∧ ((nextT r).1.kind = 7 → whiteB (pk (nextT r).2 0) = true) := by
  unfold nextT
  simp only []
  split
  · by_cases hb : (quoteT (pk r 0) r.tail).2.1 = true
    · simp only [hb, if_true]
      exact ⟨⟨by simp, by simp, fun h => by simp at h, fun _ _ h => by simp at h, fun h => absurd rfl h⟩, by simp, fun _ => by rw [quote_bad _ _ hb]; decide⟩
    · simp only [hb, if_neg hb]
      exact ⟨⟨by simp, by simp, fun h => by simp at h, fun _ h _ => by simp at h, fun h => absurd rfl h⟩, by simp, fun h => by simp at h⟩
  · split
    · rename_i hc
      have hw : esc r.tail = true ∨ withinB (pk r.tail 0) = true := by
        rw [pk_tail]
        rcases hx : esc r.tail with _ | _
        · right; have := hc.2; rw [hx, Bool.or_false] at this; exact this
        · exact .inl rfl
      exact ⟨⟨by simp, by simp, fun _ => name_ne hw, fun h => by simp at h, fun h => absurd rfl h⟩, by simp, fun h => by simp at h⟩
    · split
      · rename_i x hx
        have := number_ok hx
        exact ⟨this.1, this.2.1, fun h => absurd h this.2.2⟩
      · split
        · rename_i hc
          exact ⟨⟨by simp, by simp, fun _ => name_ne (beg_first hc.2), fun h => by simp at h, fun h => absurd rfl h⟩, by simp, fun h => by simp at h⟩
        · split
          · rename_i hb
            have hn := name_ne (beg_first hb)
            split
            · exact ⟨⟨by simp, by simp, fun _ => hn, fun h => by simp at h, fun h => absurd rfl h⟩, by simp, fun h => by simp at h⟩
            · exact ⟨⟨by simp, by simp, fun _ => hn, fun h => by simp at h, fun h => absurd rfl h⟩, by simp, fun h => by simp at h⟩
          · have := sign_ok (pk r 0)
            exact ⟨this.1, this.2.1, fun h => absurd h this.2.2⟩
theorem space_ok : TokOk ⟨1, [], 0⟩ := ⟨by simp, by simp, fun h => by simp at h, fun _ _ _ => rfl, fun h => absurd rfl h⟩
theorem scan_head (r : List Int) : (spacesT r).1 = true → headK (scanT r) = 1 := by
  intro h
  by_cases he : (spacesT r).2 = []
  · rw [scanT_end he, if_pos h]; rfl
  · rw [scanT_step he, if_pos h]; rfl
theorem scan_chain (r : List Int) : chainOk (scanT r) := by
  have key : ∀ n, ∀ r : List Int, r.length ≤ n → chainOk (scanT r) := by
    intro n
    induction n with
    | zero =>
      intro r h
      have : r = [] := List.eq_nil_of_length_eq_zero (by omega)
      subst this; rw [scanT_nil]; trivial
    | succ n ih =>
      intro r hr
      have h2 := spaces_len r
      by_cases h : (spacesT r).2 = []
      · rw [scanT_end h]
        cases hb : (spacesT r).1 with
        | true => exact ⟨space_ok, fun _ => by simp [headK], fun h => by simp at h, trivial⟩
        | false => exact trivial
      · have h1 := next_lt h
        have hi := ih (nextT (spacesT r).2).2 (by omega)
        obtain ⟨o1, o2, o3⟩ := next_ok (spacesT r).2
        have tail : chainOk ((nextT (spacesT r).2).1 :: scanT (nextT (spacesT r).2).2) :=
          ⟨o1, fun h => absurd h o2, fun h => scan_head _ (by rw [spacesT_white (o3 h)]), hi⟩
        rw [scanT_step h]
        cases hb : (spacesT r).1 with
        | true => exact ⟨space_ok, fun _ => o2, fun h => by simp at h, tail⟩
        | false => exact tail
  exact key _ r (Nat.le_refl _)
theorem chain_at : ∀ (L : List Tok) (i : Nat) (t : Tok), chainOk L → L[i]? = some t → TokOk t ∧ (t.kind = 1 → headK (L.drop (i + 1)) ≠ 1) ∧ (t.kind = 7 → headK (L.drop (i + 1)) = 1)
  | [], i, t, _, h => by simp at h
  | s :: l, 0, t, hc, h => by
    simp at h; subst h
    exact ⟨hc.1, hc.2.1, hc.2.2.1⟩
  | s :: l, i + 1, t, hc, h => chain_at l i t hc.2.2.2 (by simpa using h)
theorem head_at (L : List Tok) (i : Nat) : headK (L.drop i) = ((L[i]?).map (·.kind)).getD 0 := by
  rw [← List.head?_drop]
  cases L.drop i <;> rfl
end Go.Proofs.YthkagpefgkpgeaaGreatDoor
/- What the walks of layer 3's laws have in common. -/
set_option linter.unusedVariables false
set_option linter.unusedSimpArgs false
namespace Go.Proofs.YthkagpefgkpgeaaGreatDoor
open Go.RowKit Rn Tk
theorem toks_reads {w : World} {b n : Nat} {v : Value} {l : List Tok} (h : w.ownsRow b 31 3 v n (toksV l)) : ∃ A c, v = .slice A n c ∧ ReadsT w w.heap.size A n (l.map Tok.g) := by
  obtain ⟨A, c, rfl, _, _⟩ := own_form h
  exact ⟨A, c, rfl, Reads.of_own h⟩
theorem ReadsT.below {w w' : World} {A : Option Addr} {n : Nat} {l : List GTok} (h : ReadsT w w.heap.size A n l) (hb : Below w.heap.size w w') : ReadsT w' w'.heap.size A n l := (Reads.below h hb).more hb.size
/-- []byte(s): a new block that reads as the text. -/
theorem conv_text {P : Program} {src dst e : TypeId} (hs : P.underlying src = some .string) (hd : P.underlying dst = some (.slice e)) (he : P.underlying e = some (.int .u8)) (w : World) (s : ByteArray) (l : List UInt8) (h : s = bytesOf l) (hl : l.length ≤ maxLen) :
    ∃ c W1, (convert src dst (.string s)).run P w = .ok (.slice (some ⟨w.heap.size, 0, none⟩) l.length c) W1 ∧ l.length ≤ c ∧ c ≤ maxLen ∧ Below w.heap.size w W1 ∧ Reads W1 W1.heap.size 1 (some ⟨w.heap.size, 0, none⟩) l.length (l.map b8) := by
  subst h
  have hsz := bytesOf_size l
  obtain ⟨c, W1, h1, h2, h3, h4⟩ := conv_bytes hs hd he w (bytesOf l)
  have hc : c ≤ maxLen := by
    have h5 := run_bytes_of_string w src dst e (bytesOf l) hs hd he
    rw [h1] at h5
    injection h5 with h5 _
    injection h5 with _ _ h5
    rw [h5]; exact grownCap_le_maxLen _ _ _ _ (by rw [hsz]; exact hl)
  rw [hsz] at h1 h2
  rw [bytesOf_list] at h4
  have := h4.reads (B := W1.heap.size) h4.1
  rw [List.length_map] at this
  exact ⟨c, W1, h1, h2, hc, h3, this⟩
/-- tokens of a literal -/
theorem lit_tok (w : World) (t : GTok) (cs : Array Value) (e : TypeId) (h : cs.toList = cells1 t) : ReadsT (w.alloc (.cells cs e)) (w.alloc (.cells cs e)).heap.size (some ⟨w.heap.size, 0, none⟩) 1 [t] := by
  have r := RowAt.new w e cs
  rw [h] at r
  refine ⟨by rw [cellsG_len]; rfl, fun _ => ⟨w.heap.size, 0, rfl, r.1, fun j u hu => ?_⟩⟩
  have hu' : (cells1 t)[j]? = some u := by simpa [cellsG] using hu
  rw [Nat.zero_add]; exact (r.2 j u hu').1
end Go.Proofs.YthkagpefgkpgeaaGreatDoor
/- The reference's Bytes and Write of layer 2 are walked; Write answers what runes.Write answers. -/
set_option linter.unusedVariables false
set_option linter.unusedSimpArgs false
namespace Go.Proofs.YthkagpefgkpgeaaGreatDoor
open Go.RowKit Rn
theorem byte_info : (Tryz.prog.info? 5).map (fun i => (i.zero, i.size, i.bytes)) = some (some (.int .u8 0), 1, 1) := by kernel_rfl

theorem enc_cells (c : Int) : ((Lib.encodeRune c).map b8).toArray = ((Lib.encodeRuneZ c).map (fun x => Value.int .u8 x)).toArray := by
  rw [← runeCells_b8]; rfl
set_option maxRecDepth 100000 in
set_option maxHeartbeats 1000000 in
theorem ref_bytes (c : Int) (w : World) (hc : isB c = true) :
    Calls Tryz.prog 70 #[.int .i64 c] w fun e w' => e = .returned (.slice (some ⟨w.heap.size, 0, none⟩) (Lib.encodeRune c).length (Lib.encodeRune c).length) ∧ w' = w.alloc (.cells ((Lib.encodeRune c).map b8).toArray 5) := by
  have hc' : 0 ≤ c ∧ c ≤ 1114111 ∧ (c < 55296 ∨ 57343 < c) := by simpa [isB] using hc
  clear hc
  obtain ⟨h0, h1, h2⟩ := hc'
  have hl : (Lib.encodeRune c).length = (Lib.encodeRuneZ c).length := by simp [Lib.encodeRune]
  rw [hl]
  by_cases c1 : c < 128
  · have hz := Lib.hid (Lib.encodeRuneZ_one h0 (by omega : c ≤ 127))
    go_enter Tryz.func70, Tryz.ntmps70
    go_wp2
    go_ret
    rw [enc_cells, hz.out]
    exact ⟨rfl, rfl⟩
  · by_cases c2 : c < 2048
    · have hz := Lib.hid (Lib.encodeRuneZ_two (by omega : 128 ≤ c) (by omega))
      go_enter Tryz.func70, Tryz.ntmps70
      go_wp2
      go_ret
      rw [enc_cells, hz.out]
      exact ⟨rfl, rfl⟩
    · by_cases c3 : c < 65536
      · have hz := Lib.hid (Lib.encodeRuneZ_three (r := c) (by omega))
        go_enter Tryz.func70, Tryz.ntmps70
        go_wp2
        go_ret
        rw [enc_cells, hz.out]
        exact ⟨rfl, rfl⟩
      · have hz := Lib.hid (Lib.encodeRuneZ_four (by omega : 65536 ≤ c) h1)
        go_enter Tryz.func70, Tryz.ntmps70
        go_wp2
        go_ret
        rw [enc_cells, hz.out]
        exact ⟨rfl, rfl⟩

theorem enc_row (w : World) (c : Int) : ∀ j u, ((Lib.encodeRune c).map b8)[j]? = some u → (w.alloc (.cells ((Lib.encodeRune c).map b8).toArray 5)).cell? ((⟨w.heap.size, 0, none⟩ : Addr).add j) = some u := by
  refine World.news_of_block (t := 5) (fr := (0, 0)) (cs := ((Lib.encodeRune c).map b8).toArray) ?_ 
  exact heap_alloc_new w _

set_option maxRecDepth 100000 in
set_option maxHeartbeats 1000000 in
theorem ref_write (l : List Int) (A : Option Addr) (n cap : Nat) (w : World) (hr : Reads w w.heap.size 1 A n (l.map n64)) (hl : ∀ c ∈ l, -2147483648 ≤ c ∧ c ≤ 2147483647) (hn : n ≤ 1000000) :
    Calls Tryz.prog 54 #[.slice A n cap] w fun e w' => ∃ v, e = .returned v ∧ w'.ownsRow w.heap.size 5 1 v (writeP l).length ((writeP l).map b8) ∧ Below w.heap.size w w' := by
  have hlen : l.length = n := by simpa using hr.len
  obtain ⟨i0, hi, hz0, hz1, hz2⟩ := info_parts byte_info
  have Hlen := Lib.hid hlen
  have Hl := Lib.hid hl
  clear hlen hl
  go_enter Tryz.func54, Tryz.ntmps54
  go_wp2
  go_loopw [3, 4] (fun o i wr => ∃ k : Nat, k ≤ n ∧ i = .int .i64 k ∧ wr.ownsRow w.heap.size 5 1 o (writeP (l.take k)).length ((writeP (l.take k)).map b8) ∧ Below w.heap.size w wr) (fun _ i _ => n - (intOf i).toNat)
  case atStart => exact ⟨0, by omega, rfl, World.ownsRow_nil _ _ _ _, Below.refl _ _⟩
  case round =>
    obtain ⟨k, hk, rfl, hown, hb⟩ := hrel
    have hs2 := hb.size
    by_cases hlt : k < n
    · obtain ⟨b, off, u, hA, hbw, hx, hcell0⟩ := hr.at_ hlt
      subst hA
      obtain ⟨c, hc⟩ : ∃ c, l[k]? = some c := ⟨_, List.getElem?_eq_getElem (by rw [Hlen.out]; omega)⟩
      rw [List.getElem?_map, hc] at hx
      obtain rfl : u = n64 c := by simpa using hx.symm
      unfold n64 at hcell0
      have hcell : wr.cell? ⟨b, off + k, none⟩ = some (.int .i64 c) := (hb.cell (p := ⟨b, off + k, none⟩) hbw).trans hcell0
      have hcr := Hl.out c (List.mem_of_getElem? hc)
      have hwl := writeP_len (l.take k)
      rw [List.length_take] at hwl
      have hst : writeP (l.take (k + 1)) = writeP (l.take k) ++ Lib.encodeRune c := by rw [take_snoc l k c hc, writeP_snoc]
      have hel := encode_len c
      have hel2 := encode_len 65533
      have Hst := Lib.hid hst
      have Hc := Lib.hid hc
      clear hst hc hx hcell0
      by_cases his : isB c = true
      · have Hrow := Lib.hid (enc_row wr c)
        have Hby := Lib.hid (ref_bytes c wr his)
        go_wp2_with (first | (go_at_call 69; refine (ref_is _ _ (by omega) (by omega)).mono ?_; rintro e w' ⟨rfl, rfl⟩; rw [his]) | (go_at_call 70; refine (Hby.out).mono ?_; rintro e w2 ⟨rfl, rfl⟩) | (at_builtin; refine wpList_append_own _ rfl _ _ 22 rfl w.heap.size 5 i0 (.int .u8 0) 1 1 Tryz.underlying22 hi hz0 hz1 hz2 rfl (by decide) _ _ _ rfl (hown.alloc _) ⟨wr.heap.size, 0, none⟩ _ _ ((Lib.encodeRune c).map b8) rfl (by simp) ?c1 ?c2 ?c3 ?c4 ?c5 ?_))
        case c1 => exact Hrow.out
        case c2 => intro u hu; simp at hu; obtain ⟨x, _, rfl⟩ := hu; rfl
        case c3 => unfold maxLen; omega
        case c4 => omega
        case c5 => simp; omega
        intro v' w2 hown' hgrow _
        have hbn := push_below hb hs2 hown hgrow
        rw [← List.map_append, ← List.length_append, ← Hst.out] at hown'
        clear hgrow hown hb
        go_wp2
        go_roundw
        case rel => exact ⟨k + 1, by omega, by go_num, hown', hbn⟩
        case measure => simp [intOf]; omega
      · have his' : isB c = false := by simpa using his
        have Hbad := Lib.hid (encode_bad c his')
        have Hrow := Lib.hid (enc_row wr 65533)
        have Hby := Lib.hid (ref_bytes 65533 wr (by decide))
        go_wp2_with (first | (go_at_call 69; refine (ref_is _ _ (by omega) (by omega)).mono ?_; rintro e w' ⟨rfl, rfl⟩; rw [his']) | (go_at_call 70; refine (Hby.out).mono ?_; rintro e w2 ⟨rfl, rfl⟩) | (at_builtin; refine wpList_append_own _ rfl _ _ 22 rfl w.heap.size 5 i0 (.int .u8 0) 1 1 Tryz.underlying22 hi hz0 hz1 hz2 rfl (by decide) _ _ _ rfl (hown.alloc _) ⟨wr.heap.size, 0, none⟩ _ _ ((Lib.encodeRune 65533).map b8) rfl (by simp) ?d1 ?d2 ?d3 ?d4 ?d5 ?_))
        case d1 => exact Hrow.out
        case d2 => intro u hu; simp at hu; obtain ⟨x, _, rfl⟩ := hu; rfl
        case d3 => unfold maxLen; omega
        case d4 => omega
        case d5 => simp; omega
        intro v' w2 hown' hgrow _
        have hbn := push_below hb hs2 hown hgrow
        rw [← List.map_append, ← List.length_append, ← Hbad.out, ← Hst.out] at hown'
        clear hgrow hown hb
        go_wp2
        go_roundw
        case rel => exact ⟨k + 1, by omega, by go_num, hown', hbn⟩
        case measure => simp [intOf]; omega
    · obtain rfl : k = n := by omega
      go_wp2
      go_ret
      rw [List.take_of_length_le (by rw [Hlen.out]; omega)] at hown
      exact ⟨_, rfl, hown, hb⟩
end Go.Proofs.YthkagpefgkpgeaaGreatDoor
/- Layer 3, the document: a character of a row, an escape, the begin of a name, and what an escape means, are walked. -/
set_option linter.unusedVariables false
set_option linter.unusedSimpArgs false
namespace Go.Proofs.YthkagpefgkpgeaaGreatDoor
open Go.RowKit Rn Tk
/-- the document's characters in memory, below block B -/
structure RL (w : World) (B : Nat) (A : Option Addr) (n cap : Nat) (l : List Int) : Prop where
  rd : Reads w B 1 A n (l.map n64)
  hB : B ≤ w.heap.size
  hn : n ≤ 1000000
  hc : n ≤ cap
  hm : cap ≤ maxLen
  ch : Chars l
section
variable {w w' : World} {B n cap : Nat} {A : Option Addr} {l : List Int}
theorem RL.len (h : RL w B A n cap l) : l.length = n := by simpa using h.rd.len
theorem RL.mv (h : RL w B A n cap l) (hb : Below w.heap.size w w') : RL w' B A n cap l :=
  ⟨h.rd.keep fun p hp => hb.cell (Nat.lt_of_lt_of_le hp h.hB), Nat.le_trans h.hB hb.size, h.hn, h.hc, h.hm, h.ch⟩
theorem RL.range (h : RL w B A n cap l) (m : Nat) : -1 ≤ pk l m ∧ pk l m ≤ 1114111 := pk_range h.ch m
theorem RL.cell (h : RL w B A n cap l) {m : Nat} (hm : m < n) : ∃ b off, A = some ⟨b, off, none⟩ ∧ w.cell? ⟨b, off + m, none⟩ = some (.int .i64 (pk l m)) := by
  obtain ⟨b, off, u, hA, _, hu, hcell⟩ := h.rd.at_ hm
  refine ⟨b, off, hA, ?_⟩
  have hl := h.len
  rw [List.getElem?_map, List.getElem?_eq_getElem (by omega)] at hu
  simp at hu
  rw [hcell, ← hu, pk, List.getElem?_eq_getElem (by omega)]; rfl
end
set_option maxRecDepth 100000 in
set_option maxHeartbeats 1000000 in
theorem rt_at {w : World} {B n cap : Nat} {A : Option Addr} {l : List Int} (h : RL w B A n cap l) (m : Nat) (i : Int) (hi : i = m) (hm : m ≤ 2000000) :
    Calls Tryz.prog 26 #[.slice A n cap, .int .i64 i] w fun e w' => e = .returned (.int .i64 (pk l m)) ∧ w = w' := by
  have hn := h.hn
  have hl := h.len
  by_cases hlt : m < n
  · obtain ⟨b, off, rfl, hcell⟩ := h.cell hlt
    have hr := h.range m
    have x1 : (0 : Int) ≤ i := by omega
    have x2 : i < (n : Int) := by omega
    have x3 : i.toNat = m := by omega
    have x4 : decide (i < (n : Int)) = true := by simp; omega
    generalize pk l m = c at *
    clear hi
    go_enter Tryz.func26, Tryz.ntmps26
    go_wp2
    go_ret
    exact ⟨rfl, rfl⟩
  · have hv : pk l m = -1 := by rw [pk, List.getElem?_eq_none (by omega)]; rfl
    rw [hv]
    have x4 : decide (i < (n : Int)) = false := by simp; omega
    clear hi
    go_enter Tryz.func26, Tryz.ntmps26
    go_wp2
    go_ret
    exact ⟨rfl, rfl⟩
theorem rt_white (c : Int) (w : World) : Calls Tryz.prog 25 #[.int .i64 c] w fun e w' => e = .returned (.bool (whiteB c)) ∧ w = w' := by
  go_enter Tryz.func25, Tryz.ntmps25
  go_wp2
  all_goals (go_ret; refine ⟨ret_bool ?_, rfl⟩)
  all_goals (first | rfl | (unfold whiteB; rw [Bool.eq_iff_iff]; simp [*]; done) | (unfold whiteB; rw [Bool.eq_iff_iff]; simp [*]; omega))
set_option maxRecDepth 100000 in
set_option maxHeartbeats 1000000 in
theorem rt_escape {w : World} {B n cap : Nat} {A : Option Addr} {l : List Int} (h : RL w B A n cap l) (m : Nat) (i : Int) (hi : i = m) (hm : m ≤ 1500000) :
    Calls Tryz.prog 29 #[.slice A n cap, .int .i64 i] w fun e w' => e = .returned (.bool (esc (l.drop m))) ∧ w = w' := by
  have h0 := rt_at h m i hi (by omega)
  have h1 := rt_at h (m + 1) (i + 1) (by omega) (by omega)
  have hv : esc (l.drop m) = decide (pk l m = 92 ∧ 0 ≤ pk l (m + 1) ∧ pk l (m + 1) ≠ 10) := by unfold esc; rw [pk_drop, pk_drop, Nat.add_zero]
  rw [hv]
  clear hv
  generalize pk l m = c0 at *
  generalize pk l (m + 1) = c1 at *
  have x1 : (0 : Int) ≤ i := by omega
  have x2 : i ≤ 1500000 := by omega
  clear hi
  obtain ⟨q0, t0⟩ : ∃ q, (c0 == 92) = q := ⟨_, rfl⟩
  obtain ⟨q1, t1⟩ : ∃ q, decide (0 ≤ c1) = q := ⟨_, rfl⟩
  have hfin : decide (c0 = 92 ∧ 0 ≤ c1 ∧ c1 ≠ 10) = (q0 && (q1 && (c1 != 10))) := by rw [← t0, ← t1, Bool.eq_iff_iff]; simp
  rw [hfin]
  clear hfin
  cases q0 with
  | false =>
    go_enter Tryz.func29, Tryz.ntmps29
    go_wp2_with (go_at_call 26; refine h0.mono ?_; rintro e w' ⟨rfl, rfl⟩)
    go_ret
    exact ⟨rfl, rfl⟩
  | true =>
    cases q1 with
    | false =>
      go_enter Tryz.func29, Tryz.ntmps29
      go_wp2_with (go_at_call 26; (first | with_reducible refine h0.mono ?_ | with_reducible refine h1.mono ?_); rintro e w' ⟨rfl, rfl⟩)
      go_ret
      exact ⟨rfl, rfl⟩
    | true =>
      go_enter Tryz.func29, Tryz.ntmps29
      go_wp2_with (go_at_call 26; (first | with_reducible refine h0.mono ?_ | with_reducible refine h1.mono ?_); rintro e w' ⟨rfl, rfl⟩)
      go_ret
      exact ⟨rfl, rfl⟩
set_option maxRecDepth 100000 in
set_option maxHeartbeats 1000000 in
theorem rt_may {w : World} {B n cap : Nat} {A : Option Addr} {l : List Int} (h : RL w B A n cap l) (m : Nat) (i : Int) (hi : i = m) (hm : m ≤ 1400000) :
    Calls Tryz.prog 53 #[.slice A n cap, .int .i64 i] w fun e w' => e = .returned (.bool (may (l.drop m))) ∧ w = w' := by
  have h0 := rt_at h m i hi (by omega)
  have h1 := rt_escape h m i hi (by omega)
  have hr := h.range m
  have hv : may (l.drop m) = (beginsB (pk l m) || esc (l.drop m)) := by unfold may; rw [pk_drop, Nat.add_zero]
  rw [hv]
  clear hv
  generalize pk l m = c0 at *
  generalize esc (l.drop m) = e1 at *
  have hb := ref_begins c0 w (by omega) (by omega)
  generalize beginsB c0 = b0 at *
  clear hi
  go_enter Tryz.func53, Tryz.ntmps53
  go_wp2_with (first | (go_at_call 26; refine h0.mono ?_; rintro e w' ⟨rfl, rfl⟩) | (go_at_call 29; refine h1.mono ?_; rintro e w' ⟨rfl, rfl⟩) | (go_at_call 50; refine hb.mono ?_; rintro e w' ⟨rfl, rfl⟩))
  all_goals (go_ret; refine ⟨ret_bool ?_, rfl⟩)
  all_goals (first | rfl | (rw [Bool.eq_iff_iff]; simp [*]; done) | (rw [Bool.eq_iff_iff]; simp [*]; omega))
set_option maxRecDepth 100000 in
set_option maxHeartbeats 1000000 in
theorem rt_begins {w : World} {B n cap : Nat} {A : Option Addr} {l : List Int} (h : RL w B A n cap l) (m : Nat) (i : Int) (hi : i = m) (hm : m ≤ 1300000) :
    Calls Tryz.prog 34 #[.slice A n cap, .int .i64 i] w fun e w' => e = .returned (.bool (beg (l.drop m))) ∧ w = w' := by
  have h0 := rt_at h m i hi (by omega)
  have h1 := rt_at h (m + 1) (i + 1) (by omega) (by omega)
  have h2 := rt_may h m i hi (by omega)
  have h3 := rt_may h (m + 1) (i + 1) (by omega) (by omega)
  have hv : beg (l.drop m) = (may (l.drop m) || (decide (pk l m = 45) && (may (l.drop (m + 1)) || decide (pk l (m + 1) = 45)))) := by unfold beg; rw [pk_drop, pk_drop, Nat.add_zero, List.tail_drop]
  rw [hv]
  clear hv
  generalize pk l m = c0 at *
  generalize pk l (m + 1) = c1 at *
  generalize may (l.drop m) = b0 at *
  generalize may (l.drop (m + 1)) = b1 at *
  have x1 : (0 : Int) ≤ i := by omega
  have x2 : i ≤ 1300000 := by omega
  clear hi
  obtain ⟨q0, t0⟩ : ∃ q, (c0 == 45) = q := ⟨_, rfl⟩
  have hfin : (b0 || (decide (c0 = 45) && (b1 || decide (c1 = 45)))) = (b0 || (q0 && (b1 || (c1 == 45)))) := by rw [← t0]; rfl
  rw [hfin]
  clear hfin
  cases b0 with
  | true =>
    go_enter Tryz.func34, Tryz.ntmps34
    go_wp2_with (first | (go_at_call 26; (first | with_reducible refine h0.mono ?_ | with_reducible refine h1.mono ?_); rintro e w' ⟨rfl, rfl⟩) | (go_at_call 53; (first | with_reducible refine h2.mono ?_ | with_reducible refine h3.mono ?_); rintro e w' ⟨rfl, rfl⟩))
    go_ret
    exact ⟨rfl, rfl⟩
  | false =>
    cases q0 with
    | false =>
      go_enter Tryz.func34, Tryz.ntmps34
      go_wp2_with (first | (go_at_call 26; (first | with_reducible refine h0.mono ?_ | with_reducible refine h1.mono ?_); rintro e w' ⟨rfl, rfl⟩) | (go_at_call 53; (first | with_reducible refine h2.mono ?_ | with_reducible refine h3.mono ?_); rintro e w' ⟨rfl, rfl⟩))
      go_ret
      exact ⟨rfl, rfl⟩
    | true =>
      cases b1 with
      | true =>
        go_enter Tryz.func34, Tryz.ntmps34
        go_wp2_with (first | (go_at_call 26; (first | with_reducible refine h0.mono ?_ | with_reducible refine h1.mono ?_); rintro e w' ⟨rfl, rfl⟩) | (go_at_call 53; (first | with_reducible refine h2.mono ?_ | with_reducible refine h3.mono ?_); rintro e w' ⟨rfl, rfl⟩))
        go_ret
        exact ⟨rfl, rfl⟩
      | false =>
        go_enter Tryz.func34, Tryz.ntmps34
        go_wp2_with (first | (go_at_call 26; (first | with_reducible refine h0.mono ?_ | with_reducible refine h1.mono ?_); rintro e w' ⟨rfl, rfl⟩) | (go_at_call 53; (first | with_reducible refine h2.mono ?_ | with_reducible refine h3.mono ?_); rintro e w' ⟨rfl, rfl⟩))
        go_ret
        exact ⟨rfl, rfl⟩
end Go.Proofs.YthkagpefgkpgeaaGreatDoor
/- Layer 3, the document: what an escape means is walked. -/
set_option linter.unusedVariables false
set_option linter.unusedSimpArgs false
namespace Go.Proofs.YthkagpefgkpgeaaGreatDoor
open Go.RowKit Rn Tk
theorem pk0 (l : List Int) (j : Nat) : pk l j = pk (l.drop j) 0 := by rw [pk_drop]; rfl
theorem pk1 (l : List Int) (j : Nat) : pk l (j + 1) = pk (l.drop j) 1 := by rw [pk_drop]
set_option maxRecDepth 100000 in
set_option maxHeartbeats 1000000 in
theorem rt_meant {w : World} {B n cap : Nat} {A : Option Addr} {l : List Int} (h : RL w B A n cap l) (m : Nat) (i0 : Int) (hi0 : i0 = m) (hm : m + 1 < n) :
    Calls Tryz.prog 49 #[.slice A n cap, .int .i64 i0] w fun e w' => (∃ k' : Nat, m + 1 < k' ∧ k' ≤ n ∧ l.drop k' = (meantT (l.drop (m + 1))).2 ∧ e = .returned (.tuple #[.int .i64 (meantT (l.drop (m + 1))).1, .int .i64 (k' : Int)])) ∧ w = w' := by
  have hlen := h.len
  have hn := h.hn
  obtain ⟨M, hM⟩ : ∃ M, meantT (l.drop (m + 1)) = M := ⟨_, rfl⟩
  rw [hM]
  have HM := Lib.hid hM
  have y1 : (0 : Int) ≤ i0 := by omega
  have y2 : i0 ≤ 1000000 := by omega
  have Hi0 := Lib.hid hi0
  clear hM hi0
  go_enter Tryz.func49, Tryz.ntmps49
  go_upto_block 0 with (fail)
  go_cut [1, 6, 7] (fun z x y wx => ∃ (i N j : Nat), i ≤ 6 ∧ j ≤ n ∧ Hid (j = m + 1 + i) ∧ Hid (hexes 6 0 (l.drop (m + 1)) = (N, l.drop j)) ∧ N ≤ 16777215 ∧ (0 < i → 0 ≤ hexI (pk (l.drop (m + 1)) 0)) ∧ (i = 0 → hexI (pk (l.drop (m + 1)) 0) < 0) ∧ w = wx ∧ x = .int .i64 (N : Int) ∧ y = .int .i64 (i : Int) ∧ z = .int .i64 (j : Int))
  case first =>
    go_wp2_with fail
    go_loopw [1, 6, 7] (fun z x y wr => ∃ (i N j : Nat), i ≤ 6 ∧ j ≤ n ∧ Hid (j = m + 1 + i) ∧ Hid (hexes (6 - i) N (l.drop j) = hexes 6 0 (l.drop (m + 1))) ∧ N < 16 ^ i ∧ (0 < i → 0 ≤ hexI (pk (l.drop (m + 1)) 0)) ∧ w = wr ∧ x = .int .i64 (N : Int) ∧ y = .int .i64 (i : Int) ∧ z = .int .i64 (j : Int)) (fun _ _ y _ => 6 - (intOf y).toNat)
    case atStart =>
      have := Hi0.out
      exact ⟨0, 0, m + 1, by omega, by omega, rfl, rfl, by omega, by omega, rfl, rfl, rfl, congrArg (Value.int IntKind.i64) (by omega)⟩
    case round =>
      obtain ⟨i, N, j, hi, hjn, hj, hrun, hN, hpos, rfl, rfl, rfl, rfl⟩ := hrel
      by_cases hi6 : i < 6
      · have hp := rt_at h j j rfl (by omega)
        obtain ⟨c, hc⟩ : ∃ c, pk (l.drop j) 0 = c := ⟨_, rfl⟩
        rw [pk0, hc] at hp
        have hcr := h.range j
        rw [pk0, hc] at hcr
        have hxr := hexI_range c
        have hN5 : N < 1048576 := Nat.lt_of_lt_of_le hN (Nat.pow_le_pow_right (n := 16) (by omega) (show i ≤ 5 by omega))
        have hhx := fun w' => ref_hex c w' (by omega) (by omega)
        by_cases hx : 0 ≤ hexI c
        · have hjn : j < n := by
            have h48 := hexI_pos hx
            have := pk_pos (l := l.drop j) (m := 0) (by rw [hc]; omega)
            rw [List.length_drop] at this; omega
          have hfirst : 0 ≤ hexI (pk (l.drop (m + 1)) 0) := by
            by_cases h0 : i = 0
            · have : j = m + 1 := by have := hj.out; omega
              rw [← this, hc]; exact hx
            · exact hpos (by omega)
          have hnew : hexes (6 - (i + 1)) (16 * N + (hexI c).toNat) (l.drop (j + 1)) = hexes 6 0 (l.drop (m + 1)) := by
            rw [← hrun.out, show 6 - i = (6 - (i + 1)) + 1 by omega, hexes_yes (by rw [hc]; exact hx), hc, List.tail_drop]
          obtain ⟨x, hxe⟩ : ∃ x : Nat, hexI c = (x : Int) := ⟨(hexI c).toNat, by omega⟩
          have hxx : (hexI c).toNat = x := by omega
          rw [hxx] at hnew
          rw [hxe] at hhx
          have Hnew := Lib.hid hnew
          have hx15 : x ≤ 15 := by omega
          have hNn : 16 * N + x < 16 ^ (i + 1) := by rw [Nat.pow_succ]; omega
          have hdx : decide ((0 : Int) ≤ (x : Int)) = true := by simp
          clear hnew hxe hxx hx hc
          go_wp2_with (first | (go_at_call 26; with_reducible refine hp.mono ?_; rintro e w' ⟨rfl, rfl⟩) | (go_at_call 68; refine (hhx _).mono ?_; rintro e w' ⟨rfl, rfl⟩))
          go_roundw
          case rel => exact ⟨i + 1, 16 * N + x, j + 1, by omega, by omega, (by have := hj.out; show _ = _; omega), Hnew, hNn, fun _ => hfirst, trivial, congrArg (Value.int IntKind.i64) (by omega), congrArg (Value.int IntKind.i64) (by omega), congrArg (Value.int IntKind.i64) (by omega)⟩
          case measure => simp [intOf]; omega
        · have hneg : hexI c < 0 := by omega
          have hdx : decide ((0 : Int) ≤ hexI c) = false := by simpa using hneg
          have hend : hexes 6 0 (l.drop (m + 1)) = (N, l.drop j) := by rw [← hrun.out, hexes_no (by rw [hc]; exact hneg)]
          have Hend := Lib.hid hend
          have hN9 : N ≤ 16777215 := by omega
          have hz : i = 0 → hexI (pk (l.drop (m + 1)) 0) < 0 := by
            intro h0
            have : j = m + 1 := by have := hj.out; omega
            rw [← this, hc]; exact hneg
          clear hend hc
          go_wp2_with (first | (go_at_call 26; with_reducible refine hp.mono ?_; rintro e w' ⟨rfl, rfl⟩) | (go_at_call 68; refine (hhx _).mono ?_; rintro e w' ⟨rfl, rfl⟩))
          go_meet
          exact ⟨i, N, j, hi, hjn, hj, Hend, hN9, hpos, hz, rfl, rfl, rfl, rfl⟩
      · obtain rfl : i = 6 := by omega
        have hend : hexes 6 0 (l.drop (m + 1)) = (N, l.drop j) := by rw [← hrun.out]; rfl
        have Hend := Lib.hid hend
        have hN9 : N ≤ 16777215 := by omega
        clear hend
        go_wp2_with fail
        go_meet
        exact ⟨6, N, j, by omega, hjn, hj, Hend, hN9, hpos, by omega, rfl, rfl, rfl, rfl⟩
  case rest =>
    obtain ⟨i, N, j, hi, hjn, hj, Hend, hN, hpos, hz, rfl, rfl, rfl, rfl⟩ := hcut
    by_cases h0 : i = 0
    · obtain rfl : j = m + 1 := by have := hj.out; omega
      clear hj
      have hneg := hz h0
      have hm' : M = (pk (l.drop (m + 1)) 0, (l.drop (m + 1)).tail) := by rw [← HM.out]; unfold meantT; rw [if_pos hneg]
      have hbz : ((i : Int) == 0) = true := by simp; omega
      obtain ⟨b, off, rfl, hcell⟩ := h.cell hm
      rw [pk0] at hcell
      have hM1 : M.1 = pk (l.drop (m + 1)) 0 := by rw [hm']
      have hM2 : M.2 = l.drop (m + 2) := by rw [hm', List.tail_drop]
      have HM1 := Lib.hid hM1
      have HM2 := Lib.hid hM2
      have x1 : (0 : Int) ≤ ((m + 1 : Nat) : Int) := by omega
      have x2 : ((m + 1 : Nat) : Int) < (n : Int) := by omega
      have x3 : (((m + 1 : Nat) : Int)).toNat = m + 1 := by omega
      clear hm' hM1 hM2 h0 hneg hz hpos Hend HM
      generalize pk (l.drop (m + 1)) 0 = c at *
      obtain ⟨J, hJ⟩ : ∃ J, m + 1 = J := ⟨_, rfl⟩
      rw [hJ] at x1 x2 x3 hcell ⊢
      have HJ := Lib.hid hJ
      clear hJ
      go_wp2
      go_ret2
      refine ⟨⟨J + 1, by have := HJ.out; omega, by have := HJ.out; omega, ?_, ?_⟩, rfl⟩
      · rw [HM2.out, ← HJ.out]
      · rw [HM1.out]; push_cast; rfl
    · have hfst := hpos (by omega)
      obtain ⟨c, hc⟩ : ∃ c, pk (l.drop j) 0 = c := ⟨_, rfl⟩
      have hp := rt_at h j j rfl (by omega)
      rw [pk0, hc] at hp
      have hM1 : M.1 = numC' N := by rw [← HM.out]; unfold meantT; rw [if_neg (by omega), Hend.out]
      have hM2 : M.2 = if whiteB c = true then l.drop (j + 1) else l.drop j := by
        rw [← HM.out]; unfold meantT; rw [if_neg (by omega), Hend.out]
        simp only [hc, List.tail_drop]
      have hjk : m + 1 < j := by have := hj.out; omega
      have hbz : ((i : Int) == 0) = false := by simp; omega
      have HM1 := Lib.hid hM1
      have HM2 := Lib.hid hM2
      have Hc := Lib.hid hc
      have hwh := rt_white c
      have hib := fun w' => ref_is (N : Int) w' (by omega) (by omega)
      obtain ⟨k', hk', hk'n, hd, hkv⟩ : ∃ k' : Nat, m + 1 < k' ∧ k' ≤ n ∧ Hid (l.drop k' = M.2) ∧ (if whiteB c = true then j + 1 else j) = k' := by
        cases hwt : whiteB c with
        | true =>
          have hjl : j < n := by
            have hpos : -1 < pk (l.drop j) 0 := by
              rw [Hc.out]; unfold whiteB at hwt; simp at hwt; omega
            have := pk_pos hpos
            rw [List.length_drop] at this; omega
          exact ⟨j + 1, by omega, by omega, (by show _ = _; rw [HM2.out, if_pos hwt]), by simp⟩
        | false => exact ⟨j, hjk, hjn, (by show _ = _; rw [HM2.out, if_neg (by rw [hwt]; simp)]), by simp⟩
      clear hM1 hM2 hfst hz hpos Hend HM hc
      have hV : M.1 = if N = 0 ∨ isB (N : Int) = false then 65533 else (N : Int) := by rw [HM1.out]; rfl
      have HV := Lib.hid hV
      clear hV
      cases hwt : whiteB c with
      | true =>
        rw [hwt] at hwh hkv
        rw [if_pos rfl] at hkv
        have Hk := Lib.hid hkv
        clear hkv hwt
        by_cases hN0 : N = 0
        · have H1 : Hid (M.1 = 65533) := by show _ = _; rw [HV.out, if_pos (.inl hN0)]
          have hz0 : ((N : Int) == 0) = true := by simp; omega
          clear hN0
          go_wp2_with (first | (go_at_call 26; with_reducible refine hp.mono ?_; rintro e w' ⟨rfl, rfl⟩) | (go_at_call 25; refine (hwh _).mono ?_; rintro e w' ⟨rfl, rfl⟩) | (go_at_call 69; refine (hib _).mono ?_; rintro e w' ⟨rfl, rfl⟩))
          go_ret2
          exact ⟨⟨k', hk', hk'n, hd.out, by rw [H1.out, ← Hk.out]; push_cast; rfl⟩, rfl⟩
        · have hz0 : ((N : Int) == 0) = false := by simp; omega
          cases hB : isB (N : Int) with
          | true =>
            rw [hB] at hib
            have H1 : Hid (M.1 = N) := by show _ = _; rw [HV.out, if_neg (by simp [hN0, hB])]
            clear hN0
            go_wp2_with (first | (go_at_call 26; with_reducible refine hp.mono ?_; rintro e w' ⟨rfl, rfl⟩) | (go_at_call 25; refine (hwh _).mono ?_; rintro e w' ⟨rfl, rfl⟩) | (go_at_call 69; refine (hib _).mono ?_; rintro e w' ⟨rfl, rfl⟩))
            go_ret2
            exact ⟨⟨k', hk', hk'n, hd.out, by rw [H1.out, ← Hk.out]; push_cast; rfl⟩, rfl⟩
          | false =>
            rw [hB] at hib
            have H1 : Hid (M.1 = 65533) := by show _ = _; rw [HV.out, if_pos (.inr hB)]
            clear hN0
            go_wp2_with (first | (go_at_call 26; with_reducible refine hp.mono ?_; rintro e w' ⟨rfl, rfl⟩) | (go_at_call 25; refine (hwh _).mono ?_; rintro e w' ⟨rfl, rfl⟩) | (go_at_call 69; refine (hib _).mono ?_; rintro e w' ⟨rfl, rfl⟩))
            go_ret2
            exact ⟨⟨k', hk', hk'n, hd.out, by rw [H1.out, ← Hk.out]; push_cast; rfl⟩, rfl⟩
      | false =>
        rw [hwt] at hwh hkv
        rw [if_neg (by simp)] at hkv
        have Hk := Lib.hid hkv
        clear hkv hwt
        by_cases hN0 : N = 0
        · have H1 : Hid (M.1 = 65533) := by show _ = _; rw [HV.out, if_pos (.inl hN0)]
          have hz0 : ((N : Int) == 0) = true := by simp; omega
          clear hN0
          go_wp2_with (first | (go_at_call 26; with_reducible refine hp.mono ?_; rintro e w' ⟨rfl, rfl⟩) | (go_at_call 25; refine (hwh _).mono ?_; rintro e w' ⟨rfl, rfl⟩) | (go_at_call 69; refine (hib _).mono ?_; rintro e w' ⟨rfl, rfl⟩))
          go_ret2
          exact ⟨⟨k', hk', hk'n, hd.out, by rw [H1.out, ← Hk.out]; rfl⟩, rfl⟩
        · have hz0 : ((N : Int) == 0) = false := by simp; omega
          cases hB : isB (N : Int) with
          | true =>
            rw [hB] at hib
            have H1 : Hid (M.1 = N) := by show _ = _; rw [HV.out, if_neg (by simp [hN0, hB])]
            clear hN0
            go_wp2_with (first | (go_at_call 26; with_reducible refine hp.mono ?_; rintro e w' ⟨rfl, rfl⟩) | (go_at_call 25; refine (hwh _).mono ?_; rintro e w' ⟨rfl, rfl⟩) | (go_at_call 69; refine (hib _).mono ?_; rintro e w' ⟨rfl, rfl⟩))
            go_ret2
            exact ⟨⟨k', hk', hk'n, hd.out, by rw [H1.out, ← Hk.out]; rfl⟩, rfl⟩
          | false =>
            rw [hB] at hib
            have H1 : Hid (M.1 = 65533) := by show _ = _; rw [HV.out, if_pos (.inr hB)]
            clear hN0
            go_wp2_with (first | (go_at_call 26; with_reducible refine hp.mono ?_; rintro e w' ⟨rfl, rfl⟩) | (go_at_call 25; refine (hwh _).mono ?_; rintro e w' ⟨rfl, rfl⟩) | (go_at_call 69; refine (hib _).mono ?_; rintro e w' ⟨rfl, rfl⟩))
            go_ret2
            exact ⟨⟨k', hk', hk'n, hd.out, by rw [H1.out, ← Hk.out]; rfl⟩, rfl⟩
end Go.Proofs.YthkagpefgkpgeaaGreatDoor
set_option linter.unusedVariables false
set_option linter.unusedSimpArgs false
namespace Go.Proofs.YthkagpefgkpgeaaGreatDoor
open Go.RowKit Rn Tk
/-- a row of characters of its own, at block base or above -/
abbrev OutR (w : World) (base : Nat) (A : Option Addr) (c : Nat) (outs : List Int) : Prop := w.ownsRow base 3 1 (.slice A outs.length c) outs.length (outs.map n64)
set_option maxRecDepth 100000 in
set_option maxHeartbeats 1000000 in
theorem rt_text {w : World} {base : Nat} {A : Option Addr} {c : Nat} {outs : List Int} (h : OutR w base A c outs) (hch : Chars outs) (hl : outs.length ≤ 1000000) :
    Calls Tryz.prog 35 #[.slice A outs.length c] w fun e w' => e = .returned (.string (bytesOf (writeP outs))) ∧ Below w.heap.size w w' := by
  have hrd := Reads.of_own h
  have hr : ∀ c ∈ outs, -2147483648 ≤ c ∧ c ≤ 2147483647 := fun c hc => by have := isB_range (hch c hc); omega
  have Hr := Lib.hid hr
  clear hr
  go_enter Tryz.func35, Tryz.ntmps35
  go_wp2_with fail
  refine (ref_write outs A _ c w hrd Hr.out hl).mono ?_
  rintro e w1 ⟨v, rfl, hown, hb1⟩
  obtain ⟨A1, c1, rfl, _, _⟩ := own_form hown
  have hrd1 := Reads.of_own hown
  have hstr := run_str (P := Tryz.prog) (src := 22) (dst := 9) Tryz.underlying22 Tryz.underlying5 Tryz.underlying9 c1 hrd1
  clear hrd hrd1 hown
  go_wp2
  go_ret
  exact ⟨rfl, hb1⟩
theorem below_push {w w1 w2 : World} {o : Obj} {e : TypeId} {size n : Nat} {v : Value} {xs : List Value} (h : Below w.heap.size w w1) (hown : w1.ownsRow w.heap.size e size v n xs) (hg : (w1.alloc o).grownBy w2 v.ownBlock) : Below w.heap.size w w2 :=
  (h.grown (World.grownBy_alloc w1 o none) h.size (by simp)).grown hg (by have := h.size; simp; omega) (fun g hgr => (hown.lt g hgr).1)
theorem cell_new1 (w : World) (e : TypeId) (a : Value) : ∀ j u, [a][j]? = some u → (w.alloc (.cells #[a] e)).cell? ((⟨w.heap.size, 0, none⟩ : Addr).add j) = some u := by
  intro j u hu
  have h := ((RowAt.new w e #[a]).2 j u hu).1
  have ha : (⟨w.heap.size, 0, none⟩ : Addr).add j = ⟨w.heap.size, j, none⟩ := by unfold Addr.add; split <;> simp_all
  rw [ha]; exact h
set_option maxRecDepth 100000 in
set_option maxHeartbeats 2000000 in
theorem rt_name {w : World} {B n cap : Nat} {A : Option Addr} {l : List Int} (h : RL w B A n cap l) (m : Nat) (i0 : Int) (hi0 : i0 = m) (hm : m ≤ n) :
    Calls Tryz.prog 30 #[.slice A n cap, .int .i64 i0] w fun e w' => (∃ k' : Nat, m ≤ k' ∧ k' ≤ n ∧ l.drop k' = (nameT (l.drop m)).2 ∧ e = .returned (.tuple #[.string (bytesOf (writeP (nameT (l.drop m)).1)), .int .i64 (k' : Int)])) ∧ Below w.heap.size w w' := by
  have hlen := h.len
  have hn := h.hn
  have hnis := nameT_is (l.drop m) (h.ch.drop m)
  obtain ⟨T, hT⟩ : ∃ T, nameT (l.drop m) = T := ⟨_, rfl⟩
  rw [hT] at hnis ⊢
  have HT := Lib.hid hT
  have Hch := Lib.hid hnis.1
  clear hT hnis
  have Hi0 := Lib.hid hi0
  clear hi0
  obtain ⟨j0, hi, hz0, hz1, hz2⟩ := info_got int_info
  go_enter Tryz.func30, Tryz.ntmps30
  go_wp2_with fail
  go_loopw [1, 6] (fun z x wr => ∃ (j : Nat) (outs : List Int) (Ao : Option Addr) (co : Nat), m ≤ j ∧ j ≤ n ∧ outs.length + m ≤ j ∧ Hid (outs ++ (nameT (l.drop j)).1 = T.1) ∧ Hid ((nameT (l.drop j)).2 = T.2) ∧ OutR wr w.heap.size Ao co outs ∧ Below w.heap.size w wr ∧ z = .int .i64 (j : Int) ∧ x = .slice Ao outs.length co) (fun z _ _ => n - (intOf z).toNat)
  case atStart =>
    have := Hi0.out
    exact ⟨m, [], none, 0, Nat.le_refl _, hm, by simp, (by show _ = _; rw [HT.out]; rfl), (by show _ = _; rw [HT.out]), World.ownsRow_nil _ _ _ _, Below.refl _ _, congrArg (Value.int IntKind.i64) (by omega), rfl⟩
  case round =>
    obtain ⟨j, outs, Ao, co, hmj, hjn, hol, ho1, ho2, hown, hb, rfl, rfl⟩ := hrel
    have hR := h.mv hb
    obtain ⟨c, hc⟩ : ∃ c, pk (l.drop j) 0 = c := ⟨_, rfl⟩
    have hp := rt_at hR j j rfl (by omega)
    rw [pk0, hc] at hp
    have hcr := hR.range j
    rw [pk0, hc] at hcr
    have he := rt_escape hR j j rfl (by omega)
    have hw := ref_within c wr (by omega) (by omega)
    have hbs := hb.size
    cases hesc : esc (l.drop j) with
    | true =>
      have h92 : c = 92 ∧ j + 1 < n := by
        unfold esc at hesc
        simp only [decide_eq_true_eq] at hesc
        have := pk_pos (l := l.drop j) (m := 1) (by omega)
        rw [List.length_drop] at this
        exact ⟨by rw [← hc]; exact hesc.1, by omega⟩
      obtain ⟨hc92, hj1⟩ := h92
      have t92 := eq_t hc92
      have hme := rt_meant hR j j rfl hj1
      have hnm := nameT_esc hesc
      rw [List.tail_drop] at hnm
      rw [hnm] at ho1 ho2
      have hmc := isB_range (meantT_is (h.ch.drop (j + 1)) (by intro h0; have := congrArg List.length h0; rw [List.length_drop] at this; simp at this; omega))
      generalize meantT (l.drop (j + 1)) = M at *
      rw [hesc] at he
      clear hc92 hc hesc hnm
      go_wp2_with (first
        | (go_at_call 26; with_reducible refine hp.mono ?_; rintro e w' ⟨rfl, rfl⟩)
        | (go_at_call 29; with_reducible refine he.mono ?_; rintro e w' ⟨rfl, rfl⟩)
        | (go_at_call 49; with_reducible refine hme.mono ?_; rintro e w' ⟨⟨k2, hk2, hk2n, hd2, rfl⟩, rfl⟩)
        | (at_builtin; refine wpList_append_own _ rfl _ _ 42 rfl w.heap.size 3 j0 (.int .i64 0) 1 8 Tryz.underlying42 hi hz0 hz1 hz2 rfl (by decide) (.slice Ao outs.length co) outs.length (outs.map n64) rfl (hown.alloc _) ⟨wr.heap.size, 0, none⟩ 1 1 [.int .i64 M.1] rfl rfl (cell_new1 _ _ _) (by intro u hu; simp at hu; subst hu; rfl) (by unfold maxLen; omega) (by omega) (by simp; omega) ?_; intro v' w2 hown2 hg2 _))
      have hb2 := below_push hb hown hg2
      obtain ⟨A2, c2, rfl, _, _⟩ := own_form hown2
      clear hp he hme hw
      go_wp2_with fail
      go_roundw
      case rel => exact ⟨k2, outs ++ [M.1], A2, c2, by omega, hk2n, by simp; omega, (by show _ = _; rw [← ho1.out, hd2]; simp), (by show _ = _; rw [← ho2.out, hd2]), by simpa [OutR, n64] using hown2, hb2, rfl, by simp⟩
      case measure => simp [intOf]; omega
    | false =>
      rw [hesc] at he
      cases hwi : withinB c with
      | true =>
        have hj1 : j < n := by
          have h0 : l.drop j ≠ [] := within_ne (by rw [hc]; exact hwi)
          have := List.length_pos_iff.2 h0
          rw [List.length_drop] at this; omega
        have hnm := nameT_in hesc (by rw [hc]; exact hwi)
        rw [List.tail_drop, hc] at hnm
        rw [hnm] at ho1 ho2
        rw [hwi] at hw
        have t92 : (c == 92) = false := by
          simp; intro h9; rw [h9] at hwi; revert hwi; decide
        clear hc hesc hnm hwi
        go_wp2_with (first
          | (go_at_call 26; with_reducible refine hp.mono ?_; rintro e w' ⟨rfl, rfl⟩)
          | (go_at_call 29; with_reducible refine he.mono ?_; rintro e w' ⟨rfl, rfl⟩)
          | (go_at_call 28; with_reducible refine hw.mono ?_; rintro e w' ⟨rfl, rfl⟩)
          | (at_builtin; refine wpList_append_own _ rfl _ _ 42 rfl w.heap.size 3 j0 (.int .i64 0) 1 8 Tryz.underlying42 hi hz0 hz1 hz2 rfl (by decide) (.slice Ao outs.length co) outs.length (outs.map n64) rfl (hown.alloc _) ⟨wr.heap.size, 0, none⟩ 1 1 [.int .i64 c] rfl rfl (cell_new1 _ _ _) (by intro u hu; simp at hu; subst hu; rfl) (by unfold maxLen; omega) (by omega) (by simp; omega) ?_; intro v' w2 hown2 hg2 _))
        have hb2 := below_push hb hown hg2
        obtain ⟨A2, c2, rfl, _, _⟩ := own_form hown2
        clear hp he hw
        go_wp2_with fail
        go_roundw
        case rel => exact ⟨j + 1, outs ++ [c], A2, c2, by omega, by omega, by simp; omega, (by show _ = _; rw [← ho1.out]; simp), (by show _ = _; rw [← ho2.out]), by simpa [OutR, n64] using hown2, hb2, rfl, by simp⟩
        case measure => simp [intOf]; omega
      | false =>
        have hnm := nameT_end hesc (by rw [hc]; exact hwi)
        rw [hnm] at ho1 ho2
        rw [hwi] at hw
        have hT1 : T.1 = outs := by rw [← ho1.out]; simp
        have HT1 := Lib.hid hT1
        clear hc hesc hnm hwi hT1
        have htx := rt_text hown (by rw [← HT1.out]; exact Hch.out) (by omega)
        go_wp2_with (first
          | (go_at_call 26; with_reducible refine hp.mono ?_; rintro e w' ⟨rfl, rfl⟩)
          | (go_at_call 29; with_reducible refine he.mono ?_; rintro e w' ⟨rfl, rfl⟩)
          | (go_at_call 28; with_reducible refine hw.mono ?_; rintro e w' ⟨rfl, rfl⟩)
          | (go_at_call 35; with_reducible refine htx.mono ?_; rintro e w2 ⟨rfl, hb2⟩))
        go_ret2
        refine ⟨⟨j, hmj, hjn, ho2.out, ?_⟩, hb.trans (hb2.mono hbs)⟩
        rw [HT1.out]; rfl
end Go.Proofs.YthkagpefgkpgeaaGreatDoor
