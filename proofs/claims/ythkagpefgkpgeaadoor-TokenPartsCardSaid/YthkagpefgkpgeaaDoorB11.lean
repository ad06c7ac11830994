/- append onto a row of the call's own from a slice that reads as a list, nil or not. -/
import Derived.Test.YthkagpefgkpgeaaDoorB10
import Derived.Test.YthkagpefgkpgeaaDoorB01
import Derived.Test.YthkagpefgkpgeaaDoorB08
import Derived.Lib.DecodeN
/- Layer 3: plain law of two sheets with a white space between. No program in sight. -/
set_option linter.unusedVariables false
set_option linter.unusedSimpArgs false
namespace Go.Proofs.YthkagpefgkpgeaaDoor
open Go.RowKit Rn Tk
/-- no quote, no backslash, no slash -/
def Nice (l : List Int) : Prop := ∀ c ∈ l, 0 ≤ c ∧ c ≠ 34 ∧ c ≠ 39 ∧ c ≠ 92 ∧ c ≠ 47
theorem Nice.drop {l : List Int} (h : Nice l) (k : Nat) : Nice (l.drop k) := fun c hc => h c (List.mem_of_mem_drop hc)
theorem Nice.tail {l : List Int} (h : Nice l) : Nice l.tail := fun c hc => h c (List.mem_of_mem_tail hc)
theorem Nice.cons {c : Int} {l : List Int} (h : Nice (c :: l)) : Nice l := fun d hd => h d (by simp [hd])
theorem Nice.esc {l : List Int} (h : Nice l) : esc l = false := by
  cases l with
  | nil => exact esc_nil
  | cons c r => exact esc_cons (h c (by simp)).2.2.2.1 r
theorem esc_sp (y : List Int) : esc (32 :: y) = false := esc_cons (by decide) y
theorem pk_app0 {x : List Int} (h : x ≠ []) (y : List Int) : pk (x ++ y) 0 = pk x 0 := by
  obtain ⟨c, r, rfl⟩ := List.exists_cons_of_ne_nil h
  rfl
theorem esc_app {x : List Int} (h : Nice x) (y : List Int) : Tk.esc (x ++ 32 :: y) = false := by
  cases x with
  | nil => exact esc_sp y
  | cons c r => exact esc_cons (h c (by simp)).2.2.2.1 _
theorem may_app {x : List Int} (h : Nice x) (y : List Int) : may (x ++ 32 :: y) = may x := by
  unfold may
  rw [esc_app h y, h.esc]
  cases x with
  | nil => rfl
  | cons c r => rfl
theorem beg_app {x : List Int} (h : Nice x) (y : List Int) : beg (x ++ 32 :: y) = beg x := by
  unfold beg
  rw [may_app h y]
  cases x with
  | nil => rfl
  | cons c r =>
    rw [List.cons_append, List.tail_cons, List.tail_cons, may_app h.cons y, pk_cons0, pk_cons0, pk_cons, pk_cons]
    cases r with
    | nil => rfl
    | cons d r => rfl
theorem name_app (x : List Int) (h : Nice x) (y : List Int) : nameT (x ++ 32 :: y) = ((nameT x).1, (nameT x).2 ++ 32 :: y) := by
  induction x with
  | nil => rw [List.nil_append, nameT_end (esc_sp y) (show withinB 32 = false by decide), nameT_end esc_nil (by rw [pk_nil]; decide)]; rfl
  | cons c r ih =>
    by_cases hw : withinB c = true
    · rw [List.cons_append, nameT_in (r := c :: (r ++ 32 :: y)) (esc_cons (h c (by simp)).2.2.2.1 _) hw, nameT_in (r := c :: r) h.esc hw, List.tail_cons, List.tail_cons, ih h.cons]; rfl
    · have hf : withinB c = false := by simpa using hw
      rw [List.cons_append, nameT_end (r := c :: (r ++ 32 :: y)) (esc_cons (h c (by simp)).2.2.2.1 _) hf, nameT_end (r := c :: r) h.esc hf]; rfl
theorem numText_app (x y : List Int) : numText (x ++ 32 :: y) = numText x := by
  unfold numText
  congr 1
  induction x with
  | nil => rfl
  | cons c r ih => rw [List.cons_append, List.takeWhile_cons, List.takeWhile_cons, ih]
theorem numText_len (x : List Int) : (numText x).length ≤ x.length := by
  unfold numText
  rw [List.length_map]
  exact (List.takeWhile_sublist numB).length_le
theorem number_app {x : List Int} (h : Nice x) (y : List Int) : numberT (x ++ 32 :: y) = (numberT x).map (fun p => (p.1, p.2 ++ 32 :: y)) := by
  have hle : Fx.lenP (numText x) ≤ x.length := Nat.le_trans (lenP_le _) (numText_len x)
  unfold numberT
  simp only [numText_app]
  split
  · rfl
  · rw [List.drop_append_of_le_length hle, beg_app (h.drop _) y, name_app _ (h.drop _) y]
    split
    · rfl
    · cases hd : x.drop (Fx.lenP (numText x)) with
      | nil => rw [List.nil_append, pk_cons0, pk_nil, if_neg (by decide), if_neg (by decide)]; rfl
      | cons d r =>
        rw [List.cons_append, pk_cons0, pk_cons0]
        split <;> rfl
theorem nextT_free {c : Int} {r : List Int} (h0 : ¬ (c = 34 ∨ c = 39)) (he : Tk.esc r = false) : nextT (c :: r) =
    if c = 35 ∧ withinB (pk r 0) = true then (⟨5, writeP (nameT r).1, 0⟩, (nameT r).2)
    else match numberT (c :: r) with
      | some x => x
      | none =>
        if c = 64 ∧ beg r = true then (⟨4, writeP (nameT r).1, 0⟩, (nameT r).2)
        else if beg (c :: r) = true then
          if pk (nameT (c :: r)).2 0 = 40 then (⟨3, writeP (nameT (c :: r)).1, 0⟩, (nameT (c :: r)).2.tail) else (⟨2, writeP (nameT (c :: r)).1, 0⟩, (nameT (c :: r)).2)
        else (signT c, r) := by
  unfold nextT
  simp only [pk_cons0, List.tail_cons, pk_cons, he, Bool.or_false, if_neg h0]
  by_cases h1 : c = 35 ∧ withinB (pk r 0) = true
  · rw [if_pos h1, if_pos h1]
  · rw [if_neg h1, if_neg h1]
    cases numberT (c :: r) <;> rfl
theorem next_app' {x : List Int} (h : Nice x) (hne : x ≠ []) (y : List Int) : nextT (x ++ 32 :: y) = ((nextT x).1, (nextT x).2 ++ 32 :: y) := by
  obtain ⟨c, r, rfl⟩ := List.exists_cons_of_ne_nil hne
  have hc := h c (by simp)
  have h0 : ¬ (c = 34 ∨ c = 39) := by omega
  have hn := number_app h y
  have hb := beg_app h y
  have hnm := name_app _ h y
  have hr := name_app r h.cons y
  have hbr := beg_app h.cons y
  rw [List.cons_append] at *
  have hw : withinB (pk (r ++ 32 :: y) 0) = withinB (pk r 0) := by
    cases r with
    | nil => show withinB 32 = withinB (-1); decide
    | cons d t => rfl
  rw [nextT_free h0 (esc_app h.cons y), nextT_free h0 h.cons.esc, hn, hb, hnm, hr, hbr, hw]
  split
  · rfl
  · cases hx : numberT (c :: r) with
    | some p => rfl
    | none =>
      simp only [Option.map_none]
      split
      · rfl
      · split
        · cases hd : (nameT (c :: r)).2 with
          | nil => rw [List.nil_append, pk_cons0, pk_nil, if_neg (by decide), if_neg (by decide)]; rfl
          | cons d t =>
            rw [List.cons_append, pk_cons0, pk_cons0]
            split <;> rfl
        · rfl
theorem spaces_app (x : List Int) (h : Nice x) (y : List Int) : spacesT (x ++ 32 :: y) = if (spacesT x).2 = [] then (true, (spacesT y).2) else ((spacesT x).1, (spacesT x).2 ++ 32 :: y) := by
  induction x with
  | nil => rw [List.nil_append, spacesT_nil, if_pos rfl]; exact spaces_white (by decide) y
  | cons c r ih =>
    by_cases hw : whiteB c = true
    · rw [List.cons_append, spaces_white hw, spaces_white hw, ih h.cons]
      simp only
      split <;> rfl
    · have hf : whiteB c = false := by simpa using hw
      have h47 := (h c (by simp)).2.2.2.2
      rw [List.cons_append, spaces_none hf h47, spaces_none hf h47, if_neg (by simp)]; rfl
theorem spaces_nice (x : List Int) (h : Nice x) : Nice (spacesT x).2 ∧ ((spacesT x).2 = [] → x ≠ [] → (spacesT x).1 = true) := by
  induction x with
  | nil => rw [spacesT_nil]; exact ⟨h, fun _ h => absurd rfl h⟩
  | cons c r ih =>
    by_cases hw : whiteB c = true
    · rw [spaces_white hw]; exact ⟨(ih h.cons).1, fun _ _ => rfl⟩
    · rw [spaces_none (by simpa using hw) (h c (by simp)).2.2.2.2]; exact ⟨h, fun h => by cases h⟩
theorem name_nice (x : List Int) (h : Nice x) : Nice (nameT x).2 := by
  induction x with
  | nil => rw [nameT_end esc_nil (by rw [pk_nil]; decide)]; exact h
  | cons c r ih =>
    by_cases hw : withinB c = true
    · rw [nameT_in (r := c :: r) h.esc hw]; exact ih h.cons
    · rw [nameT_end (r := c :: r) h.esc (show withinB c = false by simpa using hw)]; exact h
theorem next_nice {x : List Int} (h : Nice x) (hne : x ≠ []) : Nice (nextT x).2 := by
  obtain ⟨c, r, rfl⟩ := List.exists_cons_of_ne_nil hne
  have hc := h c (by simp)
  have h0 : ¬ (c = 34 ∨ c = 39) := by omega
  rw [nextT_free h0 h.cons.esc]
  split
  · exact name_nice _ h.cons
  · split
    · rename_i p hp
      unfold numberT at hp
      simp only [] at hp
      split at hp
      · cases hp
      · split at hp
        · cases hp; exact name_nice _ (h.drop _)
        · split at hp
          · cases hp; exact (h.drop _).tail
          · cases hp; exact h.drop _
    · split
      · exact name_nice _ h.cons
      · split
        · split
          · exact (name_nice _ h).tail
          · exact name_nice _ h
        · exact h.cons
def lastK (l : List Tok) : Nat := (l.getLast?.map (·.kind)).getD 0
theorem last_cons (t : Tok) (l : List Tok) : lastK (t :: l) = if l = [] then t.kind else lastK l := by
  unfold lastK
  cases l with
  | nil => rfl
  | cons s l => rw [if_neg (by simp), List.getLast?_cons_cons]
theorem last_app (a : List Tok) {l : List Tok} (h : l ≠ []) : lastK (a ++ l) = lastK l := by
  unfold lastK
  rw [List.getLast?_append]
  cases hg : l.getLast? with
  | none => exact absurd (List.getLast?_eq_none_iff.1 hg) h
  | some t => rfl
def sp : Tok := ⟨1, [], 0⟩
theorem scan_parts (y : List Int) : ∀ x, Nice x → scanT (x ++ 32 :: y) = scanT x ++ (if lastK (scanT x) = 1 then [] else [sp]) ++ scanT (spacesT y).2 := by
  have key : ∀ n, ∀ x : List Int, x.length ≤ n → Nice x → scanT (x ++ 32 :: y) = scanT x ++ (if lastK (scanT x) = 1 then [] else [sp]) ++ scanT (spacesT y).2 := by
    intro n
    induction n with
    | zero =>
      intro x hx h
      have : x = [] := List.eq_nil_of_length_eq_zero (by omega)
      subst this
      rw [scanT_nil, List.nil_append, scan_white (by decide)]; rfl
    | succ n ih =>
      intro x hx h
      have h2 := spaces_len x
      have hs := spaces_app x h y
      obtain ⟨hn, hb⟩ := spaces_nice x h
      by_cases hx0 : x = []
      · subst hx0
        rw [scanT_nil, List.nil_append, scan_white (by decide)]; rfl
      · by_cases he : (spacesT x).2 = []
        · rw [if_pos he] at hs
          rw [scan_spaces (x ++ 32 :: y), hs, scanT_end he, hb he hx0]
          simp [lastK]
        · rw [if_neg he] at hs
          have hlt := next_lt he
          have hnx := next_app' hn he y
          have hi := ih (nextT (spacesT x).2).2 (by omega) (next_nice hn he)
          have hk := (next_ok (spacesT x).2).2.1
          rw [scanT_step (r := x ++ 32 :: y) (by rw [hs]; simp), hs]
          simp only
          rw [hnx, hi, scanT_step he, last_app _ (by simp), last_cons]
          by_cases h0 : scanT (nextT (spacesT x).2).2 = []
          · rw [h0]
            have : lastK [] = 0 := rfl
            rw [if_pos rfl, if_neg hk]
            simp [List.append_assoc, hk, this]
          · rw [if_neg h0]
            simp [List.append_assoc]
  exact fun x h => key _ x (Nat.le_refl _) h
/-- what is left of tokens without a white space ahead -/
theorem scan_strip (y : List Int) : scanT (spacesT y).2 = if headK (scanT y) = 1 then (scanT y).tail else scanT y := by
  have h := scan_spaces y
  have hk : headK (scanT (spacesT y).2) ≠ 1 := by
    have h2 := spaces_twice y
    by_cases he : (spacesT y).2 = []
    · rw [he, scanT_nil]; decide
    · rw [scanT_step (r := (spacesT y).2) (by rw [h2]; exact he), h2]
      exact (next_ok (spacesT y).2).2.1
  cases hb : (spacesT y).1 with
  | true =>
    rw [hb] at h
    rw [h]; rfl
  | false =>
    rw [hb] at h
    rw [h]
    simp only [Bool.false_eq_true, if_false, List.nil_append]
    rw [if_neg hk]
theorem read_nice (bs : List UInt8) (h : ∀ b ∈ bs, b.toNat ≠ 34 ∧ b.toNat ≠ 39 ∧ b.toNat ≠ 92 ∧ b.toNat ≠ 47) : Nice (readP bs) := by
  intro c hc
  refine ⟨readP_pos bs c hc, ?_⟩
  by_cases hl : c < 128
  · rcases readP_low bs c hc hl with rfl | ⟨b, hb, rfl⟩
    · decide
    · have := h b hb; omega
  · omega
theorem read_sp (a b : List UInt8) : readP (a ++ 32 :: b) = readP a ++ 32 :: readP b := by
  rw [read_parts a 32 b (by decide) (by decide), read_cons (by decide) (by decide) (by decide) (by decide)]; rfl
/-- the law -/
theorem parts_plain (a b : List UInt8) (ha : ∀ x ∈ a, x.toNat ≠ 34 ∧ x.toNat ≠ 39 ∧ x.toNat ≠ 92 ∧ x.toNat ≠ 47) :
    scanT (readP (a ++ 32 :: b)) = scanT (readP a) ++ (if lastK (scanT (readP a)) = 1 then [] else [sp]) ++ (if headK (scanT (readP b)) = 1 then (scanT (readP b)).tail else scanT (readP b)) := by
  rw [read_sp, scan_parts (readP b) (readP a) (read_nice a ha), scan_strip]
end Go.Proofs.YthkagpefgkpgeaaDoor
/- What the language's own reading of a string's characters finds: a character's bytes are read as it; what is read, and is not the invalid one, stands there as its bytes. No program in sight. -/
set_option linter.unusedVariables false
set_option linter.unusedSimpArgs false
namespace Go.Proofs.YthkagpefgkpgeaaDoor
open Go.RowKit Rn
theorem byte_eq {b : UInt8} {z : Int} (h0 : 0 ≤ z) (h1 : z < 256) (h : (b.toNat : Int) = z) : z.toNat.toUInt8 = b := by
  apply UInt8.toNat_inj.1
  rw [b_of z h0 h1]; omega
theorem take_two (l : List UInt8) (i : Nat) (h : i + 1 < l.length) : (l.drop i).take 2 = [l[i]?.getD 0, l[i + 1]?.getD 0] := by
  rw [List.getElem?_eq_getElem (by omega), List.getElem?_eq_getElem h, List.drop_eq_getElem_cons (by omega), List.drop_eq_getElem_cons h]; rfl
theorem take_three (l : List UInt8) (i : Nat) (h : i + 2 < l.length) : (l.drop i).take 3 = [l[i]?.getD 0, l[i + 1]?.getD 0, l[i + 2]?.getD 0] := by
  rw [List.getElem?_eq_getElem (by omega), List.getElem?_eq_getElem (show i + 1 < l.length by omega), List.getElem?_eq_getElem h, List.drop_eq_getElem_cons (by omega), List.drop_eq_getElem_cons (show i + 1 < l.length by omega), List.drop_eq_getElem_cons h]; rfl
theorem take_four (l : List UInt8) (i : Nat) (h : i + 3 < l.length) : (l.drop i).take 4 = [l[i]?.getD 0, l[i + 1]?.getD 0, l[i + 2]?.getD 0, l[i + 3]?.getD 0] := by
  rw [List.getElem?_eq_getElem (by omega), List.getElem?_eq_getElem (show i + 1 < l.length by omega), List.getElem?_eq_getElem (show i + 2 < l.length by omega), List.getElem?_eq_getElem h, List.drop_eq_getElem_cons (by omega), List.drop_eq_getElem_cons (show i + 1 < l.length by omega), List.drop_eq_getElem_cons (show i + 2 < l.length by omega), List.drop_eq_getElem_cons h]; rfl
/-- what is read and is not the invalid one stands there -/
theorem decode_enc (l : List UInt8) (i : Nat) (h : i < l.length) (hne : (Utf8.decode (bytesOf l) i).1 ≠ 65533) :
    isB ((Utf8.decode (bytesOf l) i).1 : Int) = true ∧ i + (Utf8.decode (bytesOf l) i).2 ≤ l.length ∧ (l.drop i).take (Utf8.decode (bytesOf l) i).2 = Lib.encodeRune ((Utf8.decode (bytesOf l) i).1 : Int) := by
  rw [Lib.decode_at, bytesOf_size] at *
  rw [bytesOf_get, bytesOf_get, bytesOf_get, bytesOf_get] at *
  have b0 := UInt8.toNat_lt (l[i]?.getD 0)
  have b1 := UInt8.toNat_lt (l[i + 1]?.getD 0)
  have b2 := UInt8.toNat_lt (l[i + 2]?.getD 0)
  have b3 := UInt8.toNat_lt (l[i + 3]?.getD 0)
  have t1 : (l.drop i).take 1 = [l[i]?.getD 0] := by
    rw [List.getElem?_eq_getElem h, List.drop_eq_getElem_cons h]; rfl
  have t2 := take_two l i
  have t3 := take_three l i
  have t4 := take_four l i
  generalize hc0 : l[i]?.getD 0 = c0 at *
  generalize hc1 : l[i + 1]?.getD 0 = c1 at *
  generalize hc2 : l[i + 2]?.getD 0 = c2 at *
  generalize hc3 : l[i + 3]?.getD 0 = c3 at *
  revert hne
  unfold Lib.decodeN
  split
  · intro _
    have e : Lib.encodeRune (c0.toNat : Int) = [c0] := by
      have : Lib.encodeRune (c0.toNat : Int) = [((c0.toNat : Int)).toNat.toUInt8] := by simp [Lib.encodeRune, Lib.encodeRuneZ_one (by omega : (0 : Int) ≤ c0.toNat) (by omega : (c0.toNat : Int) ≤ 127)]
      rw [this, byte_eq (by omega) (by omega) rfl]
    refine ⟨?_, by omega, ?_⟩
    · unfold isB; simp; omega
    · rw [t1, e]
  · split
    · split
      · rename_i h1 h2 h3
        intro _
        refine ⟨?_, by simp only; omega, ?_⟩
        · unfold isB; simp only [decide_eq_true_eq]; omega
        · simp only
          rw [t2 (by omega)]
          unfold Lib.encodeRune
          rw [Lib.encodeRuneZ_two (r := ((c0.toNat % 32 * 64 + c1.toNat % 64 : Nat) : Int)) (by omega) (by omega)]
          simp only [List.map_cons, List.map_nil]
          rw [byte_eq (b := c0) (by omega) (by omega) (by omega), byte_eq (b := c1) (by omega) (by omega) (by omega)]
      · intro h; exact absurd rfl h
    · split
      · split
        · rename_i h1 h2 h3 h4
          intro _
          refine ⟨?_, by simp only; omega, ?_⟩
          · unfold isB; simp only [decide_eq_true_eq]; omega
          · simp only
            rw [t3 (by omega)]
            unfold Lib.encodeRune
            rw [Lib.encodeRuneZ_three (r := ((c0.toNat % 16 * 4096 + c1.toNat % 64 * 64 + c2.toNat % 64 : Nat) : Int)) (by omega)]
            simp only [List.map_cons, List.map_nil]
            rw [byte_eq (b := c0) (by omega) (by omega) (by omega), byte_eq (b := c1) (by omega) (by omega) (by omega), byte_eq (b := c2) (by omega) (by omega) (by omega)]
        · intro h; exact absurd rfl h
      · split
        · split
          · rename_i h1 h2 h3 h4 h5
            intro _
            refine ⟨?_, by simp only; omega, ?_⟩
            · unfold isB; simp only [decide_eq_true_eq]; omega
            · simp only
              rw [t4 (by omega)]
              unfold Lib.encodeRune
              rw [Lib.encodeRuneZ_four (r := ((c0.toNat % 8 * 262144 + c1.toNat % 64 * 4096 + c2.toNat % 64 * 64 + c3.toNat % 64 : Nat) : Int)) (by omega) (by omega)]
              simp only [List.map_cons, List.map_nil]
              rw [byte_eq (b := c0) (by omega) (by omega) (by omega), byte_eq (b := c1) (by omega) (by omega) (by omega), byte_eq (b := c2) (by omega) (by omega) (by omega), byte_eq (b := c3) (by omega) (by omega) (by omega)]
          · intro h; exact absurd rfl h
        · intro h; exact absurd rfl h
end Go.Proofs.YthkagpefgkpgeaaDoor
set_option linter.unusedVariables false
namespace Go.Proofs.YthkagpefgkpgeaaDoor
open Go.RowKit
section
variable {P : Program} (w : World)

theorem run_append_nil_src (base : Nat) (t ty e : TypeId) (i : TypeInfo) (size : Nat) (ht : P.underlying t = some (.slice e)) (hi : P.info? e = some i)
    (v : Value) (n : Nat) (xs : List Value) (hown : w.ownsRow base e size v n xs) (c : Nat) : (Builtin.append_ #[t, t] ty #[v, .slice none 0 c]).run P w = .ok v w := by
  rcases hown.2 with ⟨rfl, rfl⟩ | ⟨g, cap, cur, rfl, _, _, hnc, _⟩
  · simp [Builtin.append_, run_underlying ht, sizeOf, typeInfo, hi, Builtin.lenOf, Builtin.firstCells]
  · simp [Builtin.append_, run_underlying ht, sizeOf, typeInfo, hi, Builtin.lenOf, Builtin.firstCells, hnc, storeCells]

theorem run_append_reads (base : Nat) (t ty e : TypeId) (i : TypeInfo) (z : Value) (size bytes : Nat) (ht : P.underlying t = some (.slice e)) (hi : P.info? e = some i) (hz : i.zero = some z)
    (hsize : i.size = size) (hby : i.bytes = bytes) (hzs : z.cells.size = size) (hsz : 0 < size)
    (v : Value) (n : Nat) (xs : List Value) (hown : w.ownsRow base e size v n xs)
    (B : Nat) (A : Option Addr) (m c : Nat) (news : List Value) (hr : Reads w B size A m news) (h1 : ∀ u ∈ news, u.oneCell' = true)
    (h63 : n + m ≤ maxLen) (hbytes : (n + m) * bytes ≤ 140737488355328) (hbase : base ≤ w.heap.size) :
    ∃ v' w', (Builtin.append_ #[t, t] ty #[v, .slice A m c]).run P w = .ok v' w' ∧ w'.ownsRow base e size v' (n + m) (xs ++ news) ∧ w.grownBy w' v.ownBlock := by
  cases A with
  | none =>
    have hm : m = 0 := by
      rcases Nat.eq_zero_or_pos m with h0 | h0
      · exact h0
      · obtain ⟨b, off, h, _⟩ := hr.2 h0
        cases h
    subst hm
    have hn : news = [] := List.eq_nil_of_length_eq_zero (by simpa using hr.1)
    subst hn
    exact ⟨v, w, run_append_nil_src w base t ty e i size ht hi v n xs hown c, by simpa using hown, World.grownBy.refl w _⟩
  | some ad =>
    have hcells : ∀ j u, news[j]? = some u → w.cell? (ad.add j) = some u := by
      intro j u hu
      rcases Nat.eq_zero_or_pos m with h0 | h0
      · subst h0
        have hn : news = [] := List.eq_nil_of_length_eq_zero (by simpa using hr.1)
        subst hn
        simp at hu
      · obtain ⟨b, off, h, _, hc⟩ := hr.2 h0
        injection h with h
        subst h
        have ha : (⟨b, off, none⟩ : Addr).add j = ⟨b, off + j, none⟩ := by unfold Addr.add; split <;> simp_all
        rw [ha]; exact hc j u hu
    obtain ⟨v', w', hrun, h2, h3, _⟩ := run_append_own_at (P := P) w base t ty e i z size bytes ht hi hz hsize hby hzs hsz v n xs hown ad m c news hr.1 hcells h1 h63 hbytes hbase
    exact ⟨v', w', hrun, h2, h3⟩

theorem wp_append_reads {o : Oper} {a : Act} {K : Act → World → Prop} {Q : Exit → Act → World → Prop} (s x : Operand) (t : TypeId)
    (ho : o.op = .call { callee := .builtin .append, args := #[s, x], argTypes := #[t, t] })
    (base : Nat) (e : TypeId) (i : TypeInfo) (z : Value) (size bytes : Nat) (ht : P.underlying t = some (.slice e)) (hi : P.info? e = some i) (hz : i.zero = some z)
    (hsize : i.size = size) (hby : i.bytes = bytes) (hzs : z.cells.size = size) (hsz : 0 < size)
    (v : Value) (n : Nat) (xs : List Value) (hs : a.eval s = v) (hown : w.ownsRow base e size v n xs)
    (B : Nat) (A : Option Addr) (m c : Nat) (news : List Value) (hx : a.eval x = .slice A m c) (hr : Reads w B size A m news) (h1 : ∀ u ∈ news, u.oneCell' = true)
    (h63 : n + m ≤ maxLen) (hbytes : (n + m) * bytes ≤ 140737488355328) (hbase : base ≤ w.heap.size)
    (h : ∀ v' w', w'.ownsRow base e size v' (n + m) (xs ++ news) → w.grownBy w' v.ownBlock → K (a.put o.dst v') w') : o.wp P a w K Q := by
  obtain ⟨v', w', hrun, h2, h3⟩ := run_append_reads (P := P) w base t o.type e i z size bytes ht hi hz hsize hby hzs hsz v n xs hown B A m c news hr h1 h63 hbytes hbase
  unfold Oper.wp execOp
  simp only [ho, resolve, invoke, builtin, Sem.run_bind, Sem.run_pure, Result.andThen_ok, List.map_toArray, List.map_cons, List.map_nil, hs, hx, hrun]
  exact h v' w' h2 h3

theorem wpList_append_reads {ops : Array Oper} {rest : List Oper} {o : Oper} {a : Act} {Q : Exit → Act → World → Prop} (hgd : o.guard = none) (s x : Operand) (t : TypeId)
    (ho : o.op = .call { callee := .builtin .append, args := #[s, x], argTypes := #[t, t] })
    (base : Nat) (e : TypeId) (i : TypeInfo) (z : Value) (size bytes : Nat) (ht : P.underlying t = some (.slice e)) (hi : P.info? e = some i) (hz : i.zero = some z)
    (hsize : i.size = size) (hby : i.bytes = bytes) (hzs : z.cells.size = size) (hsz : 0 < size)
    (v : Value) (n : Nat) (xs : List Value) (hs : a.eval s = v) (hown : w.ownsRow base e size v n xs)
    (B : Nat) (A : Option Addr) (m c : Nat) (news : List Value) (hx : a.eval x = .slice A m c) (hr : Reads w B size A m news) (h1 : ∀ u ∈ news, u.oneCell' = true)
    (h63 : n + m ≤ maxLen) (hbytes : (n + m) * bytes ≤ 140737488355328) (hbase : base ≤ w.heap.size)
    (h : ∀ v' w', w'.ownsRow base e size v' (n + m) (xs ++ news) → w.grownBy w' v.ownBlock → wpList P ops Q rest (a.put o.dst v') w') : wpList P ops Q (o :: rest) a w :=
  wpList_plain hgd fun _ hK => wp_append_reads w s x t ho base e i z size bytes ht hi hz hsize hby hzs hsz v n xs hs hown B A m c news hx hr h1 h63 hbytes hbase fun v' w' h2 h3 => hK _ _ (h v' w' h2 h3)
end
section
variable {w w1 w2 : World} {B size n : Nat} {e : TypeId} {v : Value} {xs : List Value}
/-- The same as push_below and push_reads, where the source lay already. -/
theorem grow_below (hb : Below B w w1) (hB : B ≤ w1.heap.size) (hown : w1.ownsRow B e size v n xs) (hg : w1.grownBy w2 v.ownBlock) : Below B w w2 :=
  hb.grown hg hB (fun k hk => (hown.lt k hk).1)
theorem grow_reads {A : Option Addr} {s m : Nat} {ys : List Value} (h : Reads w1 B s A m ys) (hB : B ≤ w1.heap.size) (hown : w1.ownsRow B e size v n xs) (hg : w1.grownBy w2 v.ownBlock) : Reads w2 B s A m ys :=
  h.grown hg hB (fun k hk => (hown.lt k hk).1)
end
end Go.Proofs.YthkagpefgkpgeaaDoor
