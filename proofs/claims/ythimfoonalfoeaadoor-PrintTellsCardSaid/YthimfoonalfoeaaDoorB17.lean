/- Layer 4: a token's text: the program's Token is walked. -/
import Derived.Test.YthimfoonalfoeaaDoorB14
import Derived.Test.YthimfoonalfoeaaDoorB12
import Derived.Test.YthimfoonalfoeaaDoorB16
import Derived.Maps.StringElems
/- Layer 4: a printed text's bytes are its characters'; what is printed of tokens below 128. Plain laws. -/
set_option linter.unusedVariables false
set_option linter.unusedSimpArgs false
namespace Go.Proofs.YthimfoonalfoeaaDoor
open Go.RowKit Rn Tk Fx Tp
theorem write_nil : writeP [] = [] := by simp [writeP]
theorem escP_low (c : Int) : ∀ b ∈ escP c, b.toNat < 128 ∧ 32 ≤ b.toNat := by
  intro b hb
  unfold escP at hb
  rcases List.mem_cons.1 hb with rfl | hb
  · decide
  · rcases List.mem_append.1 hb with hb | hb
    · have := hexT_low c.toNat c.toNat (Nat.le_refl _) b hb; omega
    · obtain rfl : b = 32 := by simpa using hb
      decide
theorem part_write (c : Int) (b : Bool) : partP c b = writeP (partC c b) := by
  cases b with
  | true => exact (write_chr (escP c) (fun b hb => (escP_low c b hb).1)).symm
  | false => exact (write_one c).symm
theorem name_write (l : List Int) (dim : Bool) : ∀ (r : List Int) (i : Nat), nameF l dim i r = writeP (nameG l dim i r)
  | [], i => rfl
  | c :: r, i => by
    unfold nameF nameG
    rw [write_app, part_write, name_write l dim r (i + 1)]
theorem nameP_write (l : List Int) (dim : Bool) : nameP l dim = writeP (nameC l dim) := name_write l dim l 0
theorem quoted_write (l : List Int) : quotedP l = writeP (34 :: bodyC l) := by
  have : ∀ l : List Int, l.flatMap (fun c => partP c (quoteB c)) = writeP (bodyC l) := by
    intro l
    induction l with
    | nil => rfl
    | cons c l ih =>
      show partP c (quoteB c) ++ l.flatMap (fun c => partP c (quoteB c)) = writeP (partC c (quoteB c) ++ bodyC l)
      rw [ih, write_app, part_write]
  rw [write_cons]
  unfold quotedP
  rw [this]; rfl
theorem printP_low (n : Int) : ∀ b ∈ Fx.printP n, b.toNat < 128 ∧ 32 ≤ b.toNat := by
  intro b hb
  rcases printP_bytes n b hb with h | rfl | rfl
  · unfold isD at h; simp at h; omega
  · decide
  · decide
theorem printP_write (n : Int) : Fx.printP n = writeP (chr (Fx.printP n)) := (write_chr _ (fun b hb => (printP_low n b hb).1)).symm
theorem token_write {t : GTok} (h : oneB t = true) : tokenP t = writeP (tC t) := by
  obtain ⟨e1, e2, e3, e4, e5⟩ := one_facts h
  have w1 : ∀ a : List UInt8, (∀ b ∈ a, b.toNat < 128) → a = writeP (chr a) := fun a ha => (write_chr a ha).symm
  obtain ⟨k1, k2⟩ := kind_range h
  have hx : (utfP t.text).getD [] = textC t := rfl
  unfold tokenP tC
  rw [if_pos h]
  simp only [hx]
  generalize textC t = l at *
  rw [← e3]
  generalize t.kind = k at *
  have hK : k = 1 ∨ k = 2 ∨ k = 3 ∨ k = 4 ∨ k = 5 ∨ k = 6 ∨ k = 7 ∨ k = 8 ∨ k = 9 ∨ k = 10 ∨ k = 11 ∨ k = 12 ∨ k = 13 ∨ k = 14 ∨ k = 15 ∨ k = 16 := by omega
  rcases hK with rfl | rfl | rfl | rfl | rfl | rfl | rfl | rfl | rfl | rfl | rfl | rfl | rfl | rfl | rfl | rfl
  · rfl
  · exact nameP_write l false
  · show nameP l false ++ [40] = writeP (nameC l false ++ [40])
    rw [write_app, nameP_write]; rfl
  · show 64 :: nameP l false = writeP (64 :: nameC l false)
    rw [write_cons, nameP_write]; rfl
  · show 35 :: nameP l false = writeP (35 :: nameC l false)
    rw [write_cons, nameP_write]; rfl
  · show quotedP l ++ [34] = writeP ((34 :: bodyC l) ++ [34])
    rw [write_app, quoted_write]; rfl
  · exact quoted_write l
  · exact printP_write _
  · show Fx.printP t.n ++ [37] = writeP (chr (Fx.printP t.n) ++ [37])
    rw [write_app, ← printP_write]; rfl
  · show Fx.printP t.n ++ nameP l true = writeP (chr (Fx.printP t.n) ++ nameC l true)
    rw [write_app, ← printP_write, nameP_write]
  · rfl
  · rfl
  · rfl
  · rfl
  · rfl
  · rfl
theorem sep_write (a b : Int) : (if apartB a b = true then ([47, 42, 42, 47] : List UInt8) else []) = writeP (sepC a b) := by
  unfold sepC
  split <;> rfl
theorem one_of_pairs {t : GTok} : ∀ {l : List GTok}, pairsB l = true → t ∈ l → oneB t = true
  | [], _, ht => by cases ht
  | [u], h, ht => by
    obtain rfl : t = u := by simpa using ht
    simp [pairsB] at h; exact h.1
  | u :: v :: l, h, ht => by
    unfold pairsB at h
    simp only [Bool.and_eq_true] at h
    rcases List.mem_cons.1 ht with rfl | ht
    · exact h.1.1.1.1
    · exact one_of_pairs h.2 ht
theorem join_write : ∀ {l : List GTok}, (∀ t ∈ l, oneB t = true) → joinP l = writeP (joinC l)
  | [], _ => rfl
  | [t], h => token_write (h t (by simp))
  | t :: u :: l, h => by
    show tokenP t ++ (_ ++ joinP (u :: l)) = writeP (tC t ++ (sepC t.kind u.kind ++ joinC (u :: l)))
    rw [write_app, write_app, ← token_write (h t (by simp)), ← sep_write, join_write (l := u :: l) (fun x hx => h x (by simp [hx]))]
/-- characters as they are scanned -/
def PlainL (l : List Int) : Prop := ∀ c ∈ l, Plain c
theorem PlainL.app {a b : List Int} (ha : PlainL a) (hb : PlainL b) : PlainL (a ++ b) := fun c hc => by
  rcases List.mem_append.1 hc with h | h
  · exact ha c h
  · exact hb c h
theorem PlainL.cons {c : Int} {a : List Int} (hc : Plain c) (ha : PlainL a) : PlainL (c :: a) := fun d hd => by
  rcases List.mem_cons.1 hd with rfl | h
  · exact hc
  · exact ha d h
theorem PlainL.low {a : List UInt8} (h : ∀ b ∈ a, b.toNat < 128 ∧ 32 ≤ b.toNat) : PlainL (chr a) := fun c hc => by
  obtain ⟨b, hb, rfl⟩ := List.mem_map.1 hc
  have := h b hb
  exact low_plain this.1 (by omega) (by omega) (by omega)
theorem part_plain {c : Int} (hc : isB c = true ∧ c ≠ 0) (b : Bool) (hb : b = false → c ≠ 12 ∧ c ≠ 13) : PlainL (partC c b) := by
  cases b with
  | true => exact PlainL.low (escP_low c)
  | false =>
    intro d hd
    obtain rfl : d = c := by simpa [partC] using hd
    exact ⟨hc.1, hc.2, (hb rfl).1, (hb rfl).2⟩
theorem need_within {c : Int} {a b d : Bool} (h : needB c a b d = false) : withinB c = true := by
  unfold needB at h
  rcases hw : withinB c with _ | _
  · rw [hw] at h; simp at h
  · rfl
theorem within_not {c : Int} (h : withinB c = true) : c ≠ 12 ∧ c ≠ 13 ∧ c ≠ 10 := by
  refine ⟨?_, ?_, ?_⟩ <;> rintro rfl <;> revert h <;> decide
theorem name_plain (l : List Int) (dim : Bool) : ∀ (r : List Int) (i : Nat), (∀ c ∈ r, isB c = true ∧ c ≠ 0) → PlainL (nameG l dim i r)
  | [], i, _ => fun c hc => by cases hc
  | c :: r, i, h => by
    unfold nameG
    exact (part_plain (h c (by simp)) _ (fun hf => ⟨(within_not (need_within hf)).1, (within_not (need_within hf)).2.1⟩)).app (name_plain l dim r (i + 1) (fun d hd => h d (by simp [hd])))
theorem body_plain : ∀ (r : List Int), (∀ c ∈ r, isB c = true ∧ c ≠ 0) → PlainL (bodyC r)
  | [], _ => fun c hc => by cases hc
  | c :: r, h => by
    show PlainL (partC c (quoteB c) ++ bodyC r)
    exact (part_plain (h c (by simp)) _ (fun hf => by have := of_decide_eq_false hf; omega)).app (body_plain r (fun d hd => h d (by simp [hd])))
theorem plain_of (k : Int) (h : isB k = true ∧ k ≠ 0 ∧ k ≠ 12 ∧ k ≠ 13) : Plain k := ⟨h.1, h.2.1, h.2.2.1, h.2.2.2⟩
theorem one_plain {k : Int} (h : isB k = true ∧ k ≠ 0 ∧ k ≠ 12 ∧ k ≠ 13) : PlainL [k] := PlainL.cons (plain_of k h) (fun c hc => by cases hc)
theorem tok_plain {t : GTok} (h : oneB t = true) : PlainL (tC t) := by
  obtain ⟨e1, e2, e3, e4, e5⟩ := one_facts h
  obtain ⟨k1, k2⟩ := kind_range h
  unfold tC
  generalize textC t = l at *
  generalize t.kind = k at *
  have hK : k = 1 ∨ k = 2 ∨ k = 3 ∨ k = 4 ∨ k = 5 ∨ k = 6 ∨ k = 7 ∨ k = 8 ∨ k = 9 ∨ k = 10 ∨ k = 11 ∨ k = 12 ∨ k = 13 ∨ k = 14 ∨ k = 15 ∨ k = 16 := by omega
  have hN : PlainL (nameC l false) := name_plain l false l 0 e2
  have hM : PlainL (nameC l true) := name_plain l true l 0 e2
  have hB : PlainL (34 :: bodyC l) := (body_plain l e2).cons (plain_of _ (by decide))
  rcases hK with rfl | rfl | rfl | rfl | rfl | rfl | rfl | rfl | rfl | rfl | rfl | rfl | rfl | rfl | rfl | rfl
  · exact one_plain (k := 10) (by decide)
  · exact hN
  · exact hN.app (one_plain (k := 40) (by decide))
  · exact hN.cons (plain_of 64 (by decide))
  · exact hN.cons (plain_of 35 (by decide))
  · exact hB.app (one_plain (k := 34) (by decide))
  · exact hB
  · exact PlainL.low (printP_low t.n)
  · exact (PlainL.low (printP_low t.n)).app (one_plain (k := 37) (by decide))
  · exact (PlainL.low (printP_low t.n)).app hM
  · obtain ⟨c, rfl, hd⟩ := single_of e5
    have hc := e2 c (by simp)
    obtain ⟨d1, d2, d3, d4⟩ := delim_facts hd
    exact one_plain (k := c) ⟨hc.1, hc.2, by omega, by omega⟩
  · have hl : l = [40] ∨ l = [91] ∨ l = [123] := by simpa [kindB] using e5
    rcases hl with rfl | rfl | rfl
    · exact one_plain (k := 40) (by decide)
    · exact one_plain (k := 91) (by decide)
    · exact one_plain (k := 123) (by decide)
  · have hl : l = [41] ∨ l = [93] ∨ l = [125] := by simpa [kindB] using e5
    rcases hl with rfl | rfl | rfl
    · exact one_plain (k := 41) (by decide)
    · exact one_plain (k := 93) (by decide)
    · exact one_plain (k := 125) (by decide)
  · exact one_plain (k := 58) (by decide)
  · exact one_plain (k := 59) (by decide)
  · exact one_plain (k := 44) (by decide)
theorem sep_plain (a b : Int) : PlainL (sepC a b) := by
  unfold sepC
  split
  · exact PlainL.low (a := [47, 42, 42, 47]) (by decide)
  · exact fun c hc => by cases hc
theorem join_plain : ∀ {l : List GTok}, (∀ t ∈ l, oneB t = true) → PlainL (joinC l)
  | [], _ => fun c hc => by cases hc
  | [t], h => tok_plain (h t (by simp))
  | t :: u :: l, h => (tok_plain (h t (by simp))).app ((sep_plain _ _).app (join_plain (l := u :: l) (fun x hx => h x (by simp [hx]))))
/-- tokens that may be, printed, are scanned as they were -/
theorem scan_print {l : List GTok} (h : rightB l = true) : scanT (readP (printL l)) = l.map gT := by
  have hp : pairsB l = true := by unfold rightB at h; simp only [Bool.and_eq_true] at h; exact h.1
  unfold printL
  rw [if_pos h, join_write (fun t ht => one_of_pairs hp ht), read_write _ (join_plain (fun t ht => one_of_pairs hp ht))]
  exact scan_join l hp
/-- a token alone -/
theorem scan_token {t : GTok} (h : oneB t = true) : scanT (readP (tokenP t)) = if t.kind = 7 then [⟨6, t.text, 0⟩] else [gT t] := by
  rw [token_write h, read_write _ (tok_plain h)]
  split
  · rename_i h7; exact scan_bad h h7
  · rename_i h7; exact scan_join [t] (by simp [pairsB, h, h7])
theorem gT_inj {a b : GTok} (ha : oneB a = true) (hb : oneB b = true) (h : gT a = gT b) : a = b := by
  have h1 := (kind_range ha).1
  have h2 := (kind_range hb).1
  obtain ⟨k, t, n⟩ := a
  obtain ⟨k', t', n'⟩ := b
  unfold gT at h
  simp only [Tok.mk.injEq, GTok.mk.injEq] at *
  refine ⟨by omega, h.2⟩
theorem map_inj : ∀ {a b : List GTok}, (∀ t ∈ a, oneB t = true) → (∀ t ∈ b, oneB t = true) → a.map gT = b.map gT → a = b
  | [], [], _, _, _ => rfl
  | [], _ :: _, _, _, h => by simp at h
  | _ :: _, [], _, _, h => by simp at h
  | x :: a, y :: b, ha, hb, h => by
    simp only [List.map_cons, List.cons.injEq] at h
    rw [gT_inj (ha x (by simp)) (hb y (by simp)) h.1, map_inj (fun t ht => ha t (by simp [ht])) (fun t ht => hb t (by simp [ht])) h.2]
/-- unlike tokens that may be are printed as unlike texts -/
theorem print_inj {a b : List GTok} (ha : rightB a = true) (hb : rightB b = true) : printL a = printL b ↔ a = b := by
  constructor
  · intro h
    have h1 := scan_print ha
    rw [h, scan_print hb] at h1
    have hpa : pairsB a = true := by unfold rightB at ha; simp only [Bool.and_eq_true] at ha; exact ha.1
    have hpb : pairsB b = true := by unfold rightB at hb; simp only [Bool.and_eq_true] at hb; exact hb.1
    exact (map_inj (fun t ht => one_of_pairs hpb ht) (fun t ht => one_of_pairs hpa ht) h1).symm
  · rintro rfl; rfl
/-! Characters below 128. -/
/-- bytes below 128, of which so many are 10 -/
def Asc (n : Nat) (l : List UInt8) : Prop := (∀ b ∈ l, b.toNat < 128) ∧ l.count 10 = n
theorem Asc.app {a b : List UInt8} {m n : Nat} (ha : Asc m a) (hb : Asc n b) : Asc (m + n) (a ++ b) := ⟨fun x hx => by
  rcases List.mem_append.1 hx with h | h
  · exact ha.1 x h
  · exact hb.1 x h, by rw [List.count_append, ha.2, hb.2]⟩
theorem asc_low {l : List UInt8} (h : ∀ b ∈ l, b.toNat < 128 ∧ 32 ≤ b.toNat) : Asc 0 l := ⟨fun b hb => (h b hb).1, by
  rw [List.count_eq_zero]
  intro hm
  exact absurd (h 10 hm).2 (by decide)⟩
theorem enc_asc {c : Int} (h0 : 0 ≤ c) (h : c < 128) (h10 : c ≠ 10) : Asc 0 (Lib.encodeRune c) := by
  have e : Lib.encodeRune c = [c.toNat.toUInt8] := by simp [Lib.encodeRune, Lib.encodeRuneZ_one h0 (by omega : c ≤ 127)]
  have g0 := b_of c h0 (by omega)
  rw [e]
  refine ⟨fun b hb => ?_, ?_⟩
  · obtain rfl : b = c.toNat.toUInt8 := by simpa using hb
    rw [g0]; omega
  · rw [List.count_eq_zero]
    intro hm
    have : (10 : UInt8) = c.toNat.toUInt8 := by simpa using hm
    rw [← this] at g0
    have : (10 : UInt8).toNat = 10 := rfl
    omega
theorem part_asc {c : Int} (h0 : 0 ≤ c) (h : c < 128) (b : Bool) (hb : b = false → c ≠ 10) : Asc 0 (partP c b) := by
  cases b with
  | true => exact asc_low (escP_low c)
  | false => exact enc_asc h0 h (hb rfl)
theorem name_asc (l : List Int) (dim : Bool) : ∀ (r : List Int) (i : Nat), (∀ c ∈ r, 0 ≤ c ∧ c < 128) → Asc 0 (nameF l dim i r)
  | [], i, _ => ⟨fun b hb => (by cases hb), rfl⟩
  | c :: r, i, h => by
    unfold nameF
    exact (part_asc (h c (by simp)).1 (h c (by simp)).2 _ (fun hf => (within_not (need_within hf)).2.2)).app (name_asc l dim r (i + 1) (fun d hd => h d (by simp [hd])))
theorem quoted_asc (l : List Int) (h : ∀ c ∈ l, 0 ≤ c ∧ c < 128) : Asc 0 (quotedP l) := by
  have : ∀ r : List Int, (∀ c ∈ r, 0 ≤ c ∧ c < 128) → Asc 0 (r.flatMap (fun c => partP c (quoteB c))) := by
    intro r
    induction r with
    | nil => exact fun _ => ⟨fun b hb => (by cases hb), rfl⟩
    | cons c r ih =>
      intro h
      show Asc 0 (partP c (quoteB c) ++ _)
      exact (part_asc (h c (by simp)).1 (h c (by simp)).2 _ (fun hf => by have := of_decide_eq_false hf; omega)).app (ih (fun d hd => h d (by simp [hd])))
  exact (asc_low (l := [34]) (by decide)).app (this l h)
/-- a text below 128 has characters below 128 -/
theorem text_low {t : GTok} (h : oneB t = true) (ha : ∀ b ∈ t.text, b.toNat < 128) : ∀ c ∈ textC t, 0 ≤ c ∧ c < 128 := by
  obtain ⟨e1, e2, e3, e4, e5⟩ := one_facts h
  intro c hc
  have h0 := (isB_range' (e2 c hc).1)
  refine ⟨h0.1, ?_⟩
  by_cases hlt : c < 128
  · exact hlt
  exfalso
  have hmem : ∀ b ∈ Lib.encodeRune c, b.toNat < 128 := fun b hb => by
    refine ha b ?_
    rw [← e3]
    unfold writeP
    exact List.mem_flatMap.2 ⟨c, hc, hb⟩
  have hd := decL_write c (e2 c hc).1 []
  rw [List.append_nil] at hd
  obtain ⟨b0, r, e⟩ := List.exists_cons_of_ne_nil (show Lib.encodeRune c ≠ [] from by have := enc_ne c []; rwa [List.append_nil] at this)
  have hb := hmem b0 (by rw [e]; simp)
  rw [e, decL_N] at hd
  unfold Lib.decodeN at hd
  simp at hd
  rw [if_pos (by omega)] at hd
  have := congrArg Prod.fst hd
  simp at this
  omega
theorem tok_asc {t : GTok} (h : oneB t = true) (ha : ∀ b ∈ t.text, b.toNat < 128) : Asc (if t.kind = 1 then 1 else 0) (tokenP t) := by
  have hl := text_low h ha
  obtain ⟨e1, e2, e3, e4, e5⟩ := one_facts h
  obtain ⟨k1, k2⟩ := kind_range h
  have htx : t.kind = 11 ∨ t.kind = 12 ∨ t.kind = 13 → Asc 0 t.text := by
    intro hk
    rw [← e3]
    generalize textC t = l at *
    rcases hk with hk | hk | hk
    · rw [hk] at e5
      obtain ⟨c, rfl, hd⟩ := single_of e5
      have hc := hl c (by simp)
      obtain ⟨d1, d2, d3, d4⟩ := delim_facts hd
      rw [write_one]
      exact enc_asc hc.1 hc.2 (by unfold whiteB at d1; simp at d1; omega)
    · rw [hk] at e5
      have hl : l = [40] ∨ l = [91] ∨ l = [123] := by simpa [kindB] using e5
      rcases hl with rfl | rfl | rfl <;> (rw [write_one]; exact enc_asc (by decide) (by decide) (by decide))
    · rw [hk] at e5
      have hl : l = [41] ∨ l = [93] ∨ l = [125] := by simpa [kindB] using e5
      rcases hl with rfl | rfl | rfl <;> (rw [write_one]; exact enc_asc (by decide) (by decide) (by decide))
  have hx : (utfP t.text).getD [] = textC t := rfl
  unfold tokenP
  rw [if_pos h]
  simp only [hx]
  generalize textC t = l at *
  generalize t.kind = k at *
  have a1 : ∀ b : UInt8, b.toNat < 128 → 32 ≤ b.toNat → Asc 0 [b] := fun b h1 h2 => asc_low (fun x hx => by
    obtain rfl : x = b := by simpa using hx
    exact ⟨h1, h2⟩)
  have hN : Asc 0 (nameP l false) := name_asc l false l 0 hl
  have hM : Asc 0 (nameP l true) := name_asc l true l 0 hl
  have hK : k = 1 ∨ k = 2 ∨ k = 3 ∨ k = 4 ∨ k = 5 ∨ k = 6 ∨ k = 7 ∨ k = 8 ∨ k = 9 ∨ k = 10 ∨ k = 11 ∨ k = 12 ∨ k = 13 ∨ k = 14 ∨ k = 15 ∨ k = 16 := by omega
  rcases hK with rfl | rfl | rfl | rfl | rfl | rfl | rfl | rfl | rfl | rfl | rfl | rfl | rfl | rfl | rfl | rfl
  · refine ⟨fun b hb => ?_, rfl⟩
    obtain rfl : b = 10 := by simpa using hb
    decide
  · exact hN
  · exact hN.app (a1 40 (by decide) (by decide))
  · exact (a1 64 (by decide) (by decide)).app hN
  · exact (a1 35 (by decide) (by decide)).app hN
  · exact (quoted_asc l hl).app (a1 34 (by decide) (by decide))
  · exact quoted_asc l hl
  · exact asc_low (printP_low t.n)
  · exact (asc_low (printP_low t.n)).app (a1 37 (by decide) (by decide))
  · exact (asc_low (printP_low t.n)).app hM
  · exact htx (by omega)
  · exact htx (by omega)
  · exact htx (by omega)
  · exact a1 58 (by decide) (by decide)
  · exact a1 59 (by decide) (by decide)
  · exact a1 44 (by decide) (by decide)
/-- how many Spaces there are -/
def spacesN (l : List GTok) : Nat := l.countP (fun t => decide (t.kind = 1))
theorem join_asc : ∀ {l : List GTok}, (∀ t ∈ l, oneB t = true) → (∀ t ∈ l, ∀ b ∈ t.text, b.toNat < 128) → Asc (spacesN l) (joinP l)
  | [], _, _ => ⟨fun b hb => (by cases hb), rfl⟩
  | [t], h, ha => by
    have := tok_asc (h t (by simp)) (ha t (by simp))
    have e : spacesN [t] = if t.kind = 1 then 1 else 0 := by simp [spacesN, List.countP_cons]
    rw [e]; exact this
  | t :: u :: l, h, ha => by
    have h1 := tok_asc (h t (by simp)) (ha t (by simp))
    have h2 := join_asc (l := u :: l) (fun x hx => h x (by simp [hx])) (fun x hx => ha x (by simp [hx]))
    have h3 : Asc 0 (if apartB t.kind u.kind = true then ([47, 42, 42, 47] : List UInt8) else []) := by
      split
      · exact asc_low (by decide)
      · exact ⟨fun b hb => (by cases hb), rfl⟩
    have e : spacesN (t :: u :: l) = (if t.kind = 1 then 1 else 0) + (0 + spacesN (u :: l)) := by
      simp [spacesN, List.countP_cons]; omega
    rw [e]
    exact h1.app (h3.app h2)
end Go.Proofs.YthimfoonalfoeaaDoor
set_option linter.unusedVariables false
set_option linter.unusedSimpArgs false
namespace Go.Proofs.YthimfoonalfoeaaDoor
open Go.RowKit Go.Maps Rn Tp Fx
set_option maxRecDepth 100000 in
set_option maxHeartbeats 1000000 in
theorem tp_num (n : Int) (g : Nat) (w : World) (h1 : -9223372036854775808 ≤ n) (h2 : n ≤ 9223372036854775807) (hE : Env w) (hc : w.cell? ⟨g, 2, none⟩ = some (.int .i64 n)) :
    Calls Tryd.prog 16 #[.pointer (some ⟨g, 0, none⟩)] w fun e w' => e = .returned (.string (bytesOf (Fx.printP n))) ∧ Below w.heap.size w w' := by
  go_enter Tryd.func16, Tryd.ntmps16
  go_wp2_with fail
  refine (fx_print n w h1 h2 hE).mono ?_
  rintro e w1 ⟨rfl, hb⟩
  go_wp2
  go_ret
  exact ⟨rfl, hb⟩
theorem keyedInt : Keyed Tryd.prog 3 := int_keyed Tryd.underlying3
theorem zero_str (w : World) : (zeroValue 9).run Tryd.prog w = .ok (.string ⟨#[]⟩) w := by kernel_rfl
abbrev SMap (w : World) (b n : Nat) (D : DataW Unit) : Prop := w.ownsMap Tryd.prog 3 (plainElem Tryd.prog 9) b n D
theorem smap_put {w : World} {b n : Nat} {D : DataW Unit} (h : SMap w b n D) (hn : n < 100) (k : Int) (s : List UInt8) (hk : (Lit.int .i64 k).wf = true) (hs : s.length ≤ 100) :
    ∃ w', (Instr.mapUpdate 35 (.map (some b)) (.int .i64 k) (.string (bytesOf s))).run Tryd.prog w = .ok () w' ∧ SMap w' b (n + 1) (D.put (.int .i64 k) (.lit (.string s))) ∧ w.grownBy w' (some b) :=
  h.update keyedInt Tryd.underlying35 (by unfold maxLen; omega) (keyOf_int_mk Tryd.underlying3 hk) (by
    have := plainElem_string (H := Unit) (P := Tryd.prog) (e := 9) Tryd.underlying9 (s := bytesOf s) (by rw [bytesOf_size]; unfold maxLen; omega)
    rw [bytesOf_list] at this
    exact this)
def sepD : DataW Unit := .map [(.int .i64 14, .lit (.string [58])), (.int .i64 15, .lit (.string [59])), (.int .i64 16, .lit (.string [44]))]
theorem sepD_puts : (((DataW.map [] : DataW Unit).put (.int .i64 14) (.lit (.string [58]))).put (.int .i64 15) (.lit (.string [59]))).put (.int .i64 16) (.lit (.string [44])) = sepD := by rfl
theorem sep_at {k : Int} (hk : k = 11 ∨ k = 12 ∨ k = 13 ∨ k = 14 ∨ k = 15 ∨ k = 16) : ∃ s : List UInt8, s = (if k = 14 then [58] else if k = 15 then [59] else if k = 16 then [44] else []) ∧ sepD.atKey (.int .i64 k) (.lit (.string [])) = .lit (.string s) := by
  rcases hk with rfl | rfl | rfl | rfl | rfl | rfl <;> exact ⟨_, rfl, rfl⟩
theorem nameF_len (l : List Int) (dim : Bool) : ∀ (r : List Int) (i : Nat), (∀ c ∈ r, isB c = true) → (nameF l dim i r).length ≤ 10 * r.length
  | [], i, _ => by simp [nameF]
  | c :: r, i, h => by
    unfold nameF
    have := nameF_len l dim r (i + 1) (fun d hd => h d (by simp [hd]))
    have h2 := part_len (h c (by simp)) (needB c (decide (i = 0 ∨ i = 1 ∧ l[0]? = some 45)) (decide (l = [45])) (dim && decide (i = 0)))
    rw [List.length_append, List.length_cons]; omega
theorem nameP_len {l : List Int} (dim : Bool) (h : ∀ c ∈ l, isB c = true) : (nameP l dim).length ≤ 10 * l.length := nameF_len l dim l 0 h
theorem quotedP_len {l : List Int} (h : ∀ c ∈ l, isB c = true) : (quotedP l).length ≤ 10 * l.length + 1 := by
  have key : ∀ r : List Int, (∀ c ∈ r, isB c = true) → (r.flatMap (fun c => partP c (quoteB c))).length ≤ 10 * r.length := by
    intro r
    induction r with
    | nil => simp
    | cons c r ih =>
      intro h
      have h1 := ih (fun d hd => h d (by simp [hd]))
      have h2 := part_len (h c (by simp)) (quoteB c)
      rw [List.flatMap_cons, List.length_append, List.length_cons]; omega
  have := key l h
  unfold quotedP; rw [List.length_cons]; omega
set_option maxRecDepth 100000 in
/-- the map's literal made anew, and read -/
theorem sep_map (W : World) (k : Int) (hk : k = 11 ∨ k = 12 ∨ k = 13 ∨ k = 14 ∨ k = 15 ∨ k = 16) : ∃ w1 w2 w3 s, s = (if k = 14 then [58] else if k = 15 then [59] else if k = 16 then [44] else ([] : List UInt8)) ∧
    (Instr.mapUpdate 35 (.map (some W.heap.size)) (.int .i64 14) (.string ⟨#[58]⟩)).run Tryd.prog (W.alloc (.map #[] 0)) = .ok () w1 ∧
    (Instr.mapUpdate 35 (.map (some W.heap.size)) (.int .i64 15) (.string ⟨#[59]⟩)).run Tryd.prog w1 = .ok () w2 ∧
    (Instr.mapUpdate 35 (.map (some W.heap.size)) (.int .i64 16) (.string ⟨#[44]⟩)).run Tryd.prog w2 = .ok () w3 ∧
    (Instr.lookup 35 (.map (some W.heap.size)) (.int .i64 k) false).run Tryd.prog w3 = .ok (.string (bytesOf s)) w3 ∧ Below W.heap.size W w3 := by
  have K0 : SMap (W.alloc (.map #[] 0)) W.heap.size 0 (.map []) := World.ownsMap_made _ _ _ _
  obtain ⟨w1, r1, K1, g1⟩ := smap_put K0 (by omega) 14 [58] (by decide) (by simp)
  obtain ⟨w2, r2, K2, g2⟩ := smap_put K1 (by omega) 15 [59] (by decide) (by simp)
  obtain ⟨w3, r3, K3, g3⟩ := smap_put K2 (by omega) 16 [44] (by decide) (by simp)
  rw [sepD_puts] at K3
  have hcw : (Lit.int .i64 k).wf = true := by rcases hk with rfl | rfl | rfl | rfl | rfl | rfl <;> decide
  have hzs := plainElem_string (H := Unit) (P := Tryd.prog) (e := 9) Tryd.underlying9 (s := bytesOf []) (by rw [bytesOf_size]; unfold maxLen; simp)
  rw [bytesOf_list] at hzs
  obtain ⟨v, ps, rl, hv⟩ := K3.lookup keyedInt Tryd.underlying35 (zero_str _) hzs (keyOf_int_mk Tryd.underlying3 hcw)
  obtain ⟨x, rfl, hx, _⟩ := plainElem_string_inv Tryd.underlying9 hv
  obtain ⟨s, hs, hat⟩ := sep_at hk
  have hx' := (Prod.mk.inj hx).1
  rw [hat] at hx'
  have hxs : x = bytesOf s := by
    injection hx' with hx'
    injection hx' with hx'
    rw [hx', bytesOf_eta]
  rw [hxs] at rl
  refine ⟨w1, w2, w3, s, hs, r1, r2, r3, rl, ?_⟩
  have g : (W.alloc (.map #[] 0)).grownBy w3 (some W.heap.size) := (g1.trans g2).trans g3
  exact ((Below.refl _ _).alloc (Nat.le_refl _) _).grown g (by simp) (fun k hk => by injection hk with hk; omega)
set_option maxRecDepth 100000 in
set_option maxHeartbeats 8000000 in
theorem tp_token (t : GTok) (w : World) (hl : t.text.length ≤ 1000000) (hn : -9223372036854775808 ≤ t.n ∧ t.n ≤ 9223372036854775807) (hT : Tabs w) (hE : Env w) (hD : Db w) :
    Calls Tryd.prog 8 #[tokG t] w fun e w' => e = .returned (.string (bytesOf (tokenP t))) ∧ Below w.heap.size w w' := by
  obtain ⟨wA, hwA⟩ : ∃ wA, w.alloc (.cells #[.int .i64 t.kind, .string (bytesOf t.text), .int .i64 t.n] 26) = wA := ⟨_, rfl⟩
  have bA : Below w.heap.size w wA := by rw [← hwA]; exact (Below.refl _ _).alloc (Nat.le_refl _) _
  have rA : RowAt wA w.heap.size [.int .i64 t.kind, .string (bytesOf t.text), .int .i64 t.n] := by rw [← hwA]; exact RowAt.new _ _ _
  obtain ⟨x0, _⟩ := rA.2 0 _ rfl
  obtain ⟨x1, _⟩ := rA.2 1 _ rfl
  obtain ⟨x2, _⟩ := rA.2 2 _ rfl
  have hR := tp_right t wA (by unfold maxLen; omega) hn (hT.below bA)
  cases hO : oneB t with
  | false =>
    have htp : tokenP t = [] := by unfold tokenP; rw [if_neg (by rw [hO]; decide)]
    rw [hO] at hR
    have HT := Lib.hid htp
    clear htp hO
    go_enter Tryd.func8, Tryd.ntmps8
    go_wp2_with fail
    refine hR.mono ?_
    rintro e w1 ⟨rfl, hb⟩
    go_wp2
    go_ret
    exact ⟨by rw [HT.out]; rfl, bA.trans (hb.mono bA.size)⟩
  | true =>
    obtain ⟨e1, e2, e3, e4, e5⟩ := one_facts hO
    obtain ⟨k1, k2⟩ := kind_range hO
    have htp : tokenP t = tokenP t := rfl
    conv at htp =>
      rhs
      unfold tokenP
      rw [if_pos hO]
    have hx : (utfP t.text).getD [] = textC t := rfl
    simp only [hx] at htp
    have htx : 11 ≤ t.kind → (14 ≤ t.kind → t.text = []) := by
      intro _ h14
      have hl : textC t = [] := by
        have := e5
        unfold kindB at this
        rw [if_neg (by omega), if_neg (by omega), if_neg (by omega), if_neg (by omega), if_neg (by omega)] at this
        exact (of_decide_eq_true this).2.2
      rw [← e3, hl]; simp [writeP]
    obtain ⟨R, hRR⟩ : ∃ R, tokenP t = R := ⟨_, rfl⟩
    rw [hRR] at htp ⊢
    rw [hO] at hR
    obtain ⟨kind, text, n⟩ := t
    simp only [] at *
    generalize textC ⟨kind, text, n⟩ = cs at *
    have hv : ∀ c ∈ cs, isB c = true := fun c hc => (e2 c hc).1
    have hcl : cs.length ≤ 1000000 := by
      have := posU_ge cs cs.length (Nat.le_refl _)
      rw [posU_end, e3] at this; omega
    subst e3
    clear hRR hO hx e1 e2 e4 e5
    have HP := Lib.hid htp
    have HX := Lib.hid htx
    clear htp htx
    have hEA := hE.below bA
    have hDA := hD.below bA
    have cN := fun (dim : Bool) (W : World) (h : Below wA.heap.size wA W) => tp_name cs dim W hv hcl (hDA.below h)
    have cQ := fun (W : World) (h : Below wA.heap.size wA W) => tp_quoted cs W hv hcl (hDA.below h)
    have cF := fun (W : World) (h : Below wA.heap.size wA W) => tp_num n w.heap.size W hn.1 hn.2 (hEA.below h) ((h.cell (p := ⟨w.heap.size, 2, none⟩) rA.1).trans x2)
    have hK : kind = 1 ∨ kind = 2 ∨ kind = 3 ∨ kind = 4 ∨ kind = 5 ∨ kind = 6 ∨ kind = 7 ∨ kind = 8 ∨ kind = 9 ∨ kind = 10 ∨ (kind = 11 ∨ kind = 12 ∨ kind = 13 ∨ kind = 14 ∨ kind = 15 ∨ kind = 16) := by omega
    have hNz := fun dim => bytesOf_size (nameP cs dim)
    have hNl := fun dim => nameP_len (l := cs) dim hv
    have hQz := bytesOf_size (quotedP cs)
    have hQl := quotedP_len (l := cs) hv
    have hFz := bytesOf_size (Fx.printP n)
    have hFl := printP_len n
    have hTz := bytesOf_size (writeP cs)
    have hNz0 := hNz false
    have hNl0 := hNl false
    have hNz1 := hNz true
    have hNl1 := hNl true
    clear hNz hNl
    have base : ∀ {W1 : World}, Below wA.heap.size wA W1 → Below w.heap.size w W1 := fun h => bA.trans (h.mono bA.size)
    have cells : ∀ {W1 : World}, Below wA.heap.size wA W1 → W1.cell? ⟨w.heap.size, 0, none⟩ = some (.int .i64 kind) ∧ W1.cell? ⟨w.heap.size, 1, none⟩ = some (.string (bytesOf (writeP cs))) ∧ W1.cell? ⟨w.heap.size, 2, none⟩ = some (.int .i64 n) := fun h => ⟨(h.cell (p := ⟨w.heap.size, 0, none⟩) rA.1).trans x0, (h.cell (p := ⟨w.heap.size, 1, none⟩) rA.1).trans x1, (h.cell (p := ⟨w.heap.size, 2, none⟩) rA.1).trans x2⟩
    rcases hK with rfl | rfl | rfl | rfl | rfl | rfl | rfl | rfl | rfl | rfl | hK
    case inl =>
      go_enter Tryd.func8, Tryd.ntmps8
      go_wp2_with fail
      refine hR.mono ?_
      rintro e w1 ⟨rfl, hb⟩
      obtain ⟨y0, y1, y2⟩ := cells hb
      go_wp2
      go_ret
      exact ⟨congrArg (fun b => Ending.returned (Value.string b)) (by rw [HP.out]; rfl), base hb⟩
    case inr.inl =>
      go_enter Tryd.func8, Tryd.ntmps8
      go_wp2_with fail
      refine hR.mono ?_
      rintro e w1 ⟨rfl, hb⟩
      obtain ⟨y0, y1, y2⟩ := cells hb
      go_wp2_with fail
      refine (cN false _ hb).mono ?_
      rintro e w2 ⟨rfl, hb2⟩
      go_wp2
      go_ret
      refine ⟨congrArg (fun b => Ending.returned (Value.string b)) ?_, base (hb.trans (hb2.mono hb.size))⟩
      rw [HP.out]
      rfl
    case inr.inr.inl =>
      go_enter Tryd.func8, Tryd.ntmps8
      go_wp2_with fail
      refine hR.mono ?_
      rintro e w1 ⟨rfl, hb⟩
      obtain ⟨y0, y1, y2⟩ := cells hb
      go_wp2_with fail
      refine (cN false _ hb).mono ?_
      rintro e w2 ⟨rfl, hb2⟩
      go_wp2
      go_ret
      refine ⟨congrArg (fun b => Ending.returned (Value.string b)) ?_, base (hb.trans (hb2.mono hb.size))⟩
      rw [HP.out]
      exact bytesOf_append (nameP cs false) [40]
    case inr.inr.inr.inl =>
      go_enter Tryd.func8, Tryd.ntmps8
      go_wp2_with fail
      refine hR.mono ?_
      rintro e w1 ⟨rfl, hb⟩
      obtain ⟨y0, y1, y2⟩ := cells hb
      go_wp2_with fail
      refine (cN false _ hb).mono ?_
      rintro e w2 ⟨rfl, hb2⟩
      go_wp2
      go_ret
      refine ⟨congrArg (fun b => Ending.returned (Value.string b)) ?_, base (hb.trans (hb2.mono hb.size))⟩
      rw [HP.out]
      exact bytesOf_append [64] (nameP cs false)
    case inr.inr.inr.inr.inl =>
      go_enter Tryd.func8, Tryd.ntmps8
      go_wp2_with fail
      refine hR.mono ?_
      rintro e w1 ⟨rfl, hb⟩
      obtain ⟨y0, y1, y2⟩ := cells hb
      go_wp2_with fail
      refine (cN false _ hb).mono ?_
      rintro e w2 ⟨rfl, hb2⟩
      go_wp2
      go_ret
      refine ⟨congrArg (fun b => Ending.returned (Value.string b)) ?_, base (hb.trans (hb2.mono hb.size))⟩
      rw [HP.out]
      exact bytesOf_append [35] (nameP cs false)
    case inr.inr.inr.inr.inr.inl =>
      go_enter Tryd.func8, Tryd.ntmps8
      go_wp2_with fail
      refine hR.mono ?_
      rintro e w1 ⟨rfl, hb⟩
      obtain ⟨y0, y1, y2⟩ := cells hb
      go_wp2_with fail
      refine (cQ _ hb).mono ?_
      rintro e w2 ⟨rfl, hb2⟩
      go_wp2
      go_ret
      refine ⟨congrArg (fun b => Ending.returned (Value.string b)) ?_, base (hb.trans (hb2.mono hb.size))⟩
      rw [HP.out]
      exact bytesOf_append (quotedP cs) [34]
    case inr.inr.inr.inr.inr.inr.inl =>
      go_enter Tryd.func8, Tryd.ntmps8
      go_wp2_with fail
      refine hR.mono ?_
      rintro e w1 ⟨rfl, hb⟩
      obtain ⟨y0, y1, y2⟩ := cells hb
      go_wp2_with fail
      refine (cQ _ hb).mono ?_
      rintro e w2 ⟨rfl, hb2⟩
      go_wp2
      go_ret
      refine ⟨congrArg (fun b => Ending.returned (Value.string b)) ?_, base (hb.trans (hb2.mono hb.size))⟩
      rw [HP.out]
      rfl
    case inr.inr.inr.inr.inr.inr.inr.inl =>
      go_enter Tryd.func8, Tryd.ntmps8
      go_wp2_with fail
      refine hR.mono ?_
      rintro e w1 ⟨rfl, hb⟩
      obtain ⟨y0, y1, y2⟩ := cells hb
      go_wp2_with fail
      refine (cF _ hb).mono ?_
      rintro e w2 ⟨rfl, hb2⟩
      go_wp2
      go_ret
      refine ⟨congrArg (fun b => Ending.returned (Value.string b)) ?_, base (hb.trans (hb2.mono hb.size))⟩
      rw [HP.out]
      rfl
    case inr.inr.inr.inr.inr.inr.inr.inr.inl =>
      go_enter Tryd.func8, Tryd.ntmps8
      go_wp2_with fail
      refine hR.mono ?_
      rintro e w1 ⟨rfl, hb⟩
      obtain ⟨y0, y1, y2⟩ := cells hb
      go_wp2_with fail
      refine (cF _ hb).mono ?_
      rintro e w2 ⟨rfl, hb2⟩
      go_wp2
      go_ret
      refine ⟨congrArg (fun b => Ending.returned (Value.string b)) ?_, base (hb.trans (hb2.mono hb.size))⟩
      rw [HP.out]
      exact bytesOf_append (Fx.printP n) [37]
    case inr.inr.inr.inr.inr.inr.inr.inr.inr.inl =>
      go_enter Tryd.func8, Tryd.ntmps8
      go_wp2_with fail
      refine hR.mono ?_
      rintro e w1 ⟨rfl, hb⟩
      obtain ⟨y0, y1, y2⟩ := cells hb
      have hlt : w.heap.size < w1.heap.size := Nat.lt_of_lt_of_le rA.1 hb.size
      have z1 := bw_cell (B := w1.heap.size) y1 hlt
      go_wp2_with fail
      refine wp_region_bw w1.heap.size (by kernel_rfl) (by kernel_rfl) ?_
      repeat (go_big_quiet_step (first | (go_at_call 16; rename_i W; exact calls_bw (Nat.le_refl _) (cF W.val (hb.trans (W.is.mono hb.size)))) | (go_at_call 18; rename_i W; exact calls_bw (Nat.le_refl _) (cN true W.val (hb.trans (W.is.mono hb.size))))))
      refine wpQuiet_nil ?_
      intro _ hw'
      obtain ⟨W, rfl⟩ := hw'
      go_wp2
      go_ret
      refine ⟨congrArg (fun b => Ending.returned (Value.string b)) ?_, base (hb.trans (W.is.mono hb.size))⟩
      rw [HP.out]
      exact bytesOf_append (Fx.printP n) (nameP cs true)
    case inr.inr.inr.inr.inr.inr.inr.inr.inr.inr =>
      have hfin : R = (if kind = 14 then [58] else if kind = 15 then [59] else if kind = 16 then [44] else []) ++ writeP cs := by
        rw [HP.out]
        rcases hK with rfl | rfl | rfl | rfl | rfl | rfl
        · rfl
        · rfl
        · rfl
        · rw [HX.out (by omega) (by omega)]; rfl
        · rw [HX.out (by omega) (by omega)]; rfl
        · rw [HX.out (by omega) (by omega)]; rfl
      have HF := Lib.hid hfin
      have hks : (kind == 1) = false ∧ (kind == 2) = false ∧ (kind == 3) = false ∧ (kind == 4) = false ∧ (kind == 5) = false ∧ (kind == 6) = false ∧ (kind == 7) = false ∧ (kind == 8) = false ∧ (kind == 9) = false ∧ (kind == 10) = false := by simp; omega
      obtain ⟨q1, q2, q3, q4, q5, q6, q7, q8, q9, q10⟩ := hks
      have HK := Lib.hid hK
      clear hfin HP HX hK
      go_enter Tryd.func8, Tryd.ntmps8
      go_wp2_with fail
      refine hR.mono ?_
      rintro e w1 ⟨rfl, hb⟩
      obtain ⟨y0, y1, y2⟩ := cells hb
      have hlt : w.heap.size < w1.heap.size := Nat.lt_of_lt_of_le rA.1 hb.size
      obtain ⟨m1, m2, m3, s, hs, r1, r2, r3, rl, hbm⟩ := sep_map w1 kind HK.out
      have z0 := (hbm.cell (p := ⟨w.heap.size, 0, none⟩) hlt).trans y0
      have z1 := (hbm.cell (p := ⟨w.heap.size, 1, none⟩) hlt).trans y1
      have hmm := @run_makeMap Tryd.prog
      have hsl : s.length ≤ 1 := by rw [hs]; split <;> (try simp) <;> split <;> (try simp) <;> split <;> simp
      have hsz := bytesOf_size s
      have HS := Lib.hid hs
      clear hs
      go_wp2
      go_ret
      refine ⟨congrArg (fun b => Ending.returned (Value.string b)) ?_, base (hb.trans (hbm.mono hb.size))⟩
      rw [HF.out, ← HS.out]
      exact bytesOf_append s (writeP cs)
end Go.Proofs.YthimfoonalfoeaaDoor
