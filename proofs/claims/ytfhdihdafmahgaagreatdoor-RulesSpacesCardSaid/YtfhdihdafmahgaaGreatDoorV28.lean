/- Layer 6: sheets side by side: what white space, and a rule that is dropped, change. Plain laws. -/
import Derived.Test.YtfhdihdafmahgaaGreatDoorV24
import Derived.Test.YtfhdihdafmahgaaGreatDoorV08
import Derived.Test.YtfhdihdafmahgaaGreatDoorV14
/- Layer 4: a printed text's bytes are its characters'; what is printed of tokens below 128. Plain laws. -/
set_option linter.unusedVariables false
set_option linter.unusedSimpArgs false
namespace Go.Proofs.YtfhdihdafmahgaaGreatDoor
open Go.RowKit Rn Tk Fx Tp
theorem escP_low (c : Int) : ∀ b ∈ escP c, b.toNat < 128 ∧ 32 ≤ b.toNat := by
  intro b hb
  unfold escP at hb
  rcases List.mem_cons.1 hb with rfl | hb
  · decide
  · rcases List.mem_append.1 hb with hb | hb
    · have := hexT_low c.toNat c.toNat (Nat.le_refl _) b hb; omega
    · obtain rfl : b = 32 := by simpa using hb
      decide
theorem part_write (c : Int) (b : Bool) : partP c b = writeP (partC c b) := by
  cases b with
  | true => exact (write_chr (escP c) (fun b hb => (escP_low c b hb).1)).symm
  | false => exact (write_one c).symm
theorem name_write (l : List Int) (dim : Bool) : ∀ (r : List Int) (i : Nat), nameF l dim i r = writeP (nameG l dim i r)
  | [], i => rfl
  | c :: r, i => by
    unfold nameF nameG
    rw [write_app, part_write, name_write l dim r (i + 1)]
theorem nameP_write (l : List Int) (dim : Bool) : nameP l dim = writeP (nameC l dim) := name_write l dim l 0
theorem quoted_write (l : List Int) : quotedP l = writeP (34 :: bodyC l) := by
  have : ∀ l : List Int, l.flatMap (fun c => partP c (quoteB c)) = writeP (bodyC l) := by
    intro l
    induction l with
    | nil => rfl
    | cons c l ih =>
      show partP c (quoteB c) ++ l.flatMap (fun c => partP c (quoteB c)) = writeP (partC c (quoteB c) ++ bodyC l)
      rw [ih, write_app, part_write]
  rw [write_cons]
  unfold quotedP
  rw [this]; rfl
theorem printP_low (n : Int) : ∀ b ∈ Fx.printP n, b.toNat < 128 ∧ 32 ≤ b.toNat := by
  intro b hb
  rcases printP_bytes n b hb with h | rfl | rfl
  · unfold isD at h; simp at h; omega
  · decide
  · decide
theorem printP_write (n : Int) : Fx.printP n = writeP (chr (Fx.printP n)) := (write_chr _ (fun b hb => (printP_low n b hb).1)).symm
theorem token_write {t : GTok} (h : oneB t = true) : tokenP t = writeP (tC t) := by
  obtain ⟨e1, e2, e3, e4, e5⟩ := one_facts h
  have w1 : ∀ a : List UInt8, (∀ b ∈ a, b.toNat < 128) → a = writeP (chr a) := fun a ha => (write_chr a ha).symm
  obtain ⟨k1, k2⟩ := kind_range h
  have hx : (utfP t.text).getD [] = textC t := rfl
  unfold tokenP tC
  rw [if_pos h]
  simp only [hx]
  generalize textC t = l at *
  rw [← e3]
  generalize t.kind = k at *
  have hK : k = 1 ∨ k = 2 ∨ k = 3 ∨ k = 4 ∨ k = 5 ∨ k = 6 ∨ k = 7 ∨ k = 8 ∨ k = 9 ∨ k = 10 ∨ k = 11 ∨ k = 12 ∨ k = 13 ∨ k = 14 ∨ k = 15 ∨ k = 16 := by omega
  rcases hK with rfl | rfl | rfl | rfl | rfl | rfl | rfl | rfl | rfl | rfl | rfl | rfl | rfl | rfl | rfl | rfl
  · rfl
  · exact nameP_write l false
  · show nameP l false ++ [40] = writeP (nameC l false ++ [40])
    rw [write_app, nameP_write]; rfl
  · show 64 :: nameP l false = writeP (64 :: nameC l false)
    rw [write_cons, nameP_write]; rfl
  · show 35 :: nameP l false = writeP (35 :: nameC l false)
    rw [write_cons, nameP_write]; rfl
  · show quotedP l ++ [34] = writeP ((34 :: bodyC l) ++ [34])
    rw [write_app, quoted_write]; rfl
  · exact quoted_write l
  · exact printP_write _
  · show Fx.printP t.n ++ [37] = writeP (chr (Fx.printP t.n) ++ [37])
    rw [write_app, ← printP_write]; rfl
  · show Fx.printP t.n ++ nameP l true = writeP (chr (Fx.printP t.n) ++ nameC l true)
    rw [write_app, ← printP_write, nameP_write]
  · rfl
  · rfl
  · rfl
  · rfl
  · rfl
  · rfl
theorem sep_write (a b : Int) : (if apartB a b = true then ([47, 42, 42, 47] : List UInt8) else []) = writeP (sepC a b) := by
  unfold sepC
  split <;> rfl
theorem one_of_pairs {t : GTok} : ∀ {l : List GTok}, pairsB l = true → t ∈ l → oneB t = true
  | [], _, ht => by cases ht
  | [u], h, ht => by
    obtain rfl : t = u := by simpa using ht
    simp [pairsB] at h; exact h.1
  | u :: v :: l, h, ht => by
    unfold pairsB at h
    simp only [Bool.and_eq_true] at h
    rcases List.mem_cons.1 ht with rfl | ht
    · exact h.1.1.1.1
    · exact one_of_pairs h.2 ht
theorem join_write : ∀ {l : List GTok}, (∀ t ∈ l, oneB t = true) → joinP l = writeP (joinC l)
  | [], _ => rfl
  | [t], h => token_write (h t (by simp))
  | t :: u :: l, h => by
    show tokenP t ++ (_ ++ joinP (u :: l)) = writeP (tC t ++ (sepC t.kind u.kind ++ joinC (u :: l)))
    rw [write_app, write_app, ← token_write (h t (by simp)), ← sep_write, join_write (l := u :: l) (fun x hx => h x (by simp [hx]))]
/-- characters as they are scanned -/
def PlainL (l : List Int) : Prop := ∀ c ∈ l, Plain c
theorem PlainL.app {a b : List Int} (ha : PlainL a) (hb : PlainL b) : PlainL (a ++ b) := fun c hc => by
  rcases List.mem_append.1 hc with h | h
  · exact ha c h
  · exact hb c h
theorem PlainL.cons {c : Int} {a : List Int} (hc : Plain c) (ha : PlainL a) : PlainL (c :: a) := fun d hd => by
  rcases List.mem_cons.1 hd with rfl | h
  · exact hc
  · exact ha d h
theorem PlainL.low {a : List UInt8} (h : ∀ b ∈ a, b.toNat < 128 ∧ 32 ≤ b.toNat) : PlainL (chr a) := fun c hc => by
  obtain ⟨b, hb, rfl⟩ := List.mem_map.1 hc
  have := h b hb
  exact low_plain this.1 (by omega) (by omega) (by omega)
theorem part_plain {c : Int} (hc : isB c = true ∧ c ≠ 0) (b : Bool) (hb : b = false → c ≠ 12 ∧ c ≠ 13) : PlainL (partC c b) := by
  cases b with
  | true => exact PlainL.low (escP_low c)
  | false =>
    intro d hd
    obtain rfl : d = c := by simpa [partC] using hd
    exact ⟨hc.1, hc.2, (hb rfl).1, (hb rfl).2⟩
theorem need_within {c : Int} {a b d : Bool} (h : needB c a b d = false) : withinB c = true := by
  unfold needB at h
  rcases hw : withinB c with _ | _
  · rw [hw] at h; simp at h
  · rfl
theorem within_not {c : Int} (h : withinB c = true) : c ≠ 12 ∧ c ≠ 13 ∧ c ≠ 10 := by
  refine ⟨?_, ?_, ?_⟩ <;> rintro rfl <;> revert h <;> decide
theorem name_plain (l : List Int) (dim : Bool) : ∀ (r : List Int) (i : Nat), (∀ c ∈ r, isB c = true ∧ c ≠ 0) → PlainL (nameG l dim i r)
  | [], i, _ => fun c hc => by cases hc
  | c :: r, i, h => by
    unfold nameG
    exact (part_plain (h c (by simp)) _ (fun hf => ⟨(within_not (need_within hf)).1, (within_not (need_within hf)).2.1⟩)).app (name_plain l dim r (i + 1) (fun d hd => h d (by simp [hd])))
theorem body_plain : ∀ (r : List Int), (∀ c ∈ r, isB c = true ∧ c ≠ 0) → PlainL (bodyC r)
  | [], _ => fun c hc => by cases hc
  | c :: r, h => by
    show PlainL (partC c (quoteB c) ++ bodyC r)
    exact (part_plain (h c (by simp)) _ (fun hf => by have := of_decide_eq_false hf; omega)).app (body_plain r (fun d hd => h d (by simp [hd])))
theorem plain_of (k : Int) (h : isB k = true ∧ k ≠ 0 ∧ k ≠ 12 ∧ k ≠ 13) : Plain k := ⟨h.1, h.2.1, h.2.2.1, h.2.2.2⟩
theorem one_plain {k : Int} (h : isB k = true ∧ k ≠ 0 ∧ k ≠ 12 ∧ k ≠ 13) : PlainL [k] := PlainL.cons (plain_of k h) (fun c hc => by cases hc)
theorem tok_plain {t : GTok} (h : oneB t = true) : PlainL (tC t) := by
  obtain ⟨e1, e2, e3, e4, e5⟩ := one_facts h
  obtain ⟨k1, k2⟩ := kind_range h
  unfold tC
  generalize textC t = l at *
  generalize t.kind = k at *
  have hK : k = 1 ∨ k = 2 ∨ k = 3 ∨ k = 4 ∨ k = 5 ∨ k = 6 ∨ k = 7 ∨ k = 8 ∨ k = 9 ∨ k = 10 ∨ k = 11 ∨ k = 12 ∨ k = 13 ∨ k = 14 ∨ k = 15 ∨ k = 16 := by omega
  have hN : PlainL (nameC l false) := name_plain l false l 0 e2
  have hM : PlainL (nameC l true) := name_plain l true l 0 e2
  have hB : PlainL (34 :: bodyC l) := (body_plain l e2).cons (plain_of _ (by decide))
  rcases hK with rfl | rfl | rfl | rfl | rfl | rfl | rfl | rfl | rfl | rfl | rfl | rfl | rfl | rfl | rfl | rfl
  · exact one_plain (k := 10) (by decide)
  · exact hN
  · exact hN.app (one_plain (k := 40) (by decide))
  · exact hN.cons (plain_of 64 (by decide))
  · exact hN.cons (plain_of 35 (by decide))
  · exact hB.app (one_plain (k := 34) (by decide))
  · exact hB
  · exact PlainL.low (printP_low t.n)
  · exact (PlainL.low (printP_low t.n)).app (one_plain (k := 37) (by decide))
  · exact (PlainL.low (printP_low t.n)).app hM
  · obtain ⟨c, rfl, hd⟩ := single_of e5
    have hc := e2 c (by simp)
    obtain ⟨d1, d2, d3, d4⟩ := delim_facts hd
    exact one_plain (k := c) ⟨hc.1, hc.2, by omega, by omega⟩
  · have hl : l = [40] ∨ l = [91] ∨ l = [123] := by simpa [kindB] using e5
    rcases hl with rfl | rfl | rfl
    · exact one_plain (k := 40) (by decide)
    · exact one_plain (k := 91) (by decide)
    · exact one_plain (k := 123) (by decide)
  · have hl : l = [41] ∨ l = [93] ∨ l = [125] := by simpa [kindB] using e5
    rcases hl with rfl | rfl | rfl
    · exact one_plain (k := 41) (by decide)
    · exact one_plain (k := 93) (by decide)
    · exact one_plain (k := 125) (by decide)
  · exact one_plain (k := 58) (by decide)
  · exact one_plain (k := 59) (by decide)
  · exact one_plain (k := 44) (by decide)
theorem sep_plain (a b : Int) : PlainL (sepC a b) := by
  unfold sepC
  split
  · exact PlainL.low (a := [47, 42, 42, 47]) (by decide)
  · exact fun c hc => by cases hc
theorem join_plain : ∀ {l : List GTok}, (∀ t ∈ l, oneB t = true) → PlainL (joinC l)
  | [], _ => fun c hc => by cases hc
  | [t], h => tok_plain (h t (by simp))
  | t :: u :: l, h => (tok_plain (h t (by simp))).app ((sep_plain _ _).app (join_plain (l := u :: l) (fun x hx => h x (by simp [hx]))))
/-! Characters below 128. -/
/-- bytes below 128, of which so many are 10 -/
def Asc (n : Nat) (l : List UInt8) : Prop := (∀ b ∈ l, b.toNat < 128) ∧ l.count 10 = n
theorem Asc.app {a b : List UInt8} {m n : Nat} (ha : Asc m a) (hb : Asc n b) : Asc (m + n) (a ++ b) := ⟨fun x hx => by
  rcases List.mem_append.1 hx with h | h
  · exact ha.1 x h
  · exact hb.1 x h, by rw [List.count_append, ha.2, hb.2]⟩
end Go.Proofs.YtfhdihdafmahgaaGreatDoor
set_option linter.unusedVariables false
set_option linter.unusedSimpArgs false
namespace Go.Proofs.YtfhdihdafmahgaaGreatDoor
open Go.RowKit Rn Tp Tk Ru
namespace Ru
def spT : GTok := ⟨1, [], 0⟩
/-- a part of a sheet that is gone over by itself, and the rules that it gives -/
def Goes (m : List GTok) (rs : List Rule) : Prop :=
  stackP m m.length = [] ∧ deepB m = true ∧ ∀ (L : List GTok) (p : Nat), Lies L p m → stackP L p = [] → rulesP L p = rs ++ rulesP L (p + m.length)
end Ru
theorem deep_iff {l : List GTok} : deepB l = true ↔ ∀ k, k ≤ l.length → (stackP l k).length ≤ 64 := by
  unfold deepB
  rw [List.all_eq_true]
  constructor
  · intro h k hk
    have := h k (List.mem_range.2 (by omega))
    simpa using this
  · intro h k hk
    have := h k (by have := List.mem_range.1 hk; omega)
    simpa using this
theorem Ru.Goes.nil : Goes [] [] := ⟨rfl, by decide, fun L p _ _ => by simp⟩
theorem Ru.Goes.app {a b : List GTok} {ra rb : List Rule} (ha : Goes a ra) (hb : Goes b rb) : Goes (a ++ b) (ra ++ rb) := by
  obtain ⟨a1, a2, a3⟩ := ha
  obtain ⟨b1, b2, b3⟩ := hb
  have hs : stackP (a ++ b) a.length = [] := by rw [stack_app_left a b _ (Nat.le_refl _)]; exact a1
  have hst := stack_at (Lies.app a b) (.inr hs)
  refine ⟨?_, ?_, fun L p h hp => ?_⟩
  · rw [List.length_append, hst b.length (Nat.le_refl _), b1, hs]; rfl
  · rw [deep_iff] at a2 b2 ⊢
    intro k hk
    rw [List.length_append] at hk
    by_cases h : k ≤ a.length
    · rw [stack_app_left a b k h]; exact a2 k h
    · have := hst (k - a.length) (by omega)
      rw [show a.length + (k - a.length) = k by omega, hs] at this
      rw [this]
      simpa using b2 (k - a.length) (by omega)
  · have h2 : stackP L (p + a.length) = [] := by rw [stack_at h.left (.inr hp) a.length (Nat.le_refl _), a1, hp]; rfl
    rw [a3 L p h.left hp, b3 L _ h.right h2, List.length_append, Nat.add_assoc, List.append_assoc]
theorem Ru.Goes.sp : Goes [spT] [] := ⟨by decide, by decide, fun L p h _ => by
  have := h.get (j := 0) (by simp)
  rw [Nat.add_zero] at this
  exact rules_sp (t := spT) (by simpa using this) rfl⟩
theorem Ru.Goes.tokens {rs : List Rule} (h : rulesB rs = true) : Goes (tokensP rs) rs := by
  unfold rulesB at h
  simp only [Bool.and_eq_true] at h
  obtain ⟨⟨⟨⟨h1, _⟩, h2⟩, _⟩, _⟩ := h
  exact ⟨(Full.tokens h1).2, h2, fun L p hl _ => rules_read rs p h1 hl⟩
theorem Ru.Goes.parse {m : List GTok} {rs : List Rule} (h : Goes m rs) (hn : rs.length ≤ 1024) : parseT m = (0, rs) := by
  have h1 := h.2.2 m 0 (Lies.self m) rfl
  rw [Nat.zero_add, rules_end (Nat.le_refl _), List.append_nil] at h1
  unfold parseT
  rw [h1, h.2.1, if_neg (by decide), if_neg (by omega)]
/-- a part that is one rule, dropped -/
theorem Ru.Goes.drop {m : List GTok} {t : GTok} {e : Nat} (h0 : m[0]? = some t) (hs : stackP m m.length = []) (hd : deepB m = true) (h1 : t.kind ≠ 1) (he : e < m.length)
    (hend : ∀ (L : List GTok) (p : Nat), Lies L p m → stackP L p = [] → ruleEnd L t p = p + e) (hsk : skipP m e = m.length) (hem : endP m e < (m.length : Int))
    (hno : ∀ (L : List GTok) (p : Nat), Lies L p m → ruleAt L t p (p + e) = none) : Goes m [] := by
  refine ⟨hs, hd, fun L p h hp => ?_⟩
  have hg := h.get (j := 0) (by omega)
  rw [Nat.add_zero, h0] at hg
  rw [rules_item hg h1, hend L p h hp, hno L p h, skip_at h (.inr hp) he (.inl hem), hsk]
  rfl
theorem Lies.get0 {L m : List GTok} {p : Nat} (h : Lies L p m) (j : Nat) {t : GTok} (hj : m[j]? = some t) : L[p + j]? = some t := by
  rw [h.get (List.getElem?_eq_some_iff.1 hj).1]; exact hj
theorem Lies.sub {L m : List GTok} {p : Nat} (h : Lies L p m) (i j : Nat) (hij : i ≤ j) (hj : j ≤ m.length) : segP L (p + i) (p + j) = segP m i j := by
  obtain ⟨pre, post, rfl, rfl⟩ := h
  unfold segP
  rw [List.take_append, List.take_of_length_le (by omega), Nat.add_sub_cancel_left, List.drop_append, List.drop_of_length_le (by omega), Nat.add_sub_cancel_left, List.nil_append, List.take_append_of_le_length hj]
/-- a token that is gone over in the search -/
theorem Lies.next {L m : List GTok} {p : Nat} (h : Lies L p m) (j : Nat) {t : GTok} {is : GTok → Bool} (hj : m[j]? = some t) (ho : opensP t = []) (hb : is t = false) : findP L is (p + j) L.length = findP L is (p + (j + 1)) L.length := by
  have hl := h.le
  have hlt := (List.getElem?_eq_some_iff.1 hj).1
  rw [find_next (Nat.le_refl _) (by omega) (h.get0 j hj) ho hb]; rfl
theorem Lies.hit {L m : List GTok} {p : Nat} (h : Lies L p m) (j : Nat) {t : GTok} {is : GTok → Bool} (hj : m[j]? = some t) (hb : is t = true) : findP L is (p + j) L.length = p + j := by
  have hl := h.le
  have hlt := (List.getElem?_eq_some_iff.1 hj).1
  exact find_hit (by omega) (h.get0 j hj) hb
namespace Ru
/-- the rules that are dropped -/
def bad0 : List GTok := [⟨13, [41], 0⟩, openT, ⟨2, [120], 0⟩, ⟨14, [], 0⟩, ⟨2, [121], 0⟩, shutT]
def bad1 : List GTok := [⟨4, [109, 101, 100, 105, 97], 0⟩, spT, ⟨2, [122], 0⟩, openT, ⟨2, [112], 0⟩, openT, ⟨2, [120], 0⟩, ⟨14, [], 0⟩, ⟨2, [121], 0⟩, shutT, shutT]
def bad2 : List GTok := [⟨4, [105, 109, 112, 111, 114, 116], 0⟩, spT, ⟨6, [120], 0⟩, semiT]
def bad3 : List GTok := [⟨2, [97], 0⟩, spT, ⟨13, [93], 0⟩, spT, ⟨2, [98], 0⟩, openT, ⟨2, [120], 0⟩, ⟨14, [], 0⟩, ⟨2, [121], 0⟩, semiT, ⟨4, [116, 111, 112, 45, 108, 101, 102, 116], 0⟩, openT, shutT, shutT]
def bad4 : List GTok := [⟨4, pageS, 0⟩, spT, ⟨13, [41], 0⟩, openT, ⟨2, [120], 0⟩, ⟨14, [], 0⟩, ⟨2, [121], 0⟩, shutT]
def badT : Nat → List GTok
  | 0 => bad0
  | 1 => bad1
  | 2 => bad2
  | 3 => bad3
  | _ => bad4
def badS : Nat → List UInt8
  | 0 => [41, 123, 120, 58, 121, 125]
  | 1 => [64, 109, 101, 100, 105, 97, 32, 122, 123, 112, 123, 120, 58, 121, 125, 125]
  | 2 => [64, 105, 109, 112, 111, 114, 116, 32, 39, 120, 39, 59]
  | 3 => [97, 32, 93, 32, 98, 123, 120, 58, 121, 59, 64, 116, 111, 112, 45, 108, 101, 102, 116, 123, 125, 125]
  | _ => [64, 112, 97, 103, 101, 32, 41, 123, 120, 58, 121, 125]
end Ru
theorem not_sound {l : List GTok} {k : Nat} (hk : k < l.length) (h : soundAt l k = false) : soundP l = false := by
  have : (List.range l.length).all (soundAt l) = false := by
    rw [List.all_eq_false]
    exact ⟨k, List.mem_range.2 hk, by rw [h]; decide⟩
  unfold soundP
  rw [this, Bool.and_false]
theorem rule_unsound {L : List GTok} {t : GTok} {k e : Nat} (h : soundP (trimL (segP L (if decide (t.kind = 4) = true then k + 1 else k) e)) = false) : ruleAt L t k e = none := by
  unfold ruleAt
  simp only []
  split
  · rw [if_neg (by rw [h]; decide)]
  · rfl
theorem goes_bad0 : Goes bad0 [] := by
  refine Goes.drop (t := ⟨13, [41], 0⟩) (e := 1) rfl (by decide) (by decide) (by decide) (by decide) (fun L p h hp => ?_) (by decide) (by decide) (fun L p h => ?_)
  · unfold ruleEnd
    rw [if_neg (by decide)]
    exact (h.next 0 (t := ⟨13, [41], 0⟩) rfl (by decide) (by decide)).trans (h.hit 1 (t := openT) rfl (by decide))
  · refine rule_unsound ?_
    rw [if_neg (by decide)]
    have := h.sub 0 1 (by decide) (by decide)
    rw [Nat.add_zero] at this
    rw [this]
    exact not_sound (k := 0) (by decide) (by decide)
theorem goes_bad1 : Goes bad1 [] := by
  refine Goes.drop (t := ⟨4, [109, 101, 100, 105, 97], 0⟩) (e := 3) rfl (by decide) (by decide) (by decide) (by decide) (fun L p h hp => ?_) (by decide) (by decide) (fun L p h => ?_)
  · unfold ruleEnd
    rw [if_pos (by decide)]
    exact ((h.next 1 (t := spT) rfl (by decide) (by decide)).trans (h.next 2 (t := ⟨2, [122], 0⟩) rfl (by decide) (by decide))).trans (h.hit 3 (t := openT) rfl (by decide))
  · unfold ruleAt
    simp only []
    rw [if_neg]
    rintro ⟨_, _, h2⟩
    exact absurd (h2 (by decide)) (by decide)
theorem goes_bad2 : Goes bad2 [] := by
  refine Goes.drop (t := ⟨4, [105, 109, 112, 111, 114, 116], 0⟩) (e := 3) rfl (by decide) (by decide) (by decide) (by decide) (fun L p h hp => ?_) (by decide) (by decide) (fun L p h => ?_)
  · unfold ruleEnd
    rw [if_pos (by decide)]
    exact ((h.next 1 (t := spT) rfl (by decide) (by decide)).trans (h.next 2 (t := ⟨6, [120], 0⟩) rfl (by decide) (by decide))).trans (h.hit 3 (t := semiT) rfl (by decide))
  · unfold ruleAt
    simp only []
    rw [if_neg]
    rintro ⟨_, _, h2⟩
    exact absurd (h2 (by decide)) (by decide)
theorem goes_bad3 : Goes bad3 [] := by
  refine Goes.drop (t := ⟨2, [97], 0⟩) (e := 5) rfl (by decide) (by decide) (by decide) (by decide) (fun L p h hp => ?_) (by decide) (by decide) (fun L p h => ?_)
  · unfold ruleEnd
    rw [if_neg (by decide)]
    exact (h.next 0 (t := ⟨2, [97], 0⟩) rfl (by decide) (by decide)).trans ((h.next 1 (t := spT) rfl (by decide) (by decide)).trans ((h.next 2 (t := ⟨13, [93], 0⟩) rfl (by decide) (by decide)).trans
      ((h.next 3 (t := spT) rfl (by decide) (by decide)).trans ((h.next 4 (t := ⟨2, [98], 0⟩) rfl (by decide) (by decide)).trans (h.hit 5 (t := openT) rfl (by decide))))))
  · refine rule_unsound ?_
    rw [if_neg (by decide)]
    have := h.sub 0 5 (by decide) (by decide)
    rw [Nat.add_zero] at this
    rw [this]
    exact not_sound (k := 2) (by decide) (by decide)
theorem goes_bad4 : Goes bad4 [] := by
  refine Goes.drop (t := ⟨4, pageS, 0⟩) (e := 3) rfl (by decide) (by decide) (by decide) (by decide) (fun L p h hp => ?_) (by decide) (by decide) (fun L p h => ?_)
  · unfold ruleEnd
    rw [if_pos (by decide)]
    exact ((h.next 1 (t := spT) rfl (by decide) (by decide)).trans (h.next 2 (t := ⟨13, [41], 0⟩) rfl (by decide) (by decide))).trans (h.hit 3 (t := openT) rfl (by decide))
  · refine rule_unsound ?_
    rw [if_pos (by decide)]
    rw [h.sub 1 3 (by decide) (by decide)]
    exact not_sound (k := 0) (by decide) (by decide)
theorem goes_bad : ∀ k, Goes (badT k) []
  | 0 => goes_bad0
  | 1 => goes_bad1
  | 2 => goes_bad2
  | 3 => goes_bad3
  | (_ + 4) => goes_bad4
/- the scanner over printed tokens that something follows -/
theorem tC_ne {t : GTok} (h : oneB t = true) : tC t ≠ [] := by
  by_cases h1 : t.kind = 1
  · rw [(tok_space h h1).2]; simp
  · by_cases h7 : t.kind = 7
    · unfold tC; rw [h7]; simp [tokC]
    · have := scan_join [t] (by simp [pairsB, h, h7])
      intro e
      rw [show joinC [t] = tC t from rfl, e, scanT_nil] at this
      simp at this
theorem After.app {t : GTok} {s : List Int} (h : After t s) (hne : s ≠ []) (rest : List Int) : After t (s ++ rest) := by
  obtain ⟨h1, h2, h3⟩ := h
  refine ⟨fun hk => ?_, fun hk => ?_, fun hk ht => ?_⟩
  · rcases h1 hk with e | ⟨c, r, e, hc⟩
    · exact absurd e hne
    · exact .inr ⟨c, r ++ rest, by rw [e]; rfl, hc⟩
  · obtain ⟨r, e⟩ := h2 hk
    exact ⟨r ++ rest, by rw [e]; rfl⟩
  · rcases h3 hk ht with e | ⟨r, e⟩
    · exact absurd e hne
    · exact .inr ⟨r ++ rest, by rw [e]; rfl⟩
theorem pairs_two {t u : GTok} {l : List GTok} (h : pairsB (t :: u :: l) = true) : oneB t = true ∧ (t.kind = 1 → u.kind ≠ 1) ∧ (t.kind = 7 → u.kind = 1) ∧ (t.kind = 11 → t.text = [92] → u.kind = 1) ∧ pairsB (u :: l) = true := by
  unfold pairsB at h
  simp only [Bool.and_eq_true, Bool.not_eq_true', Bool.and_eq_false_iff, decide_eq_false_iff_not] at h
  obtain ⟨⟨⟨⟨g1, g2⟩, g3⟩, g4⟩, g5⟩ := h
  refine ⟨g1, fun a b => ?_, fun a => ?_, fun a b => ?_, g5⟩
  · rcases g2 with g | g
    · exact g a
    · exact g b
  · rcases g3 with g | g
    · exact absurd a g
    · exact Decidable.of_not_not g
  · rcases g4 with (g | g) | g
    · exact absurd a g
    · exact absurd b g
    · exact Decidable.of_not_not g
theorem after_more {t u : GTok} {l : List GTok} (h : pairsB (t :: u :: l) = true) (rest : List Int) : After t (sepC t.kind u.kind ++ (joinC (u :: l) ++ rest)) := by
  obtain ⟨g1, g2, g3, g4, g5⟩ := pairs_two h
  have hu := one_of_pairs g5 (t := u) (by simp)
  have ha := after_join (l := l) hu g3 g4
  have := ha.app (by
    obtain ⟨s, hs⟩ := join_first (u := u) (l := l)
    rw [hs]
    intro e
    exact tC_ne hu (List.append_eq_nil_iff.1 (List.append_eq_nil_iff.1 e).2).1) rest
  rwa [List.append_assoc] at this
theorem after_shut {t : GTok} (h : t.kind = 13) (rest : List Int) : After t rest := ⟨fun h => by omega, fun h => by omega, fun h => by omega⟩
theorem spaces_join {u : GTok} {l : List GTok} (h : pairsB (u :: l) = true) (h1 : u.kind ≠ 1) (hl : ∀ t ∈ (u :: l).getLast?, t.kind = 13) (rest : List Int) : spacesT (joinC (u :: l) ++ rest) = (false, joinC (u :: l) ++ rest) := by
  have hu := one_of_pairs h (t := u) (by simp)
  cases l with
  | nil => exact (next_tok hu h1 (after_shut (hl u (by simp)) rest)).2
  | cons v l =>
    have := (next_tok hu h1 (after_more h rest)).2
    show spacesT ((tC u ++ (sepC u.kind v.kind ++ joinC (v :: l))) ++ rest) = (false, (tC u ++ (sepC u.kind v.kind ++ joinC (v :: l))) ++ rest)
    rw [List.append_assoc, List.append_assoc]; exact this
theorem scan_then (rest : List Int) : ∀ (l : List GTok), pairsB l = true → (∀ t ∈ l.getLast?, t.kind = 13) → scanT (joinC l ++ rest) = l.map gT ++ scanT rest
  | [], _, _ => rfl
  | [t], h, hl => by
    have h13 := hl t (by simp)
    have ht := one_of_pairs h (t := t) (by simp)
    exact scan_tok ht (by omega) (after_shut h13 rest)
  | t :: u :: l, h, hl => by
    obtain ⟨g1, g2, g3, g4, g5⟩ := pairs_two h
    have hl' : ∀ x ∈ (u :: l).getLast?, x.kind = 13 := fun x hx => hl x (by rw [List.getLast?_cons_cons]; exact hx)
    have ih := scan_then rest (u :: l) g5 hl'
    show scanT ((tC t ++ (sepC t.kind u.kind ++ joinC (u :: l))) ++ rest) = gT t :: ((u :: l).map gT ++ scanT rest)
    rw [List.append_assoc, List.append_assoc]
    by_cases h1 : t.kind = 1
    · obtain ⟨e1, e2⟩ := tok_space g1 h1
      have hs : sepC t.kind u.kind = [] := by unfold sepC apartB; rw [if_neg]; simp [h1]
      rw [hs, e1, e2]
      show scanT (10 :: (joinC (u :: l) ++ rest)) = _
      rw [scan_white (by decide), spaces_join g5 (g2 h1) hl' rest, ih]
    · rw [scan_tok g1 h1 (after_more h rest), scan_sep, ih]
theorem ruleT_last (r : Rule) (m : List GTok) : (ruleT r ++ m).getLast? = m.getLast?.or (some shutT) := by
  have : ruleT r = (headT r ++ (r.prelude ++ ([openT] ++ innerT r))) ++ [shutT] := by unfold ruleT; simp
  rw [this, List.getLast?_append, List.getLast?_concat]
theorem tokens_last : ∀ (rs : List Rule), ∀ t ∈ (tokensP rs).getLast?, t.kind = 13
  | [], t, h => by cases h
  | r :: rs, t, h => by
    have e : tokensP (r :: rs) = ruleT r ++ tokensP rs := List.flatMap_cons
    rw [e, ruleT_last] at h
    have ih := tokens_last rs t
    cases hx : (tokensP rs).getLast? with
    | none => rw [hx] at h; simp at h; subst h; rfl
    | some x => rw [hx] at h ih; simp at h; exact ih (by simpa using h)
theorem tokens_first {rs : List Rule} (h : rs.all ruleB = true) : ∀ t ∈ (tokensP rs).head?, t.kind ≠ 1 := by
  cases rs with
  | nil => intro t ht; cases ht
  | cons r rs =>
    have hr : ruleB r = true := List.all_eq_true.1 h r (by simp)
    obtain ⟨h1, _⟩ := rule_parts hr
    obtain ⟨⟨he, _⟩, _⟩ := trimmed_parts h1
    intro t ht
    have e : tokensP (r :: rs) = headT r ++ (r.prelude ++ ([openT] ++ (innerT r ++ [shutT] ++ tokensP rs))) := by
      show ruleT r ++ tokensP rs = _
      unfold ruleT; simp
    rw [e] at ht
    unfold headT at ht
    by_cases h2 : r.kind = 2
    · rw [if_pos h2] at ht; simp at ht; subst ht; simp
    · rw [if_neg h2, List.nil_append] at ht
      cases hp : r.prelude with
      | nil => rw [hp] at ht; simp at ht; subst ht; decide
      | cons x p => rw [hp] at ht he; simp at ht; subst ht; exact he _ (by simp)
theorem tokens_nil {rs : List Rule} (h : tokensP rs = []) : rs = [] := by
  cases rs with
  | nil => rfl
  | cons r rs =>
    have e : tokensP (r :: rs) = ruleT r ++ tokensP rs := List.flatMap_cons
    rw [e] at h
    have := (List.append_eq_nil_iff.1 h).1
    unfold ruleT at this
    simp at this
theorem gT_g {t : GTok} (h : oneB t = true) : (gT t).g = t := by
  have h1 := (kind_range h).1
  obtain ⟨k, x, n⟩ := t
  unfold gT Tok.g
  simp only [GTok.mk.injEq, and_true] at *
  omega
theorem map_g {l : List GTok} (h : pairsB l = true) : (l.map gT).map Tok.g = l := by
  rw [List.map_map]
  have : ∀ t ∈ l, (Tok.g ∘ gT) t = t := fun t ht => gT_g (one_of_pairs h ht)
  exact (List.map_congr_left this).trans (List.map_id _)
/-- the print of rules that may be: its characters, and what they are -/
theorem rules_print {rs : List Rule} (h : rulesB rs = true) : printL (tokensP rs) = writeP (joinC (tokensP rs)) ∧ PlainL (joinC (tokensP rs)) ∧ pairsB (tokensP rs) = true ∧ rs.all ruleB = true ∧ rs.length ≤ 1024 := by
  have h0 := h
  unfold rulesB at h
  simp only [Bool.and_eq_true, decide_eq_true_eq] at h
  obtain ⟨⟨⟨⟨h1, h2⟩, _⟩, h3⟩, _⟩ := h
  have hp : pairsB (tokensP rs) = true := by unfold rightB at h3; simp only [Bool.and_eq_true] at h3; exact h3.1
  refine ⟨?_, join_plain (fun t ht => one_of_pairs hp ht), hp, h1, h2⟩
  unfold printL
  rw [if_pos h3, join_write (fun t ht => one_of_pairs hp ht)]
def spK : Tok := ⟨1, [], 0⟩
/-- white space around, and between -/
theorem spaces_scan {a b : List Rule} (ha : rulesB a = true) (hb : rulesB b = true) :
    ∃ m : List GTok, (scanT (readP ([32, 10] ++ (printL (tokensP a) ++ ([47, 42, 32, 99, 32, 42, 47, 32, 9] ++ (printL (tokensP b) ++ [32])))))).map Tok.g = m ∧ Goes m (a ++ b) ∧ m.length ≤ (tokensP a).length + (tokensP b).length + 3 := by
  obtain ⟨pa, qa, ra, sa, _⟩ := rules_print ha
  obtain ⟨pb, qb, rb, sb, _⟩ := rules_print hb
  have hw : ∀ (x y : List Int), PlainL x → PlainL y → True := fun _ _ _ _ => trivial
  have hread : readP ([32, 10] ++ (printL (tokensP a) ++ ([47, 42, 32, 99, 32, 42, 47, 32, 9] ++ (printL (tokensP b) ++ [32])))) = 32 :: 10 :: (joinC (tokensP a) ++ (47 :: 42 :: ([32, 99, 32] ++ 42 :: 47 :: (32 :: 9 :: (joinC (tokensP b) ++ [32]))))) := by
    have e : [32, 10] ++ (printL (tokensP a) ++ ([47, 42, 32, 99, 32, 42, 47, 32, 9] ++ (printL (tokensP b) ++ [32]))) = writeP ([32, 10] ++ (joinC (tokensP a) ++ ([47, 42, 32, 99, 32, 42, 47, 32, 9] ++ (joinC (tokensP b) ++ [32])))) := by
      rw [write_app, write_app, write_app, write_app, ← pa, ← pb]
      rw [show writeP [32, 10] = [32, 10] by decide, show writeP [47, 42, 32, 99, 32, 42, 47, 32, 9] = [47, 42, 32, 99, 32, 42, 47, 32, 9] by decide, show writeP [32] = [32] by decide]
    rw [e, read_write]
    · rfl
    · have k1 : PlainL [32, 10] := fun c hc => by simp at hc; rcases hc with rfl | rfl <;> exact plain_of _ (by decide)
      have k2 : PlainL [47, 42, 32, 99, 32, 42, 47, 32, 9] := fun c hc => by simp at hc; rcases hc with rfl | rfl | rfl | rfl | rfl | rfl | rfl | rfl | rfl <;> exact plain_of _ (by decide)
      have k3 : PlainL [32] := fun c hc => by simp at hc; subst hc; exact plain_of _ (by decide)
      exact k1.app (qa.app (k2.app (qb.app k3)))
  rw [hread]
  generalize hZ : joinC (tokensP b) ++ [32] = Z
  have hspY : ∀ Z, spacesT (47 :: 42 :: ([32, 99, 32] ++ 42 :: 47 :: (32 :: 9 :: Z))) = (true, (spacesT Z).2) := fun Z => by
    rw [spaces_comment [32, 99, 32] (by decide), spaces_white (by decide), spaces_white (by decide)]
  have hscY : ∀ Z, scanT (47 :: 42 :: ([32, 99, 32] ++ 42 :: 47 :: (32 :: 9 :: Z))) = spK :: scanT (spacesT Z).2 := fun Z => by
    rw [scan_of_spaces (spaces_comment [32, 99, 32] (by decide) (32 :: 9 :: Z)), scan_white (by decide), spaces_white (by decide)]; rfl
  have hsp1 : (spacesT [32]).2 = [] := by rw [spaces_white (by decide), spacesT_nil]
  have hscZ : ∃ mb, (scanT (spacesT Z).2).map Tok.g = mb ∧ Goes mb b ∧ mb.length ≤ (tokensP b).length + 1 := by
    cases htb : tokensP b with
    | nil =>
      obtain rfl := tokens_nil htb
      rw [htb] at hZ
      subst hZ
      rw [show joinC [] ++ [32] = [32] from rfl, hsp1, scanT_nil]
      exact ⟨[], rfl, Goes.nil, by simp⟩
    | cons u l =>
      have hu1 : u.kind ≠ 1 := tokens_first sb u (by rw [htb]; rfl)
      have hlast := tokens_last b
      rw [htb] at hlast rb hZ
      subst hZ
      rw [spaces_join rb hu1 hlast [32]]
      rw [scan_then [32] (u :: l) rb hlast, scan_white (by decide), spacesT_nil, scanT_nil]
      have hg := Goes.tokens hb
      rw [htb] at hg
      refine ⟨(u :: l) ++ [spT], by rw [List.map_append, map_g rb]; rfl, ?_, by simp⟩
      have := hg.app Goes.sp
      rwa [List.append_nil] at this
  obtain ⟨mb, hmb, gb, lb⟩ := hscZ
  rw [scan_white (by decide), spaces_white (by decide)]
  cases hta : tokensP a with
  | nil =>
    obtain rfl := tokens_nil hta
    rw [show joinC [] ++ (47 :: 42 :: ([32, 99, 32] ++ 42 :: 47 :: (32 :: 9 :: Z))) = 47 :: 42 :: ([32, 99, 32] ++ 42 :: 47 :: (32 :: 9 :: Z)) from rfl, hspY]
    refine ⟨spT :: mb, by rw [List.map_cons, hmb]; rfl, ?_, by simp; omega⟩
    exact Goes.sp.app gb
  | cons u l =>
    have hu1 : u.kind ≠ 1 := tokens_first sa u (by rw [hta]; rfl)
    have hlast := tokens_last a
    have hg := Goes.tokens ha
    rw [hta] at hlast ra hg
    rw [spaces_join ra hu1 hlast]
    rw [scan_then _ (u :: l) ra hlast, hscY]
    refine ⟨spT :: ((u :: l) ++ (spT :: mb)), by rw [List.map_cons, List.map_append, map_g ra, List.map_cons, hmb]; rfl, ?_, by simp; omega⟩
    exact Goes.sp.app (hg.app (Goes.sp.app gb))
/- the rules that are dropped, scanned -/
/-- what ends a name -/
def Stop (rest : List Int) : Prop := Tk.esc rest = false ∧ withinB (pk rest 0) = false ∧ pk rest 0 ≠ 40
theorem stop_c {c : Int} (h : c = 32 ∨ c = 123 ∨ c = 125 ∨ c = 58 ∨ c = 59) (r : List Int) : Stop (c :: r) := by
  refine ⟨esc_cons (by omega) r, ?_, by rw [pk_cons0]; omega⟩
  rw [pk_cons0]
  rcases h with rfl | rfl | rfl | rfl | rfl <;> decide
theorem name_stop {c : Int} {l rest : List Int} (hc : letterB c = true) (hl : ∀ d ∈ l, withinB d = true) (h : Stop rest) : nameT (c :: (l ++ rest)) = (c :: l, rest) := by
  have hn := name_all (c :: l) (fun d hd => by
    rcases List.mem_cons.1 hd with rfl | hd
    · exact (letter_facts hc).2.2.2.2.2.2.2.2
    · exact hl d hd) rest h.1 h.2.1
  exact hn
theorem scan_id {c : Int} {l rest : List Int} (hc : letterB c = true) (hl : ∀ d ∈ l, withinB d = true) (h : Stop rest) : scanT (c :: (l ++ rest)) = ⟨2, writeP (c :: l), 0⟩ :: scanT rest := by
  obtain ⟨f1, f2, f3, f4, f5, f6, f7, f8, f9⟩ := letter_facts hc
  have hn : numberT (c :: (l ++ rest)) = none := num_none1 (within_pos f9) f7
  have e : nextT (c :: (l ++ rest)) = (⟨2, writeP (c :: l), 0⟩, rest) := by
    unfold nextT
    simp only []
    rw [if_neg (by rw [pk_cons0]; omega), if_neg (by rw [pk_cons0]; intro h; exact f5 h.1), hn]
    simp only []
    rw [if_neg (by rw [pk_cons0]; intro h; exact f6 h.1), if_pos (beg_name _ hc), name_stop hc hl h, if_neg h.2.2]
  rw [scan_next f1 f2, e]
theorem scan_at' {c : Int} {l rest : List Int} (hc : letterB c = true) (hl : ∀ d ∈ l, withinB d = true) (h : Stop rest) : scanT (64 :: c :: (l ++ rest)) = ⟨4, writeP (c :: l), 0⟩ :: scanT rest := by
  have hn : numberT (64 :: c :: (l ++ rest)) = none := num_none1 (by decide) (by decide)
  have e : nextT (64 :: c :: (l ++ rest)) = (⟨4, writeP (c :: l), 0⟩, rest) := by
    unfold nextT
    simp only []
    rw [if_neg (by rw [pk_cons0]; omega), if_neg (by rw [pk_cons0]; intro h; exact absurd h.1 (by decide)), hn]
    simp only []
    rw [if_pos ⟨rfl, beg_name _ hc⟩, List.tail_cons, name_stop hc hl h]
  rw [scan_next (by decide) (by decide), e]
theorem scan_sign {c : Int} (hc : c = 123 ∨ c = 41 ∨ c = 93 ∨ c = 125 ∨ c = 58 ∨ c = 59) (rest : List Int) : scanT (c :: rest) = signT c :: scanT rest := by
  have hw : whiteB c = false := by rcases hc with rfl | rfl | rfl | rfl | rfl | rfl <;> decide
  rw [scan_next hw (by omega), next_sign (by omega)]
theorem scan_quote (rest : List Int) : scanT (39 :: 120 :: 39 :: rest) = ⟨6, [120], 0⟩ :: scanT rest := by
  have e : nextT (39 :: 120 :: 39 :: rest) = (⟨6, [120], 0⟩, rest) := by
    have hq := quote_plain 39 (.inr rfl) [120] (by decide) rest
    rw [List.cons_append, List.nil_append] at hq
    unfold nextT
    simp only []
    rw [if_pos (by rw [pk_cons0]; omega), pk_cons0, List.tail_cons, hq]; rfl
  rw [scan_next (by decide) (by decide), e]
/-- white space ahead of what is none -/
theorem scan_sp {c : Int} (h : whiteB c = false) (h2 : c ≠ 47) (rest : List Int) : scanT (32 :: c :: rest) = spK :: scanT (c :: rest) := by
  rw [scan_white (by decide), spaces_none h h2]; rfl
theorem let_x : letterB 120 = true := by decide
theorem let_y : letterB 121 = true := by decide
theorem scan_x (Z : List Int) (h : Stop Z) : scanT (120 :: Z) = ⟨2, [120], 0⟩ :: scanT Z := scan_id (l := []) let_x (by simp) h
theorem scan_y (Z : List Int) (h : Stop Z) : scanT (121 :: Z) = ⟨2, [121], 0⟩ :: scanT Z := scan_id (l := []) let_y (by simp) h
/-- x:y -/
theorem scan_xy (Z : List Int) (h : Stop Z) : scanT (120 :: 58 :: 121 :: Z) = ⟨2, [120], 0⟩ :: ⟨14, [], 0⟩ :: ⟨2, [121], 0⟩ :: scanT Z := by
  rw [scan_x _ (stop_c (by omega) _), scan_sign (by omega), scan_y _ h]; rfl
theorem bad_scan (Z : List Int) : ∀ k, scanT (chr (badS k) ++ Z) = (badT k).map gT ++ scanT Z
  | 0 => by
    show scanT (41 :: 123 :: 120 :: 58 :: 121 :: 125 :: Z) = _
    rw [scan_sign (by omega), scan_sign (by omega), scan_xy _ (stop_c (by omega) _), scan_sign (by omega)]; rfl
  | 1 => by
    show scanT (64 :: 109 :: ([101, 100, 105, 97] ++ 32 :: 122 :: 123 :: 112 :: 123 :: 120 :: 58 :: 121 :: 125 :: 125 :: Z)) = _
    rw [scan_at' (by decide) (by decide) (stop_c (by omega) _), scan_sp (by decide) (by decide)]
    have hz : ∀ Z, Stop Z → scanT (122 :: Z) = ⟨2, [122], 0⟩ :: scanT Z := fun Z h => scan_id (l := []) (by decide) (by simp) h
    have hp : ∀ Z, Stop Z → scanT (112 :: Z) = ⟨2, [112], 0⟩ :: scanT Z := fun Z h => scan_id (l := []) (by decide) (by simp) h
    rw [hz _ (stop_c (by omega) _), scan_sign (by omega), hp _ (stop_c (by omega) _), scan_sign (by omega), scan_xy _ (stop_c (by omega) _), scan_sign (by omega), scan_sign (by omega)]
    rw [show writeP [109, 101, 100, 105, 97] = [109, 101, 100, 105, 97] by decide]; rfl
  | 2 => by
    show scanT (64 :: 105 :: ([109, 112, 111, 114, 116] ++ 32 :: 39 :: 120 :: 39 :: 59 :: Z)) = _
    rw [scan_at' (by decide) (by decide) (stop_c (by omega) _), scan_sp (by decide) (by decide), scan_quote, scan_sign (by omega)]
    rw [show writeP [105, 109, 112, 111, 114, 116] = [105, 109, 112, 111, 114, 116] by decide]; rfl
  | 3 => by
    show scanT (97 :: 32 :: 93 :: 32 :: 98 :: 123 :: 120 :: 58 :: 121 :: 59 :: 64 :: 116 :: ([111, 112, 45, 108, 101, 102, 116] ++ 123 :: 125 :: 125 :: Z)) = _
    have ha : ∀ Z, Stop Z → scanT (97 :: Z) = ⟨2, [97], 0⟩ :: scanT Z := fun Z h => scan_id (l := []) (by decide) (by simp) h
    have hb : ∀ Z, Stop Z → scanT (98 :: Z) = ⟨2, [98], 0⟩ :: scanT Z := fun Z h => scan_id (l := []) (by decide) (by simp) h
    rw [ha _ (stop_c (by omega) _), scan_sp (by decide) (by decide), scan_sign (by omega), scan_sp (by decide) (by decide), hb _ (stop_c (by omega) _), scan_sign (by omega), scan_xy _ (stop_c (by omega) _), scan_sign (by omega)]
    rw [scan_at' (by decide) (by decide) (stop_c (by omega) _), scan_sign (by omega), scan_sign (by omega), scan_sign (by omega)]
    rw [show writeP [116, 111, 112, 45, 108, 101, 102, 116] = [116, 111, 112, 45, 108, 101, 102, 116] by decide]; rfl
  | (_ + 4) => by
    show scanT (64 :: 112 :: ([97, 103, 101] ++ 32 :: 41 :: 123 :: 120 :: 58 :: 121 :: 125 :: Z)) = _
    rw [scan_at' (by decide) (by decide) (stop_c (by omega) _), scan_sp (by decide) (by decide), scan_sign (by omega), scan_sign (by omega), scan_xy _ (stop_c (by omega) _), scan_sign (by omega)]
    rw [show writeP [112, 97, 103, 101] = [112, 97, 103, 101] by decide]; rfl
theorem bad_low : ∀ k, ∀ b ∈ badS k, b.toNat < 128 ∧ b.toNat ≠ 0 ∧ b.toNat ≠ 12 ∧ b.toNat ≠ 13
  | 0 => by decide
  | 1 => by decide
  | 2 => by decide
  | 3 => by decide
  | (_ + 4) => by simp only [badS]; decide
theorem bad_len : ∀ k, (badT k).length ≤ 14
  | 0 => by decide
  | 1 => by decide
  | 2 => by decide
  | 3 => by decide
  | (_ + 4) => by simp only [badT]; decide
theorem bad_g : ∀ k, ((badT k).map gT).map Tok.g = badT k
  | 0 => by decide
  | 1 => by decide
  | 2 => by decide
  | 3 => by decide
  | (_ + 4) => by simp only [badT]; decide
/-- a rule that is dropped, between -/
theorem drops_scan {a b : List Rule} (k : Nat) (ha : rulesB a = true) (hb : rulesB b = true) :
    ∃ m : List GTok, (scanT (readP (printL (tokensP a) ++ (badS k ++ printL (tokensP b))))).map Tok.g = m ∧ Goes m (a ++ b) ∧ m.length ≤ (tokensP a).length + (tokensP b).length + 14 := by
  obtain ⟨pa, qa, ra, sa, _⟩ := rules_print ha
  obtain ⟨pb, qb, rb, sb, _⟩ := rules_print hb
  have hread : readP (printL (tokensP a) ++ (badS k ++ printL (tokensP b))) = joinC (tokensP a) ++ (chr (badS k) ++ joinC (tokensP b)) := by
    have e : printL (tokensP a) ++ (badS k ++ printL (tokensP b)) = writeP (joinC (tokensP a) ++ (chr (badS k) ++ joinC (tokensP b))) := by
      rw [write_app, write_app, ← pa, ← pb, write_chr _ (fun b hb => (bad_low k b hb).1)]
    rw [e, read_write]
    refine qa.app (PlainL.app (fun c hc => ?_) qb)
    obtain ⟨x, hx, rfl⟩ := List.mem_map.1 hc
    obtain ⟨h1, h2, h3, h4⟩ := bad_low k x hx
    exact low_plain h1 h2 h3 h4
  have hB : scanT (joinC (tokensP b)) = (tokensP b).map gT := scan_join _ rb
  rw [hread, scan_then _ _ ra (tokens_last a), bad_scan, hB]
  refine ⟨tokensP a ++ (badT k ++ tokensP b), by rw [List.map_append, List.map_append, map_g ra, map_g rb, bad_g], ?_, by have := bad_len k; simp; omega⟩
  have := (Goes.tokens ha).app ((goes_bad k).app (Goes.tokens hb))
  simpa using this
end Go.Proofs.YtfhdihdafmahgaaGreatDoor
