/- The law PrintBack is walked: tokens that may be, printed, are scanned as they were. -/
import Derived.Test.YtifedkilbpkpaaaGreatDoorB21
import Derived.Test.YtifedkilbpkpaaaGreatDoorB24
import Derived.Test.YtifedkilbpkpaaaGreatDoorB16
import Derived.Test.YtifedkilbpkpaaaGreatDoorB20
import Derived.Test.YtifedkilbpkpaaaGreatDoorB13
/- The law PrintSame is walked: unlike tokens that may be are printed as unlike texts. -/
set_option linter.unusedVariables false
set_option linter.unusedSimpArgs false
namespace Go.Proofs.YtifedkilbpkpaaaGreatDoor
open Go.RowKit Rn Tp Tk Fx
/-- what a row lists of tokens: short enough to be gone through -/
theorem row_few {w : World} {B n : Nat} {A : Option Addr} {l : List GTok} (hr : ReadsT w B A n l) (hs : ∀ t ∈ l, t.text.length ≤ maxLen ∧ -9223372036854775808 ≤ t.n ∧ t.n ≤ 9223372036854775807) (hf : fewB l = true) : TokRow w B A n l :=
  ⟨hr, fun t ht => ⟨by have := (few_facts hf).2 t ht; omega, (hs t ht).2⟩, by have := (few_facts hf).1; have := hr.len; omega⟩
theorem TokRow.more {w w' : World} {n : Nat} {A : Option Addr} {l : List GTok} (h : TokRow w w.heap.size A n l) (hb : Below w.heap.size w w') : TokRow w' w'.heap.size A n l := ⟨h.rd.below hb, h.small, h.hn⟩
end Go.Proofs.YtifedkilbpkpaaaGreatDoor
/- Layer 4: what is printed of a row's tokens is short enough to be scanned. -/
set_option linter.unusedVariables false
set_option linter.unusedSimpArgs false
namespace Go.Proofs.YtifedkilbpkpaaaGreatDoor
open Go.RowKit Rn Tp Tk Fx
theorem part_short {c : Int} (h : isB c = true) (b : Bool) : (partP c b).length ≤ 4 * (Lib.encodeRune c).length := by
  have hc : 0 ≤ c ∧ c ≤ 1114111 ∧ (c < 55296 ∨ 57343 < c) := by unfold isB at h; simpa using h
  unfold partP
  cases b with
  | false => rw [if_neg (by decide)]; omega
  | true =>
    rw [if_pos rfl]
    have hx : (escP c).length = (hexT c.toNat).length + 2 := by unfold escP; simp
    rw [hx]
    unfold Lib.encodeRune
    rw [List.length_map]
    by_cases h1 : c ≤ 127
    · have := hexT_len 1 c.toNat (by omega)
      rw [Lib.encodeRuneZ_one (by omega) (by omega)]
      simp; omega
    · by_cases h2 : c ≤ 2047
      · have := hexT_len 2 c.toNat (by omega)
        rw [Lib.encodeRuneZ_two (by omega) (by omega)]
        simp; omega
      · by_cases h3 : c ≤ 65535
        · have := hexT_len 3 c.toNat (by omega)
          rw [Lib.encodeRuneZ_three (by omega)]
          simp; omega
        · have := hexT_len 5 c.toNat (by omega)
          rw [Lib.encodeRuneZ_four (by omega) (by omega)]
          simp; omega
theorem nameF_short (l : List Int) (dim : Bool) : ∀ (r : List Int) (i : Nat), (∀ c ∈ r, isB c = true) → (nameF l dim i r).length ≤ 4 * (writeP r).length
  | [], i, _ => by simp [nameF]
  | c :: r, i, h => by
    have h1 := nameF_short l dim r (i + 1) (fun d hd => h d (by simp [hd]))
    have h2 := part_short (h c (by simp)) (needB c (decide (i = 0 ∨ i = 1 ∧ l[0]? = some 45)) (decide (l = [45])) (dim && decide (i = 0)))
    have e : writeP (c :: r) = Lib.encodeRune c ++ writeP r := rfl
    rw [e]
    unfold nameF
    rw [List.length_append, List.length_append]; omega
theorem quoted_short {l : List Int} (h : ∀ c ∈ l, isB c = true) : (quotedP l).length ≤ 4 * (writeP l).length + 1 := by
  have key : ∀ r : List Int, (∀ c ∈ r, isB c = true) → (r.flatMap (fun c => partP c (quoteB c))).length ≤ 4 * (writeP r).length := by
    intro r
    induction r with
    | nil => simp
    | cons c r ih =>
      intro h
      have h1 := ih (fun d hd => h d (by simp [hd]))
      have h2 := part_short (h c (by simp)) (quoteB c)
      have e : writeP (c :: r) = Lib.encodeRune c ++ writeP r := rfl
      rw [e, List.flatMap_cons, List.length_append, List.length_append]; omega
  have := key l h
  unfold quotedP; rw [List.length_cons]; omega
theorem tokenP_short (t : GTok) : (tokenP t).length ≤ 4 * t.text.length + 30 := by
  cases hO : oneB t with
  | false => unfold tokenP; rw [if_neg (by rw [hO]; decide)]; simp
  | true =>
    obtain ⟨e1, e2, e3, e4, e5⟩ := one_facts hO
    obtain ⟨k1, k2⟩ := kind_range hO
    have hv : ∀ c ∈ textC t, isB c = true := fun c hc => (e2 c hc).1
    have hx : (utfP t.text).getD [] = textC t := rfl
    have hN : (nameP (textC t) false).length ≤ _ := nameF_short (textC t) false (textC t) 0 hv
    have hM : (nameP (textC t) true).length ≤ _ := nameF_short (textC t) true (textC t) 0 hv
    have hQ := quoted_short (l := textC t) hv
    have hF := printP_len t.n
    rw [e3] at hN hM hQ
    unfold tokenP
    rw [if_pos hO]
    simp only [hx]
    generalize t.kind = k at *
    have hK : k = 1 ∨ k = 2 ∨ k = 3 ∨ k = 4 ∨ k = 5 ∨ k = 6 ∨ k = 7 ∨ k = 8 ∨ k = 9 ∨ k = 10 ∨ k = 11 ∨ k = 12 ∨ k = 13 ∨ k = 14 ∨ k = 15 ∨ k = 16 := by omega
    rcases hK with rfl | rfl | rfl | rfl | rfl | rfl | rfl | rfl | rfl | rfl | rfl | rfl | rfl | rfl | rfl | rfl <;> simp <;> omega
theorem join_short : ∀ {l : List GTok}, (∀ t ∈ l, t.text.length ≤ 100) → (joinP l).length ≤ 434 * l.length
  | [], _ => by simp [joinP]
  | [t], h => by
    have h1 := tokenP_short t
    have h2 := h t (by simp)
    show (tokenP t).length ≤ 434 * 1
    omega
  | t :: u :: l, h => by
    have h1 := tokenP_short t
    have h0 := h t (by simp)
    have h2 := join_short (l := u :: l) (fun x hx => h x (by simp [hx]))
    have h3 : (if apartB t.kind u.kind = true then ([47, 42, 42, 47] : List UInt8) else []).length ≤ 4 := by split <;> simp
    show (tokenP t ++ (_ ++ joinP (u :: l))).length ≤ 434 * ((u :: l).length + 1)
    rw [List.length_append, List.length_append]
    omega
theorem print_short {l : List GTok} (h : fewB l = true) : (printL l).length ≤ 65536 := by
  obtain ⟨h1, h2⟩ := few_facts h
  have h3 := join_short h2
  unfold printL
  split
  · omega
  · simp
end Go.Proofs.YtifedkilbpkpaaaGreatDoor
set_option linter.unusedVariables false
set_option linter.unusedSimpArgs false
namespace Go.Proofs.YtifedkilbpkpaaaGreatDoor
open Go.RowKit Rn Tp Tk Fx
theorem gT_back {t : GTok} (h : oneB t = true) : (gT t).g = t := by
  have h1 := (kind_range h).1
  obtain ⟨k, x, n⟩ := t
  unfold gT Tok.g
  simp only [GTok.mk.injEq, and_true] at *
  omega
theorem map_back : ∀ {l : List GTok}, (∀ t ∈ l, oneB t = true) → (l.map gT).map Tok.g = l
  | [], _ => rfl
  | t :: l, h => by
    rw [List.map_cons, List.map_cons, gT_back (h t (by simp)), map_back (fun x hx => h x (by simp [hx]))]
theorem right_back {l : List GTok} (h : rightB l = true) : (l.map gT).map Tok.g = l := by
  have hp : pairsB l = true := by unfold rightB at h; simp only [Bool.and_eq_true] at h; exact h.1
  exact map_back (fun t ht => one_of_pairs hp ht)
end Go.Proofs.YtifedkilbpkpaaaGreatDoor
