/- A statement that draws its order, whose operations only read, and whose callees leave all that was there as it was (they may make new memory): one walk, in the order of the text. -/
import Derived.Test.YtifedkilbpkpaaaGreatDoorB13
import Derived.Test.YtifedkilbpkpaaaGreatDoorB04
import Derived.Lib.OthersKept
import Derived.Test.YtifedkilbpkpaaaGreatDoorB03
import Derived.Test.YtifedkilbpkpaaaGreatDoorB05
import Derived.Test.YtifedkilbpkpaaaGreatDoorB06
import Derived.WalkMore
import Derived.Deep.RegionWith
import Derived.Test.YtifedkilbpkpaaaGreatDoorB01
import Derived.BigQuiet
/- Layer 4: printed tokens are scanned as they were. Plain laws. -/
set_option linter.unusedVariables false
set_option linter.unusedSimpArgs false
namespace Go.Proofs.YtifedkilbpkpaaaGreatDoor
open Go.RowKit Rn Tk Fx Tp
namespace Tp
/-- a printed token's characters, by its text's -/
def tokC (k n : Int) (l : List Int) : List Int :=
  if k = 1 then [10] else if k = 2 then nameC l false else if k = 3 then nameC l false ++ [40] else if k = 4 then 64 :: nameC l false else if k = 5 then 35 :: nameC l false
  else if k = 6 then (34 :: bodyC l) ++ [34] else if k = 7 then 34 :: bodyC l
  else if k = 8 then chr (Fx.printP n) else if k = 9 then chr (Fx.printP n) ++ [37] else if k = 10 then chr (Fx.printP n) ++ nameC l true
  else if k = 14 then [58] else if k = 15 then [59] else if k = 16 then [44] else l
def textC (t : GTok) : List Int := (utfP t.text).getD []
def tC (t : GTok) : List Int := tokC t.kind t.n (textC t)
def sepC (a b : Int) : List Int := if apartB a b = true then [47, 42, 42, 47] else []
def joinC : List GTok → List Int
  | [] => []
  | [t] => tC t
  | t :: u :: l => tC t ++ (sepC t.kind u.kind ++ joinC (u :: l))
end Tp
theorem one_facts {t : GTok} (h : oneB t = true) : utfP t.text = some (textC t) ∧ (∀ c ∈ textC t, isB c = true ∧ c ≠ 0) ∧ writeP (textC t) = t.text ∧ numOk t.kind t.n = true ∧ kindB t.kind (textC t) = true := by
  unfold oneB at h
  unfold textC
  cases e : utfP t.text with
  | none => rw [e] at h; cases h
  | some l =>
    rw [e] at h
    simp only [Bool.and_eq_true, decide_eq_true_eq] at h
    obtain ⟨g1, g2⟩ := utf_some e
    exact ⟨rfl, fun c hc => ⟨g2 c hc, fun e => h.1.1 (e ▸ hc)⟩, g1.symm, h.1.2, h.2⟩
theorem kind_range {t : GTok} (h : oneB t = true) : 1 ≤ t.kind ∧ t.kind ≤ 16 := by
  have := (one_facts h).2.2.2.2
  unfold kindB at this
  by_cases h1 : (2 ≤ t.kind ∧ t.kind ≤ 5) ∨ t.kind = 10
  · omega
  · rw [if_neg h1] at this
    by_cases h2 : t.kind = 6 ∨ t.kind = 7
    · omega
    · rw [if_neg h2] at this
      by_cases h3 : t.kind = 11
      · omega
      · rw [if_neg h3] at this
        by_cases h4 : t.kind = 12
        · omega
        · rw [if_neg h4] at this
          by_cases h5 : t.kind = 13
          · omega
          · rw [if_neg h5] at this
            have := of_decide_eq_true this; omega
/-- what stands behind a token may be there -/
def After (t : GTok) (rest : List Int) : Prop :=
  ((t.kind = 2 ∨ t.kind = 4 ∨ t.kind = 5 ∨ t.kind = 8 ∨ t.kind = 9 ∨ t.kind = 10 ∨ t.kind = 11) → Sep rest) ∧ (t.kind = 7 → ∃ r, rest = 10 :: r) ∧ (t.kind = 11 → t.text = [92] → rest = [] ∨ ∃ r, rest = 10 :: r)
theorem spaces_at {c : Int} (h : whiteB c = false) (r : List Int) (h2 : c = 47 → pk r 0 ≠ 42) : spacesT (c :: r) = (false, c :: r) :=
  spacesT_end h (fun e => h2 e.1 e.2)
theorem name_spaces {l : List Int} (dim : Bool) (h : ∀ c ∈ l, isB c = true ∧ c ≠ 0) (hne : l ≠ []) (s : List Int) : spacesT (nameC l dim ++ s) = (false, nameC l dim ++ s) := by
  obtain ⟨hb, c, r, e, hc⟩ := nameC_first dim h hne s
  rw [e]
  have : whiteB c = false ∧ c ≠ 47 := by
    rcases hc with rfl | ⟨h1, _⟩ | rfl
    · decide
    · unfold beginsB letterB at h1
      unfold whiteB
      simp at h1 ⊢; omega
    · decide
  exact spaces_at this.1 _ (fun e => absurd e this.2)
theorem num_spaces (n : Int) (s : List Int) : spacesT (chr (Fx.printP n) ++ s) = (false, chr (Fx.printP n) ++ s) := by
  obtain ⟨b, P, e, _, _, _, g4, g5⟩ := print_first n
  rw [e, chr_cons, List.cons_append]
  exact spaces_at g4 _ (fun e => absurd e g5)
theorem single_of {l : List Int} (h : kindB 11 l = true) : ∃ c, l = [c] ∧ delimB c = true := by
  unfold kindB at h
  simp at h
  split at h
  · exact ⟨_, rfl, h⟩
  · cases h
theorem write_one (c : Int) : writeP [c] = Lib.encodeRune c := by simp [writeP]
theorem next_tok {t : GTok} (h : oneB t = true) (h1 : t.kind ≠ 1) {rest : List Int} (ha : After t rest) :
    nextT (tC t ++ rest) = (⟨t.kind.toNat, t.text, t.n⟩, rest) ∧ spacesT (tC t ++ rest) = (false, tC t ++ rest) := by
  obtain ⟨e1, e2, e3, e4, e5⟩ := one_facts h
  obtain ⟨k1, k2⟩ := kind_range h
  obtain ⟨kind, text, n⟩ := t
  simp only [After] at *
  unfold tC
  simp only at *
  generalize textC ⟨kind, text, n⟩ = l at *
  have hn : stopZ n = n ∧ ((8 ≤ kind ∧ kind ≤ 10) ∨ n = 0) := by unfold numOk at e4; exact of_decide_eq_true e4
  obtain ⟨hn1, hn2⟩ := hn
  obtain ⟨a1, a2, a3⟩ := ha
  have hK : kind = 2 ∨ kind = 3 ∨ kind = 4 ∨ kind = 5 ∨ kind = 6 ∨ kind = 7 ∨ kind = 8 ∨ kind = 9 ∨ kind = 10 ∨ kind = 11 ∨ kind = 12 ∨ kind = 13 ∨ kind = 14 ∨ kind = 15 ∨ kind = 16 := by omega
  subst e3
  rcases hK with rfl | rfl | rfl | rfl | rfl | rfl | rfl | rfl | rfl | rfl | rfl | rfl | rfl | rfl | rfl
  · obtain rfl : n = 0 := by omega
    have hne : l ≠ [] := by simpa [kindB] using e5
    exact ⟨next_ident e2 hne (a1 (by omega)), name_spaces false e2 hne rest⟩
  · obtain rfl : n = 0 := by omega
    have hne : l ≠ [] := by simpa [kindB] using e5
    have e : tokC 3 0 l ++ rest = nameC l false ++ 40 :: rest := by simp [tokC]
    rw [e]
    exact ⟨next_func e2 hne rest, name_spaces false e2 hne _⟩
  · obtain rfl : n = 0 := by omega
    have hne : l ≠ [] := by simpa [kindB] using e5
    have e : tokC 4 0 l ++ rest = 64 :: (nameC l false ++ rest) := by simp [tokC]
    rw [e]
    exact ⟨next_at' e2 hne (a1 (by omega)), spaces_at (by decide) _ (fun e => absurd e (by decide))⟩
  · obtain rfl : n = 0 := by omega
    have hne : l ≠ [] := by simpa [kindB] using e5
    have e : tokC 5 0 l ++ rest = 35 :: (nameC l false ++ rest) := by simp [tokC]
    rw [e]
    exact ⟨next_hash e2 hne (a1 (by omega)), spaces_at (by decide) _ (fun e => absurd e (by decide))⟩
  · obtain rfl : n = 0 := by omega
    have e : tokC 6 0 l ++ rest = 34 :: (bodyC l ++ 34 :: rest) := by simp [tokC]
    rw [e]
    exact ⟨next_string e2 rest, spaces_at (by decide) _ (fun e => absurd e (by decide))⟩
  · obtain rfl : n = 0 := by omega
    obtain ⟨r, rfl⟩ := a2 rfl
    have e : tokC 7 0 l ++ 10 :: r = 34 :: (bodyC l ++ 10 :: r) := by simp [tokC]
    rw [e]
    exact ⟨next_bad e2 r, spaces_at (by decide) _ (fun e => absurd e (by decide))⟩
  · obtain rfl : l = [] := by simpa [kindB] using e5
    exact ⟨next_number hn1 (a1 (by omega)), num_spaces n rest⟩
  · obtain rfl : l = [] := by simpa [kindB] using e5
    have e : tokC 9 n [] ++ rest = chr (Fx.printP n) ++ 37 :: rest := by simp [tokC]
    rw [e]
    exact ⟨next_percent hn1 rest, num_spaces n _⟩
  · have hne : l ≠ [] := by simpa [kindB] using e5
    have e : tokC 10 n l ++ rest = chr (Fx.printP n) ++ (nameC l true ++ rest) := by simp [tokC]
    rw [e]
    exact ⟨next_dim hn1 e2 hne (a1 (by omega)), num_spaces n _⟩
  · obtain rfl : n = 0 := by omega
    obtain ⟨c, rfl, hd⟩ := single_of e5
    have hc := e2 c (by simp)
    have hs := a1 (by omega)
    obtain ⟨d1, d2, d3, d4⟩ := delim_facts hd
    refine ⟨next_delim hc.1 hd hs (fun h9 => a3 rfl (by subst h9; rw [write_one]; decide)), spaces_at d1 _ (fun _ => (sep_facts hs).2.2.2.2.1)⟩
  · obtain rfl : n = 0 := by omega
    have hl : l = [40] ∨ l = [91] ∨ l = [123] := by simpa [kindB] using e5
    rcases hl with rfl | rfl | rfl
    · exact ⟨next_sign (by omega) rest, spaces_at (by decide) _ (fun e => absurd e (by decide))⟩
    · exact ⟨next_sign (by omega) rest, spaces_at (by decide) _ (fun e => absurd e (by decide))⟩
    · exact ⟨next_sign (by omega) rest, spaces_at (by decide) _ (fun e => absurd e (by decide))⟩
  · obtain rfl : n = 0 := by omega
    have hl : l = [41] ∨ l = [93] ∨ l = [125] := by simpa [kindB] using e5
    rcases hl with rfl | rfl | rfl
    · exact ⟨next_sign (by omega) rest, spaces_at (by decide) _ (fun e => absurd e (by decide))⟩
    · exact ⟨next_sign (by omega) rest, spaces_at (by decide) _ (fun e => absurd e (by decide))⟩
    · exact ⟨next_sign (by omega) rest, spaces_at (by decide) _ (fun e => absurd e (by decide))⟩
  · obtain rfl : n = 0 := by omega
    obtain rfl : l = [] := by simpa [kindB] using e5
    exact ⟨next_sign (by omega) rest, spaces_at (by decide) _ (fun e => absurd e (by decide))⟩
  · obtain rfl : n = 0 := by omega
    obtain rfl : l = [] := by simpa [kindB] using e5
    exact ⟨next_sign (by omega) rest, spaces_at (by decide) _ (fun e => absurd e (by decide))⟩
  · obtain rfl : n = 0 := by omega
    obtain rfl : l = [] := by simpa [kindB] using e5
    exact ⟨next_sign (by omega) rest, spaces_at (by decide) _ (fun e => absurd e (by decide))⟩
theorem tC_first {t : GTok} (h : oneB t = true) (s : List Int) : (t.kind = 1 → ∃ r, tC t ++ s = 10 :: r) ∧ ((t.kind = 13 ∨ t.kind = 6 ∨ t.kind = 14 ∨ t.kind = 15 ∨ t.kind = 16) → ∃ c r, tC t ++ s = c :: r ∧ sepB c = true) := by
  obtain ⟨e1, e2, e3, e4, e5⟩ := one_facts h
  obtain ⟨kind, text, n⟩ := t
  unfold tC
  simp only at *
  generalize textC ⟨kind, text, n⟩ = l at *
  refine ⟨fun h1 => by subst h1; exact ⟨s, rfl⟩, ?_⟩
  rintro (rfl | rfl | rfl | rfl | rfl)
  · have hl : l = [41] ∨ l = [93] ∨ l = [125] := by simpa [kindB] using e5
    rcases hl with rfl | rfl | rfl
    · exact ⟨_, _, rfl, by decide⟩
    · exact ⟨_, _, rfl, by decide⟩
    · exact ⟨_, _, rfl, by decide⟩
  · exact ⟨34, (bodyC l ++ [34]) ++ s, rfl, by decide⟩
  · exact ⟨58, s, rfl, by decide⟩
  · exact ⟨59, s, rfl, by decide⟩
  · exact ⟨44, s, rfl, by decide⟩
theorem join_first {u : GTok} {l : List GTok} : ∃ s, joinC (u :: l) = tC u ++ s := by
  cases l with
  | nil => exact ⟨[], by simp [joinC]⟩
  | cons v l => exact ⟨_, rfl⟩
/-- what is printed behind a token may be there -/
theorem after_join {t u : GTok} {l : List GTok} (hu : oneB u = true) (h7 : t.kind = 7 → u.kind = 1) (h11 : t.kind = 11 → t.text = [92] → u.kind = 1) : After t (sepC t.kind u.kind ++ joinC (u :: l)) := by
  obtain ⟨s, hs⟩ := join_first (u := u) (l := l)
  have hf := tC_first hu s
  refine ⟨fun hk => ?_, fun hk => ?_, fun hk ht => ?_⟩
  · unfold sepC
    split
    · exact .inr ⟨47, _, rfl, by decide⟩
    · rename_i hap
      rw [List.nil_append, hs]
      have hap : ¬ (t.kind ≠ 1 ∧ t.kind ≠ 3 ∧ t.kind ≠ 12 ∧ t.kind ≠ 13 ∧ t.kind ≠ 6 ∧ t.kind ≠ 14 ∧ t.kind ≠ 15 ∧ t.kind ≠ 16 ∧ u.kind ≠ 1 ∧ u.kind ≠ 13 ∧ u.kind ≠ 6 ∧ u.kind ≠ 14 ∧ u.kind ≠ 15 ∧ u.kind ≠ 16) := fun h => hap (decide_eq_true h)
      by_cases hu1 : u.kind = 1
      · obtain ⟨r, e⟩ := hf.1 hu1
        exact .inr ⟨10, r, e, by decide⟩
      · obtain ⟨c, r, e, hc⟩ := hf.2 (by omega)
        exact .inr ⟨c, r, e, hc⟩
  · have h1 := h7 hk
    obtain ⟨r, e⟩ := hf.1 h1
    have : sepC t.kind u.kind = [] := by unfold sepC apartB; rw [if_neg]; simp [h1]
    rw [this, List.nil_append, hs]; exact ⟨r, e⟩
  · have h1 := h11 hk ht
    obtain ⟨r, e⟩ := hf.1 h1
    have : sepC t.kind u.kind = [] := by unfold sepC apartB; rw [if_neg]; simp [h1]
    rw [this, List.nil_append, hs]; exact .inr ⟨r, e⟩
theorem scan_sep (a b : Int) (rest : List Int) : scanT (sepC a b ++ rest) = scanT rest := by
  unfold sepC
  split
  · exact scan_of_spaces (spaces_comment [] (by simp) rest)
  · rfl
def gT (t : GTok) : Tok := ⟨t.kind.toNat, t.text, t.n⟩
theorem tok_space {t : GTok} (h : oneB t = true) (h1 : t.kind = 1) : gT t = ⟨1, [], 0⟩ ∧ tC t = [10] := by
  obtain ⟨e1, e2, e3, e4, e5⟩ := one_facts h
  obtain ⟨kind, text, n⟩ := t
  simp only at *
  subst h1
  have hl : textC ⟨1, text, n⟩ = [] := by simpa [kindB] using e5
  have hn : stopZ n = n ∧ ((8 ≤ (1 : Int) ∧ (1 : Int) ≤ 10) ∨ n = 0) := by unfold numOk at e4; exact of_decide_eq_true e4
  have hn0 : n = 0 := by omega
  subst hn0
  rw [hl] at e3
  have : text = [] := e3.symm
  subst this
  exact ⟨rfl, rfl⟩
theorem scan_tok {t : GTok} (h : oneB t = true) (h1 : t.kind ≠ 1) {rest : List Int} (ha : After t rest) : scanT (tC t ++ rest) = gT t :: scanT rest := by
  obtain ⟨n1, n2⟩ := next_tok h h1 ha
  have hne : tC t ++ rest ≠ [] := by
    intro e
    rw [e] at n2 n1
    have := congrArg (fun x => x.1.kind) n1
    rw [show nextT [] = (signT (-1), []) from rfl] at this
    have e11 : (11 : Nat) = t.kind.toNat := this
    have e11 : t.kind = 11 := by omega
    obtain ⟨e1, e2, e3, e4, e5⟩ := one_facts h
    rw [e11] at e5
    obtain ⟨c, hc, _⟩ := single_of e5
    have e0 := (List.append_eq_nil_iff.1 e).1
    unfold tC at e0
    rw [e11, hc] at e0
    simp [tokC] at e0
  rw [scanT_step (by rw [n2]; exact hne), n2, n1]; rfl
/-- tokens that may stand side by side, printed, are scanned as they were -/
theorem scan_join : ∀ (l : List GTok), pairsB l = true → scanT (joinC l) = l.map gT
  | [], _ => scanT_nil
  | [t], h => by
    have h' : oneB t = true ∧ t.kind ≠ 7 := by simpa [pairsB] using h
    show scanT (tC t) = [gT t]
    by_cases h1 : t.kind = 1
    · obtain ⟨g1, g2⟩ := tok_space h'.1 h1
      rw [g1, g2, scan_white (by decide)]
      have : (spacesT []).2 = [] := by rw [spacesT_end (by decide) (by decide)]
      rw [this, scanT_nil]
    · have := scan_tok h'.1 h1 (rest := []) ⟨fun _ => .inl rfl, fun h => absurd h h'.2, fun _ _ => .inl rfl⟩
      rw [List.append_nil, scanT_nil] at this
      exact this
  | t :: u :: l, h => by
    have h' : (((oneB t = true ∧ (t.kind = 1 → u.kind ≠ 1)) ∧ (t.kind = 7 → u.kind = 1)) ∧ (t.kind = 11 → t.text = [92] → u.kind = 1)) ∧ pairsB (u :: l) = true := by
      unfold pairsB at h
      simp only [Bool.and_eq_true, Bool.not_eq_true', Bool.and_eq_false_iff, decide_eq_false_iff_not] at h
      obtain ⟨⟨⟨⟨g1, g2⟩, g3⟩, g4⟩, g5⟩ := h
      refine ⟨⟨⟨⟨g1, fun a b => ?_⟩, fun a => ?_⟩, fun a b => ?_⟩, g5⟩
      · rcases g2 with g | g
        · exact g a
        · exact g b
      · rcases g3 with g | g
        · exact absurd a g
        · exact Decidable.of_not_not g
      · rcases g4 with (g | g) | g
        · exact absurd a g
        · exact absurd b g
        · exact Decidable.of_not_not g
    obtain ⟨⟨⟨⟨g1, g2⟩, g3⟩, g4⟩, g5⟩ := h'
    have hu : oneB u = true := by
      cases l with
      | nil => simp [pairsB] at g5; exact g5.1
      | cons v l => unfold pairsB at g5; simp only [Bool.and_eq_true] at g5; exact g5.1.1.1.1
    have ih := scan_join (u :: l) g5
    show scanT (tC t ++ (sepC t.kind u.kind ++ joinC (u :: l))) = gT t :: (u :: l).map gT
    by_cases h1 : t.kind = 1
    · obtain ⟨e1, e2⟩ := tok_space g1 h1
      have hs : sepC t.kind u.kind = [] := by unfold sepC apartB; rw [if_neg]; simp [h1]
      have hu1 := g2 h1
      obtain ⟨s, es⟩ := join_first (u := u) (l := l)
      have hsp : spacesT (joinC (u :: l)) = (false, joinC (u :: l)) := by
        cases l with
        | nil =>
          have h7 : u.kind ≠ 7 := by simp [pairsB] at g5; exact g5.2
          have := (next_tok hu hu1 (rest := []) ⟨fun _ => .inl rfl, fun h => absurd h h7, fun _ _ => .inl rfl⟩).2
          rw [List.append_nil] at this; exact this
        | cons v l =>
          unfold pairsB at g5
          simp only [Bool.and_eq_true, Bool.not_eq_true', Bool.and_eq_false_iff, decide_eq_false_iff_not] at g5
          have hv : oneB v = true := by
            cases l with
            | nil => have := g5.2; simp [pairsB] at this; exact this.1
            | cons w l => have := g5.2; unfold pairsB at this; simp only [Bool.and_eq_true] at this; exact this.1.1.1.1
          exact (next_tok hu hu1 (after_join (l := l) hv (fun a => by
            rcases g5.1.1.2 with g | g
            · exact absurd a g
            · exact Decidable.of_not_not g) (fun a b => by
            rcases g5.1.2 with (g | g) | g
            · exact absurd a g
            · exact absurd b g
            · exact Decidable.of_not_not g))).2
      rw [hs, e1, e2]
      show scanT (10 :: joinC (u :: l)) = _
      rw [scan_white (by decide), hsp, ih]
    · rw [scan_tok g1 h1 (after_join hu g3 g4), scan_sep, ih]
/-- a Bad alone is a String -/
theorem scan_bad {t : GTok} (h : oneB t = true) (h7 : t.kind = 7) : scanT (tC t) = [⟨6, t.text, 0⟩] := by
  obtain ⟨e1, e2, e3, e4, e5⟩ := one_facts h
  have e : tC t = 34 :: bodyC (textC t) := by unfold tC; rw [h7]; rfl
  rw [e, scan_next (by decide) (by decide), next_bad_end e2, e3, scanT_nil]
end Go.Proofs.YtifedkilbpkpaaaGreatDoor
/- Layer 4, the document: a text's characters, as it reckons them. Plain laws. -/
set_option linter.unusedVariables false
set_option linter.unusedSimpArgs false
namespace Go.Proofs.YtifedkilbpkpaaaGreatDoor
open Go.RowKit Rn Tp
namespace Tp
def docB (l : List UInt8) (k : Nat) : Int := ((l[k]?.getD 0).toNat : Int)
def docN (l : List UInt8) : Nat := if 240 ≤ docB l 0 then 4 else if 224 ≤ docB l 0 then 3 else if 128 ≤ docB l 0 then 2 else 1
def docV (l : List UInt8) : Nat → Int
  | 0 => if 240 ≤ docB l 0 then docB l 0 - 240 else if 224 ≤ docB l 0 then docB l 0 - 224 else if 128 ≤ docB l 0 then docB l 0 - 192 else docB l 0
  | k + 1 => docV l k * 64 + docB l (k + 1) - 128
def docC (l : List UInt8) : Int := docV l (docN l - 1)
/-- the document's test of the next character -/
def docOk (l : List UInt8) : Bool := decide (docN l ≤ l.length ∧ 0 ≤ docC l) && isB (docC l) && decide (Lib.encodeRune (docC l) = l.take (docN l))
end Tp
theorem docN_range (l : List UInt8) : 1 ≤ docN l ∧ docN l ≤ 4 := by unfold docN; (repeat' split) <;> omega
theorem docV_range (l : List UInt8) : ∀ k, k ≤ 3 → -100000000 ≤ docV l k ∧ docV l k ≤ 100000000 := by
  have hb : ∀ k, 0 ≤ docB l k ∧ docB l k < 256 := fun k => by unfold docB; have := UInt8.toNat_lt (l[k]?.getD 0); omega
  have h0 := hb 0
  have h1 := hb 1
  have h2 := hb 2
  have h3 := hb 3
  have g0 : -64 ≤ docV l 0 ∧ docV l 0 ≤ 255 := by unfold docV; (repeat' split) <;> omega
  have g1 : docV l 1 = docV l 0 * 64 + docB l 1 - 128 := rfl
  have g2 : docV l 2 = docV l 1 * 64 + docB l 2 - 128 := rfl
  have g3 : docV l 3 = docV l 2 * 64 + docB l 3 - 128 := rfl
  intro k hk
  have : k = 0 ∨ k = 1 ∨ k = 2 ∨ k = 3 := by omega
  rcases this with rfl | rfl | rfl | rfl <;> omega
theorem doc_enc (c : Int) (hc : isB c = true) (rest : List UInt8) : docN (Lib.encodeRune c ++ rest) = (Lib.encodeRune c).length ∧ docC (Lib.encodeRune c ++ rest) = c := by
  have hc' : 0 ≤ c ∧ c ≤ 1114111 ∧ (c < 55296 ∨ 57343 < c) := by simpa [isB] using hc
  obtain ⟨h0, h1, h2⟩ := hc'
  by_cases c1 : c < 128
  · have e : Lib.encodeRune c = [c.toNat.toUInt8] := by simp [Lib.encodeRune, Lib.encodeRuneZ_one h0 (by omega : c ≤ 127)]
    rw [e]
    have g0 := b_of c h0 (by omega)
    generalize c.toNat.toUInt8 = b0 at *
    have hN : docN ([b0] ++ rest) = 1 := by
      unfold docN docB
      simp only [List.cons_append, List.nil_append, List.getElem?_cons_zero, Option.getD_some]
      rw [if_neg (by omega), if_neg (by omega), if_neg (by omega)]
    refine ⟨by rw [hN]; rfl, ?_⟩
    unfold docC
    rw [hN]
    show docV ([b0] ++ rest) 0 = c
    unfold docV docB
    simp
    rw [if_neg (by omega), if_neg (by omega), if_neg (by omega)]; omega
  · by_cases c2 : c < 2048
    · have e : Lib.encodeRune c = [(192 + c / 64).toNat.toUInt8, (128 + c % 64).toNat.toUInt8] := by simp [Lib.encodeRune, Lib.encodeRuneZ_two (by omega : 128 ≤ c) (by omega)]
      rw [e]
      have g0 := b_of (192 + c / 64) (by omega) (by omega)
      have g1 := b_of (128 + c % 64) (by omega) (by omega)
      generalize (192 + c / 64).toNat.toUInt8 = b0 at *
      generalize (128 + c % 64).toNat.toUInt8 = b1 at *
      have hN : docN ([b0, b1] ++ rest) = 2 := by
        unfold docN docB
        simp only [List.cons_append, List.nil_append, List.getElem?_cons_zero, Option.getD_some]
        rw [if_neg (by omega), if_neg (by omega), if_pos (by omega)]
      refine ⟨by rw [hN]; rfl, ?_⟩
      unfold docC
      rw [hN]
      show docV ([b0, b1] ++ rest) 0 * 64 + docB ([b0, b1] ++ rest) 1 - 128 = c
      unfold docV docB
      simp
      rw [if_neg (by omega), if_neg (by omega), if_pos (by omega)]; omega
    · by_cases c3 : c < 65536
      · have e : Lib.encodeRune c = [(224 + c / 4096).toNat.toUInt8, (128 + c / 64 % 64).toNat.toUInt8, (128 + c % 64).toNat.toUInt8] := by simp [Lib.encodeRune, Lib.encodeRuneZ_three (r := c) (by omega)]
        rw [e]
        have g0 := b_of (224 + c / 4096) (by omega) (by omega)
        have g1 := b_of (128 + c / 64 % 64) (by omega) (by omega)
        have g2 := b_of (128 + c % 64) (by omega) (by omega)
        generalize (224 + c / 4096).toNat.toUInt8 = b0 at *
        generalize (128 + c / 64 % 64).toNat.toUInt8 = b1 at *
        generalize (128 + c % 64).toNat.toUInt8 = b2 at *
        have hN : docN ([b0, b1, b2] ++ rest) = 3 := by
          unfold docN docB
          simp only [List.cons_append, List.nil_append, List.getElem?_cons_zero, Option.getD_some]
          rw [if_neg (by omega), if_pos (by omega)]
        refine ⟨by rw [hN]; rfl, ?_⟩
        unfold docC
        rw [hN]
        show (docV ([b0, b1, b2] ++ rest) 0 * 64 + docB ([b0, b1, b2] ++ rest) 1 - 128) * 64 + docB ([b0, b1, b2] ++ rest) 2 - 128 = c
        unfold docV docB
        simp
        rw [if_neg (by omega), if_pos (by omega)]; omega
      · have e : Lib.encodeRune c = [(240 + c / 262144).toNat.toUInt8, (128 + c / 4096 % 64).toNat.toUInt8, (128 + c / 64 % 64).toNat.toUInt8, (128 + c % 64).toNat.toUInt8] := by simp [Lib.encodeRune, Lib.encodeRuneZ_four (by omega : 65536 ≤ c) (by omega)]
        rw [e]
        have g0 := b_of (240 + c / 262144) (by omega) (by omega)
        have g1 := b_of (128 + c / 4096 % 64) (by omega) (by omega)
        have g2 := b_of (128 + c / 64 % 64) (by omega) (by omega)
        have g3 := b_of (128 + c % 64) (by omega) (by omega)
        generalize (240 + c / 262144).toNat.toUInt8 = b0 at *
        generalize (128 + c / 4096 % 64).toNat.toUInt8 = b1 at *
        generalize (128 + c / 64 % 64).toNat.toUInt8 = b2 at *
        generalize (128 + c % 64).toNat.toUInt8 = b3 at *
        have hN : docN ([b0, b1, b2, b3] ++ rest) = 4 := by
          unfold docN docB
          simp only [List.cons_append, List.nil_append, List.getElem?_cons_zero, Option.getD_some]
          rw [if_pos (by omega)]
        refine ⟨by rw [hN]; rfl, ?_⟩
        unfold docC
        rw [hN]
        show ((docV ([b0, b1, b2, b3] ++ rest) 0 * 64 + docB ([b0, b1, b2, b3] ++ rest) 1 - 128) * 64 + docB ([b0, b1, b2, b3] ++ rest) 2 - 128) * 64 + docB ([b0, b1, b2, b3] ++ rest) 3 - 128 = c
        unfold docV docB
        simp
        rw [if_pos (by omega)]; omega
/-- the document reads the next character as the library does -/
theorem doc_step {l : List UInt8} (hl : l ≠ []) : utfP l = if docOk l = true then (utfP (l.drop (docN l))).map (docC l :: ·) else none := by
  rw [utfP_step hl]
  by_cases hbad : (Lib.decodeL l).1 = 65533 ∧ (Lib.decodeL l).2 = 1
  · rw [if_pos hbad, if_neg]
    intro hok
    unfold docOk at hok
    simp only [Bool.and_eq_true, decide_eq_true_eq] at hok
    obtain ⟨⟨⟨h1, h2⟩, h3⟩, h4⟩ := hok
    have e : l = Lib.encodeRune (docC l) ++ l.drop (docN l) := by rw [h4, List.take_append_drop]
    have hd := decL_write (docC l) h3 (l.drop (docN l))
    rw [← e] at hd
    rw [hd] at hbad
    simp only at hbad
    have h0 := (isB_range' h3).1
    have hcc : docC l = 65533 := by omega
    rw [hcc] at hbad
    exact absurd hbad.2 (by decide)
  · rw [if_neg hbad]
    obtain ⟨e1, e2, e3⟩ := decL_enc hl hbad
    have e : l = Lib.encodeRune ((Lib.decodeL l).1 : Int) ++ l.drop (Lib.decodeL l).2 := by rw [← e3, List.take_append_drop]
    have hd := doc_enc _ e1 (l.drop (Lib.decodeL l).2)
    rw [← e] at hd
    have hlen : (Lib.encodeRune ((Lib.decodeL l).1 : Int)).length = (Lib.decodeL l).2 := by rw [← e3, List.length_take]; omega
    rw [hlen] at hd
    rw [if_pos, hd.1, hd.2]
    unfold docOk
    rw [hd.1, hd.2, e1, ← e3]
    simp; omega
end Go.Proofs.YtifedkilbpkpaaaGreatDoor
/- Layer 4: a text that is UTF-8, gone through character by character. Plain facts. -/
set_option linter.unusedVariables false
set_option linter.unusedSimpArgs false
namespace Go.Proofs.YtifedkilbpkpaaaGreatDoor
open Go.RowKit Rn Tp
theorem decU_drop (l : List UInt8) (p : Nat) : Utf8.decode (bytesOf l) p = Lib.decodeL (l.drop p) := by
  rw [decL_N, Lib.decode_at, bytesOf_size, bytesOf_get, bytesOf_get, bytesOf_get, bytesOf_get, List.length_drop, List.getElem?_drop, List.getElem?_drop, List.getElem?_drop, List.getElem?_drop]; rfl
/-- where the k-th character begins -/
def posU (cs : List Int) (k : Nat) : Nat := (writeP (cs.take k)).length
theorem posU_split (cs : List Int) (k : Nat) : writeP cs = writeP (cs.take k) ++ writeP (cs.drop k) := by rw [← write_app, List.take_append_drop]
theorem posU_drop (cs : List Int) (k : Nat) : (writeP cs).drop (posU cs k) = writeP (cs.drop k) := by
  conv => lhs; rw [posU_split cs k]
  unfold posU
  rw [List.drop_left]
theorem posU_succ {cs : List Int} {k : Nat} {c : Int} (h : cs[k]? = some c) : posU cs (k + 1) = posU cs k + (Lib.encodeRune c).length := by
  unfold posU
  rw [take_snoc cs k c h, write_app, List.length_append, write_one]
theorem posU_ge (cs : List Int) : ∀ k, k ≤ cs.length → k ≤ posU cs k
  | 0, _ => Nat.zero_le _
  | k + 1, h => by
    have := posU_ge cs k (by omega)
    rw [posU_succ (List.getElem?_eq_getElem (by omega))]
    have := (encode_len cs[k]).1
    omega
theorem posU_zero (cs : List Int) : posU cs 0 = 0 := by unfold posU; simp [writeP]
theorem posU_end (cs : List Int) : posU cs cs.length = (writeP cs).length := by unfold posU; rw [List.take_length]
theorem posU_step {cs : List Int} (hv : ∀ c ∈ cs, isB c = true) {k : Nat} {c : Int} (h : cs[k]? = some c) : Utf8.decode (bytesOf (writeP cs)) (posU cs k) = (c.toNat, (Lib.encodeRune c).length) ∧ posU cs k < (writeP cs).length := by
  have hc := hv c (List.mem_of_getElem? h)
  have hk : k < cs.length := (List.getElem?_eq_some_iff.1 h).1
  have hd : cs.drop k = c :: cs.drop (k + 1) := by
    rw [List.drop_eq_getElem_cons hk]
    rw [List.getElem?_eq_getElem hk] at h
    injection h with h
    rw [h]
  refine ⟨?_, ?_⟩
  · rw [decU_drop, posU_drop, hd, write_cons]
    exact decL_write c hc _
  · have := congrArg List.length (posU_split cs k)
    rw [List.length_append, hd, write_cons, List.length_append] at this
    have h4 := (encode_len c).1
    unfold posU
    omega
theorem enc_two {c : Int} (hc : isB c = true) (h : 128 ≤ c) : 2 ≤ (Lib.encodeRune c).length := by
  have hc' : 0 ≤ c ∧ c ≤ 1114111 ∧ (c < 55296 ∨ 57343 < c) := by simpa [isB] using hc
  by_cases c2 : c < 2048
  · have e : Lib.encodeRune c = [(192 + c / 64).toNat.toUInt8, (128 + c % 64).toNat.toUInt8] := by simp [Lib.encodeRune, Lib.encodeRuneZ_two (by omega : 128 ≤ c) (by omega)]
    rw [e]; simp
  · by_cases c3 : c < 65536
    · have e : Lib.encodeRune c = [(224 + c / 4096).toNat.toUInt8, (128 + c / 64 % 64).toNat.toUInt8, (128 + c % 64).toNat.toUInt8] := by simp [Lib.encodeRune, Lib.encodeRuneZ_three (r := c) (by omega)]
      rw [e]; simp
    · have e : Lib.encodeRune c = [(240 + c / 262144).toNat.toUInt8, (128 + c / 4096 % 64).toNat.toUInt8, (128 + c / 64 % 64).toNat.toUInt8, (128 + c % 64).toNat.toUInt8] := by simp [Lib.encodeRune, Lib.encodeRuneZ_four (by omega : 65536 ≤ c) (by omega)]
      rw [e]; simp
theorem enc_low1 {c : Int} (h0 : 0 ≤ c) (h : c < 128) : ∃ b : UInt8, Lib.encodeRune c = [b] ∧ (b.toNat : Int) = c := by
  have e : Lib.encodeRune c = [c.toNat.toUInt8] := by simp [Lib.encodeRune, Lib.encodeRuneZ_one h0 (by omega : c ≤ 127)]
  have g0 := b_of c h0 (by omega)
  exact ⟨_, e, by rw [g0]; omega⟩
/-- a character as the language turns it into a string -/
theorem encode_is {c : Int} (hc : isB c = true) : Utf8.encode c = bytesOf (Lib.encodeRune c) := by
  have hc' : 0 ≤ c ∧ c ≤ 1114111 ∧ (c < 55296 ∨ 57343 < c) := by simpa [isB] using hc
  obtain ⟨n, rfl⟩ : ∃ n : Nat, c = n := ⟨c.toNat, by omega⟩
  have hv : Utf8.valid (n : Int) = true := by unfold Utf8.valid; simp; omega
  have e : (n : Int).toNat = n := by omega
  unfold Utf8.encode
  simp only [hv, if_true, e]
  by_cases c1 : n < 128
  · rw [if_pos c1]
    simp [Lib.encodeRune, Lib.encodeRuneZ_one (by omega : (0 : Int) ≤ n) (by omega : (n : Int) ≤ 127), bytesOf]
  · rw [if_neg c1]
    by_cases c2 : n < 2048
    · rw [if_pos c2]
      have z0 : (192 + (n : Int) / 64).toNat = 192 + n / 64 := by omega
      have z1 : (128 + (n : Int) % 64).toNat = 128 + n % 64 := by omega
      simp [Lib.encodeRune, Lib.encodeRuneZ_two (by omega : (128 : Int) ≤ n) (by omega : (n : Int) ≤ 2047), bytesOf, z0, z1]
    · rw [if_neg c2]
      by_cases c3 : n < 65536
      · rw [if_pos c3]
        have z0 : (224 + (n : Int) / 4096).toNat = 224 + n / 4096 := by omega
        have z1 : (128 + (n : Int) / 64 % 64).toNat = 128 + n / 64 % 64 := by omega
        have z2 : (128 + (n : Int) % 64).toNat = 128 + n % 64 := by omega
        simp [Lib.encodeRune, Lib.encodeRuneZ_three (r := (n : Int)) (by omega), bytesOf, z0, z1, z2]
      · rw [if_neg c3]
        have z0 : (240 + (n : Int) / 262144).toNat = 240 + n / 262144 := by omega
        have z1 : (128 + (n : Int) / 4096 % 64).toNat = 128 + n / 4096 % 64 := by omega
        have z2 : (128 + (n : Int) / 64 % 64).toNat = 128 + n / 64 % 64 := by omega
        have z3 : (128 + (n : Int) % 64).toNat = 128 + n % 64 := by omega
        simp [Lib.encodeRune, Lib.encodeRuneZ_four (by omega : (65536 : Int) ≤ n) (by omega), bytesOf, z0, z1, z2, z3]
/-- which bytes stand at the first places -/
theorem first_cases {cs : List Int} (hv : ∀ c ∈ cs, isB c = true) {k : Nat} (hk : k < cs.length) :
    (posU cs k = 0 ∧ k = 0 ∧ decide (k = 0 ∨ k = 1 ∧ cs[0]? = some 45) = true) ∨ (k ≠ 0 ∧ posU cs k = 1 ∧ ∃ b : UInt8, (writeP cs)[0]? = some b ∧ ((b.toNat = 45 ∧ decide (k = 0 ∨ k = 1 ∧ cs[0]? = some 45) = true) ∨ (b.toNat ≠ 45 ∧ decide (k = 0 ∨ k = 1 ∧ cs[0]? = some 45) = false))) ∨ (k ≠ 0 ∧ 2 ≤ posU cs k ∧ decide (k = 0 ∨ k = 1 ∧ cs[0]? = some 45) = false) := by
  cases k with
  | zero => exact .inl ⟨posU_zero cs, rfl, by simp⟩
  | succ k =>
    right
    have hge := posU_ge cs (k + 1) (by omega)
    obtain ⟨c0, r, rfl⟩ := List.exists_cons_of_length_pos (l := cs) (by omega)
    have hc0 := hv c0 (by simp)
    have hr0 := isB_range' hc0
    have hp1 : posU (c0 :: r) 1 = (Lib.encodeRune c0).length := by
      have : posU (c0 :: r) 1 = posU (c0 :: r) 0 + (Lib.encodeRune c0).length := posU_succ (cs := c0 :: r) (k := 0) (c := c0) rfl
      rw [posU_zero] at this; omega
    by_cases h2 : 2 ≤ posU (c0 :: r) (k + 1)
    · right
      refine ⟨by omega, h2, ?_⟩
      simp only [decide_eq_false_iff_not, not_or, not_and]
      refine ⟨by omega, fun h1 h3 => ?_⟩
      obtain rfl : k = 0 := by omega
      have h3 : c0 = 45 := by simpa using h3
      subst h3
      rw [hp1] at h2
      exact absurd h2 (by decide)
    · left
      obtain rfl : k = 0 := by omega
      have hlen : (Lib.encodeRune c0).length = 1 := by rw [hp1] at h2; have := encode_len c0; omega
      have hlow : c0 < 128 := by
        by_cases h : c0 < 128
        · exact h
        · have := enc_two hc0 (by omega); omega
      obtain ⟨b, e, hb⟩ := enc_low1 hr0.1 hlow
      refine ⟨by omega, by rw [hp1]; exact hlen, b, by rw [write_cons, e]; rfl, ?_⟩
      by_cases h45 : c0 = 45
      · left; exact ⟨by omega, by simp [h45]⟩
      · right; exact ⟨by omega, by simp [h45]⟩
end Go.Proofs.YtifedkilbpkpaaaGreatDoor
/- The reference's Bytes and Write of layer 2 are walked; Write answers what runes.Write answers. -/
set_option linter.unusedVariables false
set_option linter.unusedSimpArgs false
namespace Go.Proofs.YtifedkilbpkpaaaGreatDoor
open Go.RowKit Rn
theorem byte_info : (Tryz.prog.info? 5).map (fun i => (i.zero, i.size, i.bytes)) = some (some (.int .u8 0), 1, 1) := by kernel_rfl

theorem enc_cells (c : Int) : ((Lib.encodeRune c).map b8).toArray = ((Lib.encodeRuneZ c).map (fun x => Value.int .u8 x)).toArray := by
  rw [← runeCells_b8]; rfl
set_option maxRecDepth 100000 in
set_option maxHeartbeats 1000000 in
theorem ref_bytes (c : Int) (w : World) (hc : isB c = true) :
    Calls Tryz.prog 31 #[.int .i64 c] w fun e w' => e = .returned (.slice (some ⟨w.heap.size, 0, none⟩) (Lib.encodeRune c).length (Lib.encodeRune c).length) ∧ w' = w.alloc (.cells ((Lib.encodeRune c).map b8).toArray 5) := by
  have hc' : 0 ≤ c ∧ c ≤ 1114111 ∧ (c < 55296 ∨ 57343 < c) := by simpa [isB] using hc
  clear hc
  obtain ⟨h0, h1, h2⟩ := hc'
  have hl : (Lib.encodeRune c).length = (Lib.encodeRuneZ c).length := by simp [Lib.encodeRune]
  rw [hl]
  by_cases c1 : c < 128
  · have hz := Lib.hid (Lib.encodeRuneZ_one h0 (by omega : c ≤ 127))
    go_enter Tryz.func31, Tryz.ntmps31
    go_wp2
    go_ret
    rw [enc_cells, hz.out]
    exact ⟨rfl, rfl⟩
  · by_cases c2 : c < 2048
    · have hz := Lib.hid (Lib.encodeRuneZ_two (by omega : 128 ≤ c) (by omega))
      go_enter Tryz.func31, Tryz.ntmps31
      go_wp2
      go_ret
      rw [enc_cells, hz.out]
      exact ⟨rfl, rfl⟩
    · by_cases c3 : c < 65536
      · have hz := Lib.hid (Lib.encodeRuneZ_three (r := c) (by omega))
        go_enter Tryz.func31, Tryz.ntmps31
        go_wp2
        go_ret
        rw [enc_cells, hz.out]
        exact ⟨rfl, rfl⟩
      · have hz := Lib.hid (Lib.encodeRuneZ_four (by omega : 65536 ≤ c) h1)
        go_enter Tryz.func31, Tryz.ntmps31
        go_wp2
        go_ret
        rw [enc_cells, hz.out]
        exact ⟨rfl, rfl⟩

theorem enc_row (w : World) (c : Int) : ∀ j u, ((Lib.encodeRune c).map b8)[j]? = some u → (w.alloc (.cells ((Lib.encodeRune c).map b8).toArray 5)).cell? ((⟨w.heap.size, 0, none⟩ : Addr).add j) = some u := by
  refine World.news_of_block (t := 5) (fr := (0, 0)) (cs := ((Lib.encodeRune c).map b8).toArray) ?_ 
  exact heap_alloc_new w _

end Go.Proofs.YtifedkilbpkpaaaGreatDoor
/- Layer 1's reference: Stop and Add are walked. -/
set_option linter.unusedVariables false
set_option linter.unusedSimpArgs false
namespace Go.Proofs.YtifedkilbpkpaaaGreatDoor
open Go.RowKit Fx
theorem rfx_stop (n : Int) (w : World) (h1 : -9223372036854775808 ≤ n) (h2 : n ≤ 9223372036854775807) :
    Calls Tryz.prog 15 #[.int .i64 n] w fun e w' => e = .returned (.int .i64 (stopZ n)) ∧ w = w' := by
  go_enter Tryz.func15, Tryz.ntmps15
  go_wp2
  all_goals (go_ret; refine ⟨ret_int ?_, rfl⟩; unfold stopZ; (repeat' split) <;> omega)
end Go.Proofs.YtifedkilbpkpaaaGreatDoor
/- Layer 1: the document's Print is walked. -/
set_option linter.unusedVariables false
set_option linter.unusedSimpArgs false
namespace Go.Proofs.YtifedkilbpkpaaaGreatDoor
open Go.RowKit Fx
/-- string([]byte{b}) of a slice just made -/
theorem conv_one (b : UInt8) (W : World) : (convert 31 9 (.slice (some ⟨W.heap.size, 0, none⟩) 1 1)).run Tryz.prog (W.alloc (.cells #[.int .u8 b.toNat] 5)) = .ok (.string (bytesOf [b])) (W.alloc (.cells #[.int .u8 b.toNat] 5)) := by
  have hrow : RowAt (W.alloc (.cells #[.int .u8 b.toNat] 5)) W.heap.size ([b].map b8) := RowAt.new _ _ _
  have hr := (hrow.reads (B := W.heap.size + 1) (by omega))
  exact run_str (P := Tryz.prog) Tryz.underlying31 Tryz.underlying5 Tryz.underlying9 1 hr
theorem conv_dig (n : Nat) (h : n < 10) (W : World) : (convert 31 9 (.slice (some ⟨W.heap.size, 0, none⟩) 1 1)).run Tryz.prog (W.alloc (.cells #[.int .u8 (48 + (n : Int))] 5)) = .ok (.string (bytesOf [dig n])) (W.alloc (.cells #[.int .u8 (48 + (n : Int))] 5)) := by
  have e : ((dig n).toNat : Int) = 48 + (n : Int) := by
    have : ∀ k : Fin 10, ((dig k.val).toNat : Int) = 48 + (k.val : Int) := by decide
    exact this ⟨n, h⟩
  have := conv_one (dig n) W
  rwa [e] at this
namespace Fx
def PrLoop (a : Nat) (q : Nat) (T : List UInt8) : Prop := (T = [] ∧ q = a) ∨ (T ≠ [] ∧ Lib.decDigits a = (if q = 0 then [] else Lib.decDigits q) ++ T)
end Fx
theorem prloop_step {a q : Nat} {T : List UInt8} (h : PrLoop a q T) (hc : 0 < q ∨ T = []) : PrLoop a (q / 10) (dig (q % 10) :: T) := by
  refine .inr ⟨by simp, ?_⟩
  have key : Lib.decDigits q = (if q / 10 = 0 then [] else Lib.decDigits (q / 10)) ++ [dig (q % 10)] := by
    by_cases h10 : q < 10
    · rw [if_pos (by omega), dec_small h10, Nat.mod_eq_of_lt h10]; rfl
    · rw [if_neg (by omega), dec_big (by omega)]
  rcases h with ⟨h1, h2⟩ | ⟨h1, h2⟩
  · rw [← h2, key, h1]
  · rcases hc with hc | hc
    · rw [h2, if_neg (by omega), key]; simp
    · exact absurd hc h1
theorem prloop_end {a : Nat} {T : List UInt8} (h : PrLoop a 0 T) (hT : T ≠ []) : T = Lib.decDigits a := by
  rcases h with ⟨h1, _⟩ | ⟨_, h2⟩
  · exact absurd h1 hT
  · rw [h2]; simp
theorem prloop_len {a q : Nat} {T : List UInt8} (h : PrLoop a q T) {n : Nat} (hn : (Lib.decDigits a).length ≤ n) : T.length ≤ n := by
  rcases h with ⟨h1, _⟩ | ⟨_, h2⟩
  · rw [h1]; simp
  · rw [h2, List.length_append] at hn; omega
def strLen : Value → Nat
  | .string s => s.size
  | _ => 0
end Go.Proofs.YtifedkilbpkpaaaGreatDoor
/- Layer 4, the document: a number in hex digits, an escape, a letter, a search in a list, are walked; and what two tokens must be kept apart. -/
set_option linter.unusedVariables false
set_option linter.unusedSimpArgs false
namespace Go.Proofs.YtifedkilbpkpaaaGreatDoor
open Go.RowKit Rn Tp
set_option maxRecDepth 100000 in
set_option maxHeartbeats 1000000 in
theorem tp_apart (a b : Int) (w : World) :
    Calls Tryz.prog 27 #[.int .i64 a, .int .i64 b] w fun e w' => e = .returned (.bool (apartB a b)) ∧ w = w' := by
  have ha : a = 1 ∨ a = 3 ∨ a = 12 ∨ a = 13 ∨ a = 6 ∨ a = 14 ∨ a = 15 ∨ a = 16 ∨ ((a == 1) = false ∧ (a == 3) = false ∧ (a == 12) = false ∧ (a == 13) = false ∧ (a == 6) = false ∧ (a == 14) = false ∧ (a == 15) = false ∧ (a == 16) = false) := by simp; omega
  have hb : b = 1 ∨ b = 13 ∨ b = 6 ∨ b = 14 ∨ b = 15 ∨ b = 16 ∨ ((b == 1) = false ∧ (b == 13) = false ∧ (b == 6) = false ∧ (b == 14) = false ∧ (b == 15) = false ∧ (b == 16) = false) := by simp; omega
  obtain ⟨r, hr⟩ : ∃ r, apartB a b = r := ⟨_, rfl⟩
  have Hr := Lib.hid hr
  rw [hr]
  clear hr
  rcases ha with rfl | rfl | rfl | rfl | rfl | rfl | rfl | rfl | ⟨a1, a2, a3, a4, a5, a6, a7, a8⟩
  case inr.inr.inr.inr.inr.inr.inr.inr =>
    rcases hb with rfl | rfl | rfl | rfl | rfl | rfl | ⟨b1, b2, b3, b4, b5, b6⟩
    all_goals
      go_enter Tryz.func27, Tryz.ntmps27
      go_wp2
      go_ret
      refine ⟨ret_bool ?_, rfl⟩
      rw [← Hr.out]
      unfold apartB
      simp at *
      (try simp [*])
  all_goals
    clear hb
    go_enter Tryz.func27, Tryz.ntmps27
    go_wp2
    go_ret
    refine ⟨ret_bool ?_, rfl⟩
    rw [← Hr.out]
    unfold apartB
    simp
def hexS : List UInt8 := [48, 49, 50, 51, 52, 53, 54, 55, 56, 57, 97, 98, 99, 100, 101, 102]
theorem hexS_at : ∀ k : Fin 16, (bytesOf hexS).extract k.val (k.val + 1) = bytesOf [hexd k.val] := by decide +kernel
theorem str_hex (n : Nat) (h : n < 16) (W : World) : (Instr.slice 9 (.string ⟨#[48, 49, 50, 51, 52, 53, 54, 55, 56, 57, 97, 98, 99, 100, 101, 102]⟩) (some (.int .i64 (n : Int))) (some (.int .i64 ((n : Int) + 1))) none).run Tryz.prog W = .ok (.string (bytesOf [hexd n])) W := by
  have e := hexS_at ⟨n, h⟩
  have := @run_slice_string Tryz.prog W 9 (bytesOf hexS) .i64 .i64 (n : Int) ((n : Int) + 1) Tryz.underlying9 (by omega) (by omega) (by rw [bytesOf_size]; show (n : Int) + 1 ≤ ((16 : Nat) : Int); omega)
  rw [show ((n : Int) + 1).toNat = n + 1 by omega, Int.toNat_natCast] at this
  simp only [] at e
  rw [e] at this
  exact this
theorem hexT_len' : ∀ (m n : Nat), n ≤ m → (hexT n).length ≤ m + 1
  | 0, n, h => by rw [hexT, dif_pos (by omega)]; simp
  | m + 1, n, h => by
    rw [hexT]
    split
    · simp
    · have := hexT_len' m (n / 16) (by omega)
      simp; omega
theorem hexT_eight (n : Nat) (h : n < 4294967296) : (hexT n).length ≤ 8 := by
  have key : ∀ k n, n < 16 ^ (k + 1) → (hexT n).length ≤ k + 1 := by
    intro k
    induction k with
    | zero => intro n h; rw [hexT, dif_pos (by simpa using h)]; simp
    | succ k ih =>
      intro n h
      rw [hexT]
      split
      · simp
      · have := ih (n / 16) (by rw [Nat.div_lt_iff_lt_mul (by omega)]; rw [Nat.pow_succ] at h; exact h)
        simp; omega
  exact key 7 n (by show n < 4294967296; exact h)
set_option maxRecDepth 100000 in
set_option maxHeartbeats 1000000 in
theorem rp_in (l : List Int) (A : Option Addr) (n cap : Nat) (c : Int) (w : World) (hr : Reads w w.heap.size 1 A n (l.map n64)) (hn : n ≤ 1000000) :
    Calls Tryz.prog 14 #[.slice A n cap, .int .i64 c] w fun e w' => e = .returned (.bool (decide (c ∈ l))) ∧ w = w' := by
  have hlen : l.length = n := by simpa using hr.len
  have Hlen := Lib.hid hlen
  clear hlen
  go_enter Tryz.func14, Tryz.ntmps14
  go_wp2_with fail
  go_loopw [5] (fun i wr => ∃ k : Nat, k ≤ n ∧ i = .int .i64 k ∧ w = wr ∧ Hid (c ∉ l.take k)) (fun i _ => n - (intOf i).toNat)
  case atStart => exact ⟨0, by omega, rfl, rfl, (by show c ∉ _; simp)⟩
  case round =>
    obtain ⟨k, hk, rfl, rfl, hx⟩ := hrel
    by_cases hlt : k < n
    · obtain ⟨b, off, u, hA, hbw, hu, hcell⟩ := hr.at_ hlt
      subst hA
      obtain ⟨d, hd⟩ : ∃ d, l[k]? = some d := ⟨_, List.getElem?_eq_getElem (by rw [Hlen.out]; omega)⟩
      rw [List.getElem?_map, hd] at hu
      obtain rfl : u = n64 d := by simpa using hu.symm
      unfold n64 at hcell
      have dk : decide ((k : Int) < (n : Int)) = true := by simp; omega
      by_cases hdc : d = c
      · have te : (d == c) = true := by simp [hdc]
        have hmem : c ∈ l := hdc ▸ List.mem_of_getElem? hd
        have Hm := Lib.hid hmem
        clear hdc hd hu hx hmem
        go_wp2
        go_ret
        exact ⟨ret_bool (by simp [Hm.out]), rfl⟩
      · have te : (d == c) = false := by simp [hdc]
        have hnew : Hid (c ∉ l.take (k + 1)) := by
          show c ∉ _
          rw [take_snoc l k d hd]
          have := hx.out
          simp only [List.mem_append, List.mem_singleton, not_or]
          exact ⟨this, fun e => hdc e.symm⟩
        clear hdc hd hu hx
        go_wp2_with fail
        go_roundw
        case rel => exact ⟨k + 1, by omega, by go_num, trivial, hnew⟩
        case measure => simp [intOf]; omega
    · obtain rfl : k = n := by omega
      have dk : decide ((k : Int) < (k : Int)) = false := by simp
      have hy := hx.out
      rw [← Hlen.out, List.take_length] at hy
      have Hy := Lib.hid hy
      clear hx hlt hk hy
      go_wp2
      go_ret
      exact ⟨ret_bool (by simp [Hy.out]), rfl⟩
end Go.Proofs.YtifedkilbpkpaaaGreatDoor
set_option linter.unusedVariables false
namespace Go.Proofs.YtifedkilbpkpaaaGreatDoor
open Go.RowKit
/-- a world in which all blocks below B are as in w -/
structure BW (B : Nat) (w : World) where
  val : World
  is : Below B w val
instance {B : Nat} {w : World} : Nonempty (BW B w) := ⟨⟨w, Below.refl B w⟩⟩
theorem wp_region_bw {P : Program} (B : Nat) {id : Nat} {Q : Exit → Act → World → Prop} {a : Act} {w : World} {l : List Oper} (hm : P.follows .mixedOrders = true) (hB : Region.lexB .any l.toArray = true)
    (h : wpQuiet P l.toArray (fun w' => ∃ W : BW B w, w' = W.val) (fun a' => ∀ w', (∃ W : BW B w, w' = W.val) → Q .normal a' w') l a) : (Code.region id l.toArray true).wp P Q a w :=
  wp_region_quiet (C := fun w' => ∃ W : BW B w, w' = W.val) hm hB ⟨⟨_, (Below.refl B w).drew⟩, rfl⟩ (by simpa using h)
/-- a callee's contract, met in such a world -/
theorem calls_bw {P : Program} {f : FuncId} {args : Array Value} {B : Nat} {w : World} (hB : B ≤ w.heap.size) {W : BW B w} {v : Value}
    (h : Calls P f args W.val fun e w' => e = .returned v ∧ Below W.val.heap.size W.val w') : Calls P f args W.val fun e w'' => e = .returned v ∧ ∃ W' : BW B w, w'' = W'.val :=
  h.mono fun _ w' ⟨he, hb⟩ => ⟨he, ⟨w', W.is.trans (hb.mono (Nat.le_trans hB W.is.size))⟩, rfl⟩
theorem calls_bw_same {P : Program} {f : FuncId} {args : Array Value} {B : Nat} {w : World} {W : BW B w} {v : Value}
    (h : Calls P f args W.val fun e w' => e = .returned v ∧ W.val = w') : Calls P f args W.val fun e w'' => e = .returned v ∧ ∃ W' : BW B w, w'' = W'.val :=
  h.mono fun _ w' ⟨he, hb⟩ => ⟨he, W, hb.symm⟩
theorem bw_cell {B : Nat} {w : World} {p : Addr} {v : Value} (h : w.cell? p = some v) (hp : p.block < B) : ∀ W : BW B w, W.val.cell? p = some v := fun W => (W.is.cell hp).trans h
end Go.Proofs.YtifedkilbpkpaaaGreatDoor
