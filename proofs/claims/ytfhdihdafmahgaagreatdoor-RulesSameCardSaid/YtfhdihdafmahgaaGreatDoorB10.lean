/- Layer 4: may a token be? The program's right is walked. -/
import Derived.Test.YtfhdihdafmahgaaGreatDoorB09
import Derived.Test.YtfhdihdafmahgaaGreatDoorB02
import Derived.Laws.StructEq
import Derived.Lib.Bytealg
import Derived.Test.YtfhdihdafmahgaaGreatDoorB01
import Derived.Test.YtfhdihdafmahgaaGreatDoorB04
import Derived.Deep.RegionWith
import Derived.BigQuiet
import Derived.Test.YtfhdihdafmahgaaGreatDoorB05
import Derived.WalkMore
/- Layer 4: a printed name, with what stands about it, is scanned as it. Plain laws. -/
set_option linter.unusedVariables false
set_option linter.unusedSimpArgs false
namespace Go.Proofs.YtfhdihdafmahgaaGreatDoor
open Go.RowKit Rn Tk Fx Tp
/-- how a printed name begins: an escape, a character with which one begins, or a sign -/
theorem nameC_first {l : List Int} (dim : Bool) (h : ∀ c ∈ l, isB c = true ∧ c ≠ 0) (hne : l ≠ []) (rest : List Int) :
    beg (nameC l dim ++ rest) = true ∧ ∃ c r, nameC l dim ++ rest = c :: r ∧ (c = 92 ∨ (beginsB c = true ∧ (dim = true → c ≠ 101 ∧ c ≠ 69)) ∨ c = 45) := by
  obtain ⟨c, t, rfl⟩ := List.exists_cons_of_ne_nil hne
  have e : nameC (c :: t) dim = partC c (needB c true (decide (c :: t = [45])) (dim && true)) ++ nameG (c :: t) dim 1 t := by
    show nameG (c :: t) dim 0 (c :: t) = _
    conv => lhs; unfold nameG
    simp
  cases hb : needB c true (decide (c :: t = [45])) (dim && true) with
  | true =>
    rw [e, hb]
    have he := esc_esc c (nameG (c :: t) dim 1 t ++ rest)
    rw [← List.append_assoc] at he
    have hx : partC c true = chr (escP c) := rfl
    rw [hx]
    refine ⟨by unfold beg may; rw [he]; simp, 92, ((chr (escP c)).tail ++ nameG (c :: t) dim 1 t) ++ rest, ?_, .inl rfl⟩
    unfold escP; rfl
  | false =>
    rw [e, hb]
    have hw : withinB c = true ∧ digitB c = false ∧ ¬ (c :: t = [45]) ∧ (dim = true → c ≠ 101 ∧ c ≠ 69) := by
      unfold needB at hb
      simp at hb
      refine ⟨hb.1.1.1, hb.1.1.2, ?_, fun hd => hb.2 hd⟩
      simpa using hb.1.2
    obtain ⟨w1, w2, w3, w4⟩ := hw
    show beg (c :: (nameG (c :: t) dim 1 t ++ rest)) = true ∧ ∃ d r, c :: (nameG (c :: t) dim 1 t ++ rest) = d :: r ∧ _
    cases hbc : beginsB c with
    | true => exact ⟨by unfold beg may; rw [pk_cons0, hbc]; rfl, c, _, rfl, .inr (.inl ⟨hbc, w4⟩)⟩
    | false =>
      have h45 : c = 45 := by
        unfold withinB at w1
        rw [hbc, w2] at w1
        simpa using w1
      subst h45
      refine ⟨?_, 45, _, rfl, .inr (.inr rfl)⟩
      obtain ⟨d, s, rfl⟩ := List.exists_cons_of_ne_nil (show t ≠ [] from fun h => w3 (by rw [h]))
      have e2 : nameG (45 :: d :: s) dim 1 (d :: s) = partC d (needB d true false false) ++ nameG (45 :: d :: s) dim 2 s := by
        conv => lhs; unfold nameG
        simp
      rw [e2]
      cases hd : needB d true false false with
      | true =>
        have he := esc_esc d (nameG (45 :: d :: s) dim 2 s ++ rest)
        rw [← List.append_assoc] at he
        have hx : partC d true = chr (escP d) := rfl
        rw [hx]
        unfold beg may
        rw [List.tail_cons, he]
        simp [pk_cons0]
      | false =>
        unfold needB at hd
        simp at hd
        have hx : partC d false = [d] := rfl
        rw [hx]
        unfold beg may
        rw [List.tail_cons]
        show _
        cases hbd : beginsB d with
        | true => simp [pk_cons0, hbd, pk]
        | false =>
          have : d = 45 := by
            have h1 := hd.1
            unfold withinB at h1
            rw [hbd, hd.2] at h1
            simpa using h1
          subst this
          simp [pk]
/-- a quoted text -/
theorem next_string {l : List Int} (h : ∀ c ∈ l, isB c = true ∧ c ≠ 0) (rest : List Int) : nextT (34 :: (bodyC l ++ 34 :: rest)) = (⟨6, writeP l, 0⟩, rest) := by
  have hb := body_read l h (34 :: rest)
  have hq : quoteT 34 (34 :: rest) = ([], false, rest) := by rw [quoteT_at (by simp), pk_cons0, if_neg (by decide), if_pos rfl]; rfl
  rw [hq, List.append_nil] at hb
  unfold nextT
  simp only []
  rw [if_pos (by rw [pk_cons0]; omega), pk_cons0, List.tail_cons, hb]; rfl
theorem next_bad {l : List Int} (h : ∀ c ∈ l, isB c = true ∧ c ≠ 0) (rest : List Int) : nextT (34 :: (bodyC l ++ 10 :: rest)) = (⟨7, writeP l, 0⟩, 10 :: rest) := by
  have hb := body_read l h (10 :: rest)
  have hq : quoteT 34 (10 :: rest) = ([], true, 10 :: rest) := by rw [quoteT_at (by simp), pk_cons0, if_pos rfl]
  rw [hq, List.append_nil] at hb
  unfold nextT
  simp only []
  rw [if_pos (by rw [pk_cons0]; omega), pk_cons0, List.tail_cons, hb]; rfl
theorem next_bad_end {l : List Int} (h : ∀ c ∈ l, isB c = true ∧ c ≠ 0) : nextT (34 :: bodyC l) = (⟨6, writeP l, 0⟩, []) := by
  have hb := body_read l h []
  rw [quoteT_nil, List.append_nil, List.append_nil] at hb
  unfold nextT
  simp only []
  rw [if_pos (by rw [pk_cons0]; omega), pk_cons0, List.tail_cons, hb]; rfl
/-- @ and # ahead of a name -/
theorem next_at {l : List Int} (h : ∀ c ∈ l, isB c = true ∧ c ≠ 0) (hne : l ≠ []) {rest : List Int} (hs : Sep rest) (hp : ∀ d ∈ nameC l false ++ rest, 0 ≤ d) : nextT (64 :: (nameC l false ++ rest)) = (⟨4, writeP l, 0⟩, rest) := by
  obtain ⟨f1, f2, _⟩ := sep_facts hs
  have hn := nameC_read false h f1 f2
  have hb := (nameC_first false h hne rest).1
  have hnum : numberT (64 :: (nameC l false ++ rest)) = none := Np.number_none (Np.num_none (fun d hd => by
    rcases List.mem_cons.1 hd with rfl | hd
    · omega
    · exact hp d hd) (show Np.numStart 64 = false by decide))
  unfold nextT
  simp only []
  rw [if_neg (by rw [pk_cons0]; omega), if_neg (by rw [pk_cons0]; intro h; exact absurd h.1 (by decide)), hnum]
  simp only []
  rw [if_pos ⟨rfl, hb⟩, List.tail_cons, hn]
theorem within_or_esc {r : List Int} (h : beg r = true) : (withinB (pk r 0) || esc r) = true := by
  rcases beg_first h with h | h
  · rw [h]; simp
  · rw [h]; rfl
theorem next_hash {l : List Int} (h : ∀ c ∈ l, isB c = true ∧ c ≠ 0) (hne : l ≠ []) {rest : List Int} (hs : Sep rest) : nextT (35 :: (nameC l false ++ rest)) = (⟨5, writeP l, 0⟩, rest) := by
  obtain ⟨f1, f2, _⟩ := sep_facts hs
  have hn := nameC_read false h f1 f2
  have hb := within_or_esc (nameC_first false h hne rest).1
  unfold nextT
  simp only []
  rw [if_neg (by rw [pk_cons0]; omega), if_pos ⟨rfl, by rw [pk_cons, List.tail_cons]; exact hb⟩, List.tail_cons, hn]
/-- a number with a name behind it -/
theorem next_dim {n : Int} (hn : stopZ n = n) {l : List Int} (h : ∀ c ∈ l, isB c = true ∧ c ≠ 0) (hne : l ≠ []) {rest : List Int} (hs : Sep rest) : nextT (chr (Fx.printP n) ++ (nameC l true ++ rest)) = (⟨10, writeP l, n⟩, rest) := by
  obtain ⟨f1, f2, _⟩ := sep_facts hs
  have hnm := nameC_read true h f1 f2
  obtain ⟨hb, c, r, e, hc⟩ := nameC_first true h hne rest
  have hx := number_print n hn (nameC l true ++ rest) (fun c' r' e' => by
    rw [e] at e'
    injection e' with e1 _
    subst e1
    rcases hc with rfl | ⟨h1, h2⟩ | rfl
    · exact .inl (by decide)
    · refine .inl ?_
      have h3 := h2 rfl
      unfold numB
      unfold beginsB letterB at h1
      simp at h1 ⊢; omega
    · exact .inr rfl)
  rw [if_pos hb, hnm] at hx
  obtain ⟨b, P, e2, g1, g2, g3, _⟩ := print_first n
  rw [e2, chr_cons, List.cons_append] at hx ⊢
  exact next_of_number g1 g2 g3 hx
end Go.Proofs.YtfhdihdafmahgaaGreatDoor
/- Layer 4: a printed name, a Delim, a bracket and the like are scanned as they were. Plain laws. -/
set_option linter.unusedVariables false
set_option linter.unusedSimpArgs false
namespace Go.Proofs.YtfhdihdafmahgaaGreatDoor
open Go.RowKit Rn Tk Fx Tp
theorem num_none1 {c : Int} {r : List Int} (hc : 0 ≤ c) (h : Np.numStart c = false) : numberT (c :: r) = none := by
  refine Np.number_none ?_
  have hx : ∀ b t, numText (c :: r) = b :: t → isD b = false ∧ b.toNat ≠ 43 ∧ b.toNat ≠ 45 ∧ b.toNat ≠ 46 := by
    intro b t hbt
    unfold numText at hbt
    rw [List.takeWhile_cons] at hbt
    split at hbt
    · rename_i hb
      rw [List.map_cons] at hbt
      injection hbt with e1 e2
      unfold Np.numStart at h
      simp at h
      have hlt : c < 128 := by unfold numB at hb; simp at hb; omega
      have hn : (b.toNat : Int) = c := by
        rw [← e1]; unfold Tk.byteOf; rw [UInt8.toNat_ofNat']; omega
      refine ⟨?_, by omega, by omega, by omega⟩
      unfold isD; simp; omega
    · cases hbt
  generalize numText (c :: r) = x at hx
  cases x with
  | nil => rfl
  | cons b t =>
    obtain ⟨h1, h2, h3, h4⟩ := hx b t rfl
    have hs : sgn (b :: t) = 0 := by show (if _ then 1 else 0) = 0; rw [if_neg (by omega)]
    have hd : digs (b :: t) = 0 := by unfold digs; rw [List.takeWhile_cons, if_neg (by simp [h1])]; rfl
    unfold lenP
    rw [if_pos]
    unfold some_
    simp only [hs, List.drop_zero, hd]
    simp
    intro hb; subst hb; exact absurd rfl h4
/-- behind a sign no digit stands, and no point: no number -/
theorem num_signed {r : List Int} (h : ∀ c t, r = c :: t → digitB c = false ∧ c ≠ 46) (h0 : ∀ c t, r = c :: t → 0 ≤ c) (s : Int) (hs : s = 43 ∨ s = 45) : numberT (s :: r) = none := by
  refine Np.number_none ?_
  have e1 : numText (s :: r) = Tk.byteOf s :: numText r := by
    unfold numText
    rw [List.takeWhile_cons, if_pos (by rcases hs with rfl | rfl <;> decide), List.map_cons]
  have hx : ∀ b t, numText r = b :: t → isD b = false ∧ b.toNat ≠ 46 := by
    intro b t hbt
    cases r with
    | nil => unfold numText at hbt; simp at hbt
    | cons c r =>
      have hc := h c r rfl
      have hc0 := h0 c r rfl
      unfold numText at hbt
      rw [List.takeWhile_cons] at hbt
      split at hbt
      · rename_i hb
        rw [List.map_cons] at hbt
        injection hbt with e1 e2
        have hlt : c < 128 := by unfold numB at hb; simp at hb; omega
        have hn : (b.toNat : Int) = c := by
          rw [← e1]; unfold Tk.byteOf; rw [UInt8.toNat_ofNat']; omega
        have hd := hc.1
        unfold digitB at hd
        simp at hd
        refine ⟨?_, by omega⟩
        unfold isD; simp; omega
      · cases hbt
  rw [e1]
  generalize numText r = x at hx
  have hsg : sgn (Tk.byteOf s :: x) = 1 := by rcases hs with rfl | rfl <;> rfl
  have hd : digs x = 0 := by
    cases x with
    | nil => rfl
    | cons b t => unfold digs; rw [List.takeWhile_cons, if_neg (by simp [(hx b t rfl).1])]; rfl
  unfold lenP
  rw [if_pos]
  unfold some_
  simp only [hsg, List.drop_succ_cons, List.drop_zero, hd]
  cases x with
  | nil => simp
  | cons b t =>
    have h2 := (hx b t rfl).2
    simp
    intro hb; subst hb; exact absurd rfl h2
/-- the second character of a printed name that begins with a sign -/
theorem nameC_second {l : List Int} (h : ∀ c ∈ l, isB c = true ∧ c ≠ 0) (hne : l ≠ []) {s : List Int} (r : List Int) (e : nameC l false ++ s = 45 :: r) : ∃ c t, r = c :: t ∧ digitB c = false ∧ c ≠ 46 ∧ 0 ≤ c := by
  obtain ⟨c, t, rfl⟩ := List.exists_cons_of_ne_nil hne
  have e1 : nameC (c :: t) false = partC c (needB c true (decide (c :: t = [45])) false) ++ nameG (c :: t) false 1 t := by
    show nameG (c :: t) false 0 (c :: t) = _
    conv => lhs; unfold nameG
    simp
  rw [e1] at e
  cases hb : needB c true (decide (c :: t = [45])) false with
  | true =>
    rw [hb] at e
    have : partC c true = chr (escP c) := rfl
    rw [this] at e
    unfold escP at e
    rw [chr_cons] at e
    injection e with e _
    exact absurd e (by decide)
  | false =>
    rw [hb] at e
    have hx : partC c false = [c] := rfl
    rw [hx] at e
    injection e with e2 e3
    subst e2
    have w3 : ¬ (45 :: t = [(45 : Int)]) := by
      unfold needB at hb
      simp at hb
      simpa using hb.2
    obtain ⟨d, u, rfl⟩ := List.exists_cons_of_ne_nil (show t ≠ [] from fun h => w3 (by rw [h]))
    have e4 : nameG (45 :: d :: u) false 1 (d :: u) = partC d (needB d true false false) ++ nameG (45 :: d :: u) false 2 u := by
      conv => lhs; unfold nameG
      simp
    have e5 : nameG (45 :: d :: u) false 1 (d :: u) ++ s = r := e3
    rw [e4] at e5
    cases hd : needB d true false false with
    | true =>
      rw [hd] at e5
      have : partC d true = chr (escP d) := rfl
      rw [this] at e5
      unfold escP at e5
      rw [chr_cons] at e5
      exact ⟨_, _, e5.symm, by decide, by decide, by decide⟩
    | false =>
      rw [hd] at e5
      have : partC d false = [d] := rfl
      rw [this] at e5
      unfold needB at hd
      simp at hd
      have hw := within_pos hd.1
      refine ⟨_, _, e5.symm, hd.2, ?_, hw⟩
      rintro rfl
      exact absurd hd.1 (by decide)
/-- a name ahead of what ends it -/
theorem next_name {l : List Int} (h : ∀ c ∈ l, isB c = true ∧ c ≠ 0) (hne : l ≠ []) {s : List Int} (f1 : Tk.esc s = false) (f2 : withinB (pk s 0) = false) :
    nextT (nameC l false ++ s) = if pk s 0 = 40 then (⟨3, writeP l, 0⟩, s.tail) else (⟨2, writeP l, 0⟩, s) := by
  have hn := nameC_read false h f1 f2
  obtain ⟨hb, c, r, e, hc⟩ := nameC_first false h hne s
  have hnum : numberT (c :: r) = none := by
    rcases hc with rfl | ⟨h1, _⟩ | rfl
    · exact num_none1 (by decide) (by decide)
    · have hw := within_pos (begins_within h1)
      refine num_none1 hw ?_
      unfold beginsB letterB at h1
      unfold Np.numStart
      simp at h1 ⊢; omega
    · obtain ⟨d, t, rfl, g1, g2, g3⟩ := nameC_second h hne r e
      exact num_signed (fun c t e => by injection e with e _; subst e; exact ⟨g1, g2⟩) (fun c t e => by injection e with e _; subst e; exact g3) 45 (.inr rfl)
  have hc3 : c ≠ 34 ∧ c ≠ 39 ∧ c ≠ 35 ∧ c ≠ 64 := by
    rcases hc with rfl | ⟨h1, _⟩ | rfl
    · decide
    · unfold beginsB letterB at h1; simp at h1; omega
    · decide
  rw [e] at hb hn ⊢
  unfold nextT
  simp only []
  rw [if_neg (by rw [pk_cons0]; omega), if_neg (by rw [pk_cons0]; intro h; exact hc3.2.2.1 h.1), hnum]
  simp only []
  rw [if_neg (by rw [pk_cons0]; intro h; exact hc3.2.2.2 h.1), if_pos hb, hn]
theorem next_ident {l : List Int} (h : ∀ c ∈ l, isB c = true ∧ c ≠ 0) (hne : l ≠ []) {rest : List Int} (hs : Sep rest) : nextT (nameC l false ++ rest) = (⟨2, writeP l, 0⟩, rest) := by
  obtain ⟨f1, f2, f3, _⟩ := sep_facts hs
  rw [next_name h hne f1 f2, if_neg f3]
theorem next_func {l : List Int} (h : ∀ c ∈ l, isB c = true ∧ c ≠ 0) (hne : l ≠ []) (rest : List Int) : nextT (nameC l false ++ 40 :: rest) = (⟨3, writeP l, 0⟩, rest) := by
  rw [next_name h hne (esc_cons (by decide) _) (by rw [pk_cons0]; decide), pk_cons0, if_pos rfl]; rfl
theorem next_at' {l : List Int} (h : ∀ c ∈ l, isB c = true ∧ c ≠ 0) (hne : l ≠ []) {rest : List Int} (hs : Sep rest) : nextT (64 :: (nameC l false ++ rest)) = (⟨4, writeP l, 0⟩, rest) := by
  obtain ⟨f1, f2, _⟩ := sep_facts hs
  have hn := nameC_read false h f1 f2
  have hb := (nameC_first false h hne rest).1
  have hnum : numberT (64 :: (nameC l false ++ rest)) = none := num_none1 (by decide) (by decide)
  unfold nextT
  simp only []
  rw [if_neg (by rw [pk_cons0]; omega), if_neg (by rw [pk_cons0]; intro h; exact absurd h.1 (by decide)), hnum]
  simp only []
  rw [if_pos ⟨rfl, hb⟩, List.tail_cons, hn]
/-- a character that is a token by itself, whatever stands behind -/
theorem next_sign {c : Int} (hc : c = 40 ∨ c = 91 ∨ c = 123 ∨ c = 41 ∨ c = 93 ∨ c = 125 ∨ c = 58 ∨ c = 59 ∨ c = 44) (rest : List Int) : nextT (c :: rest) = (signT c, rest) := by
  have hnum : numberT (c :: rest) = none := num_none1 (by omega) (by unfold Np.numStart; simp; omega)
  have hb : beg (c :: rest) = false := by
    unfold beg may
    rw [pk_cons0, esc_cons (by omega)]
    unfold beginsB letterB isB
    simp; omega
  unfold nextT
  simp only []
  rw [if_neg (by rw [pk_cons0]; omega), if_neg (by rw [pk_cons0]; intro h; omega), hnum]
  simp only []
  rw [if_neg (by rw [pk_cons0]; intro h; omega), if_neg (by rw [hb]; decide), pk_cons0]; rfl
theorem delim_facts {c : Int} (h : delimB c = true) : whiteB c = false ∧ beginsB c = false ∧ digitB c = false ∧ (c ≠ 34 ∧ c ≠ 39 ∧ c ≠ 40 ∧ c ≠ 41 ∧ c ≠ 91 ∧ c ≠ 93 ∧ c ≠ 123 ∧ c ≠ 125 ∧ c ≠ 58 ∧ c ≠ 59 ∧ c ≠ 44 ∧ c ≠ 12 ∧ c ≠ 13) := by
  unfold delimB at h
  simp only [Bool.and_eq_true, Bool.not_eq_true', decide_eq_true_eq] at h
  exact ⟨h.1.1.1, h.1.1.2, h.1.2, h.2⟩
theorem next_delim {c : Int} (hc : isB c = true) (h : delimB c = true) {rest : List Int} (hs : Sep rest) (he : c = 92 → rest = [] ∨ ∃ r, rest = 10 :: r) : nextT (c :: rest) = (⟨11, writeP [c], 0⟩, rest) := by
  obtain ⟨d1, d2, d3, d4⟩ := delim_facts h
  obtain ⟨f1, f2, f3, f4, f5, f6, f7, f8⟩ := sep_facts hs
  have h0 := (isB_range' hc).1
  have hesc : Tk.esc (c :: rest) = false := by
    by_cases h9 : c = 92
    · subst h9
      rcases he rfl with rfl | ⟨r, rfl⟩
      · rfl
      · unfold Tk.esc; rw [pk_cons0, pk_cons, pk_cons0]; decide
    · exact esc_cons h9 _
  have hw0 : ∀ d t, rest = d :: t → digitB d = false ∧ d ≠ 46 := fun d t e => by
    have := f8 d t e
    unfold numB at this
    unfold digitB
    simp at this ⊢; omega
  have hp0 : ∀ d t, rest = d :: t → 0 ≤ d := fun d t e => by
    rcases hs with rfl | ⟨c', r', rfl, hc'⟩
    · cases e
    · injection e with e1 _
      subst e1
      have := of_decide_eq_true hc'; omega
  have hnum : numberT (c :: rest) = none := by
    by_cases h1 : c = 43 ∨ c = 45
    · exact num_signed hw0 hp0 c h1
    by_cases h2 : c = 46
    · subst h2
      refine Np.number_none ?_
      have e1 : numText (46 :: rest) = [46] := by
        have : numText rest = [] := by
          cases rest with
          | nil => rfl
          | cons d t => unfold numText; rw [List.takeWhile_cons, if_neg (by rw [f8 d t rfl]; decide)]; rfl
        unfold numText at this ⊢
        rw [List.takeWhile_cons, if_pos (by decide), List.map_cons, this]; rfl
      rw [e1]; decide
    · refine num_none1 h0 ?_
      unfold digitB at d3
      unfold Np.numStart
      simp at d3 ⊢; omega
  have hb : beg (c :: rest) = false := by
    unfold beg may at f7 ⊢
    rw [pk_cons0, d2, hesc, List.tail_cons, pk_cons]
    rcases hm : may rest with _ | _
    · unfold may at hm
      rw [hm]; simp; intro _; exact f6
    · unfold may at hm
      rw [hm] at f7; simp at f7
  have hk : signK c = 11 := by
    unfold signK
    rw [if_neg (by omega), if_neg (by omega), if_neg (by omega), if_neg (by omega), if_neg (by omega)]
  unfold nextT
  simp only []
  rw [if_neg (by rw [pk_cons0]; omega), if_neg (by rw [pk_cons, f2, List.tail_cons, f1]; simp), hnum]
  simp only []
  rw [if_neg (by rw [List.tail_cons, f7]; simp), if_neg (by rw [hb]; decide), pk_cons0]
  unfold signT
  rw [hk]; rfl
end Go.Proofs.YtfhdihdafmahgaaGreatDoor
/- Layer 4: printed tokens are scanned as they were. Plain laws. -/
set_option linter.unusedVariables false
set_option linter.unusedSimpArgs false
namespace Go.Proofs.YtfhdihdafmahgaaGreatDoor
open Go.RowKit Rn Tk Fx Tp
namespace Tp
/-- a printed token's characters, by its text's -/
def tokC (k n : Int) (l : List Int) : List Int :=
  if k = 1 then [10] else if k = 2 then nameC l false else if k = 3 then nameC l false ++ [40] else if k = 4 then 64 :: nameC l false else if k = 5 then 35 :: nameC l false
  else if k = 6 then (34 :: bodyC l) ++ [34] else if k = 7 then 34 :: bodyC l
  else if k = 8 then chr (Fx.printP n) else if k = 9 then chr (Fx.printP n) ++ [37] else if k = 10 then chr (Fx.printP n) ++ nameC l true
  else if k = 14 then [58] else if k = 15 then [59] else if k = 16 then [44] else l
def textC (t : GTok) : List Int := (utfP t.text).getD []
def tC (t : GTok) : List Int := tokC t.kind t.n (textC t)
def sepC (a b : Int) : List Int := if apartB a b = true then [47, 42, 42, 47] else []
def joinC : List GTok → List Int
  | [] => []
  | [t] => tC t
  | t :: u :: l => tC t ++ (sepC t.kind u.kind ++ joinC (u :: l))
end Tp
theorem one_facts {t : GTok} (h : oneB t = true) : utfP t.text = some (textC t) ∧ (∀ c ∈ textC t, isB c = true ∧ c ≠ 0) ∧ writeP (textC t) = t.text ∧ numOk t.kind t.n = true ∧ kindB t.kind (textC t) = true := by
  unfold oneB at h
  unfold textC
  cases e : utfP t.text with
  | none => rw [e] at h; cases h
  | some l =>
    rw [e] at h
    simp only [Bool.and_eq_true, decide_eq_true_eq] at h
    obtain ⟨g1, g2⟩ := utf_some e
    exact ⟨rfl, fun c hc => ⟨g2 c hc, fun e => h.1.1 (e ▸ hc)⟩, g1.symm, h.1.2, h.2⟩
theorem kind_range {t : GTok} (h : oneB t = true) : 1 ≤ t.kind ∧ t.kind ≤ 16 := by
  have := (one_facts h).2.2.2.2
  unfold kindB at this
  by_cases h1 : (2 ≤ t.kind ∧ t.kind ≤ 5) ∨ t.kind = 10
  · omega
  · rw [if_neg h1] at this
    by_cases h2 : t.kind = 6 ∨ t.kind = 7
    · omega
    · rw [if_neg h2] at this
      by_cases h3 : t.kind = 11
      · omega
      · rw [if_neg h3] at this
        by_cases h4 : t.kind = 12
        · omega
        · rw [if_neg h4] at this
          by_cases h5 : t.kind = 13
          · omega
          · rw [if_neg h5] at this
            have := of_decide_eq_true this; omega
/-- what stands behind a token may be there -/
def After (t : GTok) (rest : List Int) : Prop :=
  ((t.kind = 2 ∨ t.kind = 4 ∨ t.kind = 5 ∨ t.kind = 8 ∨ t.kind = 9 ∨ t.kind = 10 ∨ t.kind = 11) → Sep rest) ∧ (t.kind = 7 → ∃ r, rest = 10 :: r) ∧ (t.kind = 11 → t.text = [92] → rest = [] ∨ ∃ r, rest = 10 :: r)
theorem spaces_at {c : Int} (h : whiteB c = false) (r : List Int) (h2 : c = 47 → pk r 0 ≠ 42) : spacesT (c :: r) = (false, c :: r) :=
  spacesT_end h (fun e => h2 e.1 e.2)
theorem name_spaces {l : List Int} (dim : Bool) (h : ∀ c ∈ l, isB c = true ∧ c ≠ 0) (hne : l ≠ []) (s : List Int) : spacesT (nameC l dim ++ s) = (false, nameC l dim ++ s) := by
  obtain ⟨hb, c, r, e, hc⟩ := nameC_first dim h hne s
  rw [e]
  have : whiteB c = false ∧ c ≠ 47 := by
    rcases hc with rfl | ⟨h1, _⟩ | rfl
    · decide
    · unfold beginsB letterB at h1
      unfold whiteB
      simp at h1 ⊢; omega
    · decide
  exact spaces_at this.1 _ (fun e => absurd e this.2)
theorem num_spaces (n : Int) (s : List Int) : spacesT (chr (Fx.printP n) ++ s) = (false, chr (Fx.printP n) ++ s) := by
  obtain ⟨b, P, e, _, _, _, g4, g5⟩ := print_first n
  rw [e, chr_cons, List.cons_append]
  exact spaces_at g4 _ (fun e => absurd e g5)
theorem single_of {l : List Int} (h : kindB 11 l = true) : ∃ c, l = [c] ∧ delimB c = true := by
  unfold kindB at h
  simp at h
  split at h
  · exact ⟨_, rfl, h⟩
  · cases h
theorem write_one (c : Int) : writeP [c] = Lib.encodeRune c := by simp [writeP]
theorem next_tok {t : GTok} (h : oneB t = true) (h1 : t.kind ≠ 1) {rest : List Int} (ha : After t rest) :
    nextT (tC t ++ rest) = (⟨t.kind.toNat, t.text, t.n⟩, rest) ∧ spacesT (tC t ++ rest) = (false, tC t ++ rest) := by
  obtain ⟨e1, e2, e3, e4, e5⟩ := one_facts h
  obtain ⟨k1, k2⟩ := kind_range h
  obtain ⟨kind, text, n⟩ := t
  simp only [After] at *
  unfold tC
  simp only at *
  generalize textC ⟨kind, text, n⟩ = l at *
  have hn : stopZ n = n ∧ ((8 ≤ kind ∧ kind ≤ 10) ∨ n = 0) := by unfold numOk at e4; exact of_decide_eq_true e4
  obtain ⟨hn1, hn2⟩ := hn
  obtain ⟨a1, a2, a3⟩ := ha
  have hK : kind = 2 ∨ kind = 3 ∨ kind = 4 ∨ kind = 5 ∨ kind = 6 ∨ kind = 7 ∨ kind = 8 ∨ kind = 9 ∨ kind = 10 ∨ kind = 11 ∨ kind = 12 ∨ kind = 13 ∨ kind = 14 ∨ kind = 15 ∨ kind = 16 := by omega
  subst e3
  rcases hK with rfl | rfl | rfl | rfl | rfl | rfl | rfl | rfl | rfl | rfl | rfl | rfl | rfl | rfl | rfl
  · obtain rfl : n = 0 := by omega
    have hne : l ≠ [] := by simpa [kindB] using e5
    exact ⟨next_ident e2 hne (a1 (by omega)), name_spaces false e2 hne rest⟩
  · obtain rfl : n = 0 := by omega
    have hne : l ≠ [] := by simpa [kindB] using e5
    have e : tokC 3 0 l ++ rest = nameC l false ++ 40 :: rest := by simp [tokC]
    rw [e]
    exact ⟨next_func e2 hne rest, name_spaces false e2 hne _⟩
  · obtain rfl : n = 0 := by omega
    have hne : l ≠ [] := by simpa [kindB] using e5
    have e : tokC 4 0 l ++ rest = 64 :: (nameC l false ++ rest) := by simp [tokC]
    rw [e]
    exact ⟨next_at' e2 hne (a1 (by omega)), spaces_at (by decide) _ (fun e => absurd e (by decide))⟩
  · obtain rfl : n = 0 := by omega
    have hne : l ≠ [] := by simpa [kindB] using e5
    have e : tokC 5 0 l ++ rest = 35 :: (nameC l false ++ rest) := by simp [tokC]
    rw [e]
    exact ⟨next_hash e2 hne (a1 (by omega)), spaces_at (by decide) _ (fun e => absurd e (by decide))⟩
  · obtain rfl : n = 0 := by omega
    have e : tokC 6 0 l ++ rest = 34 :: (bodyC l ++ 34 :: rest) := by simp [tokC]
    rw [e]
    exact ⟨next_string e2 rest, spaces_at (by decide) _ (fun e => absurd e (by decide))⟩
  · obtain rfl : n = 0 := by omega
    obtain ⟨r, rfl⟩ := a2 rfl
    have e : tokC 7 0 l ++ 10 :: r = 34 :: (bodyC l ++ 10 :: r) := by simp [tokC]
    rw [e]
    exact ⟨next_bad e2 r, spaces_at (by decide) _ (fun e => absurd e (by decide))⟩
  · obtain rfl : l = [] := by simpa [kindB] using e5
    exact ⟨next_number hn1 (a1 (by omega)), num_spaces n rest⟩
  · obtain rfl : l = [] := by simpa [kindB] using e5
    have e : tokC 9 n [] ++ rest = chr (Fx.printP n) ++ 37 :: rest := by simp [tokC]
    rw [e]
    exact ⟨next_percent hn1 rest, num_spaces n _⟩
  · have hne : l ≠ [] := by simpa [kindB] using e5
    have e : tokC 10 n l ++ rest = chr (Fx.printP n) ++ (nameC l true ++ rest) := by simp [tokC]
    rw [e]
    exact ⟨next_dim hn1 e2 hne (a1 (by omega)), num_spaces n _⟩
  · obtain rfl : n = 0 := by omega
    obtain ⟨c, rfl, hd⟩ := single_of e5
    have hc := e2 c (by simp)
    have hs := a1 (by omega)
    obtain ⟨d1, d2, d3, d4⟩ := delim_facts hd
    refine ⟨next_delim hc.1 hd hs (fun h9 => a3 rfl (by subst h9; rw [write_one]; decide)), spaces_at d1 _ (fun _ => (sep_facts hs).2.2.2.2.1)⟩
  · obtain rfl : n = 0 := by omega
    have hl : l = [40] ∨ l = [91] ∨ l = [123] := by simpa [kindB] using e5
    rcases hl with rfl | rfl | rfl
    · exact ⟨next_sign (by omega) rest, spaces_at (by decide) _ (fun e => absurd e (by decide))⟩
    · exact ⟨next_sign (by omega) rest, spaces_at (by decide) _ (fun e => absurd e (by decide))⟩
    · exact ⟨next_sign (by omega) rest, spaces_at (by decide) _ (fun e => absurd e (by decide))⟩
  · obtain rfl : n = 0 := by omega
    have hl : l = [41] ∨ l = [93] ∨ l = [125] := by simpa [kindB] using e5
    rcases hl with rfl | rfl | rfl
    · exact ⟨next_sign (by omega) rest, spaces_at (by decide) _ (fun e => absurd e (by decide))⟩
    · exact ⟨next_sign (by omega) rest, spaces_at (by decide) _ (fun e => absurd e (by decide))⟩
    · exact ⟨next_sign (by omega) rest, spaces_at (by decide) _ (fun e => absurd e (by decide))⟩
  · obtain rfl : n = 0 := by omega
    obtain rfl : l = [] := by simpa [kindB] using e5
    exact ⟨next_sign (by omega) rest, spaces_at (by decide) _ (fun e => absurd e (by decide))⟩
  · obtain rfl : n = 0 := by omega
    obtain rfl : l = [] := by simpa [kindB] using e5
    exact ⟨next_sign (by omega) rest, spaces_at (by decide) _ (fun e => absurd e (by decide))⟩
  · obtain rfl : n = 0 := by omega
    obtain rfl : l = [] := by simpa [kindB] using e5
    exact ⟨next_sign (by omega) rest, spaces_at (by decide) _ (fun e => absurd e (by decide))⟩
theorem tC_first {t : GTok} (h : oneB t = true) (s : List Int) : (t.kind = 1 → ∃ r, tC t ++ s = 10 :: r) ∧ ((t.kind = 13 ∨ t.kind = 6 ∨ t.kind = 14 ∨ t.kind = 15 ∨ t.kind = 16) → ∃ c r, tC t ++ s = c :: r ∧ sepB c = true) := by
  obtain ⟨e1, e2, e3, e4, e5⟩ := one_facts h
  obtain ⟨kind, text, n⟩ := t
  unfold tC
  simp only at *
  generalize textC ⟨kind, text, n⟩ = l at *
  refine ⟨fun h1 => by subst h1; exact ⟨s, rfl⟩, ?_⟩
  rintro (rfl | rfl | rfl | rfl | rfl)
  · have hl : l = [41] ∨ l = [93] ∨ l = [125] := by simpa [kindB] using e5
    rcases hl with rfl | rfl | rfl
    · exact ⟨_, _, rfl, by decide⟩
    · exact ⟨_, _, rfl, by decide⟩
    · exact ⟨_, _, rfl, by decide⟩
  · exact ⟨34, (bodyC l ++ [34]) ++ s, rfl, by decide⟩
  · exact ⟨58, s, rfl, by decide⟩
  · exact ⟨59, s, rfl, by decide⟩
  · exact ⟨44, s, rfl, by decide⟩
theorem join_first {u : GTok} {l : List GTok} : ∃ s, joinC (u :: l) = tC u ++ s := by
  cases l with
  | nil => exact ⟨[], by simp [joinC]⟩
  | cons v l => exact ⟨_, rfl⟩
/-- what is printed behind a token may be there -/
theorem after_join {t u : GTok} {l : List GTok} (hu : oneB u = true) (h7 : t.kind = 7 → u.kind = 1) (h11 : t.kind = 11 → t.text = [92] → u.kind = 1) : After t (sepC t.kind u.kind ++ joinC (u :: l)) := by
  obtain ⟨s, hs⟩ := join_first (u := u) (l := l)
  have hf := tC_first hu s
  refine ⟨fun hk => ?_, fun hk => ?_, fun hk ht => ?_⟩
  · unfold sepC
    split
    · exact .inr ⟨47, _, rfl, by decide⟩
    · rename_i hap
      rw [List.nil_append, hs]
      have hap : ¬ (t.kind ≠ 1 ∧ t.kind ≠ 3 ∧ t.kind ≠ 12 ∧ t.kind ≠ 13 ∧ t.kind ≠ 6 ∧ t.kind ≠ 14 ∧ t.kind ≠ 15 ∧ t.kind ≠ 16 ∧ u.kind ≠ 1 ∧ u.kind ≠ 13 ∧ u.kind ≠ 6 ∧ u.kind ≠ 14 ∧ u.kind ≠ 15 ∧ u.kind ≠ 16) := fun h => hap (decide_eq_true h)
      by_cases hu1 : u.kind = 1
      · obtain ⟨r, e⟩ := hf.1 hu1
        exact .inr ⟨10, r, e, by decide⟩
      · obtain ⟨c, r, e, hc⟩ := hf.2 (by omega)
        exact .inr ⟨c, r, e, hc⟩
  · have h1 := h7 hk
    obtain ⟨r, e⟩ := hf.1 h1
    have : sepC t.kind u.kind = [] := by unfold sepC apartB; rw [if_neg]; simp [h1]
    rw [this, List.nil_append, hs]; exact ⟨r, e⟩
  · have h1 := h11 hk ht
    obtain ⟨r, e⟩ := hf.1 h1
    have : sepC t.kind u.kind = [] := by unfold sepC apartB; rw [if_neg]; simp [h1]
    rw [this, List.nil_append, hs]; exact .inr ⟨r, e⟩
theorem scan_sep (a b : Int) (rest : List Int) : scanT (sepC a b ++ rest) = scanT rest := by
  unfold sepC
  split
  · exact scan_of_spaces (spaces_comment [] (by simp) rest)
  · rfl
def gT (t : GTok) : Tok := ⟨t.kind.toNat, t.text, t.n⟩
theorem tok_space {t : GTok} (h : oneB t = true) (h1 : t.kind = 1) : gT t = ⟨1, [], 0⟩ ∧ tC t = [10] := by
  obtain ⟨e1, e2, e3, e4, e5⟩ := one_facts h
  obtain ⟨kind, text, n⟩ := t
  simp only at *
  subst h1
  have hl : textC ⟨1, text, n⟩ = [] := by simpa [kindB] using e5
  have hn : stopZ n = n ∧ ((8 ≤ (1 : Int) ∧ (1 : Int) ≤ 10) ∨ n = 0) := by unfold numOk at e4; exact of_decide_eq_true e4
  have hn0 : n = 0 := by omega
  subst hn0
  rw [hl] at e3
  have : text = [] := e3.symm
  subst this
  exact ⟨rfl, rfl⟩
theorem scan_tok {t : GTok} (h : oneB t = true) (h1 : t.kind ≠ 1) {rest : List Int} (ha : After t rest) : scanT (tC t ++ rest) = gT t :: scanT rest := by
  obtain ⟨n1, n2⟩ := next_tok h h1 ha
  have hne : tC t ++ rest ≠ [] := by
    intro e
    rw [e] at n2 n1
    have := congrArg (fun x => x.1.kind) n1
    rw [show nextT [] = (signT (-1), []) from rfl] at this
    have e11 : (11 : Nat) = t.kind.toNat := this
    have e11 : t.kind = 11 := by omega
    obtain ⟨e1, e2, e3, e4, e5⟩ := one_facts h
    rw [e11] at e5
    obtain ⟨c, hc, _⟩ := single_of e5
    have e0 := (List.append_eq_nil_iff.1 e).1
    unfold tC at e0
    rw [e11, hc] at e0
    simp [tokC] at e0
  rw [scanT_step (by rw [n2]; exact hne), n2, n1]; rfl
/-- tokens that may stand side by side, printed, are scanned as they were -/
theorem scan_join : ∀ (l : List GTok), pairsB l = true → scanT (joinC l) = l.map gT
  | [], _ => scanT_nil
  | [t], h => by
    have h' : oneB t = true ∧ t.kind ≠ 7 := by simpa [pairsB] using h
    show scanT (tC t) = [gT t]
    by_cases h1 : t.kind = 1
    · obtain ⟨g1, g2⟩ := tok_space h'.1 h1
      rw [g1, g2, scan_white (by decide)]
      have : (spacesT []).2 = [] := by rw [spacesT_end (by decide) (by decide)]
      rw [this, scanT_nil]
    · have := scan_tok h'.1 h1 (rest := []) ⟨fun _ => .inl rfl, fun h => absurd h h'.2, fun _ _ => .inl rfl⟩
      rw [List.append_nil, scanT_nil] at this
      exact this
  | t :: u :: l, h => by
    have h' : (((oneB t = true ∧ (t.kind = 1 → u.kind ≠ 1)) ∧ (t.kind = 7 → u.kind = 1)) ∧ (t.kind = 11 → t.text = [92] → u.kind = 1)) ∧ pairsB (u :: l) = true := by
      unfold pairsB at h
      simp only [Bool.and_eq_true, Bool.not_eq_true', Bool.and_eq_false_iff, decide_eq_false_iff_not] at h
      obtain ⟨⟨⟨⟨g1, g2⟩, g3⟩, g4⟩, g5⟩ := h
      refine ⟨⟨⟨⟨g1, fun a b => ?_⟩, fun a => ?_⟩, fun a b => ?_⟩, g5⟩
      · rcases g2 with g | g
        · exact g a
        · exact g b
      · rcases g3 with g | g
        · exact absurd a g
        · exact Decidable.of_not_not g
      · rcases g4 with (g | g) | g
        · exact absurd a g
        · exact absurd b g
        · exact Decidable.of_not_not g
    obtain ⟨⟨⟨⟨g1, g2⟩, g3⟩, g4⟩, g5⟩ := h'
    have hu : oneB u = true := by
      cases l with
      | nil => simp [pairsB] at g5; exact g5.1
      | cons v l => unfold pairsB at g5; simp only [Bool.and_eq_true] at g5; exact g5.1.1.1.1
    have ih := scan_join (u :: l) g5
    show scanT (tC t ++ (sepC t.kind u.kind ++ joinC (u :: l))) = gT t :: (u :: l).map gT
    by_cases h1 : t.kind = 1
    · obtain ⟨e1, e2⟩ := tok_space g1 h1
      have hs : sepC t.kind u.kind = [] := by unfold sepC apartB; rw [if_neg]; simp [h1]
      have hu1 := g2 h1
      obtain ⟨s, es⟩ := join_first (u := u) (l := l)
      have hsp : spacesT (joinC (u :: l)) = (false, joinC (u :: l)) := by
        cases l with
        | nil =>
          have h7 : u.kind ≠ 7 := by simp [pairsB] at g5; exact g5.2
          have := (next_tok hu hu1 (rest := []) ⟨fun _ => .inl rfl, fun h => absurd h h7, fun _ _ => .inl rfl⟩).2
          rw [List.append_nil] at this; exact this
        | cons v l =>
          unfold pairsB at g5
          simp only [Bool.and_eq_true, Bool.not_eq_true', Bool.and_eq_false_iff, decide_eq_false_iff_not] at g5
          have hv : oneB v = true := by
            cases l with
            | nil => have := g5.2; simp [pairsB] at this; exact this.1
            | cons w l => have := g5.2; unfold pairsB at this; simp only [Bool.and_eq_true] at this; exact this.1.1.1.1
          exact (next_tok hu hu1 (after_join (l := l) hv (fun a => by
            rcases g5.1.1.2 with g | g
            · exact absurd a g
            · exact Decidable.of_not_not g) (fun a b => by
            rcases g5.1.2 with (g | g) | g
            · exact absurd a g
            · exact absurd b g
            · exact Decidable.of_not_not g))).2
      rw [hs, e1, e2]
      show scanT (10 :: joinC (u :: l)) = _
      rw [scan_white (by decide), hsp, ih]
    · rw [scan_tok g1 h1 (after_join hu g3 g4), scan_sep, ih]
/-- a Bad alone is a String -/
theorem scan_bad {t : GTok} (h : oneB t = true) (h7 : t.kind = 7) : scanT (tC t) = [⟨6, t.text, 0⟩] := by
  obtain ⟨e1, e2, e3, e4, e5⟩ := one_facts h
  have e : tC t = 34 :: bodyC (textC t) := by unfold tC; rw [h7]; rfl
  rw [e, scan_next (by decide) (by decide), next_bad_end e2, e3, scanT_nil]
end Go.Proofs.YtfhdihdafmahgaaGreatDoor
/- Layer 4, the document: a text's characters, as it reckons them. Plain laws. -/
set_option linter.unusedVariables false
set_option linter.unusedSimpArgs false
namespace Go.Proofs.YtfhdihdafmahgaaGreatDoor
open Go.RowKit Rn Tp
namespace Tp
def docB (l : List UInt8) (k : Nat) : Int := ((l[k]?.getD 0).toNat : Int)
def docN (l : List UInt8) : Nat := if 240 ≤ docB l 0 then 4 else if 224 ≤ docB l 0 then 3 else if 128 ≤ docB l 0 then 2 else 1
def docV (l : List UInt8) : Nat → Int
  | 0 => if 240 ≤ docB l 0 then docB l 0 - 240 else if 224 ≤ docB l 0 then docB l 0 - 224 else if 128 ≤ docB l 0 then docB l 0 - 192 else docB l 0
  | k + 1 => docV l k * 64 + docB l (k + 1) - 128
def docC (l : List UInt8) : Int := docV l (docN l - 1)
/-- the document's test of the next character -/
def docOk (l : List UInt8) : Bool := decide (docN l ≤ l.length ∧ 0 ≤ docC l) && isB (docC l) && decide (Lib.encodeRune (docC l) = l.take (docN l))
end Tp
theorem docN_range (l : List UInt8) : 1 ≤ docN l ∧ docN l ≤ 4 := by unfold docN; (repeat' split) <;> omega
theorem docV_range (l : List UInt8) : ∀ k, k ≤ 3 → -100000000 ≤ docV l k ∧ docV l k ≤ 100000000 := by
  have hb : ∀ k, 0 ≤ docB l k ∧ docB l k < 256 := fun k => by unfold docB; have := UInt8.toNat_lt (l[k]?.getD 0); omega
  have h0 := hb 0
  have h1 := hb 1
  have h2 := hb 2
  have h3 := hb 3
  have g0 : -64 ≤ docV l 0 ∧ docV l 0 ≤ 255 := by unfold docV; (repeat' split) <;> omega
  have g1 : docV l 1 = docV l 0 * 64 + docB l 1 - 128 := rfl
  have g2 : docV l 2 = docV l 1 * 64 + docB l 2 - 128 := rfl
  have g3 : docV l 3 = docV l 2 * 64 + docB l 3 - 128 := rfl
  intro k hk
  have : k = 0 ∨ k = 1 ∨ k = 2 ∨ k = 3 := by omega
  rcases this with rfl | rfl | rfl | rfl <;> omega
theorem doc_enc (c : Int) (hc : isB c = true) (rest : List UInt8) : docN (Lib.encodeRune c ++ rest) = (Lib.encodeRune c).length ∧ docC (Lib.encodeRune c ++ rest) = c := by
  have hc' : 0 ≤ c ∧ c ≤ 1114111 ∧ (c < 55296 ∨ 57343 < c) := by simpa [isB] using hc
  obtain ⟨h0, h1, h2⟩ := hc'
  by_cases c1 : c < 128
  · have e : Lib.encodeRune c = [c.toNat.toUInt8] := by simp [Lib.encodeRune, Lib.encodeRuneZ_one h0 (by omega : c ≤ 127)]
    rw [e]
    have g0 := b_of c h0 (by omega)
    generalize c.toNat.toUInt8 = b0 at *
    have hN : docN ([b0] ++ rest) = 1 := by
      unfold docN docB
      simp only [List.cons_append, List.nil_append, List.getElem?_cons_zero, Option.getD_some]
      rw [if_neg (by omega), if_neg (by omega), if_neg (by omega)]
    refine ⟨by rw [hN]; rfl, ?_⟩
    unfold docC
    rw [hN]
    show docV ([b0] ++ rest) 0 = c
    unfold docV docB
    simp
    rw [if_neg (by omega), if_neg (by omega), if_neg (by omega)]; omega
  · by_cases c2 : c < 2048
    · have e : Lib.encodeRune c = [(192 + c / 64).toNat.toUInt8, (128 + c % 64).toNat.toUInt8] := by simp [Lib.encodeRune, Lib.encodeRuneZ_two (by omega : 128 ≤ c) (by omega)]
      rw [e]
      have g0 := b_of (192 + c / 64) (by omega) (by omega)
      have g1 := b_of (128 + c % 64) (by omega) (by omega)
      generalize (192 + c / 64).toNat.toUInt8 = b0 at *
      generalize (128 + c % 64).toNat.toUInt8 = b1 at *
      have hN : docN ([b0, b1] ++ rest) = 2 := by
        unfold docN docB
        simp only [List.cons_append, List.nil_append, List.getElem?_cons_zero, Option.getD_some]
        rw [if_neg (by omega), if_neg (by omega), if_pos (by omega)]
      refine ⟨by rw [hN]; rfl, ?_⟩
      unfold docC
      rw [hN]
      show docV ([b0, b1] ++ rest) 0 * 64 + docB ([b0, b1] ++ rest) 1 - 128 = c
      unfold docV docB
      simp
      rw [if_neg (by omega), if_neg (by omega), if_pos (by omega)]; omega
    · by_cases c3 : c < 65536
      · have e : Lib.encodeRune c = [(224 + c / 4096).toNat.toUInt8, (128 + c / 64 % 64).toNat.toUInt8, (128 + c % 64).toNat.toUInt8] := by simp [Lib.encodeRune, Lib.encodeRuneZ_three (r := c) (by omega)]
        rw [e]
        have g0 := b_of (224 + c / 4096) (by omega) (by omega)
        have g1 := b_of (128 + c / 64 % 64) (by omega) (by omega)
        have g2 := b_of (128 + c % 64) (by omega) (by omega)
        generalize (224 + c / 4096).toNat.toUInt8 = b0 at *
        generalize (128 + c / 64 % 64).toNat.toUInt8 = b1 at *
        generalize (128 + c % 64).toNat.toUInt8 = b2 at *
        have hN : docN ([b0, b1, b2] ++ rest) = 3 := by
          unfold docN docB
          simp only [List.cons_append, List.nil_append, List.getElem?_cons_zero, Option.getD_some]
          rw [if_neg (by omega), if_pos (by omega)]
        refine ⟨by rw [hN]; rfl, ?_⟩
        unfold docC
        rw [hN]
        show (docV ([b0, b1, b2] ++ rest) 0 * 64 + docB ([b0, b1, b2] ++ rest) 1 - 128) * 64 + docB ([b0, b1, b2] ++ rest) 2 - 128 = c
        unfold docV docB
        simp
        rw [if_neg (by omega), if_pos (by omega)]; omega
      · have e : Lib.encodeRune c = [(240 + c / 262144).toNat.toUInt8, (128 + c / 4096 % 64).toNat.toUInt8, (128 + c / 64 % 64).toNat.toUInt8, (128 + c % 64).toNat.toUInt8] := by simp [Lib.encodeRune, Lib.encodeRuneZ_four (by omega : 65536 ≤ c) (by omega)]
        rw [e]
        have g0 := b_of (240 + c / 262144) (by omega) (by omega)
        have g1 := b_of (128 + c / 4096 % 64) (by omega) (by omega)
        have g2 := b_of (128 + c / 64 % 64) (by omega) (by omega)
        have g3 := b_of (128 + c % 64) (by omega) (by omega)
        generalize (240 + c / 262144).toNat.toUInt8 = b0 at *
        generalize (128 + c / 4096 % 64).toNat.toUInt8 = b1 at *
        generalize (128 + c / 64 % 64).toNat.toUInt8 = b2 at *
        generalize (128 + c % 64).toNat.toUInt8 = b3 at *
        have hN : docN ([b0, b1, b2, b3] ++ rest) = 4 := by
          unfold docN docB
          simp only [List.cons_append, List.nil_append, List.getElem?_cons_zero, Option.getD_some]
          rw [if_pos (by omega)]
        refine ⟨by rw [hN]; rfl, ?_⟩
        unfold docC
        rw [hN]
        show ((docV ([b0, b1, b2, b3] ++ rest) 0 * 64 + docB ([b0, b1, b2, b3] ++ rest) 1 - 128) * 64 + docB ([b0, b1, b2, b3] ++ rest) 2 - 128) * 64 + docB ([b0, b1, b2, b3] ++ rest) 3 - 128 = c
        unfold docV docB
        simp
        rw [if_pos (by omega)]; omega
/-- the document reads the next character as the library does -/
theorem doc_step {l : List UInt8} (hl : l ≠ []) : utfP l = if docOk l = true then (utfP (l.drop (docN l))).map (docC l :: ·) else none := by
  rw [utfP_step hl]
  by_cases hbad : (Lib.decodeL l).1 = 65533 ∧ (Lib.decodeL l).2 = 1
  · rw [if_pos hbad, if_neg]
    intro hok
    unfold docOk at hok
    simp only [Bool.and_eq_true, decide_eq_true_eq] at hok
    obtain ⟨⟨⟨h1, h2⟩, h3⟩, h4⟩ := hok
    have e : l = Lib.encodeRune (docC l) ++ l.drop (docN l) := by rw [h4, List.take_append_drop]
    have hd := decL_write (docC l) h3 (l.drop (docN l))
    rw [← e] at hd
    rw [hd] at hbad
    simp only at hbad
    have h0 := (isB_range' h3).1
    have hcc : docC l = 65533 := by omega
    rw [hcc] at hbad
    exact absurd hbad.2 (by decide)
  · rw [if_neg hbad]
    obtain ⟨e1, e2, e3⟩ := decL_enc hl hbad
    have e : l = Lib.encodeRune ((Lib.decodeL l).1 : Int) ++ l.drop (Lib.decodeL l).2 := by rw [← e3, List.take_append_drop]
    have hd := doc_enc _ e1 (l.drop (Lib.decodeL l).2)
    rw [← e] at hd
    have hlen : (Lib.encodeRune ((Lib.decodeL l).1 : Int)).length = (Lib.decodeL l).2 := by rw [← e3, List.length_take]; omega
    rw [hlen] at hd
    rw [if_pos, hd.1, hd.2]
    unfold docOk
    rw [hd.1, hd.2, e1, ← e3]
    simp; omega
end Go.Proofs.YtfhdihdafmahgaaGreatDoor
/- Layer 3: the laws' Same is walked. -/
set_option linter.unusedVariables false
set_option linter.unusedSimpArgs false
namespace Go.Proofs.YtfhdihdafmahgaaGreatDoor
open Go.RowKit Rn Tk
theorem cellsG_len (l : List GTok) : (cellsG l).length = l.length * 3 := by
  induction l with
  | nil => rfl
  | cons t l ih => simp only [cellsG, List.flatMap_cons, List.length_append] at *; rw [ih]; simp [cells1]; omega
theorem cellsG_at (l : List GTok) : ∀ (k : Nat) (t : GTok), l[k]? = some t → (cellsG l)[k * 3]? = some (.int .i64 t.kind) ∧ (cellsG l)[k * 3 + 1]? = some (.string (bytesOf t.text)) ∧ (cellsG l)[k * 3 + 2]? = some (.int .i64 t.n) := by
  induction l with
  | nil => intro k t h; simp at h
  | cons s l ih =>
    intro k t h
    have e : cellsG (s :: l) = [.int .i64 s.kind, .string (bytesOf s.text), .int .i64 s.n] ++ cellsG l := rfl
    rw [e]
    cases k with
    | zero => simp at h; subst h; exact ⟨rfl, rfl, rfl⟩
    | succ k =>
      obtain ⟨h1, h2, h3⟩ := ih k t (by simpa using h)
      refine ⟨?_, ?_, ?_⟩ <;> rw [List.getElem?_append_right (by simp; omega)]
      · rw [show (k + 1) * 3 - [Value.int .i64 s.kind, .string (bytesOf s.text), .int .i64 s.n].length = k * 3 by simp; omega]; exact h1
      · rw [show (k + 1) * 3 + 1 - [Value.int .i64 s.kind, .string (bytesOf s.text), .int .i64 s.n].length = k * 3 + 1 by simp; omega]; exact h2
      · rw [show (k + 1) * 3 + 2 - [Value.int .i64 s.kind, .string (bytesOf s.text), .int .i64 s.n].length = k * 3 + 2 by simp; omega]; exact h3
abbrev ReadsT (w : World) (B : Nat) (A : Option Addr) (n : Nat) (l : List GTok) : Prop := Reads w B 3 A n (cellsG l)
theorem ReadsT.len {w : World} {B n : Nat} {A : Option Addr} {l : List GTok} (h : ReadsT w B A n l) : l.length = n := by
  have := h.1; rw [cellsG_len] at this; omega
theorem ReadsT.at_ {w : World} {B n : Nat} {A : Option Addr} {l : List GTok} (h : ReadsT w B A n l) {k : Nat} (hk : k < n) : ∃ b off t, A = some ⟨b, off, none⟩ ∧ b < B ∧ l[k]? = some t ∧ w.cell? ⟨b, off + k * 3, none⟩ = some (.int .i64 t.kind) ∧ w.cell? ⟨b, off + k * 3 + 1, none⟩ = some (.string (bytesOf t.text)) ∧ w.cell? ⟨b, off + k * 3 + 2, none⟩ = some (.int .i64 t.n) := by
  obtain ⟨b, off, hA, hb, hc⟩ := h.2 (by omega)
  have hl := h.len
  obtain ⟨h1, h2, h3⟩ := cellsG_at l k l[k] (List.getElem?_eq_getElem (by omega))
  exact ⟨b, off, l[k], hA, hb, List.getElem?_eq_getElem (by omega), hc _ _ h1, hc _ _ h2, hc _ _ h3⟩
theorem tok_under : Tryz.prog.underlying 58 = some (.struct (Tryz.prog.fieldsOf 58)) := by kernel_rfl
theorem tok_stood : Tryz.prog.stoodInHeld 58 = false := by kernel_rfl
theorem tok_guard : Tryz.prog.eqGuardType Tryz.prog.depth 58 = false := by kernel_rfl
theorem tok_fields : (Tryz.prog.fieldsOf 58).toList.map (fun f => (f.name, f.type, f.offset)) = [("Kind", 3, 0), ("Text", 9, 1), ("N", 3, 2)] := by kernel_rfl
theorem int_size1 (w : World) : (part 3 #[] 0).run Tryz.prog w = (part 3 #[] 0).run Tryz.prog w := rfl
theorem bytes_ne (a b : List UInt8) : ((bytesOf a).toList == (bytesOf b).toList) = decide (a = b) := by
  rw [bytesOf_toList, bytesOf_toList]; rw [Bool.eq_iff_iff]; simp
#print axioms tok_fields
theorem toks_neq (x y : GTok) (w : World) : (binOp .neq 58 (.agg #[.int .i64 x.kind, .string (bytesOf x.text), .int .i64 x.n]) (.agg #[.int .i64 y.kind, .string (bytesOf y.text), .int .i64 y.n])).run Tryz.prog w = .ok (.bool (decide (x ≠ y))) w := by
  have h1 := tok_under
  have h2 := tok_stood
  have h3 := Tryz.underlying3
  have h4 := Tryz.underlying9
  rw [run_neq_struct, run_equalIn_struct _ _ _ _ _ h1 h2]
  have hf := tok_fields
  generalize (Tryz.prog.fieldsOf 58).toList = fs at hf
  rcases fs with _ | ⟨a, _ | ⟨b, _ | ⟨c, _ | ⟨d, fs⟩⟩⟩⟩
  · simp at hf
  · simp at hf
  · simp at hf
  · simp only [List.map_cons, List.map_nil, List.cons.injEq, Prod.mk.injEq, and_true] at hf
    obtain ⟨⟨a1, a2, a3⟩, ⟨b1, b2, b3⟩, c1, c2, c3⟩ := hf
    simp [Op.eqFields, a1, a2, a3, b1, b2, b3, c1, c2, c3, go_sem, part, h3, h4]
    have hb := bytes_ne x.text y.text
    obtain ⟨xk, xt, xn⟩ := x
    obtain ⟨yk, yt, yn⟩ := y
    simp only [GTok.mk.injEq] at *
    by_cases e1 : xk = yk
    · by_cases e2 : xt = yt
      · by_cases e3 : xn = yn
        · subst e1 e2 e3; simp
        · subst e1 e2; simp [e3]
      · have : ¬ (bytesOf xt).toList = (bytesOf yt).toList := by rw [bytesOf_toList, bytesOf_toList]; exact e2
        simp [e1, e2, this]
    · simp [e1]
  · simp at hf
theorem toks_eql (x y : GTok) (w : World) : (binOp .eql 58 (.agg #[.int .i64 x.kind, .string (bytesOf x.text), .int .i64 x.n]) (.agg #[.int .i64 y.kind, .string (bytesOf y.text), .int .i64 y.n])).run Tryz.prog w = .ok (.bool (decide (x = y))) w := by
  have h1 := tok_under
  have h2 := tok_stood
  have h3 := Tryz.underlying3
  have h4 := Tryz.underlying9
  rw [run_eql_struct, run_equalIn_struct _ _ _ _ _ h1 h2]
  have hf := tok_fields
  generalize (Tryz.prog.fieldsOf 58).toList = fs at hf
  rcases fs with _ | ⟨a, _ | ⟨b, _ | ⟨c, _ | ⟨d, fs⟩⟩⟩⟩
  · simp at hf
  · simp at hf
  · simp at hf
  · simp only [List.map_cons, List.map_nil, List.cons.injEq, Prod.mk.injEq, and_true] at hf
    obtain ⟨⟨a1, a2, a3⟩, ⟨b1, b2, b3⟩, c1, c2, c3⟩ := hf
    simp [Op.eqFields, a1, a2, a3, b1, b2, b3, c1, c2, c3, go_sem, part, h3, h4]
    have hb := bytes_ne x.text y.text
    obtain ⟨xk, xt, xn⟩ := x
    obtain ⟨yk, yt, yn⟩ := y
    simp only [GTok.mk.injEq] at *
    by_cases e1 : xk = yk
    · by_cases e2 : xt = yt
      · by_cases e3 : xn = yn
        · subst e1 e2 e3; simp
        · subst e1 e2; simp [e3]
      · have : ¬ (bytesOf xt).toList = (bytesOf yt).toList := by rw [bytesOf_toList, bytesOf_toList]; exact e2
        simp [e1, e2, this]
    · simp [e1]
  · simp at hf
set_option maxRecDepth 100000 in
set_option maxHeartbeats 1000000 in
theorem toks_same (xs ys : List GTok) (A A' : Option Addr) (n m c c' : Nat) (w : World) (hx : ReadsT w w.heap.size A n xs) (hy : ReadsT w w.heap.size A' m ys) (hn : n ≤ 1000000) :
    Calls Tryz.prog 14 #[.slice A n c, .slice A' m c'] w fun e w' => e = .returned (.bool (decide (xs = ys))) ∧ Below w.heap.size w w' := by
  have hlx := hx.len
  have hly := hy.len
  have Hlx := Lib.hid hlx
  have Hly := Lib.hid hly
  clear hlx hly
  by_cases hnm : n = m
  · have hb0 : ((n : Int) != (m : Int)) = false := by simp [hnm]
    have Hnm := Lib.hid hnm
    clear hnm
    go_enter Tryz.func14, Tryz.ntmps14
    go_wp2
    go_loopw [13] (fun i wr => ∃ k : Nat, k ≤ n ∧ i = .int .i64 k ∧ Hid (xs.take k = ys.take k) ∧ Below w.heap.size w wr) (fun i _ => n - (intOf i).toNat)
    case atStart => exact ⟨0, by omega, rfl, rfl, Below.refl _ _⟩
    case round =>
      obtain ⟨k, hk, rfl, heq, hb⟩ := hrel
      by_cases hlt : k < n
      · obtain ⟨b, off, x, hA, hbl, hxk, f0, f1, f2⟩ := hx.at_ hlt
        obtain ⟨b', off', y, hA', hbl', hyk, g0, g1, g2⟩ := hy.at_ (k := k) (by have := Hnm.out; omega)
        subst hA hA'
        have hkm : k < m := by have := Hnm.out; omega
        have hki : (k : Int) < (n : Int) := by omega
        have hki' : (k : Int) < (m : Int) := by omega
        have hk0 : (0 : Int) ≤ (k : Int) := by omega
        replace f0 := (hb.cell (p := ⟨b, off + k * 3, none⟩) hbl).trans f0
        replace f1 := (hb.cell (p := ⟨b, off + k * 3 + 1, none⟩) hbl).trans f1
        replace f2 := (hb.cell (p := ⟨b, off + k * 3 + 2, none⟩) hbl).trans f2
        replace g0 := (hb.cell (p := ⟨b', off' + k * 3, none⟩) hbl').trans g0
        replace g1 := (hb.cell (p := ⟨b', off' + k * 3 + 1, none⟩) hbl').trans g1
        replace g2 := (hb.cell (p := ⟨b', off' + k * 3 + 2, none⟩) hbl').trans g2
        have Hxk := Lib.hid hxk
        have Hyk := Lib.hid hyk
        clear hxk hyk
        have hgu := tok_guard
        by_cases hxy : x = y
        · have hq := fun W => toks_neq x y W
          rw [show decide (x ≠ y) = false by simp [hxy]] at hq
          have Hxy := Lib.hid hxy
          clear hxy
          go_wp2
          go_quiet (fail)
          go_wp2
          go_roundw
          case rel => exact ⟨k + 1, by omega, by go_num, by show _ = _; rw [take_snoc _ _ _ Hxk.out, take_snoc _ _ _ Hyk.out, heq.out, Hxy.out], below_drewN hb _⟩
          case measure => simp [intOf]; omega
        · have hq := fun W => toks_neq x y W
          rw [show decide (x ≠ y) = true by simp [hxy]] at hq
          have Hxy := Lib.hid hxy
          clear hxy
          go_wp2
          go_quiet (fail)
          go_wp2
          go_ret
          refine ⟨ret_bool ?_, below_drewN hb _⟩
          have : ¬ xs = ys := by
            intro e
            have h1 := Hxk.out
            rw [e, Hyk.out] at h1
            injection h1 with h1
            exact Hxy.out h1.symm
          simp [this]
      · obtain rfl : k = n := by omega
        go_wp2
        go_ret
        refine ⟨ret_bool ?_, hb⟩
        have h1 := heq.out
        rw [List.take_of_length_le (by rw [Hlx.out]; omega), List.take_of_length_le (by rw [Hly.out, Hnm.out]; omega)] at h1
        simp [h1]
  · have hb0 : ((n : Int) != (m : Int)) = true := by simp; omega
    have Hnm := Lib.hid hnm
    clear hnm
    go_enter Tryz.func14, Tryz.ntmps14
    go_wp2
    go_ret
    refine ⟨ret_bool ?_, Below.refl _ _⟩
    have : ¬ xs = ys := by
      intro e
      exact Hnm.out (by rw [← Hlx.out, ← Hly.out, e])
    simp [this]
end Go.Proofs.YtfhdihdafmahgaaGreatDoor
/- Layer 4: may a text be, may a token be? The program's plain, one, right are walked. -/
set_option linter.unusedVariables false
set_option linter.unusedSimpArgs false
namespace Go.Proofs.YtfhdihdafmahgaaGreatDoor
open Go.RowKit Rn Tp
namespace Tp
/-- characters that may be told: UTF-8, no 0 -/
def plainB (l : List UInt8) : Bool := match utfP l with
  | none => false
  | some cs => !decide ((0 : Int) ∈ cs)
end Tp
theorem index_mem (l : List UInt8) (b : UInt8) : (0 ≤ Lib.indexByte l b) ↔ b ∈ l := by
  induction l with
  | nil => simp [Lib.indexByte]
  | cons c l ih =>
    have hg := Lib.indexByte_ge l b
    unfold Lib.indexByte
    by_cases h : c = b
    · subst h; simp
    · simp only [List.mem_cons]
      rw [if_neg (by simpa using h)]
      have hb : ¬ b = c := fun e => h e.symm
      simp only [hb, false_or]
      rw [← ih]
      split
      · rename_i h1
        have h1 : Lib.indexByte l b = -1 := by simpa using h1
        omega
      · rename_i h1
        have h1 : ¬ Lib.indexByte l b = -1 := by simpa using h1
        omega
theorem enc_zero {c : Int} (hc : isB c = true) : (0 : UInt8) ∈ Lib.encodeRune c ↔ c = 0 := by
  have hr := isB_range' hc
  have hc' : 0 ≤ c ∧ c ≤ 1114111 ∧ (c < 55296 ∨ 57343 < c) := by simpa [isB] using hc
  constructor
  · intro h
    by_cases c1 : c < 128
    · have e : Lib.encodeRune c = [c.toNat.toUInt8] := by simp [Lib.encodeRune, Lib.encodeRuneZ_one hr.1 (by omega : c ≤ 127)]
      have g0 := b_of c hr.1 (by omega)
      rw [e] at h
      have : (0 : UInt8) = c.toNat.toUInt8 := by simpa using h
      rw [← this] at g0
      have : (0 : UInt8).toNat = 0 := rfl
      omega
    · exfalso
      by_cases c2 : c < 2048
      · have e : Lib.encodeRune c = [(192 + c / 64).toNat.toUInt8, (128 + c % 64).toNat.toUInt8] := by simp [Lib.encodeRune, Lib.encodeRuneZ_two (by omega : 128 ≤ c) (by omega)]
        have g0 := b_of (192 + c / 64) (by omega) (by omega)
        have g1 := b_of (128 + c % 64) (by omega) (by omega)
        rw [e] at h
        have z : (0 : UInt8).toNat = 0 := rfl
        simp only [List.mem_cons, List.not_mem_nil, or_false] at h
        rcases h with h | h
        · rw [← h] at g0; omega
        · rw [← h] at g1; omega
      · by_cases c3 : c < 65536
        · have e : Lib.encodeRune c = [(224 + c / 4096).toNat.toUInt8, (128 + c / 64 % 64).toNat.toUInt8, (128 + c % 64).toNat.toUInt8] := by simp [Lib.encodeRune, Lib.encodeRuneZ_three (r := c) (by omega)]
          have g0 := b_of (224 + c / 4096) (by omega) (by omega)
          have g1 := b_of (128 + c / 64 % 64) (by omega) (by omega)
          have g2 := b_of (128 + c % 64) (by omega) (by omega)
          rw [e] at h
          have z : (0 : UInt8).toNat = 0 := rfl
          simp only [List.mem_cons, List.not_mem_nil, or_false] at h
          rcases h with h | h | h
          · rw [← h] at g0; omega
          · rw [← h] at g1; omega
          · rw [← h] at g2; omega
        · have e : Lib.encodeRune c = [(240 + c / 262144).toNat.toUInt8, (128 + c / 4096 % 64).toNat.toUInt8, (128 + c / 64 % 64).toNat.toUInt8, (128 + c % 64).toNat.toUInt8] := by simp [Lib.encodeRune, Lib.encodeRuneZ_four (by omega : 65536 ≤ c) (by omega)]
          have g0 := b_of (240 + c / 262144) (by omega) (by omega)
          have g1 := b_of (128 + c / 4096 % 64) (by omega) (by omega)
          have g2 := b_of (128 + c / 64 % 64) (by omega) (by omega)
          have g3 := b_of (128 + c % 64) (by omega) (by omega)
          rw [e] at h
          have z : (0 : UInt8).toNat = 0 := rfl
          simp only [List.mem_cons, List.not_mem_nil, or_false] at h
          rcases h with h | h | h | h
          · rw [← h] at g0; omega
          · rw [← h] at g1; omega
          · rw [← h] at g2; omega
          · rw [← h] at g3; omega
  · rintro rfl; decide
theorem zero_write : ∀ (cs : List Int), (∀ c ∈ cs, isB c = true) → ((0 : UInt8) ∈ writeP cs ↔ (0 : Int) ∈ cs)
  | [], _ => by simp [writeP]
  | c :: cs, h => by
    have ih := zero_write cs (fun d hd => h d (by simp [hd]))
    have h0 := enc_zero (h c (by simp))
    have e : writeP (c :: cs) = Lib.encodeRune c ++ writeP cs := by simp [writeP]
    rw [e, List.mem_append, ih, h0, List.mem_cons]
    constructor
    · rintro (h | h)
      · exact .inl h.symm
      · exact .inr h
    · rintro (h | h)
      · exact .inl h.symm
      · exact .inr h
set_option maxRecDepth 100000 in
set_option maxHeartbeats 1000000 in
theorem tp_plain (l : List UInt8) (w : World) (hl : l.length ≤ maxLen) (hT : Tabs w) :
    Calls Tryz.prog 117 #[.string (bytesOf l)] w fun e w' => e = .returned (.bool (plainB l)) ∧ Below w.heap.size w w' := by
  have hz := bytesOf_size l
  unfold maxLen at hl
  have hv := Tryz.utf8_ValidString (bytesOf l) w (by omega) hT
  rw [bytesOf_list, utf_valid] at hv
  unfold plainB
  cases hu : utfP l with
  | none =>
    rw [hu] at hv
    simp only [Option.isSome_none] at hv
    go_enter Tryz.func117, Tryz.ntmps117
    go_wp2_with fail
    refine hv.mono ?_
    rintro e w1 ⟨rfl, hb⟩
    go_wp2
    go_ret
    exact ⟨rfl, hb⟩
  | some cs =>
    rw [hu] at hv
    simp only [Option.isSome_some] at hv
    obtain ⟨u1, u2⟩ := utf_some hu
    have hc := fun w => Tryz.strings_ContainsRune_ascii (bytesOf l) 0 w (by omega) (by omega)
    have hd : decide (0 ≤ Lib.indexByte (bytesOf l).data.toList (0 : Int).toNat.toUInt8) = decide ((0 : Int) ∈ cs) := by
      rw [bytesOf_list, Bool.eq_iff_iff, decide_eq_true_iff, decide_eq_true_iff, index_mem, u1]
      exact zero_write cs u2
    rw [hd] at hc
    clear hd u1 u2 hu
    show Calls _ _ _ _ fun e w' => e = .returned (.bool (!decide ((0 : Int) ∈ cs))) ∧ _
    generalize decide ((0 : Int) ∈ cs) = m at *
    go_enter Tryz.func117, Tryz.ntmps117
    go_wp2_with fail
    refine hv.mono ?_
    rintro e w1 ⟨rfl, hb⟩
    go_wp2_with fail
    refine (hc w1).mono ?_
    rintro e w2 ⟨rfl, rfl⟩
    go_wp2
    go_ret
    exact ⟨rfl, hb⟩
def oneS : List UInt8 := [34, 39, 40, 41, 91, 93, 123, 125, 58, 59, 44, 12, 13]
theorem oneS_at : ∀ c : Fin 128, decide (0 ≤ Lib.indexByte (bytesOf oneS).data.toList (c.val : Int).toNat.toUInt8) = decide ((c.val : Int) ∈ ([34, 39, 40, 41, 91, 93, 123, 125, 58, 59, 44, 12, 13] : List Int)) := by decide +kernel
set_option maxRecDepth 100000 in
set_option maxHeartbeats 1000000 in
theorem tp_one (l : List UInt8) (cs : List Int) (w : World) (hl : l.length ≤ maxLen) (hT : Tabs w) (hu : utfP l = some cs) :
    Calls Tryz.prog 118 #[.string (bytesOf l)] w fun e w' => e = .returned (.bool (kindB 11 cs)) ∧ Below w.heap.size w w' := by
  have hz := bytesOf_size l
  unfold maxLen at hl
  obtain ⟨u1, u2⟩ := utf_some hu
  have hd := Tryz.utf8_DecodeRuneInString (bytesOf l) w hT
  cases cs with
  | nil =>
    have hn : l = [] := by rw [u1]; simp [writeP]
    subst hn
    have e0 : Lib.decodeGo (bytesOf []) = (65533, 0) := by rfl
    rw [e0] at hd
    obtain ⟨s1, s2⟩ := str_none
    clear u1 u2 hu
    show Calls _ _ _ _ fun e w' => e = .returned (.bool false) ∧ _
    go_enter Tryz.func118, Tryz.ntmps118
    go_wp2_with fail
    refine hd.mono ?_
    rintro e w1 ⟨rfl, hb⟩
    go_wp2
    go_ret
    exact ⟨rfl, hb⟩
  | cons c r =>
    have hc := u2 c (by simp)
    have hcr := isB_range' hc
    have hw : l = Lib.encodeRune c ++ writeP r := by rw [u1]; simp [writeP]
    have hne : l ≠ [] := by rw [hw]; exact enc_ne c _
    have hdl := decL_write c hc (writeP r)
    rw [← hw] at hdl
    have e0 : Lib.decodeGo (bytesOf l) = (c.toNat, (Lib.encodeRune c).length) := by
      unfold Lib.decodeGo
      have := List.length_pos_iff.2 hne
      rw [if_neg (by omega)]
      exact hdl
    rw [e0] at hd
    have hel := encode_len c
    have hll : l.length = (Lib.encodeRune c).length + (writeP r).length := by rw [hw, List.length_append]
    rw [show ((c.toNat : Nat) : Int) = c by omega] at hd
    obtain ⟨s1, s2⟩ := str_some hne
    obtain ⟨k, hk⟩ : ∃ k, (Lib.encodeRune c).length = k := ⟨_, rfl⟩
    rw [hk] at hd hel hll
    cases r with
    | cons d r =>
      have h2 : 0 < (writeP (d :: r)).length := by
        have e : writeP (d :: r) = Lib.encodeRune d ++ writeP r := by simp [writeP]
        rw [e, List.length_append]
        have := encode_len d; omega
      have tn : ((k : Int) != ((bytesOf l).size : Int)) = true := by rw [hz]; simp; omega
      clear u1 u2 hu hw hdl e0 hk
      show Calls _ _ _ _ fun e w' => e = .returned (.bool false) ∧ _
      go_enter Tryz.func118, Tryz.ntmps118
      go_wp2_with fail
      refine hd.mono ?_
      rintro e w1 ⟨rfl, hb⟩
      go_wp2
      go_ret
      exact ⟨rfl, hb⟩
    | nil =>
      have h2 : (writeP []).length = 0 := by simp [writeP]
      have tn : ((k : Int) != ((bytesOf l).size : Int)) = false := by rw [hz]; simp; omega
      clear u1 u2 hu hw hdl e0 hk
      show Calls _ _ _ _ fun e w' => e = .returned (.bool (delimB c)) ∧ _
      have hB := fun w => rn_begins c w
      have hW := fun w => rn_white c w
      have hD := fun w => rn_digit c w
      have hS : beginsB c = false → ∀ w, Calls Tryz.prog 126 #[.string ⟨#[34, 39, 40, 41, 91, 93, 123, 125, 58, 59, 44, 12, 13]⟩, .int .i32 c] w fun e w' => e = .returned (.bool (decide (c ∈ ([34, 39, 40, 41, 91, 93, 123, 125, 58, 59, 44, 12, 13] : List Int)))) ∧ w' = w := by
        intro hb w
        have hlow : c < 128 := by
          unfold beginsB at hb
          rw [hc] at hb
          simp at hb; omega
        have h := Tryz.strings_ContainsRune_ascii (bytesOf oneS) c w hcr.1 hlow
        have h1 := oneS_at ⟨c.toNat, by omega⟩
        have e : ((c.toNat : Nat) : Int) = c := by omega
        simp only [e] at h1
        rw [h1] at h
        exact h
      have hdel : delimB c = (!whiteB c && !beginsB c && !digitB c && !decide (c ∈ ([34, 39, 40, 41, 91, 93, 123, 125, 58, 59, 44, 12, 13] : List Int))) := by
        unfold delimB
        congr 1
        rw [Bool.eq_iff_iff]; simp
      rw [hdel]
      generalize decide (c ∈ ([34, 39, 40, 41, 91, 93, 123, 125, 58, 59, 44, 12, 13] : List Int)) = m at *
      generalize whiteB c = b1 at *
      generalize beginsB c = b2 at *
      generalize digitB c = b3 at *
      clear hdel
      have hun : (undef : Value) = .tuple #[] := rfl
      cases b1 with
      | true =>
        go_enter Tryz.func118, Tryz.ntmps118
        go_wp2_with fail
        refine hd.mono ?_
        rintro e w1 ⟨rfl, hb⟩
        go_wp2_with fail
        refine (hW w1).mono ?_
        rintro e w2 ⟨rfl, rfl⟩
        go_wp2
        go_ret
        exact ⟨rfl, hb⟩
      | false =>
        cases b2 with
        | true =>
          go_enter Tryz.func118, Tryz.ntmps118
          go_wp2_with fail
          refine hd.mono ?_
          rintro e w1 ⟨rfl, hb⟩
          go_wp2_with fail
          refine (hW w1).mono ?_
          rintro e w2 ⟨rfl, rfl⟩
          go_wp2_with fail
          refine (hB w1).mono ?_
          rintro e w2 ⟨rfl, rfl⟩
          go_wp2
          go_ret
          exact ⟨rfl, hb⟩
        | false =>
          have hS2 := hS rfl
          clear hS
          cases b3 with
          | true =>
            go_enter Tryz.func118, Tryz.ntmps118
            go_wp2_with fail
            refine hd.mono ?_
            rintro e w1 ⟨rfl, hb⟩
            go_wp2_with fail
            refine (hW w1).mono ?_
            rintro e w2 ⟨rfl, rfl⟩
            go_wp2_with fail
            refine (hB w1).mono ?_
            rintro e w2 ⟨rfl, rfl⟩
            go_wp2_with fail
            refine (hD w1).mono ?_
            rintro e w2 ⟨rfl, rfl⟩
            go_wp2
            go_ret
            exact ⟨rfl, hb⟩
          | false =>
            go_enter Tryz.func118, Tryz.ntmps118
            go_wp2_with fail
            refine hd.mono ?_
            rintro e w1 ⟨rfl, hb⟩
            go_wp2_with fail
            refine (hW w1).mono ?_
            rintro e w2 ⟨rfl, rfl⟩
            go_wp2_with fail
            refine (hB w1).mono ?_
            rintro e w2 ⟨rfl, rfl⟩
            go_wp2_with fail
            refine (hD w1).mono ?_
            rintro e w2 ⟨rfl, rfl⟩
            go_wp2_with fail
            refine (hS2 w1).mono ?_
            rintro e w2 ⟨rfl, rfl⟩
            go_wp2
            go_ret
            exact ⟨rfl, hb⟩
end Go.Proofs.YtfhdihdafmahgaaGreatDoor
set_option linter.unusedVariables false
set_option linter.unusedSimpArgs false
namespace Go.Proofs.YtfhdihdafmahgaaGreatDoor
open Go.RowKit Rn Tp Fx
/-- a text that is none of one constant -/
theorem str_not {l c : List UInt8} (h : l ≠ c) : ¬ (bytesOf l).toList = c ∧ ((bytesOf l).toList == c) = false := by
  rw [bytesOf_toList]; exact ⟨h, by simpa using h⟩
theorem str_is {l c : List UInt8} (h : l = c) : (bytesOf l).toList = c ∧ ((bytesOf l).toList == c) = true := by
  rw [bytesOf_toList]; exact ⟨h, by simpa using h⟩
theorem utf_empty {l : List UInt8} {cs : List Int} (h : utfP l = some cs) : l = [] ↔ cs = [] := by
  obtain ⟨h1, _⟩ := utf_some h
  constructor
  · rintro rfl
    rw [utfP_nil] at h; injection h with h; exact h.symm
  · rintro rfl
    rw [h1]; simp [writeP]
theorem utf_low {l : List UInt8} {cs : List Int} (h : utfP l = some cs) (b : UInt8) (hb : b.toNat < 128) : l = [b] ↔ cs = [(b.toNat : Int)] := by
  obtain ⟨h1, h2⟩ := utf_some h
  constructor
  · intro e
    have hw : writeP [(b.toNat : Int)] = [b] := by rw [write_one, enc_low b hb]
    have hu := utf_write [(b.toNat : Int)] (fun c hc => by
      obtain rfl : c = (b.toNat : Int) := by simpa using hc
      unfold isB; simp; omega)
    rw [hw, ← e, h] at hu
    injection hu
  · rintro rfl
    rw [h1, write_one, enc_low b hb]
/-- what of a token is wrong by its number and its characters -/
def badB (t : GTok) : Bool := (decide (t.n ≠ 0) && (decide (t.kind < 8) || decide (10 < t.kind))) || decide (t.n ≠ stopZ t.n) || !plainB t.text
theorem one_bad {t : GTok} (h : badB t = true) : oneB t = false := by
  unfold badB at h
  unfold oneB
  unfold plainB at h
  cases hu : utfP t.text with
  | none => rfl
  | some l =>
    rw [hu] at h
    simp only [] at h ⊢
    rw [Bool.and_eq_false_iff, Bool.and_eq_false_iff]
    left
    simp only [Bool.or_eq_true, Bool.and_eq_true, decide_eq_true_eq, Bool.not_eq_true', Bool.not_eq_false'] at h
    unfold numOk
    rcases h with (h | h) | h
    · right; simp; omega
    · right; simp; intro e; omega
    · left; simpa using h
theorem one_good {t : GTok} (h : badB t = false) : ∃ cs, utfP t.text = some cs ∧ oneB t = kindB t.kind cs := by
  unfold badB at h
  unfold plainB at h
  cases hu : utfP t.text with
  | none => rw [hu] at h; simp at h
  | some l =>
    rw [hu] at h
    refine ⟨l, rfl, ?_⟩
    unfold oneB
    rw [hu]
    simp only [Bool.or_eq_false_iff, Bool.and_eq_false_iff, decide_eq_false_iff_not, Bool.not_eq_false', Bool.not_not] at h
    obtain ⟨⟨h1, h2⟩, h3⟩ := h
    have h4 : decide ((0 : Int) ∉ l) = true := by simpa using h3
    have h5 : numOk t.kind t.n = true := by
      unfold numOk
      simp
      refine ⟨by omega, ?_⟩
      by_cases h0 : t.n = 0
      · exact .inr h0
      · rcases h1 with h1 | h1
        · exact absurd h0 h1
        · left; omega
    simp only [h4, h5, Bool.true_and]
abbrev tokG (t : GTok) : Value := .agg #[.int .i64 t.kind, .string (bytesOf t.text), .int .i64 t.n]
set_option maxRecDepth 100000 in
set_option maxHeartbeats 4000000 in
theorem tp_right (t : GTok) (w : World) (hl : t.text.length ≤ maxLen) (hn : -9223372036854775808 ≤ t.n ∧ t.n ≤ 9223372036854775807) (hT : Tabs w) :
    Calls Tryz.prog 83 #[tokG t] w fun e w' => e = .returned (.bool (oneB t)) ∧ Below w.heap.size w w' := by
  obtain ⟨kind, text, n⟩ := t
  simp only [] at hl hn
  obtain ⟨wA, hwA⟩ : ∃ wA, w.alloc (.cells #[.int .i64 kind, .string (bytesOf text), .int .i64 n] 58) = wA := ⟨_, rfl⟩
  have bA : Below w.heap.size w wA := by rw [← hwA]; exact (Below.refl _ _).alloc (Nat.le_refl _) _
  have rA : RowAt wA w.heap.size [.int .i64 kind, .string (bytesOf text), .int .i64 n] := by rw [← hwA]; exact RowAt.new _ _ _
  obtain ⟨x0, _⟩ := rA.2 0 _ rfl
  obtain ⟨x1, _⟩ := rA.2 1 _ rfl
  obtain ⟨x2, _⟩ := rA.2 2 _ rfl
  have hTA := hT.below bA
  obtain ⟨R, hR⟩ : ∃ R, oneB ⟨kind, text, n⟩ = R := ⟨_, rfl⟩
  rw [hR]
  have HR := Lib.hid hR
  clear hR
  obtain ⟨bad, hbad⟩ : ∃ b, badB ⟨kind, text, n⟩ = b := ⟨_, rfl⟩
  have Hbad := Lib.hid hbad
  obtain ⟨s, hs⟩ : ∃ s, stopZ n = s := ⟨_, rfl⟩
  obtain ⟨pl, hpl⟩ : ∃ p, plainB text = p := ⟨_, rfl⟩
  have hb2 : bad = ((decide (n ≠ 0) && (decide (kind < 8) || decide (10 < kind))) || decide (n ≠ s) || !pl) := by rw [← hbad, ← hs, ← hpl]; rfl
  have hstop := fun w => fx_stop n w hn.1 hn.2
  rw [hs] at hstop
  have hplain : ∀ w', Tabs w' → Calls Tryz.prog 117 #[.string (bytesOf text)] w' fun e w2 => e = .returned (.bool pl) ∧ Below w'.heap.size w' w2 := fun w' h => by rw [← hpl]; exact tp_plain text w' hl h
  clear hs hpl hbad
  have y0 := bw_cell (B := wA.heap.size) x0 rA.1
  have y1 := bw_cell (B := wA.heap.size) x1 rA.1
  have y2 := bw_cell (B := wA.heap.size) x2 rA.1
  go_enter Tryz.func83, Tryz.ntmps83
  go_upto_region 1 with (fail)
  go_cut [29] (fun x wx => x = .bool bad ∧ Below wA.heap.size wA wx)
  case first =>
    by_cases n0 : n = 0
    · have t0 : (n != 0) = false := by simp [n0]
      by_cases ns : n = s
      · have t1 : (n != s) = false := by simp [ns]
        have hfin : bad = !pl := by rw [hb2]; simp [n0, ← ns]
        clear ns hb2 n0
        refine wp_region_bw wA.heap.size (by kernel_rfl) (by kernel_rfl) ?_
        repeat (go_big_quiet_step (first | (go_at_call 116; exact calls_bw_same (hstop _)) | (go_at_call 117; rename_i W; exact calls_bw (Nat.le_refl _) (hplain _ (hTA.below W.is)))))
        refine wpQuiet_nil ?_
        intro _ hw'
        obtain ⟨W, rfl⟩ := hw'
        go_wp2_with fail
        go_meet
        exact ⟨by rw [hfin], W.is⟩
      · have t1 : (n != s) = true := by simp [ns]
        have hfin : bad = true := by rw [hb2]; simp [ns]
        clear ns hb2 n0
        refine wp_region_bw wA.heap.size (by kernel_rfl) (by kernel_rfl) ?_
        repeat (go_big_quiet_step (first | (go_at_call 116; exact calls_bw_same (hstop _)) | (go_at_call 117; rename_i W; exact calls_bw (Nat.le_refl _) (hplain _ (hTA.below W.is)))))
        refine wpQuiet_nil ?_
        intro _ hw'
        obtain ⟨W, rfl⟩ := hw'
        go_wp2_with fail
        go_meet
        exact ⟨by rw [hfin], W.is⟩
    · have t0 : (n != 0) = true := by simp [n0]
      by_cases k8 : kind < 8
      · have t8 : decide (kind < 8) = true := by simp [k8]
        have hfin : bad = true := by rw [hb2]; simp [n0, k8]
        clear n0 k8 hb2
        refine wp_region_bw wA.heap.size (by kernel_rfl) (by kernel_rfl) ?_
        repeat (go_big_quiet_step (first | (go_at_call 116; exact calls_bw_same (hstop _)) | (go_at_call 117; rename_i W; exact calls_bw (Nat.le_refl _) (hplain _ (hTA.below W.is)))))
        refine wpQuiet_nil ?_
        intro _ hw'
        obtain ⟨W, rfl⟩ := hw'
        go_wp2_with fail
        go_meet
        exact ⟨by rw [hfin], W.is⟩
      · have t8 : decide (kind < 8) = false := by simp; omega
        by_cases k10 : 10 < kind
        · have t10 : decide (10 < kind) = true := by simp [k10]
          have hfin : bad = true := by rw [hb2]; simp [n0, k10]
          clear n0 k8 k10 hb2
          refine wp_region_bw wA.heap.size (by kernel_rfl) (by kernel_rfl) ?_
          repeat (go_big_quiet_step (first | (go_at_call 116; exact calls_bw_same (hstop _)) | (go_at_call 117; rename_i W; exact calls_bw (Nat.le_refl _) (hplain _ (hTA.below W.is)))))
          refine wpQuiet_nil ?_
          intro _ hw'
          obtain ⟨W, rfl⟩ := hw'
          go_wp2_with fail
          go_meet
          exact ⟨by rw [hfin], W.is⟩
        · have t10 : decide (10 < kind) = false := by simp; omega
          by_cases ns : n = s
          · have t1 : (n != s) = false := by simp [ns]
            have hfin : bad = !pl := by rw [hb2]; simp [t8, t10, ← ns]
            clear ns hb2 n0 k8 k10
            refine wp_region_bw wA.heap.size (by kernel_rfl) (by kernel_rfl) ?_
            repeat (go_big_quiet_step (first | (go_at_call 116; exact calls_bw_same (hstop _)) | (go_at_call 117; rename_i W; exact calls_bw (Nat.le_refl _) (hplain _ (hTA.below W.is)))))
            refine wpQuiet_nil ?_
            intro _ hw'
            obtain ⟨W, rfl⟩ := hw'
            go_wp2_with fail
            go_meet
            exact ⟨by rw [hfin], W.is⟩
          · have t1 : (n != s) = true := by simp [ns]
            have hfin : bad = true := by rw [hb2]; simp [ns]
            clear ns hb2 n0 k8 k10
            refine wp_region_bw wA.heap.size (by kernel_rfl) (by kernel_rfl) ?_
            repeat (go_big_quiet_step (first | (go_at_call 116; exact calls_bw_same (hstop _)) | (go_at_call 117; rename_i W; exact calls_bw (Nat.le_refl _) (hplain _ (hTA.below W.is)))))
            refine wpQuiet_nil ?_
            intro _ hw'
            obtain ⟨W, rfl⟩ := hw'
            go_wp2_with fail
            go_meet
            exact ⟨by rw [hfin], W.is⟩
  case rest =>
    obtain ⟨rfl, hbx⟩ := hcut
    have hTx := hTA.below hbx
    have bx : Below w.heap.size w wc := bA.trans (hbx.mono bA.size)
    have z0 := (hbx.cell (p := ⟨w.heap.size, 0, none⟩) rA.1).trans x0
    have z1 := (hbx.cell (p := ⟨w.heap.size, 1, none⟩) rA.1).trans x1
    clear hstop hplain y0 y1 y2 x0 x1 x2 hwA hb2
    cases bad with
    | true =>
      obtain rfl : R = false := by rw [← HR.out]; exact one_bad Hbad.out
      go_wp2
      go_ret
      exact ⟨rfl, bx⟩
    | false =>
      obtain ⟨cs, hu, hO1⟩ := one_good Hbad.out
      simp only [] at hO1 hu
      have hO : R = kindB kind cs := by rw [← HR.out]; exact hO1
      have he := utf_empty hu
      clear hO1 Hbad HR
      have hK : kind = 2 ∨ kind = 3 ∨ kind = 4 ∨ kind = 5 ∨ kind = 10 ∨ kind = 6 ∨ kind = 7 ∨ kind = 11 ∨ kind = 12 ∨ kind = 13 ∨ ((kind == 2) = false ∧ (kind == 3) = false ∧ (kind == 4) = false ∧ (kind == 5) = false ∧ (kind == 10) = false ∧ (kind == 6) = false ∧ (kind == 7) = false ∧ (kind == 11) = false ∧ (kind == 12) = false ∧ (kind == 13) = false) := by simp; omega
      rcases hK with rfl | rfl | rfl | rfl | rfl | rfl | rfl | rfl | rfl | rfl | ⟨h2, h3, h4, h5, h10, h6, h7, h11, h12, h13⟩
      case inr.inr.inr.inr.inr.inr.inr.inl =>
        have h1 := tp_one text cs wc hl hTx hu
        subst hO
        clear hu he
        go_wp2_with fail
        refine h1.mono ?_
        rintro e w2 ⟨rfl, hb2⟩
        go_wp2
        go_ret
        exact ⟨rfl, bx.trans (hb2.mono bx.size)⟩
      case inr.inr.inr.inr.inr.inr.inr.inr.inl =>
        have u1 := utf_low hu 40 (by decide)
        have u2 := utf_low hu 91 (by decide)
        have u3 := utf_low hu 123 (by decide)
        have hfin : kindB 12 cs = (decide (text = [40]) || decide (text = [91]) || decide (text = [123])) := by
          unfold kindB
          simp only [u1, u2, u3]
          rw [Bool.eq_iff_iff]; simp [or_assoc]
        clear u1 u2 u3 hu he
        by_cases c1 : text = [40]
        · obtain ⟨f1, g1⟩ := str_is c1
          obtain rfl : R = true := by rw [hO, hfin]; simp [c1]
          clear hO hfin c1
          go_wp2
          go_ret
          exact ⟨rfl, bx⟩
        · obtain ⟨d1, e1⟩ := str_not c1
          by_cases c2 : text = [91]
          · obtain ⟨f2, g2⟩ := str_is c2
            obtain rfl : R = true := by rw [hO, hfin]; simp [c2]
            clear hO hfin c2
            go_wp2
            go_ret
            exact ⟨rfl, bx⟩
          · obtain ⟨d2, e2⟩ := str_not c2
            by_cases c3 : text = [123]
            · obtain ⟨f3, g3⟩ := str_is c3
              obtain rfl : R = true := by rw [hO, hfin]; simp [c3]
              clear hO hfin c3
              go_wp2
              go_ret
              exact ⟨rfl, bx⟩
            · obtain ⟨d3, e3⟩ := str_not c3
              obtain rfl : R = false := by rw [hO, hfin]; simp [c1, c2, c3]
              clear hO hfin c1 c2 c3
              go_wp2
              go_ret
              exact ⟨rfl, bx⟩
      case inr.inr.inr.inr.inr.inr.inr.inr.inr.inl =>
        have u1 := utf_low hu 41 (by decide)
        have u2 := utf_low hu 93 (by decide)
        have u3 := utf_low hu 125 (by decide)
        have hfin : kindB 13 cs = (decide (text = [41]) || decide (text = [93]) || decide (text = [125])) := by
          unfold kindB
          simp only [u1, u2, u3]
          rw [Bool.eq_iff_iff]; simp [or_assoc]
        clear u1 u2 u3 hu he
        by_cases c1 : text = [41]
        · obtain ⟨f1, g1⟩ := str_is c1
          obtain rfl : R = true := by rw [hO, hfin]; simp [c1]
          clear hO hfin c1
          go_wp2
          go_ret
          exact ⟨rfl, bx⟩
        · obtain ⟨d1, e1⟩ := str_not c1
          by_cases c2 : text = [93]
          · obtain ⟨f2, g2⟩ := str_is c2
            obtain rfl : R = true := by rw [hO, hfin]; simp [c2]
            clear hO hfin c2
            go_wp2
            go_ret
            exact ⟨rfl, bx⟩
          · obtain ⟨d2, e2⟩ := str_not c2
            by_cases c3 : text = [125]
            · obtain ⟨f3, g3⟩ := str_is c3
              obtain rfl : R = true := by rw [hO, hfin]; simp [c3]
              clear hO hfin c3
              go_wp2
              go_ret
              exact ⟨rfl, bx⟩
            · obtain ⟨d3, e3⟩ := str_not c3
              obtain rfl : R = false := by rw [hO, hfin]; simp [c1, c2, c3]
              clear hO hfin c1 c2 c3
              go_wp2
              go_ret
              exact ⟨rfl, bx⟩
      case inr.inr.inr.inr.inr.inr.inr.inr.inr.inr =>
        have hfin : kindB kind cs = (decide (1 ≤ kind) && (decide (kind ≤ 16) && decide (text = []))) := by
          simp at h2 h3 h4 h5 h10 h6 h7 h11 h12 h13
          unfold kindB
          rw [if_neg (by omega), if_neg (by omega), if_neg h11, if_neg h12, if_neg h13]
          rw [Bool.eq_iff_iff]; simp [he]
        clear hu he
        by_cases k1 : 1 ≤ kind
        · have e1 : decide (1 ≤ kind) = true := by simp [k1]
          by_cases k16 : kind ≤ 16
          · have e16 : decide (kind ≤ 16) = true := by simp [k16]
            by_cases ht : text = []
            · subst ht
              obtain ⟨s1, s2⟩ := str_none
              obtain rfl : R = true := by rw [hO, hfin]; simp [k1, k16]
              clear hO hfin k1 k16
              go_wp2
              go_ret
              exact ⟨rfl, bx⟩
            · obtain ⟨s1, s2⟩ := str_some ht
              obtain rfl : R = false := by rw [hO, hfin]; simp [ht]
              clear hO hfin k1 k16 ht
              go_wp2
              go_ret
              exact ⟨rfl, bx⟩
          · have e16 : decide (kind ≤ 16) = false := by simp; omega
            obtain rfl : R = false := by rw [hO, hfin]; simp [e16]
            clear hO hfin k1 k16
            go_wp2
            go_ret
            exact ⟨rfl, bx⟩
        · have e1 : decide (1 ≤ kind) = false := by simp; omega
          obtain rfl : R = false := by rw [hO, hfin]; simp [e1]
          clear hO hfin k1
          go_wp2
          go_ret
          exact ⟨rfl, bx⟩
      case inr.inr.inr.inr.inr.inl =>
        obtain rfl : R = true := by rw [hO]; rfl
        clear hu he hO
        go_wp2
        go_ret
        exact ⟨rfl, bx⟩
      case inr.inr.inr.inr.inr.inr.inl =>
        obtain rfl : R = true := by rw [hO]; rfl
        clear hu he hO
        go_wp2
        go_ret
        exact ⟨rfl, bx⟩
      all_goals
        have hgen : ∀ k, ((2 ≤ k ∧ k ≤ 5) ∨ k = 10) → kindB k cs = !decide (text = []) := by
          intro k hk
          unfold kindB
          rw [if_pos hk, Bool.eq_iff_iff]; simp [he]
        rw [hgen _ (by omega)] at hO
        clear hgen hu he
        by_cases ht : text = []
        · subst ht
          obtain ⟨s1, s2⟩ := str_none
          obtain rfl : R = false := by rw [hO]; simp
          clear hO
          go_wp2
          go_ret
          exact ⟨rfl, bx⟩
        · obtain ⟨s1, s2⟩ := str_some ht
          obtain rfl : R = true := by rw [hO]; simp [ht]
          clear hO ht
          go_wp2
          go_ret
          exact ⟨rfl, bx⟩
end Go.Proofs.YtfhdihdafmahgaaGreatDoor
