/- Layer 3: a name is walked. -/
import Derived.Test.YtfhdihdafmahgaaGreatDoorB03
import Derived.Lib.ItoaNum
import Derived.Lib.AppendIntMem
import Derived.Test.YtfhdihdafmahgaaGreatDoorB02
import Derived.Test.YtfhdihdafmahgaaGreatDoorB01
import Derived.Deep.DeepCutAuto
import Derived.Shelf.Abstract
import Derived.BigQuiet
import Derived.Deep.CutBlock
import Derived.Maps.AppendAt
import Derived.Maps.RangeWalk
import Derived.WalkMore
import Derived.ScopeJumps
/- Layer 1: a number's text: Print of the program is walked. -/
set_option linter.unusedVariables false
set_option linter.unusedSimpArgs false
namespace Go.Proofs.YtfhdihdafmahgaaGreatDoor
open Go.RowKit Fx Go.Sort
namespace Fx
def dig (n : Nat) : UInt8 := UInt8.ofNat (48 + n)
/-- the text of so many thousandths -/
def fracT (r : Nat) : List UInt8 :=
  if r = 0 then [] else 46 :: dig (r / 100) :: ((if 0 < r % 100 then [dig (r / 10 % 10)] else []) ++ (if 0 < r % 10 then [dig (r % 10)] else []))
def printN (a : Nat) : List UInt8 := Lib.decDigits (a / 1000) ++ fracT (a % 1000)
def printP (n : Int) : List UInt8 := (if stopZ n < 0 then [45] else []) ++ printN (stopZ n).natAbs
end Fx
theorem dec_big {u : Nat} (h : 10 ≤ u) : Lib.decDigits u = Lib.decDigits (u / 10) ++ [dig (u % 10)] := by
  rw [Lib.decDigits, dif_neg (by omega)]; rfl
theorem dec_small {u : Nat} (h : u < 10) : Lib.decDigits u = [dig u] := by
  rw [Lib.decDigits, dif_pos h]; rfl
theorem dec_thousand {r : Nat} (h : r < 1000) : Lib.decDigits (1000 + r) = [49, dig (r / 100), dig (r / 10 % 10), dig (r % 10)] := by
  rw [dec_big (by omega), dec_big (by omega), dec_big (by omega), dec_small (by omega)]
  have e1 : (1000 + r) / 10 / 10 / 10 = 1 := by omega
  have e2 : (1000 + r) / 10 / 10 % 10 = r / 100 := by omega
  have e3 : (1000 + r) / 10 % 10 = r / 10 % 10 := by omega
  have e4 : (1000 + r) % 10 = r % 10 := by omega
  rw [e1, e2, e3, e4]; rfl
theorem trim_frac : ∀ r : Fin 1000, r.val ≠ 0 → 46 :: Lib.trimRightB [dig (r.val / 100), dig (r.val / 10 % 10), dig (r.val % 10)] 48 = fracT r.val := by decide +kernel
theorem itoa_nat (a : Nat) : Lib.itoa (a : Int) = Lib.decDigits a := by
  unfold Lib.itoa; rw [if_neg (by omega)]; rfl
theorem deci_len (a : Nat) (h : a < 10000000000000) : (Lib.decDigits a).length ≤ 14 := by
  have key : ∀ k a, a < 10 ^ k → 1 ≤ k → (Lib.decDigits a).length ≤ k := by
    intro k
    induction k with
    | zero => intro a _ h; omega
    | succ k ih =>
      intro a ha _
      by_cases h10 : a < 10
      · rw [dec_small h10]; simp
      · rw [dec_big (by omega), List.length_append]
        rw [Nat.pow_succ] at ha
        by_cases hk : k = 0
        · subst hk; omega
        · have := ih (a / 10) (by omega) (by omega)
          simp; omega
  have := key 13 a (by omega) (by omega)
  omega
set_option maxRecDepth 100000 in
set_option maxHeartbeats 4000000 in
theorem fx_print_core (neg : Bool) (a : Nat) (n : Int) (w : World) (h1 : -9223372036854775808 ≤ n) (h2 : n ≤ 9223372036854775807) (hw : Env w) (ha : a ≤ 1099511627776) (hs : stopZ n = if neg = true then -(a : Int) else (a : Int)) (hn : neg = true → 0 < a) :
    Calls Tryz.prog 112 #[.int .i64 n] w fun e w' => e = .returned (.string (bytesOf ((if neg = true then [45] else []) ++ printN a))) ∧ Below w.heap.size w w' := by
  obtain ⟨q, hq⟩ : ∃ q, a / 1000 = q := ⟨_, rfl⟩
  obtain ⟨r, hr⟩ : ∃ r, a % 1000 = r := ⟨_, rfl⟩
  have hqb : q ≤ 1099511627 := by omega
  have hrb : r < 1000 := by omega
  have hdl := deci_len q (by omega)
  have hdz := bytesOf_size (Lib.decDigits q)
  have hqi : (a : Int).tdiv 1000 = (q : Int) := by rw [Int.tdiv_eq_ediv_of_nonneg (by omega)]; omega
  have hri : (a : Int).tmod 1000 = (r : Int) := by rw [Int.tmod_eq_emod_of_nonneg (by omega)]; omega
  have hqi2 : (a : Int) / 1000 = (q : Int) := by omega
  have hri2 : (a : Int) % 1000 = (r : Int) := by omega
  have Hs := Lib.hid hs
  have HP := Lib.hid (show printN a = Lib.decDigits q ++ fracT r by unfold printN; rw [hq, hr])
  clear hs hq hr
  cases neg with
  | true =>
    have hp := hn rfl
    simp only [if_true] at Hs
    go_enter Tryz.func112, Tryz.ntmps112
    go_wp2_with fail
    refine (fx_stop n w h1 h2).mono ?_
    rintro e w1 ⟨rfl, rfl⟩
    rw [Hs.out]
    go_wp2_with fail
    refine (Tryz.strconv_Itoa (q : Int) (by omega) (by omega) _ hw.pow).mono ?_
    rintro e w2 ⟨rfl, k, os, rfl⟩
    rw [itoa_nat, show (⟨(Lib.decDigits q).toArray⟩ : ByteArray) = bytesOf (Lib.decDigits q) from rfl]
    have hb2 := Lib.below_grow w.heap.size w (Nat.le_refl _) k os
    have hw2 := hw.below hb2
    generalize grow (w.drewN k) os = W2 at *
    by_cases hr0 : r = 0
    · have hz : ((r : Int) == 0) = true := by simp; omega
      have hf : fracT r = [] := by rw [hr0]; rfl
      have HF := Lib.hid hf
      clear hf hr0
      go_wp2
      go_ret
      exact ⟨congrArg (fun b => Ending.returned (Value.string b)) (by rw [HP.out, HF.out, List.append_nil]; exact bytesOf_append [45] _), hb2⟩
    · have hz : ((r : Int) == 0) = false := by simp; omega
      have hf := trim_frac ⟨r, hrb⟩ hr0
      have HF := Lib.hid hf
      have hsl := str_from (P := Tryz.prog) (T := 9) Tryz.underlying9 [49, dig (r / 100), dig (r / 10 % 10), dig (r % 10)] .i64 1 (by simp)
      have hcast : ((1 : Nat) : Int) = 1 := rfl
      rw [hcast] at hsl
      have hsz := bytesOf_size [49, dig (r / 100), dig (r / 10 % 10), dig (r % 10)]
      have hTl : (Lib.trimRightB [dig (r / 100), dig (r / 10 % 10), dig (r % 10)] 48).length ≤ 3 := by
        unfold Lib.trimRightB
        rw [List.length_reverse]
        exact Nat.le_trans (List.dropWhile_suffix _).length_le (by simp)
      obtain ⟨T, hT⟩ : ∃ T, Lib.trimRightB [dig (r / 100), dig (r / 10 % 10), dig (r % 10)] 48 = T := ⟨_, rfl⟩
      rw [hT] at hTl
      have HT := Lib.hid hT
      have hsT := bytesOf_size T
      clear hf hT
      go_wp2_with fail
      refine (Tryz.strconv_Itoa (1000 + (r : Int)) (by omega) (by omega) _ hw2.pow).mono ?_
      rintro e w3 ⟨rfl, k2, os2, rfl⟩
      rw [show (1000 + (r : Int)) = ((1000 + r : Nat) : Int) from by omega, itoa_nat, dec_thousand hrb]
      rw [show (⟨[49, dig (r / 100), dig (r / 10 % 10), dig (r % 10)].toArray⟩ : ByteArray) = bytesOf [49, dig (r / 100), dig (r / 10 % 10), dig (r % 10)] from rfl]
      have hb3 := hb2.trans ((Lib.below_grow W2.heap.size W2 (Nat.le_refl _) k2 os2).mono hb2.size)
      generalize grow (W2.drewN k2) os2 = W3 at *
      go_wp2_with fail
      refine (Tryz.strings_TrimRight_one _ 48 (by decide) _ (by rw [bytesOf_size]; simp)).mono ?_
      rintro e w4 ⟨rfl, rfl⟩
      rw [bytesOf_list, HT.out, show (⟨T.toArray⟩ : ByteArray) = bytesOf T from rfl]
      go_wp2
      go_ret
      refine ⟨congrArg (fun b => Ending.returned (Value.string b)) ?_, hb3⟩
      have h9 := HF.out
      rw [HP.out, ← h9, HT.out]
      show bytesOf [45] ++ bytesOf (Lib.decDigits q) ++ bytesOf [46] ++ bytesOf T = _
      rw [bytesOf_append, bytesOf_append, bytesOf_append]
      simp
  | false =>
    simp only [Bool.false_eq_true, if_false] at Hs
    go_enter Tryz.func112, Tryz.ntmps112
    go_wp2_with fail
    refine (fx_stop n w h1 h2).mono ?_
    rintro e w1 ⟨rfl, rfl⟩
    rw [Hs.out]
    go_wp2_with fail
    refine (Tryz.strconv_Itoa (q : Int) (by omega) (by omega) _ hw.pow).mono ?_
    rintro e w2 ⟨rfl, k, os, rfl⟩
    rw [itoa_nat, show (⟨(Lib.decDigits q).toArray⟩ : ByteArray) = bytesOf (Lib.decDigits q) from rfl]
    have hb2 := Lib.below_grow w.heap.size w (Nat.le_refl _) k os
    have hw2 := hw.below hb2
    generalize grow (w.drewN k) os = W2 at *
    by_cases hr0 : r = 0
    · have hz : ((r : Int) == 0) = true := by simp; omega
      have hf : fracT r = [] := by rw [hr0]; rfl
      have HF := Lib.hid hf
      clear hf hr0
      go_wp2
      go_ret
      exact ⟨congrArg (fun b => Ending.returned (Value.string b)) (by rw [HP.out, HF.out, List.append_nil]; exact bytesOf_append [] _), hb2⟩
    · have hz : ((r : Int) == 0) = false := by simp; omega
      have hf := trim_frac ⟨r, hrb⟩ hr0
      have HF := Lib.hid hf
      have hsl := str_from (P := Tryz.prog) (T := 9) Tryz.underlying9 [49, dig (r / 100), dig (r / 10 % 10), dig (r % 10)] .i64 1 (by simp)
      have hcast : ((1 : Nat) : Int) = 1 := rfl
      rw [hcast] at hsl
      have hsz := bytesOf_size [49, dig (r / 100), dig (r / 10 % 10), dig (r % 10)]
      have hTl : (Lib.trimRightB [dig (r / 100), dig (r / 10 % 10), dig (r % 10)] 48).length ≤ 3 := by
        unfold Lib.trimRightB
        rw [List.length_reverse]
        exact Nat.le_trans (List.dropWhile_suffix _).length_le (by simp)
      obtain ⟨T, hT⟩ : ∃ T, Lib.trimRightB [dig (r / 100), dig (r / 10 % 10), dig (r % 10)] 48 = T := ⟨_, rfl⟩
      rw [hT] at hTl
      have HT := Lib.hid hT
      have hsT := bytesOf_size T
      clear hf hT
      go_wp2_with fail
      refine (Tryz.strconv_Itoa (1000 + (r : Int)) (by omega) (by omega) _ hw2.pow).mono ?_
      rintro e w3 ⟨rfl, k2, os2, rfl⟩
      rw [show (1000 + (r : Int)) = ((1000 + r : Nat) : Int) from by omega, itoa_nat, dec_thousand hrb]
      rw [show (⟨[49, dig (r / 100), dig (r / 10 % 10), dig (r % 10)].toArray⟩ : ByteArray) = bytesOf [49, dig (r / 100), dig (r / 10 % 10), dig (r % 10)] from rfl]
      have hb3 := hb2.trans ((Lib.below_grow W2.heap.size W2 (Nat.le_refl _) k2 os2).mono hb2.size)
      generalize grow (W2.drewN k2) os2 = W3 at *
      go_wp2_with fail
      refine (Tryz.strings_TrimRight_one _ 48 (by decide) _ (by rw [bytesOf_size]; simp)).mono ?_
      rintro e w4 ⟨rfl, rfl⟩
      rw [bytesOf_list, HT.out, show (⟨T.toArray⟩ : ByteArray) = bytesOf T from rfl]
      go_wp2
      go_ret
      refine ⟨congrArg (fun b => Ending.returned (Value.string b)) ?_, hb3⟩
      have h9 := HF.out
      rw [HP.out, ← h9, HT.out]
      show bytesOf [] ++ bytesOf (Lib.decDigits q) ++ bytesOf [46] ++ bytesOf T = _
      rw [bytesOf_append, bytesOf_append, bytesOf_append]
      simp
theorem stop_form (n : Int) : ∃ (neg : Bool) (a : Nat), a ≤ 1099511627776 ∧ stopZ n = (if neg = true then -(a : Int) else (a : Int)) ∧ (neg = true → 0 < a) ∧ printP n = (if neg = true then [45] else []) ++ printN a := by
  obtain ⟨h1, h2⟩ := stopZ_range n
  by_cases h : stopZ n < 0
  · exact ⟨true, (stopZ n).natAbs, by omega, by simp; omega, fun _ => by omega, by unfold printP; rw [if_pos h]; rfl⟩
  · exact ⟨false, (stopZ n).natAbs, by omega, by simp; omega, fun h => by simp at h, by unfold printP; rw [if_neg h]; rfl⟩
theorem fx_print (n : Int) (w : World) (h1 : -9223372036854775808 ≤ n) (h2 : n ≤ 9223372036854775807) (hw : Env w) :
    Calls Tryz.prog 112 #[.int .i64 n] w fun e w' => e = .returned (.string (bytesOf (printP n))) ∧ Below w.heap.size w w' := by
  obtain ⟨neg, a, ha, hs, hn, hp⟩ := stop_form n
  rw [hp]
  exact fx_print_core neg a n w h1 h2 hw ha hs hn
end Go.Proofs.YtfhdihdafmahgaaGreatDoor
/- Layer 4: what is printed of tokens, as plain functions. -/
set_option linter.unusedVariables false
set_option linter.unusedSimpArgs false
namespace Go.Proofs.YtfhdihdafmahgaaGreatDoor
open Go.RowKit Rn
namespace Tp
def hexd (k : Nat) : UInt8 := UInt8.ofNat (if k < 10 then 48 + k else 87 + k)
/-- a number in small hex digits -/
def hexT (n : Nat) : List UInt8 := if h : n < 16 then [hexd n] else hexT (n / 16) ++ [hexd (n % 16)]
termination_by n
decreasing_by exact Nat.div_lt_self (by omega) (by omega)
/-- a character, escaped -/
def escP (c : Int) : List UInt8 := 92 :: (hexT c.toNat ++ [32])
/-- must the character at a place of a name be escaped? first: the place is the first one, or the second one behind a sign; only: it is a sign, and all there is; e: the first one of a Dim -/
def needB (c : Int) (first only e : Bool) : Bool := !withinB c || (first && digitB c) || only || (e && decide (c = 101 ∨ c = 69))
def partP (c : Int) (b : Bool) : List UInt8 := if b = true then escP c else Lib.encodeRune c
/-- a name's text from a place on -/
def nameF (l : List Int) (dim : Bool) : Nat → List Int → List UInt8
  | _, [] => []
  | i, c :: r => partP c (needB c (decide (i = 0 ∨ i = 1 ∧ l[0]? = some 45)) (decide (l = [45])) (dim && decide (i = 0))) ++ nameF l dim (i + 1) r
def nameP (l : List Int) (dim : Bool) : List UInt8 := nameF l dim 0 l
/-- a text ahead of which a quote stands -/
def quoteB (c : Int) : Bool := decide (c = 34 ∨ c = 92 ∨ c = 10 ∨ c = 12 ∨ c = 13)
def quotedP (l : List Int) : List UInt8 := 34 :: l.flatMap (fun c => partP c (quoteB c))
/-- may a character be a Delim? -/
def delimB (c : Int) : Bool := !whiteB c && !beginsB c && !digitB c && decide (c ≠ 34 ∧ c ≠ 39 ∧ c ≠ 40 ∧ c ≠ 41 ∧ c ≠ 91 ∧ c ≠ 93 ∧ c ≠ 123 ∧ c ≠ 125 ∧ c ≠ 58 ∧ c ≠ 59 ∧ c ≠ 44 ∧ c ≠ 12 ∧ c ≠ 13)
/-- a token's text may be, by its kind -/
def kindB (k : Int) (l : List Int) : Bool :=
  if (2 ≤ k ∧ k ≤ 5) ∨ k = 10 then decide (l ≠ [])
  else if k = 6 ∨ k = 7 then true
  else if k = 11 then (match l with | [c] => delimB c | _ => false)
  else if k = 12 then decide (l = [40] ∨ l = [91] ∨ l = [123])
  else if k = 13 then decide (l = [41] ∨ l = [93] ∨ l = [125])
  else decide (1 ≤ k ∧ k ≤ 16 ∧ l = [])
def numOk (k n : Int) : Bool := decide (Fx.stopZ n = n ∧ ((8 ≤ k ∧ k ≤ 10) ∨ n = 0))
/-- a token may be -/
def oneB (t : GTok) : Bool := match utfP t.text with
  | none => false
  | some l => decide ((0 : Int) ∉ l) && numOk t.kind t.n && kindB t.kind l
/-- a token's text -/
def tokenP (t : GTok) : List UInt8 :=
  if oneB t = true then
    let l := (utfP t.text).getD []
    let k := t.kind
    if k = 1 then [10] else if k = 2 then nameP l false else if k = 3 then nameP l false ++ [40] else if k = 4 then 64 :: nameP l false else if k = 5 then 35 :: nameP l false
    else if k = 6 then quotedP l ++ [34] else if k = 7 then quotedP l
    else if k = 8 then Fx.printP t.n else if k = 9 then Fx.printP t.n ++ [37] else if k = 10 then Fx.printP t.n ++ nameP l true
    else if k = 14 then [58] else if k = 15 then [59] else if k = 16 then [44] else t.text
  else []
/-- tokens may be -/
def pairsB : List GTok → Bool
  | [] => true
  | [t] => oneB t && decide (t.kind ≠ 7)
  | t :: u :: l => oneB t && !(decide (t.kind = 1) && decide (u.kind = 1)) && !(decide (t.kind = 7) && decide (u.kind ≠ 1)) && !(decide (t.kind = 11) && decide (t.text = [92]) && decide (u.kind ≠ 1)) && pairsB (u :: l)
def rightB (l : List GTok) : Bool := pairsB l && decide (l.length ≤ 16384)
/-- are two tokens kept apart? -/
def apartB (a b : Int) : Bool := decide (a ≠ 1 ∧ a ≠ 3 ∧ a ≠ 12 ∧ a ≠ 13 ∧ a ≠ 6 ∧ a ≠ 14 ∧ a ≠ 15 ∧ a ≠ 16 ∧ b ≠ 1 ∧ b ≠ 13 ∧ b ≠ 6 ∧ b ≠ 14 ∧ b ≠ 15 ∧ b ≠ 16)
def joinP : List GTok → List UInt8
  | [] => []
  | [t] => tokenP t
  | t :: u :: l => tokenP t ++ ((if apartB t.kind u.kind = true then [47, 42, 42, 47] else []) ++ joinP (u :: l))
def printL (l : List GTok) : List UInt8 := if rightB l = true then joinP l else []
end Tp
end Go.Proofs.YtfhdihdafmahgaaGreatDoor
/- Layer 5: which brackets belong together, as plain functions. -/
set_option linter.unusedVariables false
set_option linter.unusedSimpArgs false
namespace Go.Proofs.YtfhdihdafmahgaaGreatDoor
open Go.RowKit Rn
namespace Ru
/-- the closing of an opening; empty: it is none -/
def opensP (t : GTok) : List UInt8 :=
  if t.kind = 3 ∨ (t.kind = 12 ∧ t.text = [40]) then [41] else if t.kind = 12 ∧ t.text = [91] then [93] else if t.kind = 12 ∧ t.text = [123] then [125] else []
/-- which openings are open behind a token (the last one first), if some were open ahead of it -/
def stepP (l : List GTok) (at' : Nat) (st : List Nat) : List Nat := match l[at']? with
  | none => st
  | some t =>
    if opensP t ≠ [] then at' :: st
    else match st with
      | [] => []
      | k :: r => if t.kind = 13 ∧ (l[k]?.map opensP) = some t.text then r else st
/-- which openings are open behind so many tokens -/
def stackP (l : List GTok) : Nat → List Nat
  | 0 => []
  | k + 1 => stepP l k (stackP l k)
/-- where the closing of an opening stands, sought from a place on -/
def closeP (l : List GTok) (k : Nat) : Nat → Nat → Nat
  | 0, j => l.length
  | f + 1, j => if k ∉ stackP l (j + 1) then j else closeP l k f (j + 1)
def endP (l : List GTok) (k : Nat) : Int := match l[k]? with
  | none => -1
  | some t => if opensP t = [] then -1 else (closeP l k (l.length - (k + 1)) (k + 1) : Nat)
def endsP (l : List GTok) : List Int := (List.range l.length).map (endP l)
def deepB (l : List GTok) : Bool := (List.range (l.length + 1)).all fun k => decide ((stackP l k).length ≤ 64)
end Ru
open Ru
theorem stack_lt (l : List GTok) : ∀ k, ∀ j ∈ stackP l k, j < k
  | 0, j, h => by cases h
  | k + 1, j, h => by
    have ih := stack_lt l k
    unfold stackP stepP at h
    split at h
    · exact Nat.lt_succ_of_lt (ih j h)
    · split at h
      · rcases List.mem_cons.1 h with rfl | h
        · exact Nat.lt_succ_self _
        · exact Nat.lt_succ_of_lt (ih j h)
      · split at h
        · cases h
        · rename_i heq
          split at h
          · exact Nat.lt_succ_of_lt (ih j (by rw [heq]; exact List.mem_cons_of_mem _ h))
          · exact Nat.lt_succ_of_lt (ih j (by rw [heq] ; first | exact h | (rw [← heq]; exact h)))
/-- the stack is growing downwards -/
theorem stack_sorted (l : List GTok) : ∀ k, (stackP l k).Pairwise (· > ·)
  | 0 => List.Pairwise.nil
  | k + 1 => by
    have ih := stack_sorted l k
    have hlt := stack_lt l k
    unfold stackP stepP
    split
    · exact ih
    · split
      · exact List.Pairwise.cons hlt ih
      · split
        · exact List.Pairwise.nil
        · rename_i heq
          rw [heq] at ih
          split
          · exact (List.pairwise_cons.1 ih).2
          · rw [heq]; exact ih
/-- once an opening is closed it is closed for good -/
theorem stack_gone (l : List GTok) {k j : Nat} (h : k ∉ stackP l j) (hk : k < j) : k ∉ stackP l (j + 1) := by
  unfold stackP stepP
  split
  · exact h
  · split
    · intro h2
      rcases List.mem_cons.1 h2 with rfl | h2
      · omega
      · exact h h2
    · split
      · exact fun h => by cases h
      · rename_i heq
        rw [heq] at h
        split
        · exact fun h2 => h (List.mem_cons_of_mem _ h2)
        · rw [heq]; exact h
theorem stack_succ (l : List GTok) (k : Nat) : stackP l (k + 1) = stepP l k (stackP l k) := rfl
/-- an opening that is open has below it what was open ahead of it -/
theorem stack_has (l : List GTok) {k : Nat} {t : GTok} (ht : l[k]? = some t) (ho : opensP t ≠ []) : ∀ d, (k :: stackP l k) <:+ stackP l (k + 1 + d) ∨ k ∉ stackP l (k + 1 + d)
  | 0 => by
    left
    show _ <:+ stackP l (k + 1)
    rw [stack_succ]
    unfold stepP
    rw [ht]
    simp only [if_pos ho]
    exact List.suffix_refl _
  | d + 1 => by
    rcases stack_has l ht ho d with h | h
    · show _ <:+ stackP l (k + 1 + d + 1) ∨ k ∉ stackP l (k + 1 + d + 1)
      have hlt := stack_lt l (k + 1 + d)
      obtain ⟨p, hp⟩ := h
      rw [stack_succ l (k + 1 + d)]
      unfold stepP
      rw [← hp]
      split
      · exact .inl ⟨p, rfl⟩
      · split
        · exact .inl ⟨(k + 1 + d) :: p, rfl⟩
        · split
          · exact .inr (by simp)
          · rename_i heq
            split
            · cases p with
              | nil =>
                right
                simp only [List.nil_append, List.cons.injEq] at heq
                rw [← heq.2]
                intro h2
                exact absurd (stack_lt l k k h2) (by omega)
              | cons x p =>
                left
                simp only [List.cons_append, List.cons.injEq] at heq
                exact ⟨p, heq.2⟩
            · exact .inl ⟨p, by first | rfl | exact heq⟩
    · exact .inr (stack_gone l (j := k + 1 + d) h (by omega))
/-- what the document asks: the stack is as high as it was at the opening, and has it there -/
theorem stack_test (l : List GTok) {k : Nat} {t : GTok} (ht : l[k]? = some t) (ho : opensP t ≠ []) (d : Nat) :
    k ∈ stackP l (k + 1 + d) ↔ (stackP l (k + 1 + d)).reverse[(stackP l k).length]? = some k := by
  constructor
  · intro h
    rcases stack_has l ht ho d with ⟨p, hp⟩ | h2
    · rw [← hp]
      simp
    · exact absurd h h2
  · intro h
    have := List.mem_of_getElem? h
    simpa using this
end Go.Proofs.YtfhdihdafmahgaaGreatDoor
/- runes.Lower and runes.Hex are walked. -/
set_option linter.unusedVariables false
set_option linter.unusedSimpArgs false
namespace Go.Proofs.YtfhdihdafmahgaaGreatDoor
open Go.RowKit Rn
namespace Rn
def low8 (b : UInt8) : UInt8 := if 65 ≤ b.toNat ∧ b.toNat ≤ 90 then b + 32 else b
def lowerP (bs : List UInt8) : List UInt8 := bs.map low8
end Rn
/-- []byte(s): a new block. -/
theorem conv_bytes {P : Program} {src dst e : TypeId} (hs : P.underlying src = some .string) (hd : P.underlying dst = some (.slice e)) (he : P.underlying e = some (.int .u8)) (w : World) (s : ByteArray) :
    ∃ c W1, (convert src dst (.string s)).run P w = .ok (.slice (some ⟨w.heap.size, 0, none⟩) s.size c) W1 ∧ s.size ≤ c ∧ Below w.heap.size w W1 ∧ RowAt W1 w.heap.size (s.data.toList.map b8) := by
  refine ⟨_, _, run_bytes_of_string w src dst e s hs hd he, grownCap_ge _ _ _ _, ((Below.refl _ _).drew).alloc (Nat.le_refl _) _, by simp, fun j u hu => ?_⟩
  have hj : j < s.data.toList.length := by
    have := (List.getElem?_eq_some_iff.1 hu).1
    simpa using this
  have hu' : u = b8 s.data.toList[j] := by
    rw [List.getElem?_map, List.getElem?_eq_getElem hj] at hu
    simpa using hu.symm
  subst hu'
  have hj2 : j < s.data.size := by simpa using hj
  have hj3 : j < s.size := hj2
  refine ⟨?_, ?_⟩
  · simp only [World.cell?, World.drew, World.alloc]
    simp [bytesRow, Array.getElem?_append, b8]
    rw [if_pos hj3, Array.getElem?_eq_getElem hj2]
    rfl
  · simp only [World.frozen?, World.drew, World.alloc]
    simp [bytesRow]
    omega

def LowRel (s : List UInt8) (g B : Nat) (w : World) (i : Value) (wr : World) : Prop := ∃ k : Nat, k ≤ s.length ∧ i = .int .i64 k ∧ RowAt wr g ((lowerP (s.take k) ++ s.drop k).map b8) ∧ Below B w wr
set_option maxRecDepth 100000 in
set_option maxHeartbeats 1000000 in
theorem rn_lower (s : ByteArray) (w : World) (hs : s.size ≤ 1000000) :
    Calls Tryz.prog 28 #[.string s] w fun e w' => e = .returned (.string (bytesOf (lowerP s.data.toList))) ∧ Below w.heap.size w w' := by
  obtain ⟨c, W1, hconv, hc, hb1, hrow⟩ := conv_bytes (P := Tryz.prog) Tryz.underlying9 Tryz.underlying22 Tryz.underlying5 w s
  have hlen : s.data.toList.length = s.size := Array.length_toList
  have Hlen := Lib.hid hlen
  have Hrow := Lib.hid hrow
  clear hlen hrow
  go_enter Tryz.func28, Tryz.ntmps28
  go_wp2
  clear hconv
  go_loopw [10] (fun i wr => LowRel s.data.toList w.heap.size w.heap.size w i wr) (fun i _ => s.size - (intOf i).toNat)
  case atStart => exact ⟨0, by omega, rfl, by simpa [lowerP] using Hrow.out, hb1⟩
  case round =>
    obtain ⟨k, hk, rfl, hrow, hb⟩ := hrel
    rw [Hlen.out] at hk
    by_cases hlt : k < s.size
    · obtain ⟨x, hx⟩ : ∃ x, s.data.toList[k]? = some x := ⟨_, List.getElem?_eq_getElem (by rw [Hlen.out]; exact hlt)⟩
      have hkl : (lowerP (s.data.toList.take k)).length = k := by rw [lowerP, List.length_map, List.length_take, Hlen.out]; omega
      have hat : ((lowerP (s.data.toList.take k) ++ s.data.toList.drop k).map b8)[k]? = some (b8 x) := by
        rw [List.getElem?_map, List.getElem?_append_right (by omega), hkl, Nat.sub_self, List.getElem?_drop, Nat.add_zero, hx]; rfl
      obtain ⟨hcell, hfr⟩ := hrow.2 k _ hat
      have hnew : ∀ y, y = low8 x → RowAt (wr.setCell ⟨w.heap.size, k, none⟩ (b8 y)) w.heap.size ((lowerP (s.data.toList.take (k + 1)) ++ s.data.toList.drop (k + 1)).map b8) := by
        intro y hy
        have h1 := hrow.store k (b8 y)
        rw [← List.map_set, List.set_append_right _ _ (by omega), hkl, Nat.sub_self] at h1
        have hd : s.data.toList.drop k = x :: s.data.toList.drop (k + 1) := by
          rw [List.drop_eq_getElem_cons (by rw [Hlen.out]; exact hlt)]
          rw [List.getElem?_eq_getElem (by rw [Hlen.out]; exact hlt)] at hx
          injection hx with hx; rw [hx]
        rw [hd, List.set_cons_zero] at h1
        rw [take_snoc _ k x hx, lowerP, List.map_append, hy] at *
        simpa [lowerP] using h1
      have hsame : low8 x = x → RowAt wr w.heap.size ((lowerP (s.data.toList.take (k + 1)) ++ s.data.toList.drop (k + 1)).map b8) := by
        intro hy
        have hd : s.data.toList.drop k = x :: s.data.toList.drop (k + 1) := by
          rw [List.drop_eq_getElem_cons (by rw [Hlen.out]; exact hlt)]
          rw [List.getElem?_eq_getElem (by rw [Hlen.out]; exact hlt)] at hx
          injection hx with hx; rw [hx]
        rw [hd] at hrow
        rw [take_snoc _ k x hx, lowerP, List.map_append]
        simpa [lowerP, hy] using hrow
      unfold b8 at hcell
      have hx256 : x.toNat < 256 := x.toNat_lt
      have Hnew := Lib.hid hnew
      have Hsame := Lib.hid hsame
      clear hnew hsame hat hkl hrow hx
      by_cases hup : 65 ≤ x.toNat ∧ x.toNat ≤ 90
      · obtain ⟨u1, u2⟩ := hup
        have hy : (b8 (x + 32)) = .int .u8 ((x.toNat : Int) + 32) := by
          unfold b8; congr 1
          have : (x + 32).toNat = x.toNat + 32 := by rw [UInt8.toNat_add]; simp; omega
          rw [this]; rfl
        have hfin := Hnew.out (x + 32) (by simp [low8, u1, u2])
        rw [hy] at hfin
        have Hfin := Lib.hid hfin
        clear hy hfin Hnew Hsame
        have hbn : Below w.heap.size w (wr.setCell ⟨w.heap.size, k, none⟩ (.int .u8 ((x.toNat : Int) + 32))) := hb.setCell (Nat.le_refl _) _
        go_wp2
        go_roundw
        case rel => exact ⟨k + 1, by rw [Hlen.out]; omega, by go_num, Hfin.out, hbn⟩
        case measure => simp [intOf]; omega
      · have hfin := Hsame.out (by simp [low8]; omega)
        have Hfin := Lib.hid hfin
        clear hfin Hnew Hsame
        by_cases u1 : 65 ≤ x.toNat
        all_goals
          go_wp2
          go_roundw
          case rel => exact ⟨k + 1, by rw [Hlen.out]; omega, by go_num, Hfin.out, hb⟩
          case measure => simp [intOf]; omega
    · obtain rfl : k = s.size := by omega
      have hfull : RowAt wr w.heap.size ((lowerP s.data.toList).map b8) := by
        rw [List.take_of_length_le (by rw [Hlen.out]; omega), List.drop_of_length_le (by rw [Hlen.out]; omega), List.append_nil] at hrow
        exact hrow
      have hrd := hfull.reads (B := w.heap.size + 1) (by omega)
      rw [List.length_map, show (lowerP s.data.toList).length = s.size from by rw [lowerP, List.length_map]; exact Hlen.out] at hrd
      have hback := run_str (P := Tryz.prog) (src := 22) (dst := 9) Tryz.underlying22 Tryz.underlying5 Tryz.underlying9 c hrd
      clear hrow hfull hrd
      go_wp2
      go_ret
      exact ⟨rfl, hb⟩
end Go.Proofs.YtfhdihdafmahgaaGreatDoor
/- Layer 6: a sheet's rules, as plain functions of its tokens. -/
set_option linter.unusedVariables false
set_option linter.unusedSimpArgs false
namespace Go.Proofs.YtfhdihdafmahgaaGreatDoor
open Go.RowKit Rn Tp
namespace Ru
structure Decl where
  name : List UInt8
  value : List GTok
  imp : Bool
deriving DecidableEq
structure Margin where
  name : List UInt8
  decls : List Decl
deriving DecidableEq
structure Rule where
  kind : Int
  prelude : List GTok
  decls : List Decl
  margins : List Margin
deriving DecidableEq
def isSp (t : GTok) : Bool := decide (t.kind = 1)
def braceB (t : GTok) : Bool := decide (t.kind = 12) && decide (t.text = [123])
def semiB (t : GTok) : Bool := decide (t.kind = 15)
def eitherB (t : GTok) : Bool := semiB t || braceB t
/-- the place behind a token -/
def skipP (l : List GTok) (k : Nat) : Nat := if (k : Int) ≤ endP l k then min ((endP l k).toNat + 1) l.length else k + 1
/-- the first place of which something holds; the end: there is none -/
def findF (l : List GTok) (is : GTok → Bool) (z : Nat) : Nat → Nat → Nat
  | 0, _ => z
  | f + 1, k => if k < z then (match l[k]? with
      | some t => if is t = true then k else findF l is z f (skipP l k)
      | none => z) else z
def findP (l : List GTok) (is : GTok → Bool) (k z : Nat) : Nat := findF l is z (z - k) k
def dropS (l : List GTok) : List GTok := l.dropWhile isSp
def rtrim (l : List GTok) : List GTok := (dropS l.reverse).reverse
def trimL (l : List GTok) : List GTok := rtrim (dropS l)
def segP (l : List GTok) (k z : Nat) : List GTok := (l.take z).drop k
def closedB (l : List GTok) (k : Nat) : Bool := decide (∃ j < l.length, endP l j = (k : Int))
def barB (t : GTok) : Bool := decide (t.kind = 7) || (decide (t.kind = 11) && decide (t.text = [92]))
def soundAt (l : List GTok) (k : Nat) : Bool := match l[k]? with
  | some t => !barB t && !(decide (t.kind = 13) && !closedB l k)
  | none => true
def openB (l : List GTok) : Bool := (List.range l.length).all fun k => decide (endP l k ≠ (l.length : Int))
/-- are tokens sound? -/
def soundP (l : List GTok) : Bool := rightB l && deepB l && openB l && (List.range l.length).all (soundAt l)
def namedB (t : GTok) (k : Int) (s : List UInt8) : Bool := decide (t.kind = k) && decide (lowerP t.text = s)
def importantS : List UInt8 := [105, 109, 112, 111, 114, 116, 97, 110, 116]
def pageS : List UInt8 := [112, 97, 103, 101]
/-- a value ahead of what makes it important, if it is -/
def importantP (v : List GTok) : Option (List GTok) := match v.reverse with
  | [] => none
  | t :: r => if namedB t 2 importantS = true then (match dropS r with
      | [] => none
      | u :: q => if u.kind = 11 ∧ u.text = [33] then some (dropS q).reverse else none) else none
/-- a declaration -/
def declP (s : List GTok) : Option Decl := match s with
  | [] => none
  | t :: r => if t.kind = 2 then (match dropS r with
      | [] => none
      | c :: q => if c.kind = 14 then
          (let v := trimL q
           let x : List GTok × Bool := match importantP v with | some y => (y, true) | none => (v, false)
           if soundP x.1 = true then some ⟨lowerP t.text, x.1, x.2⟩ else none) else none) else none
def boxes : List (List UInt8) := [
  [116, 111, 112, 45, 108, 101, 102, 116, 45, 99, 111, 114, 110, 101, 114], [116, 111, 112, 45, 108, 101, 102, 116], [116, 111, 112, 45, 99, 101, 110, 116, 101, 114], [116, 111, 112, 45, 114, 105, 103, 104, 116],
  [116, 111, 112, 45, 114, 105, 103, 104, 116, 45, 99, 111, 114, 110, 101, 114], [114, 105, 103, 104, 116, 45, 116, 111, 112], [114, 105, 103, 104, 116, 45, 109, 105, 100, 100, 108, 101], [114, 105, 103, 104, 116, 45, 98, 111, 116, 116, 111, 109],
  [98, 111, 116, 116, 111, 109, 45, 114, 105, 103, 104, 116, 45, 99, 111, 114, 110, 101, 114], [98, 111, 116, 116, 111, 109, 45, 114, 105, 103, 104, 116], [98, 111, 116, 116, 111, 109, 45, 99, 101, 110, 116, 101, 114], [98, 111, 116, 116, 111, 109, 45, 108, 101, 102, 116],
  [98, 111, 116, 116, 111, 109, 45, 108, 101, 102, 116, 45, 99, 111, 114, 110, 101, 114], [108, 101, 102, 116, 45, 98, 111, 116, 116, 111, 109], [108, 101, 102, 116, 45, 109, 105, 100, 100, 108, 101], [108, 101, 102, 116, 45, 116, 111, 112]]
/-- the number of a margin box; -1: it is none -/
def boxP (s : List UInt8) : Int := if lowerP s ∈ boxes then (boxes.idxOf (lowerP s) : Nat) else -1
/-- what stands in a block: each time where it begins, and where it ends -/
def itemsF (l : List GTok) (z : Nat) : Nat → Nat → List (Nat × Nat)
  | 0, _ => []
  | f + 1, k => if k < z then (match l[k]? with
      | some t =>
        if t.kind = 1 ∨ t.kind = 15 then itemsF l z f (k + 1)
        else if t.kind = 4 then (k, findP l eitherB (k + 1) z) :: itemsF l z f (skipP l (findP l eitherB (k + 1) z))
        else (k, findP l semiB k z) :: itemsF l z f (findP l semiB k z)
      | none => []) else []
def itemsP (l : List GTok) (k z : Nat) : List (Nat × Nat) := itemsF l z (z - k) k
def declOf (l : List GTok) (x : Nat × Nat) : Option Decl := match l[x.1]? with
  | some t => if t.kind = 4 then none else declP (segP l x.1 x.2)
  | none => none
def declsP (l : List GTok) (k z : Nat) : List Decl := (itemsP l k z).filterMap (declOf l)
def marginOf (l : List GTok) (z : Nat) (x : Nat × Nat) : Option Margin := match l[x.1]? with
  | some t => if t.kind = 4 ∧ x.2 < z ∧ (l[x.2]?.map braceB) = some true ∧ 0 ≤ boxP t.text ∧ trimL (segP l (x.1 + 1) x.2) = [] then
      some ⟨lowerP t.text, declsP l (x.2 + 1) (min (endP l x.2).toNat z)⟩ else none
  | none => none
def marginsP (l : List GTok) (k z : Nat) : List Margin := (itemsP l k z).filterMap (marginOf l z)
def ruleAt (l : List GTok) (t : GTok) (k e : Nat) : Option Rule :=
  let at' : Bool := decide (t.kind = 4)
  if e < l.length ∧ (l[e]?.map braceB) = some true ∧ (at' = true → lowerP t.text = pageS) then
    (let p := trimL (segP l (if at' = true then k + 1 else k) e)
     if soundP p = true then some ⟨if at' = true then 2 else 1, p, declsP l (e + 1) (endP l e).toNat, if at' = true then marginsP l (e + 1) (endP l e).toNat else []⟩ else none)
  else none
def ruleEnd (l : List GTok) (t : GTok) (k : Nat) : Nat := if t.kind = 4 then findP l eitherB (k + 1) l.length else findP l braceB k l.length
def rulesF (l : List GTok) : Nat → Nat → List Rule
  | 0, _ => []
  | f + 1, k => match l[k]? with
    | none => []
    | some t => if t.kind = 1 then rulesF l f (k + 1)
      else (ruleAt l t k (ruleEnd l t k)).toList ++ rulesF l f (skipP l (ruleEnd l t k))
def rulesP (l : List GTok) (k : Nat) : List Rule := rulesF l (l.length - k) k
/-- a sheet's rules, or why not -/
def parseT (l : List GTok) : Int × List Rule := if deepB l = false then (3, []) else if 1024 < (rulesP l 0).length then (2, []) else (0, rulesP l 0)
end Ru
open Ru
theorem close_le (l : List GTok) (k : Nat) : ∀ f j, closeP l k f j ≤ l.length ∨ closeP l k f j < j + f
  | 0, j => .inl (Nat.le_refl _)
  | f + 1, j => by
    unfold closeP
    split
    · exact .inr (by omega)
    · rcases close_le l k f (j + 1) with h | h
      · exact .inl h
      · exact .inr (by omega)
theorem close_ge (l : List GTok) (k : Nat) : ∀ f j, j ≤ closeP l k f j ∨ closeP l k f j = l.length
  | 0, j => .inr rfl
  | f + 1, j => by
    unfold closeP
    split
    · exact .inl (Nat.le_refl _)
    · rcases close_ge l k f (j + 1) with h | h
      · exact .inl (by omega)
      · exact .inr h
/-- where an opening ends -/
theorem end_open {l : List GTok} {k : Nat} {t : GTok} (ht : l[k]? = some t) (ho : opensP t ≠ []) : ∃ e : Nat, endP l k = (e : Int) ∧ k < e ∧ e ≤ l.length := by
  have hk : k < l.length := (List.getElem?_eq_some_iff.1 ht).1
  refine ⟨closeP l k (l.length - (k + 1)) (k + 1), ?_, ?_, ?_⟩
  · unfold endP; rw [ht]; simp only [if_neg ho]
  · rcases close_ge l k (l.length - (k + 1)) (k + 1) with h | h <;> omega
  · rcases close_le l k (l.length - (k + 1)) (k + 1) with h | h <;> omega
theorem end_else {l : List GTok} {k : Nat} (h : ∀ t, l[k]? = some t → opensP t = []) : endP l k = -1 := by
  unfold endP
  split
  · rfl
  · rename_i t ht; rw [if_pos (h t ht)]
theorem end_cases (l : List GTok) (k : Nat) : endP l k = -1 ∨ ∃ e : Nat, endP l k = (e : Int) ∧ k < e ∧ e ≤ l.length := by
  by_cases h : ∀ t, l[k]? = some t → opensP t = []
  · exact .inl (end_else h)
  · obtain ⟨t, h⟩ := Classical.not_forall.1 h
    obtain ⟨h1, h2⟩ := Classical.not_imp.1 h
    exact .inr (end_open h1 h2)
theorem skip_gt {l : List GTok} {k : Nat} (hk : k < l.length) : k < skipP l k := by
  unfold skipP
  rcases end_cases l k with h | ⟨e, h, h1, h2⟩
  · rw [h, if_neg (by omega)]; omega
  · rw [h, if_pos (by omega)]; simp; omega
theorem skip_ge (l : List GTok) (k : Nat) : k ≤ skipP l k := by
  unfold skipP
  rcases end_cases l k with h | ⟨e, h, h1, h2⟩
  · rw [h, if_neg (by omega)]; omega
  · rw [h, if_pos (by omega)]; simp; omega
theorem skip_past {l : List GTok} {k : Nat} (hk : l.length ≤ k) : skipP l k = k + 1 := by
  unfold skipP
  rw [end_else (fun t ht => by rw [List.getElem?_eq_none hk] at ht; cases ht), if_neg (by omega)]
theorem skip_le {l : List GTok} {k : Nat} (hk : k < l.length) : skipP l k ≤ l.length := by
  unfold skipP
  rcases end_cases l k with h | ⟨e, h, h1, h2⟩
  · rw [h, if_neg (by omega)]; omega
  · rw [h, if_pos (by omega)]; simp; omega
theorem findF_fuel (l : List GTok) (is : GTok → Bool) {z : Nat} (hto : z ≤ l.length) : ∀ f g k, z ≤ k + f → z ≤ k + g → findF l is z f k = findF l is z g k
  | 0, 0, k, _, _ => rfl
  | 0, g + 1, k, hf, _ => by unfold findF; rw [if_neg (by omega)]
  | f + 1, 0, k, _, hg => by unfold findF; rw [if_neg (by omega)]
  | f + 1, g + 1, k, hf, hg => by
    unfold findF
    split
    · rename_i hk
      split
      · split
        · rfl
        · have := skip_gt (l := l) (k := k) (by omega)
          exact findF_fuel l is hto f g _ (by omega) (by omega)
      · rfl
    · rfl
theorem find_end {l : List GTok} {is : GTok → Bool} {k z : Nat} (h : z ≤ k) : findP l is k z = z := by
  unfold findP
  rw [show z - k = 0 by omega]; rfl
theorem find_hit {l : List GTok} {is : GTok → Bool} {k z : Nat} {t : GTok} (hk : k < z) (ht : l[k]? = some t) (h : is t = true) : findP l is k z = k := by
  unfold findP
  obtain ⟨f, hf⟩ : ∃ f, z - k = f + 1 := ⟨z - k - 1, by omega⟩
  rw [hf]; unfold findF; rw [if_pos hk, ht]; simp [h]
theorem find_miss {l : List GTok} {is : GTok → Bool} {k z : Nat} {t : GTok} (hto : z ≤ l.length) (hk : k < z) (ht : l[k]? = some t) (h : is t = false) : findP l is k z = findP l is (skipP l k) z := by
  unfold findP
  obtain ⟨f, hf⟩ : ∃ f, z - k = f + 1 := ⟨z - k - 1, by omega⟩
  rw [hf]
  conv => lhs; unfold findF
  rw [if_pos hk, ht]
  simp only [h, Bool.false_eq_true, if_false]
  have := skip_gt (l := l) (k := k) (by omega)
  exact findF_fuel l is hto _ _ _ (by omega) (by omega)
theorem find_ge {l : List GTok} {is : GTok → Bool} {z : Nat} (hto : z ≤ l.length) : ∀ f k, k ≤ z → k ≤ findF l is z f k ∧ findF l is z f k ≤ z
  | 0, k, h => ⟨h, Nat.le_refl _⟩
  | f + 1, k, h => by
    unfold findF
    split
    · rename_i hk
      split
      · split
        · exact ⟨Nat.le_refl _, h⟩
        · have h1 := skip_gt (l := l) (k := k) (by omega)
          by_cases h2 : skipP l k ≤ z
          · have := find_ge (is := is) hto f (skipP l k) h2
            omega
          · have h3 : findF l is z f (skipP l k) = z := by
              cases f with
              | zero => rfl
              | succ f => unfold findF; rw [if_neg (by omega)]
            rw [h3]; exact ⟨h, Nat.le_refl _⟩
      · exact ⟨h, Nat.le_refl _⟩
    · exact ⟨h, Nat.le_refl _⟩
theorem find_bounds {l : List GTok} (is : GTok → Bool) {k z : Nat} (hto : z ≤ l.length) (h : k ≤ z) : k ≤ findP l is k z ∧ findP l is k z ≤ z := find_ge hto _ _ h
/-- what is found, is -/
theorem find_is {l : List GTok} {is : GTok → Bool} {z : Nat} : ∀ f k, findF l is z f k < z → (l[findF l is z f k]?.map is) = some true
  | 0, k, h => absurd h (Nat.lt_irrefl _)
  | f + 1, k, h => by
    unfold findF at h ⊢
    split at h
    · rename_i hk
      rw [if_pos hk]
      cases ht : l[k]? with
      | none => rw [ht] at h; exact absurd h (Nat.lt_irrefl _)
      | some t =>
        rw [ht] at h
        simp only [] at h ⊢
        by_cases hi : is t = true
        · rw [if_pos hi, ht]; simp [hi]
        · rw [if_neg hi] at h ⊢; exact find_is f _ h
    · exact absurd h (Nat.lt_irrefl _)
theorem itemsF_fuel (l : List GTok) {z : Nat} (hto : z ≤ l.length) : ∀ f g k, z ≤ k + f → z ≤ k + g → itemsF l z f k = itemsF l z g k
  | 0, 0, k, _, _ => rfl
  | 0, g + 1, k, hf, _ => by unfold itemsF; rw [if_neg (by omega)]
  | f + 1, 0, k, _, hg => by unfold itemsF; rw [if_neg (by omega)]
  | f + 1, g + 1, k, hf, hg => by
    unfold itemsF
    split
    · rename_i hk
      split
      · rename_i t ht
        split
        · exact itemsF_fuel l hto f g _ (by omega) (by omega)
        · rename_i hn
          split
          · have h1 := (find_bounds (l := l) eitherB hto (k := k + 1) (by omega)).1
            have h2 := skip_ge l (findP l eitherB (k + 1) z)
            rw [itemsF_fuel l hto f g _ (by omega) (by omega)]
          · have h1 : k < findP l semiB k z := by
              have hs : semiB t = false := by unfold semiB; simp; omega
              rw [find_miss hto hk ht hs]
              have h2 := skip_gt (l := l) (k := k) (by omega)
              by_cases h3 : skipP l k ≤ z
              · have := (find_bounds (l := l) semiB hto h3).1; omega
              · rw [find_end (by omega)]; omega
            rw [itemsF_fuel l hto f g _ (by omega) (by omega)]
      · rfl
    · rfl
theorem semi_gt {l : List GTok} {k z : Nat} {t : GTok} (hto : z ≤ l.length) (hk : k < z) (ht : l[k]? = some t) (h : t.kind ≠ 15) : k < findP l semiB k z := by
  have hs : semiB t = false := by unfold semiB; simp [h]
  rw [find_miss hto hk ht hs]
  have h2 := skip_gt (l := l) (k := k) (by omega)
  by_cases h3 : skipP l k ≤ z
  · have := (find_bounds (l := l) semiB hto h3).1; omega
  · rw [find_end (by omega)]; omega
theorem items_end {l : List GTok} {k z : Nat} (h : z ≤ k) : itemsP l k z = [] := by
  unfold itemsP; rw [show z - k = 0 by omega]; rfl
theorem items_sp {l : List GTok} {k z : Nat} {t : GTok} (hto : z ≤ l.length) (hk : k < z) (ht : l[k]? = some t) (h : t.kind = 1 ∨ t.kind = 15) : itemsP l k z = itemsP l (k + 1) z := by
  unfold itemsP
  obtain ⟨f, hf⟩ : ∃ f, z - k = f + 1 := ⟨z - k - 1, by omega⟩
  rw [hf]
  conv => lhs; unfold itemsF
  rw [if_pos hk, ht]
  simp only [if_pos h]
  exact itemsF_fuel l hto _ _ _ (by omega) (by omega)
theorem items_at {l : List GTok} {k z : Nat} {t : GTok} (hto : z ≤ l.length) (hk : k < z) (ht : l[k]? = some t) (h : t.kind = 4) : itemsP l k z = (k, findP l eitherB (k + 1) z) :: itemsP l (skipP l (findP l eitherB (k + 1) z)) z := by
  have h1 := (find_bounds (l := l) eitherB hto (k := k + 1) (by omega)).1
  have h2 := skip_ge l (findP l eitherB (k + 1) z)
  unfold itemsP
  obtain ⟨f, hf⟩ : ∃ f, z - k = f + 1 := ⟨z - k - 1, by omega⟩
  rw [hf]
  conv => lhs; unfold itemsF
  rw [if_pos hk, ht]
  simp only [h]
  rw [if_neg (by omega), if_pos trivial]
  rw [itemsF_fuel l hto f (z - skipP l (findP l eitherB (k + 1) z)) _ (by omega) (by omega)]
theorem items_else {l : List GTok} {k z : Nat} {t : GTok} (hto : z ≤ l.length) (hk : k < z) (ht : l[k]? = some t) (h1 : t.kind ≠ 1) (h2 : t.kind ≠ 15) (h3 : t.kind ≠ 4) : itemsP l k z = (k, findP l semiB k z) :: itemsP l (findP l semiB k z) z := by
  have h4 := semi_gt hto hk ht h2
  unfold itemsP
  obtain ⟨f, hf⟩ : ∃ f, z - k = f + 1 := ⟨z - k - 1, by omega⟩
  rw [hf]
  conv => lhs; unfold itemsF
  rw [if_pos hk, ht]
  simp only []
  rw [if_neg (by omega), if_neg h3]
  rw [itemsF_fuel l hto f (z - findP l semiB k z) _ (by omega) (by omega)]
theorem end_ge {l : List GTok} {t : GTok} {k : Nat} (hk : k < l.length) : k ≤ ruleEnd l t k ∧ ruleEnd l t k ≤ l.length := by
  unfold ruleEnd
  split
  · have := find_bounds (l := l) eitherB (Nat.le_refl _) (k := k + 1) (by omega); omega
  · exact find_bounds (l := l) braceB (Nat.le_refl _) (by omega)
theorem rule_next {l : List GTok} {t : GTok} {k : Nat} (hk : k < l.length) : k < skipP l (ruleEnd l t k) := by
  obtain ⟨h1, h2⟩ := end_ge (t := t) hk
  by_cases h : ruleEnd l t k < l.length
  · have := skip_gt h; omega
  · rw [skip_past (by omega)]; omega
theorem rulesF_fuel (l : List GTok) : ∀ f g k, l.length ≤ k + f → l.length ≤ k + g → rulesF l f k = rulesF l g k
  | 0, 0, k, _, _ => rfl
  | 0, g + 1, k, hf, _ => by unfold rulesF; rw [List.getElem?_eq_none (by omega)]
  | f + 1, 0, k, _, hg => by unfold rulesF; rw [List.getElem?_eq_none (by omega)]
  | f + 1, g + 1, k, hf, hg => by
    unfold rulesF
    split
    · rfl
    · rename_i t ht
      have hk : k < l.length := (List.getElem?_eq_some_iff.1 ht).1
      split
      · exact rulesF_fuel l f g _ (by omega) (by omega)
      · have := rule_next (t := t) hk
        rw [rulesF_fuel l f g _ (by omega) (by omega)]
theorem rules_end {l : List GTok} {k : Nat} (h : l.length ≤ k) : rulesP l k = [] := by
  unfold rulesP; rw [show l.length - k = 0 by omega]; rfl
theorem rules_sp {l : List GTok} {k : Nat} {t : GTok} (ht : l[k]? = some t) (h : t.kind = 1) : rulesP l k = rulesP l (k + 1) := by
  have hk : k < l.length := (List.getElem?_eq_some_iff.1 ht).1
  unfold rulesP
  obtain ⟨f, hf⟩ : ∃ f, l.length - k = f + 1 := ⟨l.length - k - 1, by omega⟩
  rw [hf]
  conv => lhs; unfold rulesF
  rw [ht]
  simp only [if_pos h]
  exact rulesF_fuel l _ _ _ (by omega) (by omega)
theorem rules_item {l : List GTok} {k : Nat} {t : GTok} (ht : l[k]? = some t) (h : t.kind ≠ 1) : rulesP l k = (ruleAt l t k (ruleEnd l t k)).toList ++ rulesP l (skipP l (ruleEnd l t k)) := by
  have hk : k < l.length := (List.getElem?_eq_some_iff.1 ht).1
  have := rule_next (t := t) hk
  unfold rulesP
  obtain ⟨f, hf⟩ : ∃ f, l.length - k = f + 1 := ⟨l.length - k - 1, by omega⟩
  rw [hf]
  conv => lhs; unfold rulesF
  rw [ht]
  simp only [if_neg h]
  rw [rulesF_fuel l f (l.length - skipP l (ruleEnd l t k)) _ (by omega) (by omega)]
end Go.Proofs.YtfhdihdafmahgaaGreatDoor
/- append onto a row of the call's own from a slice that reads as a list, nil or not. -/
set_option linter.unusedVariables false
namespace Go.Proofs.YtfhdihdafmahgaaGreatDoor
open Go.RowKit
section
variable {P : Program} (w : World)

theorem run_append_nil_src (base : Nat) (t ty e : TypeId) (i : TypeInfo) (size : Nat) (ht : P.underlying t = some (.slice e)) (hi : P.info? e = some i)
    (v : Value) (n : Nat) (xs : List Value) (hown : w.ownsRow base e size v n xs) (c : Nat) : (Builtin.append_ #[t, t] ty #[v, .slice none 0 c]).run P w = .ok v w := by
  rcases hown.2 with ⟨rfl, rfl⟩ | ⟨g, cap, cur, rfl, _, _, hnc, _⟩
  · simp [Builtin.append_, run_underlying ht, sizeOf, typeInfo, hi, Builtin.lenOf, Builtin.firstCells]
  · simp [Builtin.append_, run_underlying ht, sizeOf, typeInfo, hi, Builtin.lenOf, Builtin.firstCells, hnc, storeCells]

theorem run_append_reads (base : Nat) (t ty e : TypeId) (i : TypeInfo) (z : Value) (size bytes : Nat) (ht : P.underlying t = some (.slice e)) (hi : P.info? e = some i) (hz : i.zero = some z)
    (hsize : i.size = size) (hby : i.bytes = bytes) (hzs : z.cells.size = size) (hsz : 0 < size)
    (v : Value) (n : Nat) (xs : List Value) (hown : w.ownsRow base e size v n xs)
    (B : Nat) (A : Option Addr) (m c : Nat) (news : List Value) (hr : Reads w B size A m news) (h1 : ∀ u ∈ news, u.oneCell' = true)
    (h63 : n + m ≤ maxLen) (hbytes : (n + m) * bytes ≤ 140737488355328) (hbase : base ≤ w.heap.size) :
    ∃ v' w', (Builtin.append_ #[t, t] ty #[v, .slice A m c]).run P w = .ok v' w' ∧ w'.ownsRow base e size v' (n + m) (xs ++ news) ∧ w.grownBy w' v.ownBlock := by
  cases A with
  | none =>
    have hm : m = 0 := by
      rcases Nat.eq_zero_or_pos m with h0 | h0
      · exact h0
      · obtain ⟨b, off, h, _⟩ := hr.2 h0
        cases h
    subst hm
    have hn : news = [] := List.eq_nil_of_length_eq_zero (by simpa using hr.1)
    subst hn
    exact ⟨v, w, run_append_nil_src w base t ty e i size ht hi v n xs hown c, by simpa using hown, World.grownBy.refl w _⟩
  | some ad =>
    have hcells : ∀ j u, news[j]? = some u → w.cell? (ad.add j) = some u := by
      intro j u hu
      rcases Nat.eq_zero_or_pos m with h0 | h0
      · subst h0
        have hn : news = [] := List.eq_nil_of_length_eq_zero (by simpa using hr.1)
        subst hn
        simp at hu
      · obtain ⟨b, off, h, _, hc⟩ := hr.2 h0
        injection h with h
        subst h
        have ha : (⟨b, off, none⟩ : Addr).add j = ⟨b, off + j, none⟩ := by unfold Addr.add; split <;> simp_all
        rw [ha]; exact hc j u hu
    obtain ⟨v', w', hrun, h2, h3, _⟩ := run_append_own_at (P := P) w base t ty e i z size bytes ht hi hz hsize hby hzs hsz v n xs hown ad m c news hr.1 hcells h1 h63 hbytes hbase
    exact ⟨v', w', hrun, h2, h3⟩

theorem wp_append_reads {o : Oper} {a : Act} {K : Act → World → Prop} {Q : Exit → Act → World → Prop} (s x : Operand) (t : TypeId)
    (ho : o.op = .call { callee := .builtin .append, args := #[s, x], argTypes := #[t, t] })
    (base : Nat) (e : TypeId) (i : TypeInfo) (z : Value) (size bytes : Nat) (ht : P.underlying t = some (.slice e)) (hi : P.info? e = some i) (hz : i.zero = some z)
    (hsize : i.size = size) (hby : i.bytes = bytes) (hzs : z.cells.size = size) (hsz : 0 < size)
    (v : Value) (n : Nat) (xs : List Value) (hs : a.eval s = v) (hown : w.ownsRow base e size v n xs)
    (B : Nat) (A : Option Addr) (m c : Nat) (news : List Value) (hx : a.eval x = .slice A m c) (hr : Reads w B size A m news) (h1 : ∀ u ∈ news, u.oneCell' = true)
    (h63 : n + m ≤ maxLen) (hbytes : (n + m) * bytes ≤ 140737488355328) (hbase : base ≤ w.heap.size)
    (h : ∀ v' w', w'.ownsRow base e size v' (n + m) (xs ++ news) → w.grownBy w' v.ownBlock → K (a.put o.dst v') w') : o.wp P a w K Q := by
  obtain ⟨v', w', hrun, h2, h3⟩ := run_append_reads (P := P) w base t o.type e i z size bytes ht hi hz hsize hby hzs hsz v n xs hown B A m c news hr h1 h63 hbytes hbase
  unfold Oper.wp execOp
  simp only [ho, resolve, invoke, builtin, Sem.run_bind, Sem.run_pure, Result.andThen_ok, List.map_toArray, List.map_cons, List.map_nil, hs, hx, hrun]
  exact h v' w' h2 h3

theorem wpList_append_reads {ops : Array Oper} {rest : List Oper} {o : Oper} {a : Act} {Q : Exit → Act → World → Prop} (hgd : o.guard = none) (s x : Operand) (t : TypeId)
    (ho : o.op = .call { callee := .builtin .append, args := #[s, x], argTypes := #[t, t] })
    (base : Nat) (e : TypeId) (i : TypeInfo) (z : Value) (size bytes : Nat) (ht : P.underlying t = some (.slice e)) (hi : P.info? e = some i) (hz : i.zero = some z)
    (hsize : i.size = size) (hby : i.bytes = bytes) (hzs : z.cells.size = size) (hsz : 0 < size)
    (v : Value) (n : Nat) (xs : List Value) (hs : a.eval s = v) (hown : w.ownsRow base e size v n xs)
    (B : Nat) (A : Option Addr) (m c : Nat) (news : List Value) (hx : a.eval x = .slice A m c) (hr : Reads w B size A m news) (h1 : ∀ u ∈ news, u.oneCell' = true)
    (h63 : n + m ≤ maxLen) (hbytes : (n + m) * bytes ≤ 140737488355328) (hbase : base ≤ w.heap.size)
    (h : ∀ v' w', w'.ownsRow base e size v' (n + m) (xs ++ news) → w.grownBy w' v.ownBlock → wpList P ops Q rest (a.put o.dst v') w') : wpList P ops Q (o :: rest) a w :=
  wpList_plain hgd fun _ hK => wp_append_reads w s x t ho base e i z size bytes ht hi hz hsize hby hzs hsz v n xs hs hown B A m c news hx hr h1 h63 hbytes hbase fun v' w' h2 h3 => hK _ _ (h v' w' h2 h3)
end
section
variable {w w1 w2 : World} {B size n : Nat} {e : TypeId} {v : Value} {xs : List Value}
/-- The same as push_below and push_reads, where the source lay already. -/
theorem grow_below (hb : Below B w w1) (hB : B ≤ w1.heap.size) (hown : w1.ownsRow B e size v n xs) (hg : w1.grownBy w2 v.ownBlock) : Below B w w2 :=
  hb.grown hg hB (fun k hk => (hown.lt k hk).1)
theorem grow_reads {A : Option Addr} {s m : Nat} {ys : List Value} (h : Reads w1 B s A m ys) (hB : B ≤ w1.heap.size) (hown : w1.ownsRow B e size v n xs) (hg : w1.grownBy w2 v.ownBlock) : Reads w2 B s A m ys :=
  h.grown hg hB (fun k hk => (hown.lt k hk).1)
end
end Go.Proofs.YtfhdihdafmahgaaGreatDoor
/- Rules in memory: what slices of declarations, of margin rules and of rules read as, and how the readings are kept. -/
set_option linter.unusedVariables false
set_option linter.unusedSimpArgs false
namespace Go.Proofs.YtfhdihdafmahgaaGreatDoor
open Go.RowKit Rn Tk Ru
/-- a slice reads as cells, which lie in blocks of a set -/
def ReadsS (w : World) (S : Nat → Prop) (size : Nat) (A : Option Addr) (n : Nat) (xs : List Value) : Prop :=
  xs.length = n * size ∧ (0 < n → ∃ b off, A = some ⟨b, off, none⟩ ∧ S b ∧ ∀ j u, xs[j]? = some u → w.cell? ⟨b, off + j, none⟩ = some u)
/-- the blocks of a set are as they were -/
def Kept (S : Nat → Prop) (w w' : World) : Prop := ∀ b, S b → w'.heap[b]? = w.heap[b]?
theorem Kept.trans {S : Nat → Prop} {a b c : World} (h : Kept S a b) (k : Kept S b c) : Kept S a c := fun x hx => (k x hx).trans (h x hx)
theorem Kept.of_below {S : Nat → Prop} {B : Nat} {w w' : World} (h : Below B w w') (hS : ∀ b, S b → b < B) : Kept S w w' := fun b hb => h.block b (hS b hb)
theorem Kept.of_grown {S : Nat → Prop} {row : Option Nat} {w w' : World} (h : w.grownBy w' row) (hS : ∀ b, S b → b < w.heap.size ∧ some b ≠ row) : Kept S w w' := fun b hb => h.block b (hS b hb).1 (hS b hb).2
theorem Kept.of_alloc {S : Nat → Prop} {w : World} (o : Obj) (hS : ∀ b, S b → b < w.heap.size) : Kept S w (w.alloc o) := fun b hb => Below.heap_alloc w o b (hS b hb)
theorem Kept.drewN {S : Nat → Prop} {w w' : World} (h : Kept S w w') (k : Nat) : Kept S w (w'.drewN k) := h
section
variable {w w' : World} {S S' : Nat → Prop} {size n : Nat} {A : Option Addr} {xs : List Value}
theorem ReadsS.keep (h : ReadsS w S size A n xs) (hk : Kept S w w') : ReadsS w' S size A n xs :=
  ⟨h.1, fun hn => by
    obtain ⟨b, off, e, hb, hc⟩ := h.2 hn
    exact ⟨b, off, e, hb, fun j u hu => (World.cell?_of_block (w := w) (hk b hb)).trans (hc j u hu)⟩⟩
theorem ReadsS.more (h : ReadsS w S size A n xs) (hS : ∀ b, S b → S' b) : ReadsS w S' size A n xs :=
  ⟨h.1, fun hn => by
    obtain ⟨b, off, e, hb, hc⟩ := h.2 hn
    exact ⟨b, off, e, hS b hb, hc⟩⟩
theorem ReadsS.reads {B : Nat} (h : ReadsS w S size A n xs) (hS : ∀ b, S b → b < B) : Reads w B size A n xs := h.more hS
theorem ReadsS.of_own {base : Nat} {e : TypeId} {c : Nat} (h : w.ownsRow base e size (.slice A n c) n xs) (hS : ∀ b, (Value.slice A n c).ownBlock = some b → S b) : ReadsS w S size A n xs := by
  obtain ⟨h1, h2⟩ := Reads.of_own h
  refine ⟨h1, fun hn => ?_⟩
  obtain ⟨b, off, rfl, hb, hc⟩ := h2 hn
  exact ⟨b, off, rfl, hS b rfl, hc⟩
theorem ReadsS.nil : ReadsS w S size A 0 [] := ⟨by simp, fun h => absurd h (by omega)⟩
end
/-- a declaration, and where its value lies -/
structure MDecl where
  d : Decl
  A : Option Addr
  c : Nat
def MDecl.cells (m : MDecl) : List Value := [.string (bytesOf m.d.name), .slice m.A m.d.value.length m.c, .bool m.d.imp]
def cellsD (ms : List MDecl) : List Value := ms.flatMap MDecl.cells
def DeclsM (w : World) (S : Nat → Prop) (ms : List MDecl) : Prop := ∀ m ∈ ms, ReadsS w S 3 m.A m.d.value.length (cellsG m.d.value)
def DeclsS (w : World) (S : Nat → Prop) (A : Option Addr) (n : Nat) (ds : List Decl) : Prop := ∃ ms : List MDecl, ms.map (·.d) = ds ∧ ReadsS w S 3 A n (cellsD ms) ∧ DeclsM w S ms
structure MMargin where
  m : Margin
  A : Option Addr
  c : Nat
def MMargin.cells (x : MMargin) : List Value := [.string (bytesOf x.m.name), .slice x.A x.m.decls.length x.c]
def cellsM (ms : List MMargin) : List Value := ms.flatMap MMargin.cells
def MarginsM (w : World) (S : Nat → Prop) (ms : List MMargin) : Prop := ∀ x ∈ ms, DeclsS w S x.A x.m.decls.length x.m.decls
def MarginsS (w : World) (S : Nat → Prop) (A : Option Addr) (n : Nat) (l : List Margin) : Prop := ∃ ms : List MMargin, ms.map (·.m) = l ∧ ReadsS w S 2 A n (cellsM ms) ∧ MarginsM w S ms
structure MRule where
  r : Rule
  A1 : Option Addr
  c1 : Nat
  A2 : Option Addr
  c2 : Nat
  A3 : Option Addr
  c3 : Nat
def MRule.cells (x : MRule) : List Value := [.int .i64 x.r.kind, .slice x.A1 x.r.prelude.length x.c1, .slice x.A2 x.r.decls.length x.c2, .slice x.A3 x.r.margins.length x.c3]
def cellsR (ms : List MRule) : List Value := ms.flatMap MRule.cells
def MRule.Reads (w : World) (S : Nat → Prop) (x : MRule) : Prop := ReadsS w S 3 x.A1 x.r.prelude.length (cellsG x.r.prelude) ∧ DeclsS w S x.A2 x.r.decls.length x.r.decls ∧ MarginsS w S x.A3 x.r.margins.length x.r.margins
def RulesM (w : World) (S : Nat → Prop) (ms : List MRule) : Prop := ∀ x ∈ ms, x.Reads w S
def RulesS (w : World) (S : Nat → Prop) (A : Option Addr) (n : Nat) (l : List Rule) : Prop := ∃ ms : List MRule, ms.map (·.r) = l ∧ ReadsS w S 4 A n (cellsR ms) ∧ RulesM w S ms
section
variable {w w' : World} {S S' : Nat → Prop} {n : Nat} {A : Option Addr}
theorem DeclsM.keep {ms : List MDecl} (h : DeclsM w S ms) (hk : Kept S w w') : DeclsM w' S ms := fun m hm => (h m hm).keep hk
theorem DeclsM.more {ms : List MDecl} (h : DeclsM w S ms) (hS : ∀ b, S b → S' b) : DeclsM w S' ms := fun m hm => (h m hm).more hS
theorem DeclsS.keep {l : List Decl} (h : DeclsS w S A n l) (hk : Kept S w w') : DeclsS w' S A n l := by
  obtain ⟨ms, h1, h2, h3⟩ := h; exact ⟨ms, h1, h2.keep hk, h3.keep hk⟩
theorem DeclsS.more {l : List Decl} (h : DeclsS w S A n l) (hS : ∀ b, S b → S' b) : DeclsS w S' A n l := by
  obtain ⟨ms, h1, h2, h3⟩ := h; exact ⟨ms, h1, h2.more hS, h3.more hS⟩
theorem MarginsM.keep {ms : List MMargin} (h : MarginsM w S ms) (hk : Kept S w w') : MarginsM w' S ms := fun m hm => (h m hm).keep hk
theorem MarginsM.more {ms : List MMargin} (h : MarginsM w S ms) (hS : ∀ b, S b → S' b) : MarginsM w S' ms := fun m hm => (h m hm).more hS
theorem MarginsS.keep {l : List Margin} (h : MarginsS w S A n l) (hk : Kept S w w') : MarginsS w' S A n l := by
  obtain ⟨ms, h1, h2, h3⟩ := h; exact ⟨ms, h1, h2.keep hk, h3.keep hk⟩
theorem MarginsS.more {l : List Margin} (h : MarginsS w S A n l) (hS : ∀ b, S b → S' b) : MarginsS w S' A n l := by
  obtain ⟨ms, h1, h2, h3⟩ := h; exact ⟨ms, h1, h2.more hS, h3.more hS⟩
theorem MRule.Reads.keep {x : MRule} (h : x.Reads w S) (hk : Kept S w w') : x.Reads w' S := ⟨h.1.keep hk, h.2.1.keep hk, h.2.2.keep hk⟩
theorem MRule.Reads.more {x : MRule} (h : x.Reads w S) (hS : ∀ b, S b → S' b) : x.Reads w S' := ⟨h.1.more hS, h.2.1.more hS, h.2.2.more hS⟩
theorem RulesM.keep {ms : List MRule} (h : RulesM w S ms) (hk : Kept S w w') : RulesM w' S ms := fun m hm => (h m hm).keep hk
theorem RulesM.more {ms : List MRule} (h : RulesM w S ms) (hS : ∀ b, S b → S' b) : RulesM w S' ms := fun m hm => (h m hm).more hS
theorem RulesS.keep {l : List Rule} (h : RulesS w S A n l) (hk : Kept S w w') : RulesS w' S A n l := by
  obtain ⟨ms, h1, h2, h3⟩ := h; exact ⟨ms, h1, h2.keep hk, h3.keep hk⟩
theorem RulesS.more {l : List Rule} (h : RulesS w S A n l) (hS : ∀ b, S b → S' b) : RulesS w S' A n l := by
  obtain ⟨ms, h1, h2, h3⟩ := h; exact ⟨ms, h1, h2.more hS, h3.more hS⟩
end
/-- rows whose elements have as many cells each -/
theorem flat_len {α : Type} {f : α → List Value} {s : Nat} (hf : ∀ x, (f x).length = s) (l : List α) : (l.flatMap f).length = l.length * s := by
  induction l with
  | nil => simp
  | cons x l ih => rw [List.flatMap_cons, List.length_append, hf, ih, List.length_cons]; rw [Nat.add_mul]; omega
theorem flat_at {α : Type} {f : α → List Value} {s : Nat} (hf : ∀ x, (f x).length = s) : ∀ (l : List α) (k j : Nat) (x : α), l[k]? = some x → j < s → (l.flatMap f)[k * s + j]? = (f x)[j]?
  | [], k, j, x, h, _ => by simp at h
  | y :: l, 0, j, x, h, hj => by
    simp at h; subst h
    rw [List.flatMap_cons, List.getElem?_append_left (by rw [hf]; omega)]; simp
  | y :: l, k + 1, j, x, h, hj => by
    rw [List.flatMap_cons, List.getElem?_append_right (by rw [hf, Nat.add_mul]; omega), hf]
    rw [show (k + 1) * s + j - s = k * s + j by rw [Nat.add_mul]; omega]
    exact flat_at hf l k j x (by simpa using h) hj
theorem MDecl.len (m : MDecl) : m.cells.length = 3 := rfl
theorem MMargin.len (m : MMargin) : m.cells.length = 2 := rfl
theorem MRule.len (m : MRule) : m.cells.length = 4 := rfl
theorem ReadsS.elem {α : Type} {f : α → List Value} {s : Nat} (hf : ∀ x, (f x).length = s) (hs : 0 < s) {w : World} {S : Nat → Prop} {A : Option Addr} {n : Nat} {l : List α} (h : ReadsS w S s A n (l.flatMap f)) :
    l.length = n ∧ (0 < n → ∃ b off, A = some ⟨b, off, none⟩ ∧ S b ∧ ∀ k x, l[k]? = some x → ∀ j u, (f x)[j]? = some u → w.cell? ⟨b, off + k * s + j, none⟩ = some u) := by
  have h1 := h.1
  rw [flat_len hf] at h1
  have h1' : l.length = n := Nat.eq_of_mul_eq_mul_right hs h1
  refine ⟨h1', fun hn => ?_⟩
  obtain ⟨b, off, hA, hb, hc⟩ := h.2 hn
  refine ⟨b, off, hA, hb, fun k x hx j u hu => ?_⟩
  have hj : j < s := by have := (List.getElem?_eq_some_iff.1 hu).1; rw [hf] at this; exact this
  rw [Nat.add_assoc]
  exact hc _ u (by rw [flat_at hf l k j x hx hj]; exact hu)
theorem DeclsS.len {w : World} {S : Nat → Prop} {A : Option Addr} {n : Nat} {l : List Decl} (h : DeclsS w S A n l) : l.length = n := by
  obtain ⟨ms, rfl, h2, h3⟩ := h; rw [List.length_map]; exact (h2.elem MDecl.len (by omega)).1
theorem MarginsS.len {w : World} {S : Nat → Prop} {A : Option Addr} {n : Nat} {l : List Margin} (h : MarginsS w S A n l) : l.length = n := by
  obtain ⟨ms, rfl, h2, h3⟩ := h; rw [List.length_map]; exact (h2.elem MMargin.len (by omega)).1
theorem RulesS.len {w : World} {S : Nat → Prop} {A : Option Addr} {n : Nat} {l : List Rule} (h : RulesS w S A n l) : l.length = n := by
  obtain ⟨ms, rfl, h2, h3⟩ := h; rw [List.length_map]; exact (h2.elem MRule.len (by omega)).1
theorem DeclsS.at_ {w : World} {S : Nat → Prop} {A : Option Addr} {n : Nat} {l : List Decl} (h : DeclsS w S A n l) {k : Nat} (hk : k < n) :
    ∃ b off A1 c1 d, A = some ⟨b, off, none⟩ ∧ S b ∧ l[k]? = some d ∧ w.cell? ⟨b, off + k * 3, none⟩ = some (.string (bytesOf d.name)) ∧ w.cell? ⟨b, off + k * 3 + 1, none⟩ = some (.slice A1 d.value.length c1) ∧ w.cell? ⟨b, off + k * 3 + 2, none⟩ = some (.bool d.imp) ∧ ReadsS w S 3 A1 d.value.length (cellsG d.value) := by
  have hl := h.len
  obtain ⟨ms, rfl, h2, h3⟩ := h
  rw [List.length_map] at hl
  obtain ⟨b, off, hA, hb, hc⟩ := (h2.elem MDecl.len (by omega)).2 (by omega)
  have hm : ms[k]? = some ms[k] := List.getElem?_eq_getElem (by omega)
  have hr := h3 ms[k] (List.getElem_mem _)
  exact ⟨b, off, ms[k].A, ms[k].c, ms[k].d, hA, hb, by simp [hm], hc k _ hm 0 _ rfl, hc k _ hm 1 _ rfl, hc k _ hm 2 _ rfl, hr⟩
theorem MarginsS.at_ {w : World} {S : Nat → Prop} {A : Option Addr} {n : Nat} {l : List Margin} (h : MarginsS w S A n l) {k : Nat} (hk : k < n) :
    ∃ b off A1 c1 m, A = some ⟨b, off, none⟩ ∧ S b ∧ l[k]? = some m ∧ w.cell? ⟨b, off + k * 2, none⟩ = some (.string (bytesOf m.name)) ∧ w.cell? ⟨b, off + k * 2 + 1, none⟩ = some (.slice A1 m.decls.length c1) ∧ DeclsS w S A1 m.decls.length m.decls := by
  have hl := h.len
  obtain ⟨ms, rfl, h2, h3⟩ := h
  rw [List.length_map] at hl
  obtain ⟨b, off, hA, hb, hc⟩ := (h2.elem MMargin.len (by omega)).2 (by omega)
  have hm : ms[k]? = some ms[k] := List.getElem?_eq_getElem (by omega)
  have hr := h3 ms[k] (List.getElem_mem _)
  exact ⟨b, off, ms[k].A, ms[k].c, ms[k].m, hA, hb, by simp [hm], hc k _ hm 0 _ rfl, hc k _ hm 1 _ rfl, hr⟩
theorem RulesS.at_ {w : World} {S : Nat → Prop} {A : Option Addr} {n : Nat} {l : List Rule} (h : RulesS w S A n l) {k : Nat} (hk : k < n) :
    ∃ b off A1 c1 A2 c2 A3 c3 r, A = some ⟨b, off, none⟩ ∧ S b ∧ l[k]? = some r ∧ w.cell? ⟨b, off + k * 4, none⟩ = some (.int .i64 r.kind) ∧ w.cell? ⟨b, off + k * 4 + 1, none⟩ = some (.slice A1 r.prelude.length c1)
      ∧ w.cell? ⟨b, off + k * 4 + 2, none⟩ = some (.slice A2 r.decls.length c2) ∧ w.cell? ⟨b, off + k * 4 + 3, none⟩ = some (.slice A3 r.margins.length c3)
      ∧ ReadsS w S 3 A1 r.prelude.length (cellsG r.prelude) ∧ DeclsS w S A2 r.decls.length r.decls ∧ MarginsS w S A3 r.margins.length r.margins := by
  have hl := h.len
  obtain ⟨ms, rfl, h2, h3⟩ := h
  rw [List.length_map] at hl
  obtain ⟨b, off, hA, hb, hc⟩ := (h2.elem MRule.len (by omega)).2 (by omega)
  have hm : ms[k]? = some ms[k] := List.getElem?_eq_getElem (by omega)
  have hr := h3 ms[k] (List.getElem_mem _)
  exact ⟨b, off, ms[k].A1, ms[k].c1, ms[k].A2, ms[k].c2, ms[k].A3, ms[k].c3, ms[k].r, hA, hb, by simp [hm], hc k _ hm 0 _ rfl, hc k _ hm 1 _ rfl, hc k _ hm 2 _ rfl, hc k _ hm 3 _ rfl, hr.1, hr.2.1, hr.2.2⟩
theorem cellsD_snoc (ms : List MDecl) (m : MDecl) : cellsD (ms ++ [m]) = cellsD ms ++ [.string (bytesOf m.d.name), .slice m.A m.d.value.length m.c, .bool m.d.imp] := by simp [cellsD, MDecl.cells]
theorem cellsM_snoc (ms : List MMargin) (m : MMargin) : cellsM (ms ++ [m]) = cellsM ms ++ [.string (bytesOf m.m.name), .slice m.A m.m.decls.length m.c] := by simp [cellsM, MMargin.cells]
theorem cellsR_snoc (ms : List MRule) (m : MRule) : cellsR (ms ++ [m]) = cellsR ms ++ [.int .i64 m.r.kind, .slice m.A1 m.r.prelude.length m.c1, .slice m.A2 m.r.decls.length m.c2, .slice m.A3 m.r.margins.length m.c3] := by simp [cellsR, MRule.cells]
theorem DeclsM.snoc {w : World} {S : Nat → Prop} {ms : List MDecl} {m : MDecl} (h : DeclsM w S ms) (hm : ReadsS w S 3 m.A m.d.value.length (cellsG m.d.value)) : DeclsM w S (ms ++ [m]) := fun x hx => by
  rcases List.mem_append.1 hx with h1 | h1
  · exact h x h1
  · rw [List.mem_singleton.1 h1]; exact hm
theorem MarginsM.snoc {w : World} {S : Nat → Prop} {ms : List MMargin} {m : MMargin} (h : MarginsM w S ms) (hm : DeclsS w S m.A m.m.decls.length m.m.decls) : MarginsM w S (ms ++ [m]) := fun x hx => by
  rcases List.mem_append.1 hx with h1 | h1
  · exact h x h1
  · rw [List.mem_singleton.1 h1]; exact hm
theorem RulesM.snoc {w : World} {S : Nat → Prop} {ms : List MRule} {m : MRule} (h : RulesM w S ms) (hm : m.Reads w S) : RulesM w S (ms ++ [m]) := fun x hx => by
  rcases List.mem_append.1 hx with h1 | h1
  · exact h x h1
  · rw [List.mem_singleton.1 h1]; exact hm
theorem cells1_len (t : GTok) : (cells1 t).length = 3 := rfl
theorem ReadsS.toks_len {w : World} {S : Nat → Prop} {A : Option Addr} {n : Nat} {l : List GTok} (h : ReadsS w S 3 A n (cellsG l)) : l.length = n := (h.elem cells1_len (by omega)).1
theorem ReadsS.tok {w : World} {S : Nat → Prop} {A : Option Addr} {n : Nat} {l : List GTok} (h : ReadsS w S 3 A n (cellsG l)) {k : Nat} (hk : k < n) :
    ∃ b off t, A = some ⟨b, off, none⟩ ∧ S b ∧ l[k]? = some t ∧ w.cell? ⟨b, off + k * 3, none⟩ = some (.int .i64 t.kind) ∧ w.cell? ⟨b, off + k * 3 + 1, none⟩ = some (.string (bytesOf t.text)) ∧ w.cell? ⟨b, off + k * 3 + 2, none⟩ = some (.int .i64 t.n) := by
  obtain ⟨hl, h2⟩ := h.elem cells1_len (by omega)
  obtain ⟨b, off, hA, hb, hc⟩ := h2 (by omega)
  have hm : l[k]? = some l[k] := List.getElem?_eq_getElem (by omega)
  exact ⟨b, off, l[k], hA, hb, hm, hc k _ hm 0 _ rfl, hc k _ hm 1 _ rfl, hc k _ hm 2 _ rfl⟩
abbrev gtokV (t : GTok) : Value := .agg #[.int .i64 t.kind, .string (bytesOf t.text), .int .i64 t.n]
theorem txt_not {l c : List UInt8} (h : l ≠ c) : ¬ (bytesOf l).toList = c ∧ ((bytesOf l).toList == c) = false := by
  rw [bytesOf_toList]; exact ⟨h, by simpa using h⟩
theorem txt_is {l c : List UInt8} (h : l = c) : (bytesOf l).toList = c ∧ ((bytesOf l).toList == c) = true := by
  rw [bytesOf_toList]; exact ⟨h, by simpa using h⟩
end Go.Proofs.YtfhdihdafmahgaaGreatDoor
/- Layer 5: the program's opens, Skip, within are walked. -/
set_option linter.unusedVariables false
set_option linter.unusedSimpArgs false
namespace Go.Proofs.YtfhdihdafmahgaaGreatDoor
open Go.RowKit Rn Tp Ru
/-- what a token's kind and text are to the brackets -/
theorem opens_cases (t : GTok) : (t.kind = 3 ∧ opensP t = [41]) ∨ (t.kind = 12 ∧ t.text = [40] ∧ opensP t = [41]) ∨ (t.kind = 12 ∧ t.text = [91] ∧ opensP t = [93]) ∨ (t.kind = 12 ∧ t.text = [123] ∧ opensP t = [125])
    ∨ (t.kind = 12 ∧ t.text ≠ [40] ∧ t.text ≠ [91] ∧ t.text ≠ [123] ∧ opensP t = []) ∨ (t.kind ≠ 3 ∧ t.kind ≠ 12 ∧ opensP t = []) := by
  obtain ⟨k, x, n⟩ := t
  unfold opensP
  simp only []
  by_cases h3 : k = 3
  · simp [h3]
  · by_cases h12 : k = 12
    · by_cases a : x = [40]
      · simp [h12, a]
      · by_cases b : x = [91]
        · simp [h12, b]
        · by_cases c : x = [123]
          · simp [h12, c]
          · simp [h12, a, b, c]
    · simp [h3, h12]
set_option maxRecDepth 100000 in
set_option maxHeartbeats 2000000 in
theorem nest_opens (t : GTok) (w : World) :
    Calls Tryz.prog 58 #[gtokV t] w fun e w' => e = .returned (.string (bytesOf (opensP t))) ∧ Below w.heap.size w w' := by
  have hc := opens_cases t
  obtain ⟨kind, text, n⟩ := t
  simp only [] at hc
  obtain ⟨wA, hwA⟩ : ∃ wA, w.alloc (.cells #[.int .i64 kind, .string (bytesOf text), .int .i64 n] 58) = wA := ⟨_, rfl⟩
  have bA : Below w.heap.size w wA := by rw [← hwA]; exact (Below.refl _ _).alloc (Nat.le_refl _) _
  have rA : RowAt wA w.heap.size [.int .i64 kind, .string (bytesOf text), .int .i64 n] := by rw [← hwA]; exact RowAt.new _ _ _
  obtain ⟨x0, _⟩ := rA.2 0 _ rfl
  obtain ⟨x1, _⟩ := rA.2 1 _ rfl
  generalize hop : opensP ⟨kind, text, n⟩ = o at *
  clear hop
  rcases hc with ⟨h3, ho⟩ | ⟨h12, ht, ho⟩ | ⟨h12, ht, ho⟩ | ⟨h12, ht, ho⟩ | ⟨h12, ht1, ht2, ht3, ho⟩ | ⟨h3, h12, ho⟩
  · subst h3 ho
    go_enter Tryz.func58, Tryz.ntmps58
    go_wp2
    go_ret
    exact ⟨rfl, bA⟩
  · obtain ⟨s1, s2⟩ := txt_is ht
    subst h12 ho
    clear ht
    go_enter Tryz.func58, Tryz.ntmps58
    go_wp2
    go_ret
    exact ⟨rfl, bA⟩
  · obtain ⟨s1, s2⟩ := txt_is ht
    obtain ⟨s3, s4⟩ := txt_not (l := text) (c := [40]) (by rw [ht]; decide)
    subst h12 ho
    clear ht
    go_enter Tryz.func58, Tryz.ntmps58
    go_wp2
    go_ret
    exact ⟨rfl, bA⟩
  · obtain ⟨s1, s2⟩ := txt_is ht
    obtain ⟨s3, s4⟩ := txt_not (l := text) (c := [40]) (by rw [ht]; decide)
    obtain ⟨s5, s6⟩ := txt_not (l := text) (c := [91]) (by rw [ht]; decide)
    subst h12 ho
    clear ht
    go_enter Tryz.func58, Tryz.ntmps58
    go_wp2
    go_ret
    exact ⟨rfl, bA⟩
  · obtain ⟨s1, s2⟩ := txt_not ht1
    obtain ⟨s3, s4⟩ := txt_not ht2
    obtain ⟨s5, s6⟩ := txt_not ht3
    subst h12 ho
    clear ht1 ht2 ht3
    go_enter Tryz.func58, Tryz.ntmps58
    go_wp2
    go_ret
    exact ⟨rfl, bA⟩
  · have k3 : (kind == 3) = false := by simp [h3]
    have k12 : (kind == 12) = false := by simp [h12]
    subst ho
    clear h3 h12
    go_enter Tryz.func58, Tryz.ntmps58
    go_wp2
    go_ret
    exact ⟨rfl, bA⟩
end Go.Proofs.YtfhdihdafmahgaaGreatDoor
/- Layer 5: brackets that are closed within a part of tokens: where they end, wherever the part stands. -/
set_option linter.unusedVariables false
set_option linter.unusedSimpArgs false
namespace Go.Proofs.YtfhdihdafmahgaaGreatDoor
open Go.RowKit Rn Tp Ru
/-- a part stands at a place -/
def Lies (L : List GTok) (p : Nat) (m : List GTok) : Prop := ∃ pre post, L = pre ++ (m ++ post) ∧ pre.length = p
/-- each closing of a part closes something of it -/
def Nst (m : List GTok) : Prop := ∀ j t, m[j]? = some t → t.kind = 13 → ∃ k r, stackP m j = k :: r ∧ m[k]?.map opensP = some t.text
def Full (m : List GTok) : Prop := Nst m ∧ stackP m m.length = []
theorem Lies.le {L m : List GTok} {p : Nat} (h : Lies L p m) : p + m.length ≤ L.length := by
  obtain ⟨pre, post, rfl, rfl⟩ := h; simp
theorem Lies.get {L m : List GTok} {p : Nat} (h : Lies L p m) {j : Nat} (hj : j < m.length) : L[p + j]? = m[j]? := by
  obtain ⟨pre, post, rfl, rfl⟩ := h
  rw [List.getElem?_append_right (by omega), Nat.add_sub_cancel_left, List.getElem?_append_left hj]
theorem Lies.left {L a b : List GTok} {p : Nat} (h : Lies L p (a ++ b)) : Lies L p a := by
  obtain ⟨pre, post, rfl, rfl⟩ := h
  exact ⟨pre, b ++ post, by simp, rfl⟩
theorem Lies.right {L a b : List GTok} {p : Nat} (h : Lies L p (a ++ b)) : Lies L (p + a.length) b := by
  obtain ⟨pre, post, rfl, rfl⟩ := h
  exact ⟨pre ++ a, post, by simp, by simp⟩
theorem Lies.self (L : List GTok) : Lies L 0 L := ⟨[], [], by simp, rfl⟩
theorem Lies.seg {L m : List GTok} {p : Nat} (h : Lies L p m) : segP L p (p + m.length) = m := by
  obtain ⟨pre, post, rfl, rfl⟩ := h
  unfold segP
  rw [← List.append_assoc, show pre.length + m.length = (pre ++ m).length by simp, List.take_left', List.drop_left']
  · rfl
  · rfl
theorem stack_at {L m : List GTok} {p : Nat} (h : Lies L p m) (hn : Nst m ∨ stackP L p = []) : ∀ j, j ≤ m.length → stackP L (p + j) = (stackP m j).map (· + p) ++ stackP L p
  | 0, _ => by simp [stackP]
  | j + 1, hj => by
    have ih := stack_at h hn j (by omega)
    have hg := h.get (j := j) (by omega)
    have ht : m[j]? = some m[j] := List.getElem?_eq_getElem (by omega)
    rw [← Nat.add_assoc, stack_succ, stack_succ, ih]
    unfold stepP
    rw [hg, ht]
    simp only []
    split
    · simp [Nat.add_comm]
    · have hlt := stack_lt m j
      cases hS : stackP m j with
      | nil =>
        simp only [List.map_nil, List.nil_append]
        cases hs : stackP L p with
        | nil => rfl
        | cons k r =>
          simp only []
          rw [if_neg]
          rintro ⟨hk, -⟩
          rcases hn with hn | hn
          · obtain ⟨k', r', e, _⟩ := hn j m[j] ht hk
            rw [hS] at e; cases e
          · rw [hn] at hs; cases hs
      | cons k r =>
        have hk : k < j := hlt k (by rw [hS]; simp)
        have hgk := h.get (j := k) (by omega)
        simp only [List.map_cons, List.cons_append]
        rw [show k + p = p + k by omega, hgk]
        split
        · rfl
        · simp [Nat.add_comm]
theorem close_eq (l : List GTok) (k : Nat) : ∀ f j c, j + f = l.length → j ≤ c → c ≤ l.length → (∀ i, j ≤ i → i < c → k ∈ stackP l (i + 1)) → (c < l.length → k ∉ stackP l (c + 1)) → closeP l k f j = c
  | 0, j, c, h, h1, h2, _, _ => by unfold closeP; omega
  | f + 1, j, c, h, h1, h2, h3, h4 => by
    unfold closeP
    by_cases e : j = c
    · subst e; rw [if_pos (h4 (by omega))]
    · rw [if_neg (by intro hn; exact hn (h3 j (Nat.le_refl _) (by omega)))]
      exact close_eq l k f (j + 1) c (by omega) (by omega) h2 (fun i hi hc => h3 i (by omega) hc) h4
theorem close_spec (l : List GTok) (k : Nat) : ∀ f j, j + f = l.length → (∀ i, j ≤ i → i < closeP l k f j → k ∈ stackP l (i + 1)) ∧ (closeP l k f j < l.length → k ∉ stackP l (closeP l k f j + 1))
  | 0, j, h => by unfold closeP; exact ⟨fun i hi hc => by omega, fun h => absurd h (Nat.lt_irrefl _)⟩
  | f + 1, j, h => by
    unfold closeP
    split
    · rename_i hn; exact ⟨fun i hi hc => by omega, fun _ => hn⟩
    · rename_i hn
      obtain ⟨h1, h2⟩ := close_spec l k f (j + 1) (by omega)
      refine ⟨fun i hi hc => ?_, h2⟩
      by_cases e : i = j
      · subst e; exact Classical.not_not.1 hn
      · exact h1 i (by omega) hc
theorem end_eq {l : List GTok} {k c : Nat} {t : GTok} (ht : l[k]? = some t) (ho : opensP t ≠ []) (h1 : k < c) (h2 : c ≤ l.length) (h3 : ∀ i, k < i → i < c → k ∈ stackP l (i + 1)) (h4 : c < l.length → k ∉ stackP l (c + 1)) : endP l k = (c : Int) := by
  have hk : k < l.length := (List.getElem?_eq_some_iff.1 ht).1
  unfold endP; rw [ht]; simp only [if_neg ho]
  rw [close_eq l k (l.length - (k + 1)) (k + 1) c (by omega) (by omega) h2 (fun i hi => h3 i (by omega)) h4]
theorem end_spec {l : List GTok} {k c : Nat} (h : endP l k = (c : Int)) : (∃ t, l[k]? = some t ∧ opensP t ≠ []) ∧ (∀ i, k < i → i < c → k ∈ stackP l (i + 1)) ∧ (c < l.length → k ∉ stackP l (c + 1)) := by
  unfold endP at h
  split at h
  · omega
  · rename_i t ht
    have hk : k < l.length := (List.getElem?_eq_some_iff.1 ht).1
    split at h
    · omega
    · rename_i ho
      obtain ⟨h1, h2⟩ := close_spec l k (l.length - (k + 1)) (k + 1) (by omega)
      have hc : closeP l k (l.length - (k + 1)) (k + 1) = c := by exact_mod_cast h
      rw [hc] at h1 h2
      exact ⟨⟨t, ht, ho⟩, fun i hi => h1 i (by omega), h2⟩
theorem mem_up {S st : List Nat} {p i : Nat} (h : ∀ x ∈ st, x < p) : p + i ∈ S.map (· + p) ++ st ↔ i ∈ S := by
  simp only [List.mem_append, List.mem_map]
  constructor
  · rintro (⟨x, hx, e⟩ | hx)
    · have : x = i := by omega
      rw [← this]; exact hx
    · exact absurd (h _ hx) (by omega)
  · intro hi; exact .inl ⟨i, hi, by omega⟩
theorem end_at {L m : List GTok} {p : Nat} (h : Lies L p m) (hn : Nst m ∨ stackP L p = []) {i : Nat} (hi : i < m.length) (hc : endP m i < (m.length : Int) ∨ p + m.length = L.length) : endP L (p + i) = if endP m i = -1 then -1 else endP m i + p := by
  have hg := h.get hi
  rcases end_cases m i with e | ⟨c, e, h1, h2⟩
  · rw [if_pos e]
    refine end_else fun t ht => ?_
    rw [hg] at ht
    unfold endP at e
    rw [ht] at e
    simp only [] at e
    split at e
    · assumption
    · exact absurd e (by omega)
  · rw [if_neg (by omega), e]
    obtain ⟨⟨t, ht, ho⟩, h3, h4⟩ := end_spec e
    have hs := stack_at h hn
    have hl := h.le
    have hst := stack_lt L p
    have := end_eq (l := L) (k := p + i) (c := p + c) (t := t) (by rw [hg, ht]) ho (by omega) (by omega) (fun x hx hxc => by
      have h5 := h3 (x - p) (by omega) (by omega)
      have h6 := hs (x - p + 1) (by omega)
      rw [show p + (x - p + 1) = x + 1 by omega] at h6
      rw [h6, mem_up hst]; exact h5) (fun hlt => by
      have hcm : c < m.length := by
        rcases hc with hc | hc
        · rw [e] at hc; omega
        · omega
      have h6 := hs (c + 1) (by omega)
      rw [show p + (c + 1) = p + c + 1 by omega] at h6
      rw [h6, mem_up hst]; exact h4 hcm)
    rw [this]; omega
theorem skip_at {L m : List GTok} {p : Nat} (h : Lies L p m) (hn : Nst m ∨ stackP L p = []) {i : Nat} (hi : i < m.length) (hc : endP m i < (m.length : Int) ∨ p + m.length = L.length) : skipP L (p + i) = p + skipP m i := by
  have he := end_at h hn hi hc
  have hl := h.le
  unfold skipP
  rcases end_cases m i with e | ⟨c, e, h1, h2⟩
  · rw [he, e, if_pos rfl, if_neg (by omega), if_neg (by omega)]; omega
  · rw [e, if_neg (show ¬ (c : Int) = -1 by omega)] at he
    rw [he, e, if_pos (by omega), if_pos (by omega)]
    rw [e] at hc
    rcases hc with hc | hc <;> omega
/-- all brackets of a part are closed within it -/
theorem full_end {m : List GTok} (h : stackP m m.length = []) {i : Nat} (hi : i < m.length) : endP m i < (m.length : Int) := by
  rcases end_cases m i with e | ⟨c, e, h1, h2⟩
  · omega
  · obtain ⟨_, h3, _⟩ := end_spec e
    rcases Nat.lt_or_ge c m.length with h4 | h4
    · omega
    · have hc : c = m.length := by omega
      subst hc
      rcases Nat.lt_or_ge (i + 1) m.length with h5 | h5
      · have := h3 (m.length - 1) (by omega) (by omega)
        rw [show m.length - 1 + 1 = m.length by omega, h] at this
        cases this
      · exfalso
        obtain ⟨t, ht, ho⟩ := (end_spec e).1
        have hs := stack_succ m i
        rw [show i + 1 = m.length by omega, h] at hs
        unfold stepP at hs
        rw [ht] at hs
        simp only [if_pos ho] at hs
        cases hs
theorem skip_full {m : List GTok} (h : stackP m m.length = []) {i : Nat} (hi : i < m.length) : skipP m i ≤ m.length := skip_le hi
theorem find_at {L m : List GTok} {p z : Nat} (is : GTok → Bool) (h : Lies L p m) (hf : Full m) (hto : p + m.length ≤ z) (htl : z ≤ L.length) : ∀ n i, m.length - i ≤ n → i ≤ m.length → findP L is (p + i) z = if findP m is i m.length < m.length then p + findP m is i m.length else findP L is (p + m.length) z
  | 0, i, hn, hi => by
    have : i = m.length := by omega
    subst this
    rw [find_end (Nat.le_refl _), if_neg (Nat.lt_irrefl _)]
  | n + 1, i, hn, hi => by
    by_cases hlt : i < m.length
    · have hg := h.get hlt
      have ht : m[i]? = some m[i] := List.getElem?_eq_getElem hlt
      rw [ht] at hg
      cases hb : is m[i] with
      | true =>
        rw [find_hit (by omega) hg hb, find_hit hlt ht hb, if_pos hlt]
      | false =>
        rw [find_miss htl (by omega) hg hb, find_miss (Nat.le_refl _) hlt ht hb, skip_at h (.inl hf.1) hlt (.inl (full_end hf.2 hlt))]
        have h1 := skip_gt hlt
        have h2 := skip_le hlt
        exact find_at is h hf hto htl n (skipP m i) (by omega) h2
    · have : i = m.length := by omega
      subst this
      rw [find_end (Nat.le_refl _), if_neg (Nat.lt_irrefl _)]
/-- a part in which nothing is found is gone over -/
theorem find_over {L m : List GTok} {p z : Nat} {is : GTok → Bool} (h : Lies L p m) (hf : Full m) (hto : p + m.length ≤ z) (htl : z ≤ L.length) (hn : findP m is 0 m.length = m.length) : findP L is p z = findP L is (p + m.length) z := by
  have := find_at is h hf hto htl m.length 0 (by omega) (by omega)
  rw [hn, if_neg (Nat.lt_irrefl _), Nat.add_zero] at this
  exact this
theorem skip_plain {L : List GTok} {k : Nat} {t : GTok} (ht : L[k]? = some t) (h : opensP t = []) : skipP L k = k + 1 := by
  unfold skipP
  rw [end_else (fun u hu => by rw [ht] at hu; injection hu with hu; rw [← hu]; exact h), if_neg (by omega)]
/-- a token that is not sought, and no opening -/
theorem find_next {L : List GTok} {k z : Nat} {t : GTok} {is : GTok → Bool} (htl : z ≤ L.length) (hk : k < z) (ht : L[k]? = some t) (h : opensP t = []) (hb : is t = false) : findP L is k z = findP L is (k + 1) z := by
  rw [find_miss htl hk ht hb, skip_plain ht h]
/-- the parts of what is closed -/
theorem Full.nil : Full [] := ⟨fun j t h => by simp at h, rfl⟩
theorem stack_app_left (a b : List GTok) : ∀ j, j ≤ a.length → stackP (a ++ b) j = stackP a j
  | 0, _ => rfl
  | j + 1, hj => by
    rw [stack_succ, stack_succ, stack_app_left a b j (by omega)]
    unfold stepP
    rw [List.getElem?_append_left (by omega)]
    have ht : a[j]? = some a[j] := List.getElem?_eq_getElem (by omega)
    rw [ht]
    simp only []
    split
    · rfl
    · have hlt := stack_lt a j
      cases hS : stackP a j with
      | nil => rfl
      | cons k r =>
        have hk : k < j := hlt k (by rw [hS]; simp)
        simp only []
        rw [List.getElem?_append_left (by omega)]
theorem Lies.app (a b : List GTok) : Lies (a ++ b) a.length b := ⟨a, [], by simp, rfl⟩
theorem Full.app {a b : List GTok} (ha : Full a) (hb : Full b) : Full (a ++ b) := by
  have hs : stackP (a ++ b) a.length = [] := by rw [stack_app_left a b _ (Nat.le_refl _)]; exact ha.2
  have hst := stack_at (Lies.app a b) (.inr hs)
  refine ⟨fun j t ht hk => ?_, ?_⟩
  · rcases Nat.lt_or_ge j a.length with hj | hj
    · rw [List.getElem?_append_left hj] at ht
      obtain ⟨k, r, e, e2⟩ := ha.1 j t ht hk
      have hkj := stack_lt a j k (by rw [e]; simp)
      exact ⟨k, r, by rw [stack_app_left a b j (by omega), e], by rw [List.getElem?_append_left (by omega)]; exact e2⟩
    · rw [List.getElem?_append_right hj] at ht
      have hjb : j - a.length < b.length := (List.getElem?_eq_some_iff.1 ht).1
      obtain ⟨k, r, e, e2⟩ := hb.1 _ t ht hk
      have hkj := stack_lt b _ k (by rw [e]; simp)
      have h1 := hst (j - a.length) (by omega)
      rw [show a.length + (j - a.length) = j by omega, e, hs] at h1
      refine ⟨k + a.length, r.map (· + a.length), by rw [h1]; simp, ?_⟩
      rw [List.getElem?_append_right (by omega), show k + a.length - a.length = k by omega]; exact e2
  · have h1 := hst b.length (Nat.le_refl _)
    rw [hb.2, hs] at h1
    rw [List.length_append, h1]; rfl
theorem Full.one {t : GTok} (h : opensP t = []) (h13 : t.kind ≠ 13) : Full [t] := by
  refine ⟨fun j u hu hk => ?_, ?_⟩
  · cases j with
    | zero => simp at hu; subst hu; exact absurd hk h13
    | succ j => simp at hu
  · show stackP [t] 1 = []
    rw [stack_succ]; unfold stepP; simp [stackP, h]
theorem Full.flat {α : Type} {f : α → List GTok} : ∀ {l : List α}, (∀ x ∈ l, Full (f x)) → Full (l.flatMap f)
  | [], _ => Full.nil
  | x :: l, h => by
    rw [List.flatMap_cons]
    exact (h x (by simp)).app (Full.flat (fun y hy => h y (by simp [hy])))
/-- in brackets -/
theorem wrap_stack {o c : GTok} {m : List GTok} {L : List GTok} {p : Nat} (ho : opensP o ≠ []) (hc13 : c.kind = 13) (hoc : opensP o = c.text) (hm : Full m) (h : Lies L p ([o] ++ (m ++ [c]))) :
    (∀ j, j ≤ m.length → stackP L (p + 1 + j) = (stackP m j).map (· + (p + 1)) ++ p :: stackP L p) ∧ stackP L (p + 1 + m.length + 1) = stackP L p := by
  have h1 : L[p]? = some o := by have := h.left.get (j := 0) (by simp); simpa using this
  have h2 : Lies L (p + 1) m := h.right.left
  have h3 : L[p + 1 + m.length]? = some c := by have := h.right.right.get (j := 0) (by simp); simpa [Nat.add_assoc] using this
  have hs1 : stackP L (p + 1) = p :: stackP L p := by
    rw [stack_succ]; unfold stepP; rw [h1]; simp only [if_pos ho]
  have hall := stack_at h2 (.inl hm.1)
  rw [hs1] at hall
  refine ⟨hall, ?_⟩
  have h4 := hall m.length (Nat.le_refl _)
  rw [hm.2] at h4
  rw [stack_succ, h4]
  unfold stepP
  rw [h3]
  have hcn : ¬ opensP c ≠ [] := by unfold opensP; simp [hc13]
  simp only [if_neg hcn, List.map_nil, List.nil_append]
  rw [if_pos ⟨hc13, by rw [h1]; simp [hoc]⟩]
theorem wrap_end {o c : GTok} {m : List GTok} {L : List GTok} {p : Nat} (ho : opensP o ≠ []) (hc13 : c.kind = 13) (hoc : opensP o = c.text) (hm : Full m) (h : Lies L p ([o] ++ (m ++ [c]))) : endP L p = ((p + 1 + m.length : Nat) : Int) := by
  obtain ⟨h1, h2⟩ := wrap_stack ho hc13 hoc hm h
  have hg : L[p]? = some o := by have := h.left.get (j := 0) (by simp); simpa using this
  have hl := h.le
  simp at hl
  refine end_eq hg ho (by omega) (by omega) (fun i hi hc => ?_) (fun _ => ?_)
  · have h3 := h1 (i - p) (by omega)
    rw [show p + 1 + (i - p) = i + 1 by omega] at h3
    rw [h3]; simp
  · rw [h2]; intro hp; exact absurd (stack_lt L p p hp) (Nat.lt_irrefl _)
theorem Full.wrap {o c : GTok} {m : List GTok} (ho : opensP o ≠ []) (ho13 : o.kind ≠ 13) (hc13 : c.kind = 13) (hoc : opensP o = c.text) (hm : Full m) : Full ([o] ++ (m ++ [c])) := by
  obtain ⟨h1, h2⟩ := wrap_stack ho hc13 hoc hm (Lies.self _)
  simp only [Nat.zero_add] at h1 h2
  refine ⟨fun j t ht hk => ?_, ?_⟩
  · cases j with
    | zero => simp at ht; subst ht; exact absurd hk ho13
    | succ j =>
      rcases Nat.lt_or_ge j m.length with hj | hj
      · have ht' : m[j]? = some t := by
          rw [List.getElem?_append_right (by simp)] at ht
          simp only [List.length_singleton, Nat.add_sub_cancel] at ht
          rwa [List.getElem?_append_left hj] at ht
        obtain ⟨k, r, e, e2⟩ := hm.1 j t ht' hk
        have hkj := stack_lt m j k (by rw [e]; simp)
        have h3 := h1 j (by omega)
        rw [show 1 + j = j + 1 by omega, e] at h3
        refine ⟨k + 1, _, by rw [h3]; rfl, ?_⟩
        rw [List.getElem?_append_right (by simp)]
        simp only [List.length_singleton, Nat.add_sub_cancel]
        rw [List.getElem?_append_left (by omega)]; exact e2
      · have h3 := h1 m.length (Nat.le_refl _)
        rw [hm.2] at h3
        have hj' : j = m.length := by
          have := (List.getElem?_eq_some_iff.1 ht).1
          simp at this; omega
        subst hj'
        have htc : t = c := by
          rw [List.getElem?_append_right (by simp)] at ht
          simp only [List.length_singleton, Nat.add_sub_cancel] at ht
          rw [List.getElem?_append_right (Nat.le_refl _)] at ht
          simp at ht; exact ht.symm
        subst htc
        refine ⟨0, _, by rw [show m.length + 1 = 1 + m.length by omega, h3]; rfl, by simp [hoc]⟩
  · rw [show ([o] ++ (m ++ [c])).length = 1 + m.length + 1 by simp; omega, h2]; rfl
theorem stack_open (l : List GTok) : ∀ j, ∀ k ∈ stackP l j, ∃ t, l[k]? = some t ∧ opensP t ≠ []
  | 0, k, h => by cases h
  | j + 1, k, h => by
    have ih := stack_open l j
    rw [stack_succ] at h
    unfold stepP at h
    split at h
    · exact ih k h
    · rename_i t ht
      split at h
      · rename_i ho
        rcases List.mem_cons.1 h with rfl | h
        · exact ⟨t, ht, ho⟩
        · exact ih k h
      · split at h
        · cases h
        · rename_i heq
          split at h
          · exact ih k (by rw [heq]; exact List.mem_cons_of_mem _ h)
          · exact ih k (by rw [heq]; first | exact h | (rw [← heq]; exact h))
theorem gone_on (l : List GTok) {k j : Nat} (h : k ∉ stackP l j) (hk : k < j) : ∀ d, k ∉ stackP l (j + d)
  | 0 => h
  | d + 1 => stack_gone l (j := j + d) (gone_on l h hk d) (by omega)
theorem sound_full {v : List GTok} (h : soundP v = true) : Full v := by
  unfold soundP at h
  simp only [Bool.and_eq_true] at h
  obtain ⟨⟨⟨_, _⟩, ho⟩, hs⟩ := h
  unfold openB at ho
  rw [List.all_eq_true] at ho hs
  refine ⟨fun j t ht hk => ?_, ?_⟩
  · have hj : j < v.length := (List.getElem?_eq_some_iff.1 ht).1
    have h1 := hs j (List.mem_range.2 hj)
    unfold soundAt at h1
    rw [ht] at h1
    simp only [Bool.and_eq_true, Bool.not_eq_true', hk, decide_true, Bool.true_and, Bool.not_eq_false'] at h1
    have hc : closedB v j = true := by
      cases hcc : closedB v j with
      | true => rfl
      | false => rw [hcc] at h1; simp at h1
    unfold closedB at hc
    obtain ⟨i, hi, hie⟩ := of_decide_eq_true hc
    obtain ⟨⟨u, hu, huo⟩, h3, h4⟩ := end_spec hie
    have h5 := h4 hj
    have hij : i < j := by
      rcases end_cases v i with e | ⟨c, e, e1, e2⟩
      · omega
      · omega
    have h6 : i ∈ stackP v j := by
      rcases Nat.lt_or_ge (i + 1) j with h7 | h7
      · have := h3 (j - 1) (by omega) (by omega)
        rwa [show j - 1 + 1 = j by omega] at this
      · rw [show j = i + 1 by omega, stack_succ]; unfold stepP; rw [hu]; simp only [if_pos huo]; simp
    have hto : ¬ opensP t ≠ [] := by unfold opensP; simp [hk]
    rw [stack_succ] at h5
    unfold stepP at h5
    rw [ht] at h5
    simp only [if_neg hto] at h5
    cases hS : stackP v j with
    | nil => rw [hS] at h6; cases h6
    | cons k r =>
      rw [hS] at h5
      simp only [] at h5
      split at h5
      · rename_i hcond; exact ⟨k, r, rfl, hcond.2⟩
      · exact absurd (by rw [← hS]; exact h6) h5
  · cases hS : stackP v v.length with
    | nil => rfl
    | cons k r =>
      exfalso
      have hk : k ∈ stackP v v.length := by rw [hS]; simp
      have hlt := stack_lt v v.length k hk
      obtain ⟨t, ht, hto⟩ := stack_open v v.length k hk
      obtain ⟨c, e, h1, h2⟩ := end_open ht hto
      have h3 := ho k (List.mem_range.2 hlt)
      have h4 : endP v k ≠ (v.length : Int) := of_decide_eq_true h3
      have h5 := (end_spec e).2.2 (by omega)
      have := gone_on v h5 (by omega) (v.length - (c + 1))
      rw [show c + 1 + (v.length - (c + 1)) = v.length by omega] at this
      exact this hk
end Go.Proofs.YtfhdihdafmahgaaGreatDoor
/- Layer 6: rules as tokens are parsed as they were. -/
set_option linter.unusedVariables false
set_option linter.unusedSimpArgs false
namespace Go.Proofs.YtfhdihdafmahgaaGreatDoor
open Go.RowKit Rn Tp Ru
namespace Ru
def impT : List GTok := [⟨11, [33], 0⟩, ⟨2, importantS, 0⟩]
def openT : GTok := ⟨12, [123], 0⟩
def shutT : GTok := ⟨13, [125], 0⟩
def semiT : GTok := ⟨15, [], 0⟩
/-- a declaration as tokens -/
def declT (d : Decl) : List GTok := [⟨2, d.name, 0⟩, ⟨14, [], 0⟩] ++ (d.value ++ ((if d.imp = true then impT else []) ++ [semiT]))
def marginT (m : Margin) : List GTok := [⟨4, m.name, 0⟩] ++ ([openT] ++ (m.decls.flatMap declT ++ [shutT]))
def innerT (r : Rule) : List GTok := r.decls.flatMap declT ++ r.margins.flatMap marginT
def headT (r : Rule) : List GTok := if r.kind = 2 then [⟨4, pageS, 0⟩, ⟨1, [], 0⟩] else []
def ruleT (r : Rule) : List GTok := headT r ++ (r.prelude ++ ([openT] ++ (innerT r ++ [shutT])))
def tokensP (l : List Rule) : List GTok := l.flatMap ruleT
/-- no Space at the ends, and none of which something holds outside of brackets -/
def trimmedB (l : List GTok) (is : GTok → Bool) : Bool := decide ((trimL l).length = l.length) && deepB l && decide (findP l is 0 l.length = l.length) && soundP l
def declB (d : Decl) : Bool := rightB [⟨2, d.name, 0⟩] && decide (lowerP d.name = d.name) && trimmedB d.value semiB && !((importantP d.value).isSome && !d.imp)
def marginB (m : Margin) : Bool := decide (m.name ∈ boxes) && m.decls.all declB
def ruleB (r : Rule) : Bool :=
  trimmedB r.prelude (if r.kind = 2 then eitherB else braceB) && r.decls.all declB && !(decide (r.kind = 1) && ((match r.prelude with | t :: _ => decide (t.kind = 4) | [] => false) || decide (0 < r.margins.length)))
  && r.margins.all marginB && (decide (r.kind = 1) || decide (r.kind = 2))
/-- may rules be? -/
def rulesB (l : List Rule) : Bool := l.all ruleB && decide (l.length ≤ 1024) && deepB (tokensP l) && rightB (tokensP l) && decide ((printL (tokensP l)).length ≤ 65536)
end Ru
theorem dropS_len (l : List GTok) : (dropS l).length ≤ l.length := (List.dropWhile_suffix _).length_le
theorem dropS_id {l : List GTok} (h : ∀ t ∈ l.head?, t.kind ≠ 1) : dropS l = l := by
  unfold dropS
  cases l with
  | nil => rfl
  | cons t l => rw [List.dropWhile_cons_of_neg]; have := h t (by simp); simp [isSp, this]
theorem trimL_id {l : List GTok} (h : ∀ t ∈ l.head?, t.kind ≠ 1) (h2 : ∀ t ∈ l.getLast?, t.kind ≠ 1) : trimL l = l := by
  unfold trimL rtrim
  rw [dropS_id h, dropS_id (by rw [List.head?_reverse]; exact h2), List.reverse_reverse]
theorem dropS_full {l : List GTok} (h : (dropS l).length = l.length) : dropS l = l := (List.dropWhile_suffix _).eq_of_length h
theorem dropS_head {l : List GTok} (h : dropS l = l) : ∀ t ∈ l.head?, t.kind ≠ 1 := by
  intro t ht hk
  cases l with
  | nil => cases ht
  | cons u l =>
    simp at ht; subst ht
    unfold dropS at h
    rw [List.dropWhile_cons_of_pos (by simp [isSp, hk])] at h
    have := (List.dropWhile_suffix (p := isSp) (l := l)).length_le
    rw [h] at this
    simp at this
    omega
/-- what has no Space at its ends -/
theorem trim_ends {l : List GTok} (h : (trimL l).length = l.length) : (∀ t ∈ l.head?, t.kind ≠ 1) ∧ ∀ t ∈ l.getLast?, t.kind ≠ 1 := by
  unfold trimL rtrim at h
  rw [List.length_reverse] at h
  have h1 := dropS_len (dropS l).reverse
  have h2 := dropS_len l
  rw [List.length_reverse] at h1
  have e1 : dropS l = l := dropS_full (by omega)
  rw [e1] at h
  have e2 : dropS l.reverse = l.reverse := dropS_full (by rw [List.length_reverse]; exact h)
  refine ⟨dropS_head e1, ?_⟩
  have := dropS_head e2
  rwa [List.head?_reverse] at this
theorem opens_of {t : GTok} (h3 : t.kind ≠ 3) (h12 : t.kind ≠ 12) : opensP t = [] := by unfold opensP; simp [h3, h12]
theorem Full.imp (b : Bool) : Full (if b = true then impT else []) := by
  split
  · exact (Full.one (t := ⟨11, [33], 0⟩) (opens_of (by simp) (by simp)) (by simp)).app (Full.one (t := ⟨2, importantS, 0⟩) (opens_of (by simp) (by simp)) (by simp))
  · exact Full.nil
theorem trimmed_parts {l : List GTok} {is : GTok → Bool} (h : trimmedB l is = true) : ((∀ t ∈ l.head?, t.kind ≠ 1) ∧ ∀ t ∈ l.getLast?, t.kind ≠ 1) ∧ findP l is 0 l.length = l.length ∧ soundP l = true := by
  unfold trimmedB at h
  simp only [Bool.and_eq_true, decide_eq_true_eq] at h
  exact ⟨trim_ends h.1.1.1, h.1.2, h.2⟩
theorem decl_parts {d : Decl} (h : declB d = true) : lowerP d.name = d.name ∧ trimmedB d.value semiB = true ∧ ((importantP d.value).isSome = true → d.imp = true) := by
  unfold declB at h
  simp only [Bool.and_eq_true, decide_eq_true_eq, Bool.not_eq_true'] at h
  refine ⟨h.1.1.2, h.1.2, fun hi => ?_⟩
  have h2 := h.2
  rw [hi] at h2
  simpa using h2
theorem Full.decl {d : Decl} (h : declB d = true) : Full (declT d) := by
  have hv := sound_full (trimmed_parts (decl_parts h).2.1).2.2
  unfold declT
  exact (((Full.one (t := ⟨2, d.name, 0⟩) (opens_of (by simp) (by simp)) (by simp)).app (Full.one (t := ⟨14, [], 0⟩) (opens_of (by simp) (by simp)) (by simp))) : Full [⟨2, d.name, 0⟩, ⟨14, [], 0⟩]).app (hv.app ((Full.imp _).app (Full.one (t := semiT) (opens_of (by decide) (by decide)) (by decide))))
theorem Full.margin {m : Margin} (h : m.decls.all declB = true) : Full (marginT m) := by
  rw [List.all_eq_true] at h
  unfold marginT
  exact (Full.one (t := ⟨4, m.name, 0⟩) (opens_of (by simp) (by simp)) (by simp)).app (Full.wrap (by decide) (by decide) rfl rfl (Full.flat fun d hd => Full.decl (h d hd)))
theorem imp_first (b : Bool) : ∀ t ∈ ((if b = true then impT else []) : List GTok).head?, t.kind ≠ 1 := by
  cases b
  · intro t h; cases h
  · intro t h; simp [impT] at h; subst h; decide
theorem imp_last (b : Bool) : ∀ t ∈ ((if b = true then impT else []) : List GTok).getLast?, t.kind ≠ 1 := by
  cases b
  · intro t h; cases h
  · intro t h; simp [impT] at h; subst h; decide
theorem trim_value {v : List GTok} (b : Bool) (h : (∀ t ∈ v.head?, t.kind ≠ 1) ∧ ∀ t ∈ v.getLast?, t.kind ≠ 1) : trimL (v ++ if b = true then impT else []) = v ++ if b = true then impT else [] := by
  apply trimL_id
  · cases v with
    | nil => exact imp_first b
    | cons t v => intro u hu; simp at hu; subst hu; exact h.1 _ (by simp)
  · cases b with
    | false => simpa using h.2
    | true => intro u hu; simp [impT] at hu; subst hu; decide
theorem low_important : lowerP importantS = importantS := by decide
/-- a declaration's tokens are read as it -/
theorem decl_read {d : Decl} (h : declB d = true) : declP ([⟨2, d.name, 0⟩, ⟨14, [], 0⟩] ++ (d.value ++ if d.imp = true then impT else [])) = some d := by
  obtain ⟨hl, ht, hi⟩ := decl_parts h
  obtain ⟨he, _, hs⟩ := trimmed_parts ht
  have h14 : dropS (⟨14, [], 0⟩ :: (d.value ++ if d.imp = true then impT else [])) = ⟨14, [], 0⟩ :: (d.value ++ if d.imp = true then impT else []) := dropS_id (by intro t h; simp at h; subst h; decide)
  show declP (⟨2, d.name, 0⟩ :: ⟨14, [], 0⟩ :: (d.value ++ if d.imp = true then impT else [])) = some d
  unfold declP
  simp only [if_true]
  rw [h14]
  simp only [if_true]
  rw [trim_value d.imp he]
  obtain ⟨name, value, imp⟩ := d
  simp only [] at *
  cases imp with
  | true =>
    have h33 : dropS (⟨11, [33], 0⟩ :: value.reverse) = ⟨11, [33], 0⟩ :: value.reverse := dropS_id (by intro t h; simp at h; subst h; decide)
    have hvr : dropS value.reverse = value.reverse := dropS_id (by rw [List.head?_reverse]; exact he.2)
    have hip : importantP (value ++ impT) = some value := by
      unfold importantP
      rw [List.reverse_append]
      simp only [impT, List.reverse_cons, List.reverse_nil, List.nil_append, List.cons_append]
      rw [if_pos (by simp [namedB, low_important]), h33]
      simp [hvr]
    simp only [if_true, hip, hs, hl]
  | false =>
    have hip : importantP value = none := by
      cases hh : importantP value with
      | none => rfl
      | some x => have := hi (by rw [hh]; rfl); cases this
    simp only [Bool.false_eq_true, if_false, List.append_nil, hip, hs, hl, if_true]
theorem declT_len (d : Decl) : (declT d).length = 2 + d.value.length + (if d.imp = true then impT else []).length + 1 := by
  unfold declT; simp; omega
/-- a declaration in a block -/
theorem decl_item {L : List GTok} {p z : Nat} {d : Decl} (h : declB d = true) (ha : Lies L p (declT d)) (hto : p + (declT d).length ≤ z) (htl : z ≤ L.length) :
    itemsP L p z = (p, p + (declT d).length - 1) :: itemsP L (p + (declT d).length) z ∧ declOf L (p, p + (declT d).length - 1) = some d ∧ (L[p]?.map (·.kind)) = some 2 := by
  obtain ⟨hl, ht, hi⟩ := decl_parts h
  obtain ⟨he, hf, hs⟩ := trimmed_parts ht
  have hv := sound_full hs
  have hlen := declT_len d
  have ha' := ha
  unfold declT at ha'
  have g0 : L[p]? = some ⟨2, d.name, 0⟩ := by have := ha'.left.get (j := 0) (by simp); simpa using this
  have g1 : L[p + 1]? = some ⟨14, [], 0⟩ := by have := ha'.left.get (j := 1) (by simp); simpa using this
  have aV : Lies L (p + 2) d.value := ha'.right.left
  have aI : Lies L (p + 2 + d.value.length) (if d.imp = true then impT else []) := ha'.right.right.left
  have aS : Lies L (p + 2 + d.value.length + (if d.imp = true then impT else []).length) [semiT] := ha'.right.right.right
  have gS : L[p + 2 + d.value.length + (if d.imp = true then impT else []).length]? = some semiT := by have := aS.get (j := 0) (by simp); simpa using this
  have hfi : findP (if d.imp = true then impT else []) semiB 0 (if d.imp = true then impT else []).length = (if d.imp = true then impT else []).length := by
    cases d.imp <;> decide
  have hfind : findP L semiB p z = p + (declT d).length - 1 := by
    rw [find_next htl (by omega) g0 (opens_of (by simp) (by simp)) rfl, find_next htl (by omega) g1 (opens_of (by decide) (by decide)) rfl]
    rw [find_over aV hv (by omega) htl hf, find_over aI (Full.imp _) (by omega) htl hfi, find_hit (by omega) gS rfl]
    omega
  refine ⟨?_, ?_, by rw [g0]; rfl⟩
  · rw [items_else htl (by omega) g0 (by simp) (by simp) (by simp), hfind]
    rw [show p + (declT d).length - 1 = p + 2 + d.value.length + (if d.imp = true then impT else []).length by omega]
    rw [items_sp htl (by omega) gS (.inr rfl)]
    rw [show p + 2 + d.value.length + (if d.imp = true then impT else []).length + 1 = p + (declT d).length by omega]
  · have hseg : Lies L p ([⟨2, d.name, 0⟩, ⟨14, [], 0⟩] ++ (d.value ++ if d.imp = true then impT else [])) := by
      have : Lies L p (([⟨2, d.name, 0⟩, ⟨14, [], 0⟩] ++ (d.value ++ if d.imp = true then impT else [])) ++ [semiT]) := by
        rw [List.append_assoc, List.append_assoc]; exact ha'
      exact this.left
    have hsl : p + ([⟨2, d.name, 0⟩, ⟨14, [], 0⟩] ++ (d.value ++ if d.imp = true then impT else []) : List GTok).length = p + (declT d).length - 1 := by
      rw [hlen]; simp; omega
    have := hseg.seg
    rw [hsl] at this
    unfold declOf
    simp only [g0]
    rw [if_neg (by decide), this]
    exact decl_read h
theorem flat_cons {α : Type} (f : α → List GTok) (x : α) (l : List α) : (x :: l).flatMap f = f x ++ l.flatMap f := List.flatMap_cons
theorem margin_none {L : List GTok} {z : Nat} {x : Nat × Nat} {k : Int} (h : L[x.1]?.map (·.kind) = some k) (hk : k ≠ 4) : marginOf L z x = none := by
  unfold marginOf
  cases hx : L[x.1]? with
  | none => rfl
  | some t =>
    rw [hx] at h
    simp at h
    simp only []
    rw [if_neg]
    rintro ⟨h4, _⟩
    omega
/-- declarations in a block -/
theorem decls_items {L : List GTok} {z : Nat} (htl : z ≤ L.length) : ∀ (ds : List Decl) (p : Nat), ds.all declB = true → Lies L p (ds.flatMap declT) → p + (ds.flatMap declT).length ≤ z →
    (itemsP L p z).filterMap (declOf L) = ds ++ (itemsP L (p + (ds.flatMap declT).length) z).filterMap (declOf L) ∧ (itemsP L p z).filterMap (marginOf L z) = (itemsP L (p + (ds.flatMap declT).length) z).filterMap (marginOf L z)
  | [], p, _, _, _ => by simp
  | d :: ds, p, h, ha, hto => by
    rw [flat_cons] at ha hto ⊢
    simp only [List.all_cons, Bool.and_eq_true] at h
    rw [List.length_append] at hto ⊢
    obtain ⟨h1, h2, h3⟩ := decl_item h.1 ha.left (by omega) htl
    obtain ⟨i1, i2⟩ := decls_items htl ds _ h.2 ha.right (by omega)
    rw [h1, List.filterMap_cons, h2, List.filterMap_cons, margin_none h3 (by decide), i1, i2, ← Nat.add_assoc]
    exact ⟨rfl, rfl⟩
theorem decls_read {L : List GTok} {ds : List Decl} {p : Nat} (h : ds.all declB = true) (ha : Lies L p (ds.flatMap declT)) : declsP L p (p + (ds.flatMap declT).length) = ds := by
  have := (decls_items ha.le ds p h ha (Nat.le_refl _)).1
  unfold declsP
  rw [this, items_end (Nat.le_refl _)]; simp
theorem boxes_low : ∀ s ∈ boxes, lowerP s = s := by decide
theorem margin_item {L : List GTok} {p z : Nat} {m : Margin} (h : marginB m = true) (ha : Lies L p (marginT m)) (hto : p + (marginT m).length ≤ z) (htl : z ≤ L.length) :
    itemsP L p z = (p, p + 1) :: itemsP L (p + (marginT m).length) z ∧ declOf L (p, p + 1) = none ∧ marginOf L z (p, p + 1) = some m := by
  unfold marginB at h
  simp only [Bool.and_eq_true, decide_eq_true_eq] at h
  obtain ⟨hbx, hds⟩ := h
  have hlow := boxes_low _ hbx
  have hfull : Full (m.decls.flatMap declT) := Full.flat fun d hd => Full.decl (List.all_eq_true.1 hds d hd)
  have ha' := ha
  unfold marginT at ha'
  have hlen : (marginT m).length = 1 + (1 + ((m.decls.flatMap declT).length + 1)) := by unfold marginT; simp; omega
  have g0 : L[p]? = some ⟨4, m.name, 0⟩ := by have := ha'.left.get (j := 0) (by simp); simpa using this
  have aW : Lies L (p + 1) ([openT] ++ (m.decls.flatMap declT ++ [shutT])) := ha'.right
  have g1 : L[p + 1]? = some openT := by have := aW.left.get (j := 0) (by simp); simpa using this
  have aD : Lies L (p + 2) (m.decls.flatMap declT) := aW.right.left
  have hE := wrap_end (by decide) rfl rfl hfull aW
  have hf : findP L eitherB (p + 1) z = p + 1 := find_hit (by omega) g1 (by decide)
  have hl := ha.le
  have hsk : skipP L (p + 1) = p + (marginT m).length := by
    unfold skipP; rw [hE, if_pos (by omega)]; omega
  refine ⟨?_, ?_, ?_⟩
  · rw [items_at htl (by omega) g0 rfl, hf, hsk]
  · unfold declOf; simp [g0]
  · unfold marginOf
    simp only [g0]
    have hseg : segP L (p + 1) (p + 1) = [] := by unfold segP; simp
    have hbox : 0 ≤ boxP m.name := by unfold boxP; rw [hlow, if_pos hbx]; omega
    rw [if_pos ⟨trivial, by omega, by rw [g1]; rfl, hbox, by rw [hseg]; rfl⟩, hlow, hE]
    have hmin : min ((p + 1 + 1 + (m.decls.flatMap declT).length : Nat) : Int).toNat z = p + 2 + (m.decls.flatMap declT).length := by omega
    rw [hmin, decls_read hds aD]
theorem margins_items {L : List GTok} {z : Nat} (htl : z ≤ L.length) : ∀ (ms : List Margin) (p : Nat), ms.all marginB = true → Lies L p (ms.flatMap marginT) → p + (ms.flatMap marginT).length ≤ z →
    (itemsP L p z).filterMap (marginOf L z) = ms ++ (itemsP L (p + (ms.flatMap marginT).length) z).filterMap (marginOf L z) ∧ (itemsP L p z).filterMap (declOf L) = (itemsP L (p + (ms.flatMap marginT).length) z).filterMap (declOf L)
  | [], p, _, _, _ => by simp
  | m :: ms, p, h, ha, hto => by
    rw [flat_cons] at ha hto ⊢
    simp only [List.all_cons, Bool.and_eq_true] at h
    rw [List.length_append] at hto ⊢
    obtain ⟨h1, h2, h3⟩ := margin_item h.1 ha.left (by omega) htl
    obtain ⟨i1, i2⟩ := margins_items htl ms _ h.2 ha.right (by omega)
    rw [h1, List.filterMap_cons, h3, List.filterMap_cons, h2, i1, i2, ← Nat.add_assoc]
    exact ⟨rfl, rfl⟩
theorem inner_read {L : List GTok} {r : Rule} {p : Nat} (hd : r.decls.all declB = true) (hm : r.margins.all marginB = true) (ha : Lies L p (innerT r)) :
    declsP L p (p + (innerT r).length) = r.decls ∧ marginsP L p (p + (innerT r).length) = r.margins := by
  have hl : (innerT r).length = (r.decls.flatMap declT).length + (r.margins.flatMap marginT).length := by unfold innerT; simp
  have hle := ha.le
  unfold innerT at ha
  obtain ⟨a1, a2⟩ := decls_items (z := p + (innerT r).length) hle r.decls p hd ha.left (by omega)
  obtain ⟨b1, b2⟩ := margins_items (z := p + (innerT r).length) hle r.margins _ hm ha.right (by omega)
  unfold declsP marginsP
  rw [a1, a2, b1, b2, items_end (by omega)]
  simp
theorem Full.inner {r : Rule} (hd : r.decls.all declB = true) (hm : r.margins.all marginB = true) : Full (innerT r) := by
  unfold innerT
  refine (Full.flat fun d h => Full.decl (List.all_eq_true.1 hd d h)).app (Full.flat fun m h => Full.margin ?_)
  have := List.all_eq_true.1 hm m h
  unfold marginB at this
  simp only [Bool.and_eq_true] at this
  exact this.2
theorem rule_parts {r : Rule} (h : ruleB r = true) : trimmedB r.prelude (if r.kind = 2 then eitherB else braceB) = true ∧ r.decls.all declB = true ∧ r.margins.all marginB = true ∧ (r.kind = 1 ∨ r.kind = 2) ∧ (r.kind = 1 → (∀ t ∈ r.prelude.head?, t.kind ≠ 4) ∧ r.margins = []) := by
  unfold ruleB at h
  simp only [Bool.and_eq_true, Bool.or_eq_true, decide_eq_true_eq, Bool.not_eq_true'] at h
  obtain ⟨⟨⟨⟨h1, h2⟩, h3⟩, h4⟩, h5⟩ := h
  refine ⟨h1, h2, h4, h5, fun hk => ?_⟩
  simp only [hk, decide_true, Bool.true_and, Bool.or_eq_false_iff, decide_eq_false_iff_not] at h3
  refine ⟨fun t ht => ?_, List.eq_nil_of_length_eq_zero (by omega)⟩
  cases hp : r.prelude with
  | nil => rw [hp] at ht; cases ht
  | cons u q =>
    rw [hp] at ht h3
    simp at ht; subst ht
    simpa using h3.1
theorem Full.rule {r : Rule} (h : ruleB r = true) : Full (ruleT r) := by
  obtain ⟨h1, h2, h3, h4, h5⟩ := rule_parts h
  unfold ruleT
  refine Full.app ?_ ((sound_full (trimmed_parts h1).2.2).app (Full.wrap (by decide) (by decide) rfl rfl (Full.inner h2 h3)))
  unfold headT
  split
  · exact (Full.one (t := ⟨4, pageS, 0⟩) (opens_of (by simp) (by simp)) (by simp)).app (Full.one (t := ⟨1, [], 0⟩) (opens_of (by simp) (by simp)) (by simp))
  · exact Full.nil
theorem ruleT_len (r : Rule) : (ruleT r).length = (headT r).length + r.prelude.length + 1 + (innerT r).length + 1 := by unfold ruleT; simp; omega
/-- a rule's tokens are parsed as it -/
theorem rule_read {L : List GTok} {p : Nat} {r : Rule} (h : ruleB r = true) (ha : Lies L p (ruleT r)) : rulesP L p = r :: rulesP L (p + (ruleT r).length) := by
  obtain ⟨h1, h2, h3, h4, h5⟩ := rule_parts h
  obtain ⟨he, hf, hs⟩ := trimmed_parts h1
  have hv := sound_full hs
  have hl := ha.le
  have hlen := ruleT_len r
  have ha' := ha
  unfold ruleT at ha'
  have aP : Lies L (p + (headT r).length) r.prelude := ha'.right.left
  have aW : Lies L (p + (headT r).length + r.prelude.length) ([openT] ++ (innerT r ++ [shutT])) := ha'.right.right
  have gO : L[p + (headT r).length + r.prelude.length]? = some openT := by have := aW.left.get (j := 0) (by simp); simpa using this
  have hE := wrap_end (by decide) rfl rfl (Full.inner h2 h3) aW
  have hI := inner_read h2 h3 aW.right.left
  simp only [List.length_singleton] at hI
  have hsk : skipP L (p + (headT r).length + r.prelude.length) = p + (ruleT r).length := by
    unfold skipP; rw [hE, if_pos (by omega)]; omega
  have hseg := aP.seg
  have htrim : trimL r.prelude = r.prelude := trimL_id he.1 he.2
  obtain ⟨kind, prelude, decls, margins⟩ := r
  simp only [] at *
  rcases h4 with rfl | rfl
  · replace hf : findP prelude braceB 0 prelude.length = prelude.length := hf
    have hh : headT ⟨1, prelude, decls, margins⟩ = [] := rfl
    rw [hh] at aP aW gO hE hI hsk hseg hlen
    simp only [List.length_nil, Nat.add_zero] at aP aW gO hE hI hsk hseg hlen
    obtain ⟨h6, rfl⟩ := h5 rfl
    have key : ∀ t, L[p]? = some t → t.kind ≠ 1 → t.kind ≠ 4 → rulesP L p = ⟨1, prelude, decls, []⟩ :: rulesP L (p + (ruleT ⟨1, prelude, decls, []⟩).length) := by
      intro t ht hk1 hk4
      have hend : ruleEnd L t p = p + prelude.length := by
        unfold ruleEnd
        rw [if_neg hk4, find_over aP hv (by omega) (Nat.le_refl _) hf, find_hit (by omega) gO (by decide)]
      rw [rules_item ht hk1, hend, hsk]
      unfold ruleAt
      simp only [hk4, decide_false, Bool.false_eq_true, if_false]
      rw [if_pos ⟨by omega, by rw [gO]; rfl, fun h => h.elim⟩, hseg, htrim, if_pos hs, hE]
      rw [show ((p + prelude.length + 1 + (innerT ⟨1, prelude, decls, []⟩).length : Nat) : Int).toNat = p + prelude.length + 1 + (innerT ⟨1, prelude, decls, []⟩).length by omega, hI.1]
      rfl
    cases prelude with
    | nil => exact key openT (by simpa using gO) (by decide) (by decide)
    | cons t q =>
      have g0 : L[p]? = some t := by have := aP.get (j := 0) (by simp); simpa using this
      exact key t g0 (he.1 t (by simp)) (h6 t (by simp))
  · replace hf : findP prelude eitherB 0 prelude.length = prelude.length := hf
    have hh : headT ⟨2, prelude, decls, margins⟩ = [⟨4, pageS, 0⟩, ⟨1, [], 0⟩] := rfl
    rw [hh] at aP aW gO hE hI hsk hseg hlen ha'
    simp only [List.length_cons, List.length_nil, Nat.zero_add, Nat.reduceAdd] at aP aW gO hE hI hsk hseg hlen
    have g0 : L[p]? = some ⟨4, pageS, 0⟩ := by have := ha'.left.get (j := 0) (by simp); simpa using this
    have g1 : L[p + 1]? = some ⟨1, [], 0⟩ := by have := ha'.left.get (j := 1) (by simp); simpa using this
    have hend : ruleEnd L ⟨4, pageS, 0⟩ p = p + 2 + prelude.length := by
      unfold ruleEnd
      rw [if_pos rfl, find_next (Nat.le_refl _) (by omega) g1 (opens_of (by decide) (by decide)) rfl, find_over aP hv (by omega) (Nat.le_refl _) hf, find_hit (by omega) gO (by decide)]
    have hseg2 : trimL (segP L (p + 1) (p + 2 + prelude.length)) = prelude := by
      have a2 : Lies L (p + 1) ([⟨1, [], 0⟩] ++ prelude) := by
        have : Lies L p ([⟨4, pageS, 0⟩] ++ (([⟨1, [], 0⟩] ++ prelude) ++ ([openT] ++ (innerT ⟨2, prelude, decls, margins⟩ ++ [shutT])))) := by simpa using ha'
        exact this.right.left
      have := a2.seg
      rw [show p + 1 + ([⟨1, [], 0⟩] ++ prelude : List GTok).length = p + 2 + prelude.length by simp; omega] at this
      rw [this]
      show rtrim (dropS (⟨1, [], 0⟩ :: prelude)) = prelude
      have e : dropS (⟨1, [], 0⟩ :: prelude) = dropS prelude := by unfold dropS; rw [List.dropWhile_cons_of_pos (by decide)]
      rw [e]; exact htrim
    rw [rules_item g0 (by decide), hend, hsk]
    unfold ruleAt
    simp only [decide_true, if_true]
    rw [if_pos ⟨by omega, by rw [gO]; rfl, fun _ => by decide⟩, hseg2, if_pos hs, hE]
    rw [show ((p + 2 + prelude.length + 1 + (innerT ⟨2, prelude, decls, margins⟩).length : Nat) : Int).toNat = p + 2 + prelude.length + 1 + (innerT ⟨2, prelude, decls, margins⟩).length by omega, hI.1, hI.2]
    rfl
theorem rules_read {L : List GTok} : ∀ (rs : List Rule) (p : Nat), rs.all ruleB = true → Lies L p (tokensP rs) → rulesP L p = rs ++ rulesP L (p + (tokensP rs).length)
  | [], p, _, _ => by simp [tokensP]
  | r :: rs, p, h, ha => by
    have e : tokensP (r :: rs) = ruleT r ++ tokensP rs := List.flatMap_cons
    rw [e] at ha ⊢
    simp only [List.all_cons, Bool.and_eq_true] at h
    rw [rule_read h.1 ha.left, rules_read rs _ h.2 ha.right, List.length_append, ← Nat.add_assoc]; rfl
theorem Full.tokens {rs : List Rule} (h : rs.all ruleB = true) : Full (tokensP rs) := Full.flat fun r hr => Full.rule (List.all_eq_true.1 h r hr)
/-- rules that may be are parsed as they were -/
theorem parse_tokens {rs : List Rule} (h : rulesB rs = true) : parseT (tokensP rs) = (0, rs) := by
  unfold rulesB at h
  simp only [Bool.and_eq_true, decide_eq_true_eq] at h
  obtain ⟨⟨⟨⟨h1, h2⟩, h3⟩, h4⟩, h5⟩ := h
  have hr := rules_read rs 0 h1 (Lies.self _)
  rw [Nat.zero_add, rules_end (Nat.le_refl _), List.append_nil] at hr
  unfold parseT
  rw [h3, hr, if_neg (by decide), if_neg (by omega)]
end Go.Proofs.YtfhdihdafmahgaaGreatDoor
/- Layer 5: the program's Skip, within, Find, Trim are walked. -/
set_option linter.unusedVariables false
set_option linter.unusedSimpArgs false
namespace Go.Proofs.YtfhdihdafmahgaaGreatDoor
open Go.RowKit Rn Tp Ru
/-- where each opening ends, as cells -/
def endsV (l : List GTok) : List Value := (endsP l).map (Value.int .i64)
theorem endsV_len (l : List GTok) : (endsV l).length = l.length := by simp [endsV, endsP]
theorem endsV_at (l : List GTok) {k : Nat} (hk : k < l.length) : (endsV l)[k]? = some (.int .i64 (endP l k)) := by
  simp [endsV, endsP, List.getElem?_map, List.getElem?_range hk]
abbrev EndsS (w : World) (S : Nat → Prop) (A : Option Addr) (n : Nat) (l : List GTok) : Prop := ReadsS w S 1 A n (endsV l)
theorem EndsS.len {w : World} {S : Nat → Prop} {A : Option Addr} {n : Nat} {l : List GTok} (h : EndsS w S A n l) : l.length = n := by
  have := h.1; rw [endsV_len] at this; omega
theorem EndsS.at_ {w : World} {S : Nat → Prop} {A : Option Addr} {n : Nat} {l : List GTok} (h : EndsS w S A n l) {k : Nat} (hk : k < n) : ∃ b off, A = some ⟨b, off, none⟩ ∧ S b ∧ w.cell? ⟨b, off + k, none⟩ = some (.int .i64 (endP l k)) := by
  obtain ⟨b, off, hA, hb, hc⟩ := h.2 (by omega)
  exact ⟨b, off, hA, hb, hc k _ (endsV_at l (by rw [h.len]; exact hk))⟩
theorem nest_skip (l : List GTok) (S : Nat → Prop) (A : Option Addr) (n c k : Nat) (w : World) (h : EndsS w S A n l) (hn : n ≤ 1000000) (hk : k ≤ 2000000) :
    Calls Tryz.prog 27 #[.slice A n c, .int .i64 (k : Int)] w fun e w' => e = .returned (.int .i64 (skipP l k : Nat)) ∧ w' = w := by
  have hlen := h.len
  have Hlen := Lib.hid hlen
  have d0 : decide ((k : Int) < 0) = false := by simp
  have w1 : IntKind.i64.wrap ((k : Int) + 1) = (k : Int) + 1 := by rw [IntKind.wrap_i64]; omega
  by_cases hlt : k < n
  · obtain ⟨b, off, rfl, hb, hc⟩ := h.at_ hlt
    have d1 : decide ((n : Int) ≤ (k : Int)) = false := by simp; omega
    have d1' : (k : Int) < (n : Int) := by omega
    rcases end_cases l k with e | ⟨x, e, h1, h2⟩
    · have hs : skipP l k = k + 1 := by unfold skipP; rw [e, if_neg (by omega)]
      have Hs := Lib.hid hs
      rw [e] at hc
      have d2 : decide ((-1 : Int) < (k : Int)) = true := by simp; omega
      clear e hs hlen
      go_enter Tryz.func27, Tryz.ntmps27
      go_wp2
      go_ret
      exact ⟨ret_int (by rw [Hs.out]; omega), rfl⟩
    · have hs : skipP l k = min (x + 1) n := by unfold skipP; rw [e, if_pos (by omega), hlen]; simp
      have Hs := Lib.hid hs
      rw [e] at hc
      have d2 : decide ((x : Int) < (k : Int)) = false := by simp; omega
      have w2 : IntKind.i64.wrap ((x : Int) + 1) = (x : Int) + 1 := by rw [IntKind.wrap_i64]; omega
      clear e hs hlen
      go_enter Tryz.func27, Tryz.ntmps27
      go_wp2
      go_ret
      exact ⟨ret_int (by rw [Hs.out]; omega), rfl⟩
  · have d1 : decide ((n : Int) ≤ (k : Int)) = true := by simp; omega
    have hs : skipP l k = k + 1 := skip_past (by omega)
    have Hs := Lib.hid hs
    clear hs hlen
    go_enter Tryz.func27, Tryz.ntmps27
    go_wp2
    go_ret
    exact ⟨ret_int (by rw [Hs.out]; omega), rfl⟩
theorem nest_within (n k z : Nat) (w : World) (hk : k ≤ z) (hz : z ≤ n) :
    Calls Tryz.prog 93 #[.int .i64 (n : Int), .int .i64 (k : Int), .int .i64 (z : Int)] w fun e w' => e = .returned (.bool true) ∧ w' = w := by
  have d0 : decide ((0 : Int) ≤ (k : Int)) = true := by simp
  have d1 : decide ((k : Int) ≤ (z : Int)) = true := by simp; omega
  have d2 : decide ((z : Int) ≤ (n : Int)) = true := by simp; omega
  go_enter Tryz.func93, Tryz.ntmps93
  go_wp2
  go_ret
  exact ⟨rfl, rfl⟩
theorem seg_nil (l : List GTok) (k : Nat) : segP l k k = [] := by unfold segP; simp
theorem seg_len (l : List GTok) {k z : Nat} (hz : z ≤ l.length) : (segP l k z).length = z - k := by unfold segP; simp; omega
theorem seg_cons {l : List GTok} {k z : Nat} {t : GTok} (ht : l[k]? = some t) (hk : k < z) : segP l k z = t :: segP l (k + 1) z := by
  have hl := (List.getElem?_eq_some_iff.1 ht).1
  unfold segP
  rw [List.drop_eq_getElem_cons (by simp; omega)]
  congr 1
  rw [List.getElem_take]
  rw [List.getElem?_eq_getElem hl] at ht
  injection ht
theorem seg_snoc {l : List GTok} {k z : Nat} {t : GTok} (ht : l[z]? = some t) (hk : k ≤ z) : segP l k (z + 1) = segP l k z ++ [t] := by
  have hl := (List.getElem?_eq_some_iff.1 ht).1
  unfold segP
  rw [List.take_add_one, ht, Option.toList_some, List.drop_append_of_le_length (by simp; omega)]
theorem rtrim_snoc (l : List GTok) {t : GTok} (h : t.kind = 1) : rtrim (l ++ [t]) = rtrim l := by
  unfold rtrim dropS
  rw [List.reverse_append]
  show (List.dropWhile isSp (t :: l.reverse)).reverse = _
  rw [List.dropWhile_cons_of_pos (by simp [isSp, h])]
theorem rtrim_id (l : List GTok) {t : GTok} (h : t.kind ≠ 1) : rtrim (l ++ [t]) = l ++ [t] := by
  unfold rtrim dropS
  rw [List.reverse_append]
  show (List.dropWhile isSp (t :: l.reverse)).reverse = _
  rw [List.dropWhile_cons_of_neg (by simp [isSp, h])]
  simp
set_option maxRecDepth 100000 in
set_option maxHeartbeats 2000000 in
theorem nest_trim (l : List GTok) (S : Nat → Prop) (A : Option Addr) (n c k z : Nat) (w : World) (h : ReadsS w S 3 A n (cellsG l)) (hn : n ≤ 1000000) (hk : k ≤ z) (hz : z ≤ n) :
    Calls Tryz.prog 60 #[.slice A n c, .int .i64 (k : Int), .int .i64 (z : Int)] w fun e w' => (∃ j i : Nat, e = .returned (.tuple #[.int .i64 (j : Int), .int .i64 (i : Int)]) ∧ k ≤ j ∧ j ≤ i ∧ i ≤ z ∧ dropS (segP l k z) = segP l j z ∧ trimL (segP l k z) = segP l j i) ∧ w' = w := by
  have hlen := h.toks_len
  have Hlen := Lib.hid hlen
  clear hlen
  go_enter Tryz.func60, Tryz.ntmps60
  go_wp2_with fail
  refine (nest_within n k z w hk hz).mono ?_
  rintro e w1 ⟨rfl, rfl⟩
  go_wp2_with fail
  go_loopw [1] (fun i wr => ∃ j : Nat, i = .int .i64 (j : Int) ∧ k ≤ j ∧ j ≤ z ∧ Hid (dropS (segP l k z) = dropS (segP l j z)) ∧ wr = w1) (fun i _ => z - (intOf i).toNat)
  case atStart => exact ⟨k, rfl, Nat.le_refl _, hk, rfl, rfl⟩
  case round =>
    obtain ⟨j, rfl, hkj, hjz, hrun, rfl⟩ := hrel
    have key : (j = z ∨ ∃ t, l[j]? = some t ∧ t.kind ≠ 1) → Hid (dropS (segP l k z) = segP l j z) := by
      rintro (rfl | ⟨t, ht, h1⟩)
      · show _ = _
        rw [hrun.out, seg_nil]; rfl
      · show _ = _
        rw [hrun.out]
        by_cases e : j = z
        · subst e; rw [seg_nil]; rfl
        · rw [seg_cons ht (by omega)]
          exact dropS_id (by intro u hu; simp at hu; subst hu; exact h1)
    obtain ⟨g, hg⟩ : ∃ g, (decide (j < z) && ((l[j]?.map (fun t => decide (t.kind = 1))).getD false)) = g := ⟨_, rfl⟩
    go_upto_region 3 with (fail)
    go_cut [26] (fun x wx => x = .bool g ∧ wr = wx)
    case first =>
      have hun : (undef : Value) = .tuple #[] := rfl
      by_cases hlt : j < z
      · obtain ⟨b, off, t, rfl, hb, ht, c0, c1, c2⟩ := h.tok (k := j) (by omega)
        have d0 : (j : Int) < (z : Int) := by omega
        have d1 : (j : Int) < (n : Int) := by omega
        have hg' : g = (t.kind == 1) := by
          rw [← hg, ht]; simp [hlt]; rw [Bool.eq_iff_iff]; simp
        have HG := Lib.hid hg'
        clear hrun key ht hg hg'
        go_wp2_with fail
        go_meet
        exact ⟨by rw [HG.out], rfl⟩
      · have d0 : decide ((j : Int) < (z : Int)) = false := by simp; omega
        have hg' : g = false := by rw [← hg]; simp [hlt]
        have HG := Lib.hid hg'
        clear hrun key hg hg'
        go_wp2_with fail
        go_meet
        exact ⟨by rw [HG.out], rfl⟩
    case rest =>
      obtain ⟨rfl, rfl⟩ := hcut
      cases g with
      | true =>
        simp only [Bool.and_eq_true, decide_eq_true_eq] at hg
        obtain ⟨t, ht⟩ : ∃ t, l[j]? = some t := ⟨_, List.getElem?_eq_getElem (by rw [Hlen.out]; omega)⟩
        have hk1' : t.kind = 1 := by have := hg.2; rw [ht] at this; simpa using this
        have hnew : Hid (dropS (segP l k z) = dropS (segP l (j + 1) z)) := by
          show _ = _
          rw [hrun.out, seg_cons ht hg.1]
          unfold dropS
          rw [List.dropWhile_cons_of_pos (by simp [isSp, hk1'])]
        have hj1 : j + 1 ≤ z := hg.1
        have w1' : IntKind.i64.wrap ((j : Int) + 1) = (j : Int) + 1 := by rw [IntKind.wrap_i64]; omega
        clear hrun key ht hk1' hg
        go_wp2_with fail
        go_roundw
        case rel => exact ⟨j + 1, by go_num, by omega, by omega, hnew, by first | rfl | trivial⟩
        case measure => simp [intOf]; omega
      | false =>
        have hK : Hid (dropS (segP l k z) = segP l j z) := by
          by_cases e : j = z
          · exact key (.inl e)
          · obtain ⟨t, ht⟩ : ∃ t, l[j]? = some t := ⟨_, List.getElem?_eq_getElem (by rw [Hlen.out]; omega)⟩
            refine key (.inr ⟨t, ht, ?_⟩)
            have hjz' : j < z := by omega
            rw [ht] at hg
            simpa [hjz'] using hg
        clear hrun key hg
        go_wp2_with fail
        go_loopw [2] (fun v wv => ∃ i : Nat, v = .int .i64 (i : Int) ∧ j ≤ i ∧ i ≤ z ∧ Hid (rtrim (segP l j z) = rtrim (segP l j i)) ∧ wv = wr) (fun v _ => (intOf v).toNat)
        case atStart => exact ⟨z, rfl, hjz, Nat.le_refl _, rfl, rfl⟩
        case round =>
          obtain ⟨i, rfl, hji, hiz, hrun, rfl⟩ := hrel
          obtain ⟨g, hg⟩ : ∃ g, (decide (j < i) && ((l[i - 1]?.map (fun t => decide (t.kind = 1))).getD false)) = g := ⟨_, rfl⟩
          have w1' : IntKind.i64.wrap ((i : Int) - 1) = (i : Int) - 1 := by rw [IntKind.wrap_i64]; omega
          go_upto_region 5 with (fail)
          go_cut [40] (fun x wx => x = .bool g ∧ wr = wx)
          case first =>
            have hun : (undef : Value) = .tuple #[] := rfl
            by_cases hlt : j < i
            · obtain ⟨b, off, t, rfl, hb, ht, c0, c1, c2⟩ := h.tok (k := i - 1) (by omega)
              have d0 : (j : Int) < (i : Int) := by omega
              have d1 : (i : Int) - 1 < (n : Int) := by omega
              have d2 : (0 : Int) ≤ (i : Int) - 1 := by omega
              have e1 : ((i : Int) - 1).toNat = i - 1 := by omega
              have hg' : g = (t.kind == 1) := by
                rw [← hg, ht]; simp [hlt]; rw [Bool.eq_iff_iff]; simp
              have HG := Lib.hid hg'
              clear hrun hK ht hg hg'
              go_wp2_with fail
              go_meet
              exact ⟨by rw [HG.out], rfl⟩
            · have d0 : decide ((j : Int) < (i : Int)) = false := by simp; omega
              have hg' : g = false := by rw [← hg]; simp [hlt]
              have HG := Lib.hid hg'
              clear hrun hK hg hg'
              go_wp2_with fail
              go_meet
              exact ⟨by rw [HG.out], rfl⟩
          case rest =>
            obtain ⟨rfl, rfl⟩ := hcut
            cases g with
            | true =>
              simp only [Bool.and_eq_true, decide_eq_true_eq] at hg
              obtain ⟨t, ht⟩ : ∃ t, l[i - 1]? = some t := ⟨_, List.getElem?_eq_getElem (by rw [Hlen.out]; omega)⟩
              have hk1' : t.kind = 1 := by have := hg.2; rw [ht] at this; simpa using this
              have hnew : Hid (rtrim (segP l j z) = rtrim (segP l j (i - 1))) := by
                show _ = _
                have := seg_snoc (k := j) ht (by omega)
                rw [show i - 1 + 1 = i by omega] at this
                rw [hrun.out, this, rtrim_snoc _ hk1']
              have hj1 : j < i := hg.1
              clear hrun ht hk1' hg
              go_wp2_with fail
              go_roundw
              case rel => exact ⟨i - 1, by first | go_num | (congr 1; omega), by omega, by omega, hnew, by first | rfl | trivial⟩
              case measure => simp [intOf]; omega
            | false =>
              have hfin : Hid (trimL (segP l k z) = segP l j i) := by
                show _ = _
                unfold trimL
                rw [hK.out, hrun.out]
                by_cases e : j = i
                · subst e; rw [seg_nil]; rfl
                · obtain ⟨t, ht⟩ : ∃ t, l[i - 1]? = some t := ⟨_, List.getElem?_eq_getElem (by rw [Hlen.out]; omega)⟩
                  have hji' : j < i := by omega
                  have h1 : t.kind ≠ 1 := by
                    rw [ht] at hg
                    simpa [hji'] using hg
                  have := seg_snoc (k := j) ht (by omega)
                  rw [show i - 1 + 1 = i by omega] at this
                  rw [this, rtrim_id _ h1]
              clear hrun hg
              go_wp2_with fail
              go_ret2
              exact ⟨⟨j, i, rfl, hkj, hji, hiz, hK.out, hfin.out⟩, by first | rfl | trivial⟩
end Go.Proofs.YtfhdihdafmahgaaGreatDoor
/- Layer 5: the program's Find is walked, for whatever function is handed to it. -/
set_option linter.unusedVariables false
set_option linter.unusedSimpArgs false
namespace Go.Proofs.YtfhdihdafmahgaaGreatDoor
open Go.RowKit Rn Tp Ru
/-- a function of tokens that answers what a plain one says -/
def Asks (f : Nat) (is : GTok → Bool) (l : List GTok) (w : World) : Prop := ∀ t ∈ l, ∀ W : World, Below w.heap.size w W → Calls Tryz.prog f #[gtokV t] W fun e W' => e = .returned (.bool (is t)) ∧ Below W.heap.size W W'
theorem run_equalIn_func_nil {P : Program} (w : World) (d : Nat) (t : TypeId) {ps rs : Array TypeId} {v : Bool} (h : P.underlying t = some (.func ps rs v)) (fn : Fn) (first cap : Array Value) :
    (Op.equalIn (d + 1) t (.func fn first cap) .nilFunc).run P w = .ok false w := by
  simp [Op.equalIn, run_underlying h]
theorem run_eql_func_nil {P : Program} (w : World) (t : TypeId) {ps rs : Array TypeId} {v : Bool} (h : P.underlying t = some (.func ps rs v)) (fn : Fn) (first cap : Array Value) :
    (binOp .eql t (.func fn first cap) .nilFunc).run P w = .ok (.bool false) w := by
  simp only [binOp]
  simp [Op.equal, Op.maxDepth, run_equalIn_func_nil w 9999 t h fn first cap]
def findI (l : List GTok) (is : GTok → Bool) (k z : Nat) : Int := if findP l is k z < z then (findP l is k z : Nat) else -1
set_option maxRecDepth 100000 in
set_option maxHeartbeats 2000000 in
theorem nest_find (l : List GTok) (is : GTok → Bool) (f : Nat) (A A' : Option Addr) (n c c' k z : Nat) (w : World) (h : ReadsS w (· < w.heap.size) 3 A n (cellsG l)) (he : EndsS w (· < w.heap.size) A' n l) (hn : n ≤ 1000000) (hk : k ≤ z) (hz : z ≤ n) (hf : Asks f is l w) (hen : ∀ (args : Array Value) (W : World), (callFunc f args).run Tryz.prog W = .ok (.enter f args) W) :
    Calls Tryz.prog 59 #[.slice A n c, .slice A' n c', .int .i64 (k : Int), .int .i64 (z : Int), .func (.func f) #[] #[]] w fun e w' => e = .returned (.int .i64 (findI l is k z)) ∧ Below w.heap.size w w' := by
  have hnf := fun W : World => run_eql_func_nil (P := Tryz.prog) W 59 Tryz.underlying59 (.func f) #[] #[]
  have hlen := h.toks_len
  have Hlen := Lib.hid hlen
  clear hlen
  go_enter Tryz.func59, Tryz.ntmps59
  go_wp2_with fail
  refine (nest_within n k z w hk hz).mono ?_
  rintro e w1 ⟨rfl, rfl⟩
  go_wp2_with fail
  go_loopw [11] (fun i wr => ∃ j : Nat, i = .int .i64 (j : Int) ∧ j ≤ z + n + 1 ∧ Hid (findP l is k z = findP l is j z) ∧ Below w1.heap.size w1 wr) (fun i _ => z - (intOf i).toNat)
  case atStart => exact ⟨k, rfl, by omega, rfl, Below.refl _ _⟩
  case round =>
    obtain ⟨j, rfl, hjn, hrun, hb⟩ := hrel
    by_cases hlt : j < z
    · have d0 : (j : Int) < (z : Int) := by omega
      obtain ⟨b, off, t, rfl, hbl, ht, c0, c1, c2⟩ := h.tok (k := j) (by omega)
      have d1 : (j : Int) < (n : Int) := by omega
      replace c0 := (hb.cell (p := ⟨b, off + j * 3, none⟩) hbl).trans c0
      replace c1 := (hb.cell (p := ⟨b, off + j * 3 + 1, none⟩) hbl).trans c1
      replace c2 := (hb.cell (p := ⟨b, off + j * 3 + 2, none⟩) hbl).trans c2
      have hcall := hf t (List.mem_of_getElem? ht) wr hb
      obtain ⟨q, hq⟩ : ∃ q, is t = q := ⟨_, rfl⟩
      rw [hq] at hcall
      have hsk := skip_gt (l := l) (k := j) (by rw [Hlen.out]; omega)
      have hsl := skip_le (l := l) (k := j) (by rw [Hlen.out]; omega)
      have Hsk := Lib.hid hsk
      have Hsl := Lib.hid hsl
      have hnext : q = false → Hid (findP l is k z = findP l is (skipP l j) z) := fun e => by
        show _ = _
        rw [hrun.out, find_miss (by rw [Hlen.out]; exact hz) hlt ht (by rw [hq]; exact e)]
      have hhit : q = true → Hid (findI l is k z = (j : Int)) := fun e => by
        show _ = _
        unfold findI
        rw [hrun.out, find_hit hlt ht (by rw [hq]; exact e), if_pos hlt]
      clear hrun ht hq hsk hsl
      go_wp2_with fail
      refine hcall.mono ?_
      rintro e w2 ⟨rfl, hb2⟩
      have hB := hb.trans (hb2.mono hb.size)
      cases q with
      | true =>
        have hH := hhit rfl
        clear hnext hhit
        go_wp2_with fail
        go_ret
        exact ⟨ret_int (by rw [hH.out]), hB⟩
      | false =>
        have hH := hnext rfl
        clear hnext hhit
        go_wp2_with fail
        refine (nest_skip l _ A' n c' j w2 (he.keep (Kept.of_below hB (fun b hb => hb))) hn (by omega)).mono ?_
        rintro e w3 ⟨rfl, rfl⟩
        go_wp2_with fail
        go_roundw
        case rel => exact ⟨skipP l j, rfl, by have := Hsl.out; have := Hlen.out; omega, hH, hB⟩
        case measure => have := Hsk.out; simp [intOf]; omega
    · have d0 : decide ((j : Int) < (z : Int)) = false := by simp; omega
      have hfin : findI l is k z = -1 := by
        unfold findI
        rw [hrun.out, find_end (by omega), if_neg (Nat.lt_irrefl _)]
      have HF := Lib.hid hfin
      clear hrun hfin
      go_wp2_with fail
      go_ret
      exact ⟨ret_int (by rw [HF.out]), hb⟩
end Go.Proofs.YtfhdihdafmahgaaGreatDoor
/- Layer 6: the program's brace, semi, the tests made of them, and named are walked. -/
set_option linter.unusedVariables false
set_option linter.unusedSimpArgs false
namespace Go.Proofs.YtfhdihdafmahgaaGreatDoor
open Go.RowKit Rn Tp Ru
set_option maxRecDepth 100000 in
set_option maxHeartbeats 2000000 in
theorem ru_brace (t : GTok) (w : World) :
    Calls Tryz.prog 23 #[gtokV t] w fun e w' => e = .returned (.bool (braceB t)) ∧ Below w.heap.size w w' := by
  obtain ⟨kind, text, n⟩ := t
  obtain ⟨wA, hwA⟩ : ∃ wA, w.alloc (.cells #[.int .i64 kind, .string (bytesOf text), .int .i64 n] 58) = wA := ⟨_, rfl⟩
  have bA : Below w.heap.size w wA := by rw [← hwA]; exact (Below.refl _ _).alloc (Nat.le_refl _) _
  have rA : RowAt wA w.heap.size [.int .i64 kind, .string (bytesOf text), .int .i64 n] := by rw [← hwA]; exact RowAt.new _ _ _
  obtain ⟨x0, _⟩ := rA.2 0 _ rfl
  obtain ⟨x1, _⟩ := rA.2 1 _ rfl
  by_cases h12 : kind = 12
  · by_cases ht : text = [123]
    · have hb : braceB ⟨kind, text, n⟩ = true := by simp [braceB, h12, ht]
      rw [hb]
      obtain ⟨s1, s2⟩ := txt_is ht
      subst h12
      clear ht hb
      go_enter Tryz.func23, Tryz.ntmps23
      go_wp2
      go_ret
      exact ⟨rfl, bA⟩
    · have hb : braceB ⟨kind, text, n⟩ = false := by simp [braceB, h12, ht]
      rw [hb]
      obtain ⟨s1, s2⟩ := txt_not ht
      subst h12
      clear ht hb
      go_enter Tryz.func23, Tryz.ntmps23
      go_wp2
      go_ret
      exact ⟨rfl, bA⟩
  · have hb : braceB ⟨kind, text, n⟩ = false := by simp [braceB, h12]
    rw [hb]
    have k12 : (kind == 12) = false := by simp [h12]
    clear h12 hb
    go_enter Tryz.func23, Tryz.ntmps23
    go_wp2
    go_ret
    exact ⟨rfl, bA⟩
set_option maxRecDepth 100000 in
set_option maxHeartbeats 2000000 in
theorem ru_semi (t : GTok) (w : World) :
    Calls Tryz.prog 25 #[gtokV t] w fun e w' => e = .returned (.bool (semiB t)) ∧ Below w.heap.size w w' := by
  obtain ⟨kind, text, n⟩ := t
  obtain ⟨wA, hwA⟩ : ∃ wA, w.alloc (.cells #[.int .i64 kind, .string (bytesOf text), .int .i64 n] 58) = wA := ⟨_, rfl⟩
  have bA : Below w.heap.size w wA := by rw [← hwA]; exact (Below.refl _ _).alloc (Nat.le_refl _) _
  have rA : RowAt wA w.heap.size [.int .i64 kind, .string (bytesOf text), .int .i64 n] := by rw [← hwA]; exact RowAt.new _ _ _
  obtain ⟨x0, _⟩ := rA.2 0 _ rfl
  obtain ⟨q, hq⟩ : ∃ q, semiB ⟨kind, text, n⟩ = q := ⟨_, rfl⟩
  have hk : (kind == 15) = q := by rw [← hq, Bool.eq_iff_iff]; simp [semiB]
  rw [hq]
  clear hq
  go_enter Tryz.func25, Tryz.ntmps25
  go_wp2
  go_ret
  exact ⟨by first | rfl | rw [hk], bA⟩
set_option maxRecDepth 100000 in
set_option maxHeartbeats 2000000 in
theorem ru_either_parse (t : GTok) (w : World) :
    Calls Tryz.prog 24 #[gtokV t] w fun e w' => e = .returned (.bool (eitherB t)) ∧ Below w.heap.size w w' := by
  have c1 := fun W => ru_semi t W
  have c2 := fun W => ru_brace t W
  obtain ⟨q, hq⟩ : ∃ q, semiB t = q := ⟨_, rfl⟩
  have he : eitherB t = (q || braceB t) := by unfold eitherB; rw [hq]
  rw [he]
  simp only [hq] at c1
  clear he hq
  obtain ⟨kind, text, n⟩ := t
  obtain ⟨wA, hwA⟩ : ∃ wA, w.alloc (.cells #[.int .i64 kind, .string (bytesOf text), .int .i64 n] 58) = wA := ⟨_, rfl⟩
  have bA : Below w.heap.size w wA := by rw [← hwA]; exact (Below.refl _ _).alloc (Nat.le_refl _) _
  have rA : RowAt wA w.heap.size [.int .i64 kind, .string (bytesOf text), .int .i64 n] := by rw [← hwA]; exact RowAt.new _ _ _
  obtain ⟨x0, _⟩ := rA.2 0 _ rfl
  obtain ⟨x1, _⟩ := rA.2 1 _ rfl
  obtain ⟨x2, _⟩ := rA.2 2 _ rfl
  have hlt := rA.1
  have hsz := bA.size
  clear rA
  go_enter Tryz.func24, Tryz.ntmps24
  go_wp2_with fail
  refine (c1 _).mono ?_
  rintro e w1 ⟨rfl, hb1⟩
  have y0 := (hb1.cell (p := ⟨w.heap.size, 0, none⟩) hlt).trans x0
  have y1 := (hb1.cell (p := ⟨w.heap.size, 1, none⟩) hlt).trans x1
  have y2 := (hb1.cell (p := ⟨w.heap.size, 2, none⟩) hlt).trans x2
  have hB1 : Below w.heap.size w w1 := bA.trans (hb1.mono hsz)
  cases q with
  | true =>
    go_wp2_with fail
    go_ret
    exact ⟨rfl, hB1⟩
  | false =>
    go_wp2_with fail
    refine (c2 _).mono ?_
    rintro e w2 ⟨rfl, hb2⟩
    go_wp2_with fail
    go_ret
    exact ⟨by first | rfl | simp, hB1.trans (hb2.mono hB1.size)⟩
set_option maxRecDepth 100000 in
set_option maxHeartbeats 2000000 in
theorem ru_either_right (t : GTok) (w : World) :
    Calls Tryz.prog 78 #[gtokV t] w fun e w' => e = .returned (.bool (eitherB t)) ∧ Below w.heap.size w w' := by
  have c1 := fun W => ru_semi t W
  have c2 := fun W => ru_brace t W
  obtain ⟨q, hq⟩ : ∃ q, semiB t = q := ⟨_, rfl⟩
  have he : eitherB t = (q || braceB t) := by unfold eitherB; rw [hq]
  rw [he]
  simp only [hq] at c1
  clear he hq
  obtain ⟨kind, text, n⟩ := t
  obtain ⟨wA, hwA⟩ : ∃ wA, w.alloc (.cells #[.int .i64 kind, .string (bytesOf text), .int .i64 n] 58) = wA := ⟨_, rfl⟩
  have bA : Below w.heap.size w wA := by rw [← hwA]; exact (Below.refl _ _).alloc (Nat.le_refl _) _
  have rA : RowAt wA w.heap.size [.int .i64 kind, .string (bytesOf text), .int .i64 n] := by rw [← hwA]; exact RowAt.new _ _ _
  obtain ⟨x0, _⟩ := rA.2 0 _ rfl
  obtain ⟨x1, _⟩ := rA.2 1 _ rfl
  obtain ⟨x2, _⟩ := rA.2 2 _ rfl
  have hlt := rA.1
  have hsz := bA.size
  clear rA
  go_enter Tryz.func78, Tryz.ntmps78
  go_wp2_with fail
  refine (c1 _).mono ?_
  rintro e w1 ⟨rfl, hb1⟩
  have y0 := (hb1.cell (p := ⟨w.heap.size, 0, none⟩) hlt).trans x0
  have y1 := (hb1.cell (p := ⟨w.heap.size, 1, none⟩) hlt).trans x1
  have y2 := (hb1.cell (p := ⟨w.heap.size, 2, none⟩) hlt).trans x2
  have hB1 : Below w.heap.size w w1 := bA.trans (hb1.mono hsz)
  cases q with
  | true =>
    go_wp2_with fail
    go_ret
    exact ⟨rfl, hB1⟩
  | false =>
    go_wp2_with fail
    refine (c2 _).mono ?_
    rintro e w2 ⟨rfl, hb2⟩
    go_wp2_with fail
    go_ret
    exact ⟨by first | rfl | simp, hB1.trans (hb2.mono hB1.size)⟩
set_option maxRecDepth 100000 in
set_option maxHeartbeats 2000000 in
theorem ru_either_block (t : GTok) (w : World) :
    Calls Tryz.prog 62 #[gtokV t] w fun e w' => e = .returned (.bool (eitherB t)) ∧ Below w.heap.size w w' := by
  have c1 := fun W => ru_semi t W
  have c2 := fun W => ru_brace t W
  obtain ⟨q, hq⟩ : ∃ q, semiB t = q := ⟨_, rfl⟩
  have he : eitherB t = (q || braceB t) := by unfold eitherB; rw [hq]
  rw [he]
  simp only [hq] at c1
  clear he hq
  obtain ⟨kind, text, n⟩ := t
  obtain ⟨wA, hwA⟩ : ∃ wA, w.alloc (.cells #[.int .i64 kind, .string (bytesOf text), .int .i64 n] 58) = wA := ⟨_, rfl⟩
  have bA : Below w.heap.size w wA := by rw [← hwA]; exact (Below.refl _ _).alloc (Nat.le_refl _) _
  have rA : RowAt wA w.heap.size [.int .i64 kind, .string (bytesOf text), .int .i64 n] := by rw [← hwA]; exact RowAt.new _ _ _
  obtain ⟨x0, _⟩ := rA.2 0 _ rfl
  obtain ⟨x1, _⟩ := rA.2 1 _ rfl
  obtain ⟨x2, _⟩ := rA.2 2 _ rfl
  have hlt := rA.1
  have hsz := bA.size
  clear rA
  go_enter Tryz.func62, Tryz.ntmps62
  go_wp2_with fail
  refine (c1 _).mono ?_
  rintro e w1 ⟨rfl, hb1⟩
  have y0 := (hb1.cell (p := ⟨w.heap.size, 0, none⟩) hlt).trans x0
  have y1 := (hb1.cell (p := ⟨w.heap.size, 1, none⟩) hlt).trans x1
  have y2 := (hb1.cell (p := ⟨w.heap.size, 2, none⟩) hlt).trans x2
  have hB1 : Below w.heap.size w w1 := bA.trans (hb1.mono hsz)
  cases q with
  | true =>
    go_wp2_with fail
    go_ret
    exact ⟨rfl, hB1⟩
  | false =>
    go_wp2_with fail
    refine (c2 _).mono ?_
    rintro e w2 ⟨rfl, hb2⟩
    go_wp2_with fail
    go_ret
    exact ⟨by first | rfl | simp, hB1.trans (hb2.mono hB1.size)⟩
set_option maxRecDepth 100000 in
set_option maxHeartbeats 2000000 in
theorem ru_named (t : GTok) (k : Int) (s : List UInt8) (w : World) (hs : t.text.length ≤ 1000000) :
    Calls Tryz.prog 130 #[gtokV t, .int .i64 k, .string (bytesOf s)] w fun e w' => e = .returned (.bool (namedB t k s)) ∧ Below w.heap.size w w' := by
  obtain ⟨kind, text, n⟩ := t
  have cL := fun W => rn_lower (bytesOf text) W (by rw [bytesOf_size]; exact hs)
  have hbl : (bytesOf text).data.toList = text := by simp [bytesOf]
  rw [hbl] at cL
  obtain ⟨wA, hwA⟩ : ∃ wA, w.alloc (.cells #[.int .i64 kind, .string (bytesOf text), .int .i64 n] 58) = wA := ⟨_, rfl⟩
  have bA : Below w.heap.size w wA := by rw [← hwA]; exact (Below.refl _ _).alloc (Nat.le_refl _) _
  have rA : RowAt wA w.heap.size [.int .i64 kind, .string (bytesOf text), .int .i64 n] := by rw [← hwA]; exact RowAt.new _ _ _
  obtain ⟨x0, _⟩ := rA.2 0 _ rfl
  obtain ⟨x1, _⟩ := rA.2 1 _ rfl
  have hlt := rA.1
  have hsz := bA.size
  obtain ⟨q, hq⟩ : ∃ q, decide (kind = k) = q := ⟨_, rfl⟩
  have hk : (kind == k) = q := by rw [← hq, Bool.eq_iff_iff]; simp
  have he : namedB ⟨kind, text, n⟩ k s = (q && decide (lowerP text = s)) := by unfold namedB; rw [hq]
  have hL : ((bytesOf (lowerP text)).toList == (bytesOf s).toList) = decide (lowerP text = s) := by rw [bytesOf_toList, bytesOf_toList, Bool.eq_iff_iff]; simp
  rw [he]
  obtain ⟨p, hp⟩ : ∃ p, decide (lowerP text = s) = p := ⟨_, rfl⟩
  rw [hp] at hL ⊢
  clear hq he rA hbl hp hs
  go_enter Tryz.func130, Tryz.ntmps130
  cases q with
  | false =>
    go_wp2_with fail
    go_ret
    exact ⟨rfl, bA⟩
  | true =>
    go_wp2_with fail
    refine (cL _).mono ?_
    rintro e w1 ⟨rfl, hb1⟩
    have hB1 : Below w.heap.size w w1 := bA.trans (hb1.mono hsz)
    go_wp2_with fail
    go_ret
    exact ⟨by first | rfl | rw [hL] | simp [hL], hB1⟩
end Go.Proofs.YtfhdihdafmahgaaGreatDoor
/- A statement that draws its order, whose operations only read, and whose callees leave all that was there as it was (they may make new memory): one walk, in the order of the text. -/
set_option linter.unusedVariables false
namespace Go.Proofs.YtfhdihdafmahgaaGreatDoor
open Go.RowKit
/-- a world in which all blocks below B are as in w -/
structure BW (B : Nat) (w : World) where
  val : World
  is : Below B w val
instance {B : Nat} {w : World} : Nonempty (BW B w) := ⟨⟨w, Below.refl B w⟩⟩
theorem wp_region_bw {P : Program} (B : Nat) {id : Nat} {Q : Exit → Act → World → Prop} {a : Act} {w : World} {l : List Oper} (hm : P.follows .mixedOrders = true) (hB : Region.lexB .any l.toArray = true)
    (h : wpQuiet P l.toArray (fun w' => ∃ W : BW B w, w' = W.val) (fun a' => ∀ w', (∃ W : BW B w, w' = W.val) → Q .normal a' w') l a) : (Code.region id l.toArray true).wp P Q a w :=
  wp_region_quiet (C := fun w' => ∃ W : BW B w, w' = W.val) hm hB ⟨⟨_, (Below.refl B w).drew⟩, rfl⟩ (by simpa using h)
/-- a callee's contract, met in such a world -/
theorem calls_bw {P : Program} {f : FuncId} {args : Array Value} {B : Nat} {w : World} (hB : B ≤ w.heap.size) {W : BW B w} {v : Value}
    (h : Calls P f args W.val fun e w' => e = .returned v ∧ Below W.val.heap.size W.val w') : Calls P f args W.val fun e w'' => e = .returned v ∧ ∃ W' : BW B w, w'' = W'.val :=
  h.mono fun _ w' ⟨he, hb⟩ => ⟨he, ⟨w', W.is.trans (hb.mono (Nat.le_trans hB W.is.size))⟩, rfl⟩
theorem calls_bw_same {P : Program} {f : FuncId} {args : Array Value} {B : Nat} {w : World} {W : BW B w} {v : Value}
    (h : Calls P f args W.val fun e w' => e = .returned v ∧ W.val = w') : Calls P f args W.val fun e w'' => e = .returned v ∧ ∃ W' : BW B w, w'' = W'.val :=
  h.mono fun _ w' ⟨he, hb⟩ => ⟨he, W, hb.symm⟩
theorem bw_cell {B : Nat} {w : World} {p : Addr} {v : Value} (h : w.cell? p = some v) (hp : p.block < B) : ∀ W : BW B w, W.val.cell? p = some v := fun W => (W.is.cell hp).trans h
end Go.Proofs.YtfhdihdafmahgaaGreatDoor
/- runes.Hex is walked. -/
set_option linter.unusedVariables false
set_option linter.unusedSimpArgs false
namespace Go.Proofs.YtfhdihdafmahgaaGreatDoor
open Go.RowKit Rn
def hexText : ByteArray := ⟨#[48, 49, 50, 51, 52, 53, 54, 55, 56, 57, 97, 98, 99, 100, 101, 102]⟩
theorem hex_ascii : ∀ c : Fin 128, Lib.indexByte hexText.data.toList (low8 (UInt8.ofNat c.val)) = hexI (c.val : Int) := by decide +kernel
theorem hex_high : ∀ c : Fin 256, 128 ≤ c.val → Lib.indexByte hexText.data.toList (low8 (UInt8.ofNat c.val)) = -1 := by decide +kernel
theorem hex_first (c : Int) (hc : -2147483648 ≤ c ∧ c ≤ 2147483647) : ∃ b0, (lowerP (writeP [c]))[0]? = some b0 ∧ Lib.indexByte hexText.data.toList b0 = hexI c := by
  have hw : writeP [c] = Lib.encodeRune c := by simp [writeP]
  rw [hw]
  by_cases ha : 0 ≤ c ∧ c ≤ 127
  · refine ⟨low8 (UInt8.ofNat c.toNat), ?_, ?_⟩
    · simp only [Lib.encodeRune, Lib.encodeRuneZ_one ha.1 ha.2, lowerP, List.map_cons, List.map_nil, List.getElem?_cons_zero]
    · have := hex_ascii ⟨c.toNat, by omega⟩
      rw [this]
      have e : ((c.toNat : Nat) : Int) = c := by omega
      show hexI ((c.toNat : Nat) : Int) = hexI c
      rw [e]
  · have hx : hexI c = -1 := by unfold hexI; (repeat' split) <;> omega
    have : ∃ z : Int, 128 ≤ z ∧ z < 256 ∧ (Lib.encodeRune c)[0]? = some (UInt8.ofNat z.toNat) := by
      unfold Lib.encodeRune
      by_cases h2 : 128 ≤ c ∧ c ≤ 2047
      · rw [Lib.encodeRuneZ_two h2.1 h2.2]; exact ⟨192 + c / 64, by omega, by omega, rfl⟩
      · by_cases h3 : (2048 ≤ c ∧ c < 55296) ∨ (57343 < c ∧ c ≤ 65535)
        · rw [Lib.encodeRuneZ_three h3]; exact ⟨224 + c / 4096, by omega, by omega, rfl⟩
        · by_cases h4 : 65536 ≤ c ∧ c ≤ 1114111
          · rw [Lib.encodeRuneZ_four h4.1 h4.2]; exact ⟨240 + c / 262144, by omega, by omega, rfl⟩
          · rw [Lib.encodeRuneZ_bad (by omega)]; exact ⟨239, by omega, by omega, rfl⟩
    obtain ⟨z, z1, z2, hz⟩ := this
    refine ⟨low8 (UInt8.ofNat z.toNat), by rw [lowerP, List.getElem?_map, hz]; rfl, ?_⟩
    rw [hx]
    exact hex_high ⟨z.toNat, by omega⟩ (by simp; omega)

set_option maxRecDepth 100000 in
set_option maxHeartbeats 1000000 in
theorem rn_hex (c : Int) (w : World) (hc : -2147483648 ≤ c ∧ c ≤ 2147483647) :
    Calls Tryz.prog 150 #[.int .i32 c] w fun e w' => e = .returned (.int .i64 (hexI c)) ∧ Below w.heap.size w w' := by
  obtain ⟨b0, hb0, hx⟩ := hex_first c hc
  have Hb0 := Lib.hid hb0
  have Hx := Lib.hid hx
  clear hb0 hx
  go_enter Tryz.func150, Tryz.ntmps150
  go_wp2_with fail
  have hrow : RowAt (w.alloc (.cells #[.int .i32 c] 21)) w.heap.size ([c].map r32) := RowAt.new _ _ _
  have hr := (hrow.reads (B := w.heap.size + 1) (by omega))
  have hsz : (w.alloc (.cells #[.int .i32 c] 21)).heap.size = w.heap.size + 1 := by simp
  refine (rn_write [c] _ 1 1 _ (by rw [hsz]; exact hr) (by intro d hd; simp at hd; subst hd; exact hc) (by omega)).mono ?_
  rintro e w1 ⟨v, rfl, hown, hb1⟩
  obtain ⟨A, cp, rfl, _, _⟩ := own_form hown
  have hrd := Reads.of_own hown
  have hstr := run_str (P := Tryz.prog) (src := 22) (dst := 9) Tryz.underlying22 Tryz.underlying5 Tryz.underlying9 cp hrd
  have hbw : Below w.heap.size w w1 := ((Below.refl _ _).alloc (Nat.le_refl _) _).trans (hb1.mono (by rw [hsz]; omega))
  have hlen := writeP_len [c]
  clear hrd hown hrow hr hb1
  go_wp2_with fail
  refine (rn_lower (bytesOf (writeP [c])) _ (by rw [bytesOf_size]; simp at hlen; omega)).mono ?_
  rintro e w2 ⟨rfl, hb2⟩
  have hfin : Below w.heap.size w w2 := hbw.trans (hb2.mono hbw.size)
  have hS : (bytesOf (lowerP (bytesOf (writeP [c])).data.toList)).data.toList[0]? = some b0 := by simpa [bytesOf] using Hb0.out
  generalize bytesOf (lowerP (bytesOf (writeP [c])).data.toList) = S at *
  have hS0 : 0 < S.size := by
    rcases Nat.eq_zero_or_pos S.size with h | h
    · have : S.data.toList = [] := List.eq_nil_of_length_eq_zero (by rw [Array.length_toList]; exact h)
      rw [this] at hS; cases hS
    · exact h
  have hS1 : S[0]'hS0 = b0 := by
    have : S.data.toList[0]? = some (S[0]'hS0) := by
      rw [List.getElem?_eq_getElem (by rw [Array.length_toList]; exact hS0)]; rfl
    rw [this] at hS; injection hS
  have HS1 := Lib.hid hS1
  clear hS hS1 hstr hbw hb2 hlen
  go_wp2_with fail
  refine (Tryz.strings_IndexByte _ _ _).mono ?_
  rintro e w3 ⟨rfl, rfl⟩
  go_wp2
  go_ret
  refine ⟨ret_int ?_, hfin⟩
  rw [HS1.out]
  exact Hx.out
end Go.Proofs.YtfhdihdafmahgaaGreatDoor
/- Layer 3: the scanner in memory: where its place lies, and what a step leaves as it was. -/
set_option linter.unusedVariables false
set_option linter.unusedSimpArgs false
namespace Go.Proofs.YtfhdihdafmahgaaGreatDoor
open Go.RowKit Rn Tk
/-- The scanner at block S stands at character k of l; its place lies at block P; the characters below B. -/
structure At (w : World) (B S P : Nat) (A : Option Addr) (n cap : Nat) (l : List Int) (k : Nat) : Prop where
  s0 : w.cell? ⟨S, 0, none⟩ = some (.pointer (some ⟨P, 0, none⟩))
  p0 : w.cell? ⟨P, 0, none⟩ = some (.slice A n cap)
  p1 : w.cell? ⟨P, 1, none⟩ = some (.int .i64 (k : Int))
  fz : w.frozen? ⟨P, 1, none⟩ = false
  rd : Reads w B 1 A n (l.map r32)
  hB : B ≤ P
  hPS : P < S
  hS : S < w.heap.size
  hk : k ≤ n
  hn : n ≤ 1000000
  hc : n ≤ cap
  hm : cap ≤ maxLen
/-- What a step that moves the place may turn: block P alone. -/
abbrev Mv (P : Nat) (w w' : World) : Prop := w.grownBy w' (some P)
section
variable {w w' : World} {B S P n cap k : Nat} {A : Option Addr} {l : List Int}
theorem At.len (h : At w B S P A n cap l k) : l.length = n := by simpa using h.rd.len
theorem At.mv (h : At w B S P A n cap l k) (hb : w.grownBy w' none) : At w' B S P A n cap l k := by
  have hS := h.hS
  have hP := h.hPS
  have key : ∀ p : Addr, p.block < w.heap.size → w'.cell? p = w.cell? p := fun p hp => hb.cell_far p hp (by simp)
  exact { s0 := (key _ hS).trans h.s0, p0 := (key _ (Nat.lt_trans hP hS)).trans h.p0, p1 := (key _ (Nat.lt_trans hP hS)).trans h.p1, fz := (hb.frozen_far _ (Nat.lt_trans hP hS) (by simp)).trans h.fz, rd := h.rd.keep fun p hp => key p (Nat.lt_of_lt_of_le hp (by have := h.hB; omega)), hB := h.hB, hPS := h.hPS, hS := Nat.lt_of_lt_of_le hS hb.size, hk := h.hk, hn := h.hn, hc := h.hc, hm := h.hm }
theorem At.store (h : At w B S P A n cap l k) {k' : Nat} (hk : k' ≤ n) : At (w.setCell ⟨P, 1, none⟩ (.int .i64 (k' : Int))) B S P A n cap l k' := by
  have hS := h.hS
  have hP := h.hPS
  have hB := h.hB
  have other : ∀ p : Addr, p ≠ ⟨P, 1, none⟩ → (w.setCell ⟨P, 1, none⟩ (.int .i64 (k' : Int))).cell? p = w.cell? p := fun p hp => World.cell?_setCell_other w _ _ _ (Ne.symm hp)
  exact { s0 := (other _ (by intro e; injection e; omega)).trans h.s0, p0 := (other _ (by intro e; injection e; omega)).trans h.p0, p1 := World.cell?_setCell_same _ _ _ h.p1, fz := (World.frozen?_setCell _ _ _ _).trans h.fz, rd := h.rd.setCell hB _, hB := hB, hPS := hP, hS := by simpa [World.setCell] using hS, hk := hk, hn := h.hn, hc := h.hc, hm := h.hm }
end
theorem Mv.refl (P : Nat) (w : World) : Mv P w w := World.grownBy.refl _ _
theorem Mv.store (w : World) (P : Nat) (v : Value) : Mv P w (w.setCell ⟨P, 1, none⟩ v) := by
  refine ⟨rfl, rfl, rfl, by simp [World.setCell], fun i hi hne => ?_⟩
  simp only [World.setCell]
  rw [Array.getElem?_modify]
  rw [if_neg (fun e => hne (by rw [e]))]
theorem Mv.of {P : Nat} {w w' : World} (h : w.grownBy w' none) : Mv P w w' := h.but _
theorem grown_below {w w' : World} (h : w.grownBy w' none) : Below w.heap.size w w' := ⟨h.os, h.tape, h.output, h.size, fun i hi => h.block i hi (by simp)⟩
theorem below_grown {w w' : World} (h : Below w.heap.size w w') : w.grownBy w' none := ⟨h.os, h.tape, h.output, h.size, fun i hi _ => h.block i hi⟩
theorem grown_drewN (w : World) (q : Nat) : w.grownBy (w.drewN q) none := ⟨rfl, rfl, rfl, Nat.le_refl _, fun _ _ _ => rfl⟩
theorem pk_at {l : List Int} {k m : Nat} (h : k + m < l.length) : l[k + m]? = some (pk (l.drop k) m) := by
  rw [pk_drop, pk, List.getElem?_eq_getElem h]; rfl
theorem pk_end {l : List Int} {k m : Nat} (h : l.length ≤ k + m) : pk (l.drop k) m = -1 := by
  rw [pk_drop, pk, List.getElem?_eq_none h]; rfl
set_option maxRecDepth 100000 in
set_option maxHeartbeats 1000000 in
theorem tk_peek {w : World} {B S P n cap k : Nat} {A : Option Addr} {l : List Int} (m : Nat) (h : At w B S P A n cap l k) (hm : m ≤ 100) :
    Calls Tryz.prog 56 #[.pointer (some ⟨P, 0, none⟩), .int .i64 (m : Int)] w fun e w' => e = .returned (.int .i32 (pk (l.drop k) m)) ∧ w.grownBy w' none := by
  have hlen := h.len
  have hk := h.hk
  have hn := h.hn
  have p0 := h.p0
  have p1 := h.p1
  by_cases hlt : k + m < n
  · obtain ⟨b, off, u, hA, hbB, hu, hcell⟩ := h.rd.at_ hlt
    subst hA
    have hv : u = .int .i32 (pk (l.drop k) m) := by
      rw [List.getElem?_map, pk_at (by omega)] at hu
      simp at hu
      rw [← hu]; rfl
    subst hv
    have hx1 : (0 : Int) ≤ (k : Int) + (m : Int) := by omega
    have hx2 : (k : Int) + (m : Int) < (n : Int) := by omega
    have hx3 : ((k : Int) + (m : Int)).toNat = k + m := by omega
    generalize pk (l.drop k) m = c at *
    go_enter Tryz.func56, Tryz.ntmps56
    go_wp2_with fail
    go_quiet (fail)
    go_wp2_with fail
    go_quiet (fail)
    go_wp2
    go_ret
    exact ⟨rfl, (grown_drewN _ _).trans (grown_drewN _ _)⟩
  · have hv : pk (l.drop k) m = -1 := pk_end (by omega)
    rw [hv]
    have hx2 : (n : Int) ≤ (k : Int) + (m : Int) := by omega
    go_enter Tryz.func56, Tryz.ntmps56
    go_wp2_with fail
    go_quiet (fail)
    go_wp2
    go_ret
    exact ⟨rfl, grown_drewN _ _⟩
theorem pk_shift (l : List Int) (k m i : Nat) : pk (l.drop k) (m + i) = pk (l.drop (k + m)) i := by rw [pk_drop, pk_drop, Nat.add_assoc]
theorem eq_f {a b : Int} (h : ¬ a = b) : (a == b) = false := by simpa using h
theorem eq_t {a b : Int} (h : a = b) : (a == b) = true := by simpa using h
set_option maxRecDepth 100000 in
set_option maxHeartbeats 1000000 in
theorem tk_escape {w : World} {B S P n cap k : Nat} {A : Option Addr} {l : List Int} (m : Nat) (h : At w B S P A n cap l k) (hm : m ≤ 50) :
    Calls Tryz.prog 88 #[.pointer (some ⟨S, 0, none⟩), .int .i64 (m : Int)] w fun e w' => e = .returned (.bool (esc (l.drop (k + m)))) ∧ w.grownBy w' none := by
  have s0 := h.s0
  have hp0 := tk_peek m h (by omega)
  have hp1 := fun w' (g : w.grownBy w' none) => tk_peek (m + 1) (h.mv g) (by omega)
  have hv : esc (l.drop (k + m)) = decide (pk (l.drop k) m = 92 ∧ 0 ≤ pk (l.drop k) (m + 1) ∧ pk (l.drop k) (m + 1) ≠ 10) := by
    unfold esc; rw [← pk_shift, ← pk_shift]; rfl
  rw [hv]
  clear hv
  generalize pk (l.drop k) m = c0 at *
  generalize pk (l.drop k) (m + 1) = c1 at *
  have hcast : ((m + 1 : Nat) : Int) = (m : Int) + 1 := by omega
  rw [hcast] at hp1
  by_cases e0 : c0 = 92
  · have b0 := eq_t e0
    by_cases e1 : 0 ≤ c1
    · have b1 : decide (0 ≤ c1) = true := by simpa using e1
      have hfin : decide (c0 = 92 ∧ 0 ≤ c1 ∧ c1 ≠ 10) = (c1 != 10) := by rw [Bool.eq_iff_iff]; simp [e0, e1]
      rw [hfin]
      clear e0 hfin
      go_enter Tryz.func88, Tryz.ntmps88
      go_wp2_with fail
      refine hp0.mono ?_
      rintro e w1 ⟨rfl, g1⟩
      have s1 := (h.mv g1).s0
      go_wp2_with fail
      refine (hp1 w1 g1).mono ?_
      rintro e w2 ⟨rfl, g2⟩
      have g2 := g1.trans g2
      have s2 := (h.mv g2).s0
      go_wp2_with fail
      refine (hp1 w2 g2).mono ?_
      rintro e w3 ⟨rfl, g3⟩
      have g3 := g2.trans g3
      go_wp2
      go_ret
      exact ⟨rfl, g3⟩
    · have b1 : decide (0 ≤ c1) = false := by simpa using e1
      have hfin : decide (c0 = 92 ∧ 0 ≤ c1 ∧ c1 ≠ 10) = false := by simp [e1]
      rw [hfin]
      clear e0 hfin
      go_enter Tryz.func88, Tryz.ntmps88
      go_wp2_with fail
      refine hp0.mono ?_
      rintro e w1 ⟨rfl, g1⟩
      have s1 := (h.mv g1).s0
      go_wp2_with fail
      refine (hp1 w1 g1).mono ?_
      rintro e w2 ⟨rfl, g2⟩
      have g2 := g1.trans g2
      go_wp2
      go_ret
      exact ⟨rfl, g2⟩
  · have b0 := eq_f e0
    have hfin : decide (c0 = 92 ∧ 0 ≤ c1 ∧ c1 ≠ 10) = false := by simp [e0]
    rw [hfin]
    go_enter Tryz.func88, Tryz.ntmps88
    go_wp2_with fail
    refine hp0.mono ?_
    rintro e w1 ⟨rfl, g1⟩
    go_wp2
    go_ret
    exact ⟨rfl, g1⟩
end Go.Proofs.YtfhdihdafmahgaaGreatDoor
/- Layer 3: does a name begin here? is walked. -/
set_option linter.unusedVariables false
set_option linter.unusedSimpArgs false
namespace Go.Proofs.YtfhdihdafmahgaaGreatDoor
open Go.RowKit Rn Tk
set_option maxRecDepth 100000 in
set_option maxHeartbeats 1000000 in
theorem tk_may {w : World} {B S P n cap k X : Nat} {A : Option Addr} {l : List Int} (m : Nat) (h : At w B S P A n cap l k) (hm : m ≤ 50) (hX : w.cell? ⟨X, 0, none⟩ = some (.pointer (some ⟨S, 0, none⟩))) (hXl : X < w.heap.size) :
    Calls Tryz.prog 129 #[.int .i64 (m : Int), .pointer (some ⟨X, 0, none⟩)] w fun e w' => e = .returned (.bool (may (l.drop (k + m)))) ∧ w.grownBy w' none := by
  have s0 := h.s0
  have hp0 := tk_peek m h (by omega)
  have hp1 := fun w' (g : w.grownBy w' none) => tk_escape m (h.mv g) (by omega)
  have hv : may (l.drop (k + m)) = (beginsB (pk (l.drop k) m) || esc (l.drop (k + m))) := by unfold may; rw [← pk_shift]; rfl
  rw [hv]
  clear hv
  generalize pk (l.drop k) m = c0 at *
  generalize esc (l.drop (k + m)) = b1 at *
  cases hb : beginsB c0 with
  | true =>
    rw [Bool.true_or]
    go_enter Tryz.func129, Tryz.ntmps129
    go_wp2_with fail
    refine hp0.mono ?_
    rintro e w1 ⟨rfl, g1⟩
    go_wp2_with fail
    refine (rn_begins c0 w1).mono ?_
    rintro e w2 ⟨rfl, rfl⟩
    rw [hb]
    go_wp2
    go_ret
    exact ⟨rfl, g1⟩
  | false =>
    rw [Bool.false_or]
    go_enter Tryz.func129, Tryz.ntmps129
    go_wp2_with fail
    refine hp0.mono ?_
    rintro e w1 ⟨rfl, g1⟩
    have hX1 := (g1.cell_far ⟨X, 0, none⟩ hXl (by simp)).trans hX
    go_wp2_with fail
    refine (rn_begins c0 w1).mono ?_
    rintro e w2 ⟨rfl, rfl⟩
    rw [hb]
    go_wp2_with fail
    refine (hp1 w1 g1).mono ?_
    rintro e w2 ⟨rfl, g2⟩
    have g2 := g1.trans g2
    go_wp2
    go_ret
    exact ⟨rfl, g2⟩
set_option maxRecDepth 100000 in
set_option maxHeartbeats 2000000 in
theorem tk_begins {w : World} {B S P n cap k : Nat} {A : Option Addr} {l : List Int} (m : Nat) (h : At w B S P A n cap l k) (hm : m ≤ 20) :
    Calls Tryz.prog 91 #[.pointer (some ⟨S, 0, none⟩), .int .i64 (m : Int)] w fun e w' => e = .returned (.bool (beg (l.drop (k + m)))) ∧ w.grownBy w' none := by
  have ga : w.grownBy (w.alloc (.cells #[.pointer (some ⟨S, 0, none⟩)] 81)) none := World.grownBy_alloc _ _ _
  have hXa : (w.alloc (.cells #[.pointer (some ⟨S, 0, none⟩)] 81)).cell? ⟨w.heap.size, 0, none⟩ = some (.pointer (some ⟨S, 0, none⟩)) := ((RowAt.new w _ #[_]).2 0 _ rfl).1
  have hXl : w.heap.size < (w.alloc (.cells #[.pointer (some ⟨S, 0, none⟩)] 81)).heap.size := by simp
  have hv : beg (l.drop (k + m)) = (may (l.drop (k + m)) || (decide (pk (l.drop k) m = 45) && (may (l.drop (k + (m + 1))) || decide (pk (l.drop k) (m + 1) = 45)))) := by
    unfold beg; rw [List.tail_drop, ← pk_shift, ← pk_shift]; rfl
  rw [hv]
  clear hv
  obtain ⟨w0, hw0⟩ : ∃ w0, w.alloc (.cells #[.pointer (some ⟨S, 0, none⟩)] 81) = w0 := ⟨_, rfl⟩
  rw [hw0] at ga hXa hXl
  have h0 := h.mv ga
  have kX : ∀ w', w0.grownBy w' none → w'.cell? ⟨w.heap.size, 0, none⟩ = some (.pointer (some ⟨S, 0, none⟩)) := fun w' g => (g.cell_far ⟨w.heap.size, 0, none⟩ hXl (by simp)).trans hXa
  have kL : ∀ w', w0.grownBy w' none → w.heap.size < w'.heap.size := fun w' g => Nat.lt_of_lt_of_le hXl g.size
  have cM := tk_may m h0 (by omega) hXa hXl
  have cM1 := fun w' (g : w0.grownBy w' none) => tk_may (m + 1) (h0.mv g) (by omega) (kX w' g) (kL w' g)
  have cP := fun w' (g : w0.grownBy w' none) => tk_peek m (h0.mv g) (by omega)
  have cP1 := fun w' (g : w0.grownBy w' none) => tk_peek (m + 1) (h0.mv g) (by omega)
  have kS : ∀ w', w0.grownBy w' none → w'.cell? ⟨S, 0, none⟩ = some (.pointer (some ⟨P, 0, none⟩)) := fun w' g => (h0.mv g).s0
  have hcast : ((m + 1 : Nat) : Int) = (m : Int) + 1 := by omega
  rw [hcast] at cM1 cP1
  generalize pk (l.drop k) m = c0 at *
  generalize pk (l.drop k) (m + 1) = c1 at *
  generalize may (l.drop (k + m)) = b0 at *
  generalize may (l.drop (k + (m + 1))) = b1 at *
  clear h h0
  cases b0 with
  | true =>
    go_enter Tryz.func91, Tryz.ntmps91
    go_wp2_with fail
    refine cM.mono ?_
    rintro e w1 ⟨rfl, g1⟩
    go_wp2
    go_ret
    exact ⟨rfl, ga.trans g1⟩
  | false =>
    by_cases e0 : c0 = 45
    · have t0 := eq_t e0
      cases b1 with
      | true =>
        have hfin : (false || (decide (c0 = 45) && (true || decide (c1 = 45)))) = true := by simp [e0]
        rw [hfin]
        clear e0 hfin
        go_enter Tryz.func91, Tryz.ntmps91
        go_wp2_with fail
        refine cM.mono ?_
        rintro e w1 ⟨rfl, g1⟩
        have x1 := kX w1 g1
        have y1 := kS w1 g1
        go_wp2_with fail
        refine (cP w1 g1).mono ?_
        rintro e w2 ⟨rfl, g2⟩
        have g2 := g1.trans g2
        go_wp2_with fail
        refine (cM1 w2 g2).mono ?_
        rintro e w3 ⟨rfl, g3⟩
        have g3 := g2.trans g3
        go_wp2
        go_ret
        exact ⟨rfl, ga.trans g3⟩
      | false =>
        have hfin : (false || (decide (c0 = 45) && (false || decide (c1 = 45)))) = (c1 == 45) := by rw [Bool.eq_iff_iff]; simp [e0]
        rw [hfin]
        clear e0 hfin
        go_enter Tryz.func91, Tryz.ntmps91
        go_wp2_with fail
        refine cM.mono ?_
        rintro e w1 ⟨rfl, g1⟩
        have x1 := kX w1 g1
        have y1 := kS w1 g1
        go_wp2_with fail
        refine (cP w1 g1).mono ?_
        rintro e w2 ⟨rfl, g2⟩
        have g2 := g1.trans g2
        go_wp2_with fail
        refine (cM1 w2 g2).mono ?_
        rintro e w3 ⟨rfl, g3⟩
        have g3 := g2.trans g3
        have x3 := kX w3 g3
        have y3 := kS w3 g3
        go_wp2_with fail
        refine (cP1 w3 g3).mono ?_
        rintro e w4 ⟨rfl, g4⟩
        have g4 := g3.trans g4
        go_wp2
        go_ret
        exact ⟨rfl, ga.trans g4⟩
    · have t0 := eq_f e0
      have hfin : (false || (decide (c0 = 45) && (b1 || decide (c1 = 45)))) = false := by simp [e0]
      rw [hfin]
      clear hfin
      go_enter Tryz.func91, Tryz.ntmps91
      go_wp2_with fail
      refine cM.mono ?_
      rintro e w1 ⟨rfl, g1⟩
      have x1 := kX w1 g1
      have y1 := kS w1 g1
      go_wp2_with fail
      refine (cP w1 g1).mono ?_
      rintro e w2 ⟨rfl, g2⟩
      have g2 := g1.trans g2
      go_wp2
      go_ret
      exact ⟨rfl, ga.trans g2⟩
end Go.Proofs.YtfhdihdafmahgaaGreatDoor
/- Layer 3: what an escape means is walked. -/
set_option linter.unusedVariables false
set_option linter.unusedSimpArgs false
namespace Go.Proofs.YtfhdihdafmahgaaGreatDoor
open Go.RowKit Rn Tk
def Chars (l : List Int) : Prop := ∀ c ∈ l, isB c = true
theorem isB_range {c : Int} (h : isB c = true) : 0 ≤ c ∧ c ≤ 1114111 := by unfold isB at h; simp at h; omega
theorem pk_range {l : List Int} (h : Chars l) (m : Nat) : -1 ≤ pk l m ∧ pk l m ≤ 1114111 := by
  unfold pk
  cases hm : l[m]? with
  | none => simp
  | some c => have := isB_range (h c (List.mem_of_getElem? hm)); simp; omega
theorem pk_is {l : List Int} (h : Chars l) {m : Nat} (hm : m < l.length) : isB (pk l m) = true := by
  unfold pk; rw [List.getElem?_eq_getElem hm]; exact h _ (List.getElem_mem hm)
theorem pk_pos {l : List Int} {m : Nat} (hm : -1 < pk l m) : m < l.length := by
  unfold pk at hm
  cases hx : l[m]? with
  | none => rw [hx] at hm; simp at hm
  | some c => exact (List.getElem?_eq_some_iff.1 hx).1
theorem Chars.drop {l : List Int} (h : Chars l) (k : Nat) : Chars (l.drop k) := fun c hc => h c (List.mem_of_mem_drop hc)
theorem Chars.tail {l : List Int} (h : Chars l) : Chars l.tail := fun c hc => h c (List.mem_of_mem_tail hc)
theorem hexI_range (c : Int) : -1 ≤ hexI c ∧ hexI c ≤ 15 := by unfold hexI; (repeat' split) <;> omega
theorem hexI_pos {c : Int} (h : 0 ≤ hexI c) : 48 ≤ c := by unfold hexI at h; (repeat' split at h) <;> omega
theorem hexes_yes {f n : Nat} {r : List Int} (h : 0 ≤ hexI (pk r 0)) : hexes (f + 1) n r = hexes f (16 * n + (hexI (pk r 0)).toNat) r.tail := by rw [hexes, if_pos h]
theorem hexes_no {f n : Nat} {r : List Int} (h : hexI (pk r 0) < 0) : hexes f n r = (n, r) := by cases f <;> unfold hexes <;> simp; omega
set_option maxRecDepth 100000 in
set_option maxHeartbeats 4000000 in
theorem tk_meant {w : World} {B S P n cap k : Nat} {A : Option Addr} {l : List Int} (h : At w B S P A n cap l k) (hch : Chars l) (hk1 : k + 1 < n) :
    Calls Tryz.prog 123 #[.pointer (some ⟨S, 0, none⟩)] w fun e w' => e = .returned (.int .i32 (meantT (l.drop (k + 1))).1) ∧ Mv P w w' ∧ ∃ k', k + 1 < k' ∧ l.drop k' = (meantT (l.drop (k + 1))).2 ∧ At w' B S P A n cap l k' := by
  have hlen := h.len
  have hn := h.hn
  have hr := fun j m => pk_range (hch.drop j) m
  obtain ⟨M, hM⟩ : ∃ M, meantT (l.drop (k + 1)) = M := ⟨_, rfl⟩
  rw [hM]
  have HM := Lib.hid hM
  have Hch := Lib.hid hch
  have Hr := Lib.hid hr
  clear hM hch hr
  have a1 := h.s0
  have a2 := h.p0
  have a3 := h.p1
  have a4 := h.fz
  have h1 := h.store (k' := k + 1) (by omega)
  have m1 := Mv.store w P (.int .i64 ((k + 1 : Nat) : Int))
  rw [Int.natCast_add] at h1 m1
  go_enter Tryz.func123, Tryz.ntmps123
  go_upto_block 0 with (fail)
  go_cut [3, 4] (fun x y wx => ∃ (i N j : Nat), i ≤ 6 ∧ Hid (j = k + 1 + i) ∧ Hid (hexes 6 0 (l.drop (k + 1)) = (N, l.drop j)) ∧ N ≤ 16777215 ∧ (0 < i → 0 ≤ hexI (pk (l.drop (k + 1)) 0)) ∧ (i = 0 → hexI (pk (l.drop (k + 1)) 0) < 0) ∧ At wx B S P A n cap l j ∧ Mv P w wx ∧ x = .int .i64 (N : Int) ∧ y = .int .i64 (i : Int))
  case first =>
    go_wp2_with fail
    go_loopw [3, 4] (fun x y wr => ∃ (i N j : Nat), i ≤ 6 ∧ Hid (j = k + 1 + i) ∧ Hid (hexes (6 - i) N (l.drop j) = hexes 6 0 (l.drop (k + 1))) ∧ N < 16 ^ i ∧ (0 < i → 0 ≤ hexI (pk (l.drop (k + 1)) 0)) ∧ At wr B S P A n cap l j ∧ Mv P w wr ∧ x = .int .i64 (N : Int) ∧ y = .int .i64 (i : Int)) (fun _ y _ => 6 - (intOf y).toNat)
    case atStart => exact ⟨0, 0, k + 1, by omega, rfl, rfl, by omega, by omega, h1, m1, rfl, rfl⟩
    case round =>
      obtain ⟨i, N, j, hi, hj, hrun, hN, hpos, hat, hmv, rfl, rfl⟩ := hrel
      have b1 := hat.s0
      by_cases hi6 : i < 6
      · have hp := tk_peek 0 hat (by omega)
        obtain ⟨c, hc⟩ : ∃ c, pk (l.drop j) 0 = c := ⟨_, rfl⟩
        have hcr := Hr.out j 0
        rw [hc] at hcr hp
        have hxr := hexI_range c
        have hN5 : N < 1048576 := Nat.lt_of_lt_of_le hN (Nat.pow_le_pow_right (n := 16) (by omega) (show i ≤ 5 by omega))
        by_cases hx : 0 ≤ hexI c
        · have hjn : j < n := by
            have h48 := hexI_pos hx
            have := pk_pos (l := l.drop j) (m := 0) (by rw [hc]; omega)
            rw [List.length_drop] at this; omega
          have hfirst : 0 ≤ hexI (pk (l.drop (k + 1)) 0) := by
            by_cases h0 : i = 0
            · have : j = k + 1 := by have := hj.out; omega
              rw [← this, hc]; exact hx
            · exact hpos (by omega)
          have hnew : hexes (6 - (i + 1)) (16 * N + (hexI c).toNat) (l.drop (j + 1)) = hexes 6 0 (l.drop (k + 1)) := by
            rw [← hrun.out, show 6 - i = (6 - (i + 1)) + 1 by omega, hexes_yes (by rw [hc]; exact hx), hc, List.tail_drop]
          obtain ⟨x, hxe⟩ : ∃ x : Nat, hexI c = (x : Int) := ⟨(hexI c).toNat, by omega⟩
          have hxx : (hexI c).toNat = x := by omega
          rw [hxx] at hnew
          have Hnew := Lib.hid hnew
          have Hx := Lib.hid hxe
          have hx15 : x ≤ 15 := by omega
          have hNn : 16 * N + x < 16 ^ (i + 1) := by rw [Nat.pow_succ]; omega
          have hdx : decide ((0 : Int) ≤ (x : Int)) = true := by simp
          clear hnew hxe hxx hx
          go_wp2_with fail
          refine hp.mono ?_
          rintro e w1 ⟨rfl, g1⟩
          have hat1 := hat.mv g1
          go_wp2_with fail
          refine (rn_hex c w1 (by omega)).mono ?_
          rintro e w2 ⟨rfl, g2⟩
          rw [Hx.out]
          have hat2 := hat1.mv (below_grown g2)
          have mv2 : Mv P w w2 := (hmv.trans (Mv.of g1)).trans (Mv.of (below_grown g2))
          have b2 := hat2.s0
          have hp2 := tk_peek 0 hat2 (by omega)
          rw [hc] at hp2
          go_wp2_with fail
          refine hp2.mono ?_
          rintro e w3 ⟨rfl, g3⟩
          have hat3 := hat2.mv g3
          go_wp2_with fail
          refine (rn_hex c w3 (by omega)).mono ?_
          rintro e w4 ⟨rfl, g4⟩
          rw [Hx.out]
          have hat4 := hat3.mv (below_grown g4)
          have mv4 : Mv P w w4 := (mv2.trans (Mv.of g3)).trans (Mv.of (below_grown g4))
          have b4 := hat4.s0
          have c4 := hat4.p1
          have d4 := hat4.fz
          have e4 := hat4.p0
          have h5 := hat4.store (k' := j + 1) (by omega)
          have m5 := mv4.trans (Mv.store w4 P (.int .i64 ((j + 1 : Nat) : Int)))
          rw [Int.natCast_add] at h5 m5
          go_wp2_with fail
          go_roundw
          case rel => exact ⟨i + 1, 16 * N + x, j + 1, by omega, (by have := hj.out; show _ = _; omega), Hnew, hNn, fun _ => hfirst, h5, m5, congrArg (Value.int IntKind.i64) (by omega), congrArg (Value.int IntKind.i64) (by omega)⟩
          case measure => simp [intOf]; omega
        · have hneg : hexI c < 0 := by omega
          have hx1 : hexI c = -1 := by omega
          have hdx : decide ((0 : Int) ≤ hexI c) = false := by simpa using hneg
          have hend : hexes 6 0 (l.drop (k + 1)) = (N, l.drop j) := by rw [← hrun.out, hexes_no (by rw [hc]; exact hneg)]
          have Hend := Lib.hid hend
          have hN9 : N ≤ 16777215 := by omega
          have hz : i = 0 → hexI (pk (l.drop (k + 1)) 0) < 0 := by
            intro h0
            have : j = k + 1 := by have := hj.out; omega
            rw [← this, hc]; exact hneg
          clear hend
          go_wp2_with fail
          refine hp.mono ?_
          rintro e w1 ⟨rfl, g1⟩
          have hat1 := hat.mv g1
          go_wp2_with fail
          refine (rn_hex c w1 (by omega)).mono ?_
          rintro e w2 ⟨rfl, g2⟩
          have hat2 := hat1.mv (below_grown g2)
          have mv2 : Mv P w w2 := (hmv.trans (Mv.of g1)).trans (Mv.of (below_grown g2))
          go_wp2_with fail
          go_meet
          exact ⟨i, N, j, hi, hj, Hend, hN9, hpos, hz, hat2, mv2, rfl, rfl⟩
      · obtain rfl : i = 6 := by omega
        have hend : hexes 6 0 (l.drop (k + 1)) = (N, l.drop j) := by rw [← hrun.out]; rfl
        have Hend := Lib.hid hend
        have hN9 : N ≤ 16777215 := by omega
        clear hend
        go_wp2_with fail
        go_meet
        exact ⟨6, N, j, by omega, hj, Hend, hN9, hpos, by omega, hat, hmv, rfl, rfl⟩
  case rest =>
    obtain ⟨i, N, j, hi, hj, Hend, hN, hpos, hz, hat, hmv, rfl, rfl⟩ := hcut
    clear a1 a2 a3 a4 h1 m1
    have a1 := hat.s0
    have a2 := hat.p0
    have a3 := hat.p1
    have a4 := hat.fz
    have hjn := hat.hk
    by_cases h0 : i = 0
    · obtain rfl : j = k + 1 := by have := hj.out; omega
      clear hj
      have hneg := hz h0
      have hm : M = (pk (l.drop (k + 1)) 0, (l.drop (k + 1)).tail) := by rw [← HM.out]; unfold meantT; rw [if_pos hneg]
      have hbz : ((i : Int) == 0) = true := by simp; omega
      have h5 := hat.store (k' := k + 1 + 1) (by omega)
      have m5 := hmv.trans (Mv.store wc P (.int .i64 ((k + 1 + 1 : Nat) : Int)))
      push_cast at h5 m5 a3
      obtain ⟨b, off, hA, _, hcell'⟩ := h5.rd.open_ (by omega)
      subst hA
      have hcell5 := hcell' (k + 1) (.int .i32 (pk (l.drop (k + 1)) 0)) (by rw [List.getElem?_map, show k + 1 = k + 1 + 0 from rfl, pk_at (by omega)]; rfl)
      have hM1 : M.1 = pk (l.drop (k + 1)) 0 := by rw [hm]
      have hM2 : M.2 = l.drop (k + 2) := by rw [hm, List.tail_drop]
      have HM1 := Lib.hid hM1
      have HM2 := Lib.hid hM2
      have x1 : (0 : Int) ≤ (k : Int) + 1 := by omega
      have x2 : (k : Int) + 1 < (n : Int) := by omega
      have x3 : ((k : Int) + 1).toNat = k + 1 := by omega
      have y1 := h5.s0
      have y2 := h5.p0
      have y3 := h5.p1
      push_cast at y3
      clear hm hM1 hM2 h0 hneg hcell' hz hpos Hend HM
      generalize pk (l.drop (k + 1)) 0 = c at *
      go_wp2_with fail
      go_quiet (fail)
      go_wp2
      go_ret
      refine ⟨by rw [HM1.out]; rfl, m5.trans (Mv.of (grown_drewN _ _)), k + 2, by omega, by rw [HM2.out], h5.mv (grown_drewN _ _)⟩
    · have hfst := hpos (by omega)
      obtain ⟨c, hc⟩ : ∃ c, pk (l.drop j) 0 = c := ⟨_, rfl⟩
      have hcr := Hr.out j 0
      have hp := tk_peek 0 hat (by omega)
      rw [hc] at hcr hp
      have hM1 : M.1 = numC' N := by rw [← HM.out]; unfold meantT; rw [if_neg (by omega), Hend.out]
      have hM2 : M.2 = if whiteB c = true then l.drop (j + 1) else l.drop j := by
        rw [← HM.out]; unfold meantT; rw [if_neg (by omega), Hend.out]
        simp only [hc, List.tail_drop]
      have hjk : k + 1 < j := by have := hj.out; omega
      have hbz : ((i : Int) == 0) = false := by simp; omega
      have HM1 := Lib.hid hM1
      have HM2 := Lib.hid hM2
      have Hc := Lib.hid hc
      clear hM1 hM2 hfst hz hpos Hend HM hc
      go_upto_if 81 with (first | (go_at_call 56; refine hp.mono ?_; rintro e w1 ⟨rfl, g1⟩) | (go_at_call 85; refine (rn_white c _).mono ?_; rintro e w2 ⟨rfl, rfl⟩))
      have hat1 := hat.mv g1
      have mv1 : Mv P w w1 := hmv.trans (Mv.of g1)
      go_cut [3] (fun x wx => x = .int .i64 (N : Int) ∧ ∃ k', k + 1 < k' ∧ Hid (l.drop k' = M.2) ∧ At wx B S P A n cap l k' ∧ Mv P w wx)
      case first =>
        cases hwt : whiteB c with
        | true =>
          have hjl : j < n := by
            have hpos : -1 < pk (l.drop j) 0 := by
              rw [Hc.out]; unfold whiteB at hwt; simp at hwt; omega
            have := pk_pos hpos
            rw [List.length_drop] at this; omega
          have b1 := hat1.s0
          have b2 := hat1.p0
          have b3 := hat1.p1
          have b4 := hat1.fz
          have h5 := hat1.store (k' := j + 1) (by omega)
          have m5 := mv1.trans (Mv.store w1 P (.int .i64 ((j + 1 : Nat) : Int)))
          push_cast at h5 m5
          go_wp2_with fail
          go_meet
          exact ⟨rfl, j + 1, by omega, (by show _ = _; rw [HM2.out, if_pos hwt]), h5, m5⟩
        | false =>
          go_wp2_with fail
          go_meet
          exact ⟨rfl, j, hjk, (by show _ = _; rw [HM2.out, if_neg (by rw [hwt]; simp)]), hat1, mv1⟩
      case rest =>
        obtain ⟨rfl, k', hk', hd, hat', hmv'⟩ := hcut
        by_cases hN0 : N = 0
        · have hM1' : M.1 = 65533 := by rw [HM1.out]; unfold numC'; rw [if_pos (.inl hN0)]
          have H1 := Lib.hid hM1'
          have hz0 : ((N : Int) == 0) = true := by simp; omega
          clear hM1' hN0
          generalize (N : Int) = z at *
          go_wp2
          go_ret
          exact ⟨by rw [H1.out]; rfl, hmv', k', hk', hd.out, hat'⟩
        · have hz0 : ((N : Int) == 0) = false := by simp; omega
          cases hB : isB (N : Int) with
          | true =>
            have hM1' : M.1 = N := by rw [HM1.out]; unfold numC'; rw [if_neg (by simp [hN0, hB])]
            have H1 := Lib.hid hM1'
            clear hM1'
            go_wp2_with fail
            refine (rn_is (N : Int) _).mono ?_
            rintro e w9 ⟨rfl, rfl⟩
            rw [hB]
            go_wp2
            go_ret
            exact ⟨by rw [H1.out]; rfl, hmv', k', hk', hd.out, hat'⟩
          | false =>
            have hM1' : M.1 = 65533 := by rw [HM1.out]; unfold numC'; rw [if_pos (.inr hB)]
            have H1 := Lib.hid hM1'
            clear hM1'
            go_wp2_with fail
            refine (rn_is (N : Int) _).mono ?_
            rintro e w9 ⟨rfl, rfl⟩
            rw [hB]
            go_wp2
            go_ret
            exact ⟨by rw [H1.out]; rfl, hmv', k', hk', hd.out, hat'⟩
end Go.Proofs.YtfhdihdafmahgaaGreatDoor
set_option linter.unusedVariables false
set_option linter.unusedSimpArgs false
namespace Go.Proofs.YtfhdihdafmahgaaGreatDoor
open Go.RowKit Rn Tk
section
variable {w w' w1 w2 : World} {B S P n cap k : Nat} {A : Option Addr} {l : List Int} {row : Option Nat}
theorem At.grown (h : At w B S P A n cap l k) (hg : w.grownBy w' row) (hr : ∀ g, row = some g → S < g) : At w' B S P A n cap l k := by
  have hS := h.hS
  have hP := h.hPS
  have hBP := h.hB
  have ne : ∀ b, b ≤ S → some b ≠ row := fun b hb e => by have := hr b e.symm; omega
  have key : ∀ p : Addr, p.block ≤ S → w'.cell? p = w.cell? p := fun p hp => hg.cell_far p (by omega) (ne _ hp)
  exact { s0 := (key _ (Nat.le_refl _)).trans h.s0, p0 := (key _ (Nat.le_of_lt hP)).trans h.p0, p1 := (key _ (Nat.le_of_lt hP)).trans h.p1, fz := (hg.frozen_far _ (by simp only []; omega) (ne _ (Nat.le_of_lt hP))).trans h.fz, rd := h.rd.keep fun p hp => key p (by omega), hB := h.hB, hPS := h.hPS, hS := Nat.lt_of_lt_of_le hS hg.size, hk := h.hk, hn := h.hn, hc := h.hc, hm := h.hm }
theorem Mv.push {o : Obj} {e : TypeId} {size m : Nat} {v : Value} {xs : List Value} (h : Mv P w w1) (hown : w1.ownsRow w.heap.size e size v m xs) (hg : (w1.alloc o).grownBy w2 v.ownBlock) : Mv P w w2 :=
  (h.trans (Mv.of (World.grownBy_alloc _ _ _))).andThen hg fun j hj => .inl (hown.lt j hj).1
theorem At.push {o : Obj} {e : TypeId} {size m base : Nat} {v : Value} {xs : List Value} (h : At w1 B S P A n cap l k) (hS : S < base) (hown : w1.ownsRow base e size v m xs) (hg : (w1.alloc o).grownBy w2 v.ownBlock) : At w2 B S P A n cap l k :=
  (h.mv (World.grownBy_alloc _ _ _)).grown hg fun g hgr => Nat.lt_of_lt_of_le hS (hown.lt g hgr).1
theorem own_mv {e : TypeId} {size m base : Nat} {v : Value} {xs : List Value} (h : w.ownsRow base e size v m xs) (hP : P < base) (hm : Mv P w w') : w'.ownsRow base e size v m xs := by
  refine h.kept hm ?_
  cases hb : v.ownBlock with
  | none => exact .inl rfl
  | some g => refine .inr ?_; intro hg; injection hg with hg; have := (h.lt g hb).1; omega
end
def posOf (P : Nat) (w : World) : Nat := match w.cell? ⟨P, 1, none⟩ with
  | some (.int _ z) => z.toNat
  | _ => 0
theorem At.pos {w : World} {B S P n cap k : Nat} {A : Option Addr} {l : List Int} (h : At w B S P A n cap l k) : posOf P w = k := by
  unfold posOf; rw [h.p1]; simp
theorem rune_info : (Tryz.prog.info? 21).map (fun i => (i.zero, i.size, i.bytes)) = some (some (.int .i32 0), 1, 4) := by kernel_rfl
theorem info_got {o : Option TypeInfo} {z : Value} {s b : Nat} (h : o.map (fun i => (i.zero, i.size, i.bytes)) = some (some z, s, b)) : ∃ i, o = some i ∧ i.zero = some z ∧ i.size = s ∧ i.bytes = b := by
  cases o with
  | none => cases h
  | some i => simp at h; exact ⟨i, rfl, h.1, h.2.1, h.2.2⟩
theorem nameT_esc {r : List Int} (h : esc r = true) : nameT r = ((meantT r.tail).1 :: (nameT (meantT r.tail).2).1, (nameT (meantT r.tail).2).2) := by rw [nameT, dif_pos h]
theorem nameT_in {r : List Int} (h : esc r = false) (h2 : withinB (pk r 0) = true) : nameT r = (pk r 0 :: (nameT r.tail).1, (nameT r.tail).2) := by rw [nameT, dif_neg (by simp [h]), dif_pos h2]
theorem nameT_end {r : List Int} (h : esc r = false) (h2 : withinB (pk r 0) = false) : nameT r = ([], r) := by rw [nameT, dif_neg (by simp [h]), dif_neg (by simp [h2])]
theorem meantT_is {r : List Int} (h : Chars r) (hne : r ≠ []) : isB (meantT r).1 = true := by
  unfold meantT
  split
  · exact pk_is h (List.length_pos_iff.2 hne)
  · simp only [numC']
    split
    · decide
    · rename_i hx; simp at hx; exact hx.2
theorem hexes_drop (f : Nat) : ∀ n r, ∃ j, (hexes f n r).2 = r.drop j := by
  induction f with
  | zero => intro n r; exact ⟨0, rfl⟩
  | succ f ih =>
    intro n r
    unfold hexes
    split
    · obtain ⟨j, hj⟩ := ih (16 * n + (hexI (pk r 0)).toNat) r.tail
      exact ⟨j + 1, by rw [hj, ← List.drop_one, List.drop_drop, Nat.add_comm]⟩
    · exact ⟨0, rfl⟩
theorem meantT_drop (r : List Int) : ∃ j, (meantT r).2 = r.drop j := by
  unfold meantT
  split
  · exact ⟨1, by simp⟩
  · obtain ⟨j, hj⟩ := hexes_drop 6 0 r
    simp only []
    split
    · exact ⟨j + 1, by rw [hj, ← List.drop_one, List.drop_drop]⟩
    · exact ⟨j, hj⟩
theorem nameT_is (r : List Int) (h : Chars r) : Chars (nameT r).1 ∧ (nameT r).1.length ≤ r.length := by
  fun_induction nameT r with
  | case1 r he ih =>
    obtain ⟨j, hj⟩ := meantT_drop r.tail
    have hlt := meant_lt (esc_ne he)
    have h2 : Chars (meantT r.tail).2 := by rw [hj]; exact h.tail.drop j
    obtain ⟨i1, i2⟩ := ih h2
    refine ⟨?_, by simp only [List.length_cons]; omega⟩
    intro c hc
    rcases List.mem_cons.1 hc with rfl | hc
    · refine meantT_is h.tail ?_
      intro h0
      unfold esc at he
      have := (of_decide_eq_true he).2.1
      rw [← pk_tail, h0, pk_nil] at this; omega
    · exact i1 c hc
  | case2 r he hw ih =>
    have hne := within_ne hw
    obtain ⟨i1, i2⟩ := ih h.tail
    have := tail_lt hne
    refine ⟨?_, by simp only [List.length_cons]; omega⟩
    intro c hc
    rcases List.mem_cons.1 hc with rfl | hc
    · exact pk_is h (List.length_pos_iff.2 hne)
    · exact i1 c hc
  | case3 r => exact ⟨fun c hc => (List.not_mem_nil hc).elim, Nat.zero_le _⟩
/-- what holds at each jump: over the whole frame -/
def NJump (w : World) (B S P : Nat) (A : Option Addr) (n cap : Nat) (l : List Int) (k : Nat) (a' : Act) (w' : World) : Prop :=
  ∃ (k2 : Nat) (outs : List Int) (v u1 u4 u5 u6 u7 u8 u9 u10 u11 u12 u13 u14 u15 u16 u17 u18 u19 u20 u21 u22 u23 u24 u25 u26 u27 u28 u29 u30 u31 u32 u33 u34 u35 u36 u37 u38 u39 : Value), a' = { tmps := #[.pointer (some ⟨S, 0, none⟩), u1, .string ⟨#[]⟩, v, u4, u5, u6, u7, u8, u9, u10, u11, u12, u13, u14, u15, u16, u17, u18, u19, u20, u21, u22, u23, u24, u25, u26, u27, u28, u29, u30, u31, u32, u33, u34, u35, u36, u37, u38, u39], defers := [] } ∧ k ≤ k2 ∧ Hid (nameT (l.drop k) = (outs ++ (nameT (l.drop k2)).1, (nameT (l.drop k2)).2)) ∧ outs.length + k ≤ k2 ∧ w'.ownsRow w.heap.size 21 1 v outs.length (outs.map r32) ∧ At w' B S P A n cap l k2 ∧ Mv P w w' 
theorem wp_scope_pass {P : Program} {a : Act} {w : World} {Q : Exit → Act → World → Prop} {c blk : Code} (l : Nat) (J : Act → World → Prop) (μ : Act → World → Nat) (hf : findLabel c l = some (Code.skip.seq blk))
    (pass : ∀ a w, J a w → blk.wp P (Exit.jump l (fun a' w' => J a' w' ∧ μ a' w' < μ a w) Q) a w)
    (first : (∀ a w, J a w → blk.wp P (Exit.jump l J Q) a w) → c.wp P (Exit.jump l J Q) a w) : (Code.scope c).wp P Q a w :=
  wp_scope_jumps l J μ hf (first fun a w hJ => wp_mono (pass a w hJ) (by
    intro e a' w' hq
    cases e with
    | goto l' => exact ⟨hq.1, hq.2.1⟩
    | _ => exact hq)) fun a w hJ => wp_seq (wp_skip (pass a w hJ))
set_option maxRecDepth 100000 in
set_option maxHeartbeats 4000000 in
theorem tk_name {w : World} {B S P n cap k : Nat} {A : Option Addr} {l : List Int} (h : At w B S P A n cap l k) (hch : Chars l) :
    Calls Tryz.prog 89 #[.pointer (some ⟨S, 0, none⟩)] w fun e w' => e = .returned (.string (bytesOf (writeP (nameT (l.drop k)).1))) ∧ Mv P w w' ∧ ∃ k', k ≤ k' ∧ l.drop k' = (nameT (l.drop k)).2 ∧ At w' B S P A n cap l k' := by
  have Hch := Lib.hid hch
  have hSb := h.hS
  have hPb := Nat.lt_trans h.hPS h.hS
  obtain ⟨T, hT⟩ : ∃ T, nameT (l.drop k) = T := ⟨_, rfl⟩
  rw [hT]
  have HT := Lib.hid hT
  clear hT hch
  go_enter Tryz.func89, Tryz.ntmps89
  go_wp2_with fail
  refine wp_scope_pass 0 (NJump w B S P A n cap l k) (fun _ w' => n - posOf P w') rfl ?_ ?_
  · rintro a' w0 ⟨k2, outs, v, u1, u4, u5, u6, u7, u8, u9, u10, u11, u12, u13, u14, u15, u16, u17, u18, u19, u20, u21, u22, u23, u24, u25, u26, u27, u28, u29, u30, u31, u32, u33, u34, u35, u36, u37, u38, u39, rfl, hkk, hrun, hol, hown, hat, hmv⟩
    obtain ⟨hlen, hn, hk2n⟩ : l.length = n ∧ n ≤ 1000000 ∧ k2 ≤ n := ⟨hat.len, hat.hn, hat.hk⟩
    have hesc := tk_escape 0 hat (by omega)
    rw [Nat.add_zero] at hesc
    obtain ⟨hi0, hi, hz0, hz1, hz2⟩ := info_got rune_info
    have hpos := hat.pos
    cases he : esc (l.drop k2) with
    | true =>
      rw [he] at hesc
      have hk1 : k2 + 1 < n := by
        unfold esc at he
        have := (of_decide_eq_true he).2.1
        have := pk_pos (l := l.drop k2) (m := 1) (by omega)
        rw [List.length_drop] at this; omega
      have hnm := nameT_esc he
      have hrun2 := hrun.out
      rw [hnm, List.tail_drop] at hrun2
      have HR := Lib.hid hrun2
      have hmr : isB (meantT (l.drop (k2 + 1))).1 = true := meantT_is (Hch.out.drop _) (by intro h0; have := congrArg List.length h0; rw [List.length_drop] at this; simp at this; omega)
      have hmr2 := isB_range hmr
      clear hnm hrun2 hrun he hmr
      go_wp2_with fail
      refine hesc.mono ?_
      rintro e w1 ⟨rfl, g1⟩
      have hat1 := hat.mv g1
      have hmv1 := hmv.trans (Mv.of g1)
      have hown1 := own_mv hown hPb (Mv.of g1)
      go_wp2_with fail
      refine (tk_meant hat1 Hch.out hk1).mono ?_
      rintro e w2 ⟨rfl, m2, k3, hk3, hd3, hat2⟩
      have hmv2 := hmv1.trans m2
      have hown2 := own_mv hown1 hPb m2
      have hs2 := hmv2.size
      have Hd3 := Lib.hid hd3
      generalize hc : (meantT (l.drop (k2 + 1))).1 = c at *
      have Hc := Lib.hid hc
      clear hd3 hc
      go_wp2_with (at_builtin; refine wpList_append_own _ rfl _ _ 83 rfl w.heap.size 21 hi0 (.int .i32 0) 1 4 Tryz.underlying83 hi hz0 hz1 hz2 rfl (by decide) _ _ _ rfl (hown2.alloc _) ⟨w2.heap.size, 0, none⟩ 1 1 [.int .i32 c] rfl rfl ?c1 ?c2 ?c3 ?c4 ?c5 ?_)
      case c1 => exact cell_one_new _ _ _
      case c2 => intro u hu; simp at hu; subst hu; rfl
      case c3 => unfold maxLen; omega
      case c4 => have := hat2.hk; (try simp only [List.length_map]); omega
      case c5 => simp; omega
      intro v' w3 hown3 hgrow _
      have hat3 := hat2.push hSb hown2 hgrow
      have hmv3 := Mv.push hmv2 hown2 hgrow
      go_wp2_with fail
      go_step3
      refine ⟨rfl, ⟨k3, outs ++ [c], v', _, _, _, _, _, _, _, _, _, _, _, _, _, _, _, _, _, _, _, _, _, _, _, _, _, _, _, _, _, _, _, _, _, _, _, _, _, rfl, by omega, (by show _ = _; rw [HR.out, Hd3.out]; simp), by simp; omega, by simpa [r32] using hown3, hat3, hmv3⟩, ?_⟩
      have q1 := hat3.pos
      have q2 := hat3.hk
      rw [q1, hpos]; omega
    | false =>
      rw [he] at hesc
      have hp := fun w' (g : w0.grownBy w' none) => tk_peek 0 (hat.mv g) (by omega)
      obtain ⟨c, hc⟩ : ∃ c, pk (l.drop k2) 0 = c := ⟨_, rfl⟩
      rw [hc] at hp
      have Hc := Lib.hid hc
      cases hwi : withinB c with
      | true =>
        have hk1 : k2 < n := by
          have h0 : l.drop k2 ≠ [] := within_ne (by rw [hc]; exact hwi)
          have := List.length_pos_iff.2 h0
          rw [List.length_drop] at this; omega
        have hnm := nameT_in he (by rw [hc]; exact hwi)
        have hrun2 := hrun.out
        rw [hnm, List.tail_drop, hc] at hrun2
        have HR := Lib.hid hrun2
        clear hnm hrun2 hrun he hc
        go_wp2_with fail
        refine hesc.mono ?_
        rintro e w1 ⟨rfl, g1⟩
        have x1 := (hat.mv g1).s0
        go_wp2_with fail
        refine (hp w1 g1).mono ?_
        rintro e w2 ⟨rfl, g2⟩
        have g2 := g1.trans g2
        go_wp2_with fail
        refine (rn_within c _).mono ?_
        rintro e w3 ⟨rfl, rfl⟩
        rw [hwi]
        have x2 := (hat.mv g2).s0
        go_wp2_with fail
        refine (hp w2 g2).mono ?_
        rintro e w3 ⟨rfl, g3⟩
        have g3 := g2.trans g3
        have hat1 := hat.mv g3
        have hmv1 := hmv.trans (Mv.of g3)
        have hown1 := own_mv hown hPb (Mv.of g3)
        have hs1 := hmv1.size
        go_wp2_with (at_builtin; refine wpList_append_own _ rfl _ _ 83 rfl w.heap.size 21 hi0 (.int .i32 0) 1 4 Tryz.underlying83 hi hz0 hz1 hz2 rfl (by decide) _ _ _ rfl (hown1.alloc _) ⟨w3.heap.size, 0, none⟩ 1 1 [.int .i32 c] rfl rfl ?d1 ?d2 ?d3 ?d4 ?d5 ?_)
        case d1 => exact cell_one_new _ _ _
        case d2 => intro u hu; simp at hu; subst hu; rfl
        case d3 => unfold maxLen; omega
        case d4 => (try simp only [List.length_map]); omega
        case d5 => simp; omega
        intro v' w4 hown4 hgrow _
        have hat4 := hat1.push hSb hown1 hgrow
        have hmv4 := Mv.push hmv1 hown1 hgrow
        have y1 := hat4.s0
        have y2 := hat4.p0
        have y3 := hat4.p1
        have y4 := hat4.fz
        have h5 := hat4.store (k' := k2 + 1) (by omega)
        have m5 := Mv.store w4 P (.int .i64 ((k2 + 1 : Nat) : Int))
        have o5 := own_mv hown4 hPb m5
        have mv5 := hmv4.trans m5
        push_cast at h5 m5 o5 mv5
        go_wp2_with fail
        go_step3
        refine ⟨rfl, ⟨k2 + 1, outs ++ [c], v', _, _, _, _, _, _, _, _, _, _, _, _, _, _, _, _, _, _, _, _, _, _, _, _, _, _, _, _, _, _, _, _, _, _, _, _, _, rfl, by omega, (by show _ = _; rw [HR.out]; simp), by simp; omega, by simpa [r32] using o5, h5, mv5⟩, ?_⟩
        have q1 := h5.pos
        rw [q1, hpos]; omega
      | false =>
        have hnm := nameT_end he (by rw [hc]; exact hwi)
        have hrun2 := hrun.out
        rw [hnm, List.append_nil] at hrun2
        have HR := Lib.hid hrun2
        clear hnm hrun2 hrun he hc
        go_wp2_with fail
        refine hesc.mono ?_
        rintro e w1 ⟨rfl, g1⟩
        have x1 := (hat.mv g1).s0
        go_wp2_with fail
        refine (hp w1 g1).mono ?_
        rintro e w2 ⟨rfl, g2⟩
        have g2 := g1.trans g2
        go_wp2_with fail
        refine (rn_within c _).mono ?_
        rintro e w3 ⟨rfl, rfl⟩
        rw [hwi]
        have hat1 := hat.mv g2
        have hmv1 := hmv.trans (Mv.of g2)
        have hown1 := own_mv hown hPb (Mv.of g2)
        obtain ⟨A3, c3, rfl, hcc, hcm⟩ := own_form hown1
        have hrd := Reads.of_own hown1
        have hon : Chars outs := by
          have := (nameT_is (l.drop k) (Hch.out.drop k)).1
          rw [HR.out] at this; exact this
        have Hon := Lib.hid hon
        clear hon
        go_wp2_with fail
        refine (rn_write outs A3 outs.length c3 w2 hrd (fun d hd => by have := isB_range (Hon.out d hd); omega) (by omega)).mono ?_
        rintro e w3 ⟨v3, rfl, hown3, hb3⟩
        obtain ⟨A4, c4, rfl, hcc4, hcm4⟩ := own_form hown3
        have hrd4 := Reads.of_own hown3
        have hstr := run_str (P := Tryz.prog) (src := 22) (dst := 9) Tryz.underlying22 Tryz.underlying5 Tryz.underlying9 c4 hrd4
        have hat3 := hat1.mv (below_grown hb3)
        have hmv3 := hmv1.trans (Mv.of (below_grown hb3))
        clear hrd4 hown3 hrd
        go_wp2_with fail
        simp only [Exit.jump]
        go_ret
        exact ⟨by rw [← HT.out, HR.out]; rfl, hmv3, k2, hkk, by rw [← HT.out, HR.out], hat3⟩
  · intro hrest
    go_wp2_with fail
    go_step3
    rename_i K hK
    exact hK _ _ (hrest _ _ ⟨k, [], .slice none 0 0, _, _, _, _, _, _, _, _, _, _, _, _, _, _, _, _, _, _, _, _, _, _, _, _, _, _, _, _, _, _, _, _, _, _, _, _, _, rfl, Nat.le_refl _, rfl, by simp, World.ownsRow_nil _ _ _ _, h, Mv.refl _ _⟩)
end Go.Proofs.YtfhdihdafmahgaaGreatDoor
