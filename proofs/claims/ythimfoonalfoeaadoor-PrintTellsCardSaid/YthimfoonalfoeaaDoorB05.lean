/- Layer 4: what is printed of tokens, as plain functions. -/
import Derived.Test.YthimfoonalfoeaaDoorB04
import Derived.Lib.AtoiErrMem
import Derived.Lib.SmallJoins
import Derived.OneCell
import Derived.Deep.CutBlock
import Derived.Test.YthimfoonalfoeaaDoorB01
import Derived.Laws.BitsAllLaws
import Derived.Deep.Cut
import Derived.Lib.ItoaNum
import Derived.Lib.AppendIntMem
/- Layer 1: the exponent's number is walked. -/
set_option linter.unusedVariables false
set_option linter.unusedSimpArgs false
namespace Go.Proofs.YthimfoonalfoeaaDoor
open Go.RowKit Fx
theorem bytesOf_append (a b : List UInt8) : bytesOf a ++ bytesOf b = bytesOf (a ++ b) := by
  rw [← bytesOf_eta (bytesOf a ++ bytesOf b)]
  congr 1
theorem val_foldl (l : List UInt8) : ∀ n, l.foldl (fun n b => 10 * n + dv b) n = n * 10 ^ l.length + val l := by
  induction l with
  | nil => intro n; simp [val]
  | cons b l ih =>
    intro n
    unfold val
    simp only [List.foldl_cons, List.length_cons]
    rw [ih, ih (10 * 0 + dv b), Nat.pow_succ]
    rw [Nat.add_mul]
    have : 10 * n * 10 ^ l.length = n * (10 ^ l.length * 10) := by
      rw [Nat.mul_comm 10 n, Nat.mul_assoc, Nat.mul_comm 10]
    rw [this, Nat.mul_zero, Nat.zero_add]
    omega
theorem val_cons (b : UInt8) (l : List UInt8) : val (b :: l) = dv b * 10 ^ l.length + val l := by
  show List.foldl _ (10 * 0 + dv b) l = _
  rw [val_foldl]; simp
theorem decFrom_val (l : List UInt8) (h : ∀ b ∈ l, isD b = true) : ∀ n, Lib.decFrom n l = some (l.foldl (fun n b => 10 * n + dv b) n) := by
  induction l with
  | nil => intro n; rfl
  | cons b l ih =>
    intro n
    have hb := isD_range (h b (by simp))
    have hd : Lib.digitVal b = some (dv b) := by unfold Lib.digitVal; rw [if_pos hb]; rfl
    simp only [Lib.decFrom, hd, List.foldl_cons]
    rw [ih (fun c hc => h c (by simp [hc])), Nat.mul_comm]
theorem val_trim (l : List UInt8) : val (l.dropWhile (· == 48)) = val l := by
  induction l with
  | nil => rfl
  | cons b l ih =>
    by_cases hb : b = 48
    · subst hb; rw [List.dropWhile_cons, if_pos (by rfl), ih, val_cons]; simp [dv]
    · rw [List.dropWhile_cons, if_neg (by simpa using hb)]
theorem atoi_nought (d : List UInt8) (h : ∀ b ∈ d, isD b = true) : Lib.atoi (48 :: d) = some (val d : Int) := by
  have h2 : ∀ b ∈ (48 :: d : List UInt8), isD b = true := by
    intro b hb
    rcases List.mem_cons.1 hb with rfl | hb
    · rfl
    · exact h b hb
  have : Lib.decNat (48 :: d) = some (val d) := by
    unfold Lib.decNat
    rw [if_neg (by simp), decFrom_val _ h2]
    show some (val (48 :: d)) = _
    rw [val_cons]; simp [dv]
  unfold Lib.atoi
  simp only []
  rw [if_neg (by decide), if_neg (by decide), this]
  rfl
theorem val_lt (l : List UInt8) (h : ∀ b ∈ l, isD b = true) : val l < 10 ^ l.length := by
  induction l with
  | nil => decide
  | cons b l ih =>
    have hb := isD_range (h b (by simp))
    have := ih fun c hc => h c (by simp [hc])
    have hd : dv b ≤ 9 := by unfold dv; omega
    rw [val_cons, List.length_cons, Nat.pow_succ]
    have : dv b * 10 ^ l.length ≤ 9 * 10 ^ l.length := Nat.mul_le_mul_right _ hd
    omega
theorem dropWhile_all {p q : UInt8 → Bool} {l : List UInt8} (h : ∀ b ∈ l, q b = true) : ∀ b ∈ l.dropWhile p, q b = true :=
  fun b hb => h b ((List.dropWhile_suffix p).subset hb)
end Go.Proofs.YthimfoonalfoeaaDoor
/- Layer 1: Parse is walked. -/
set_option linter.unusedVariables false
set_option linter.unusedSimpArgs false
namespace Go.Proofs.YthimfoonalfoeaaDoor
open Go.RowKit Fx
section
variable {l sg I P F E S2 X : List UInt8} (D : Dec l sg I P F E S2 X)
include D
theorem dec_sgn : sgn l = sg.length := by
  have h := sgn_le l
  have := congrArg List.length D.lsg
  rw [List.length_take] at this; omega
theorem dec_drop : l.drop (sgn l) = (I ++ (P ++ F)) ++ (E ++ (S2 ++ X)) := by
  rw [dec_sgn D]
  conv => lhs; rw [D.all]
  rw [List.append_assoc, List.drop_left]
theorem dec_P : ∀ b ∈ P, b = 46 := by
  intro b hb
  rcases D.hP with ⟨h, _⟩ | ⟨h, _⟩ <;> rw [h] at hb <;> simp_all
theorem dec_body_low : ∀ b ∈ I ++ (P ++ F), b.toNat ≤ 57 := by
  intro b hb
  rw [List.mem_append, List.mem_append] at hb
  rcases hb with hb | hb | hb
  · exact (isD_range (D.hI b hb)).2
  · rw [dec_P D b hb]; decide
  · exact (isD_range (D.hF b hb)).2
theorem dec_index : Lib.indexAny (l.drop (sgn l)) [101, 69] = if E = [] then -1 else (((I ++ (P ++ F)).length : Nat) : Int) := by
  rw [dec_drop D]
  have hno : ∀ b ∈ I ++ (P ++ F), ([101, 69] : List UInt8).contains b = false := by
    intro b hb
    have := dec_body_low D b hb
    simp only [List.contains_eq_mem, decide_eq_false_iff_not, List.mem_cons, List.not_mem_nil, or_false]
    rintro (rfl | rfl) <;> revert this <;> decide
  rcases D.hE with ⟨h1, h2, h3⟩ | ⟨e, h1, h2, h3⟩
  · rw [if_pos h1, h1, h2, h3]
    refine Lib.indexAny_none ?_
    intro j b hj hb
    simp only [List.append_nil] at hb hj
    exact hno b (List.mem_of_getElem? hb)
  · rw [if_neg (by rw [h1]; simp)]
    refine Lib.indexAny_hit (x := e) ?_ ?_ ?_
    · intro j b hj hb
      rw [List.getElem?_append_left hj] at hb
      exact hno b (List.mem_of_getElem? hb)
    · rw [List.getElem?_append_right (Nat.le_refl _), Nat.sub_self, h1]; rfl
    · have : e = 101 ∨ e = 69 := by
        rcases h2 with h2 | h2
        · exact .inl (UInt8.toNat_inj.1 h2)
        · exact .inr (UInt8.toNat_inj.1 h2)
      rcases this with rfl | rfl <;> decide
theorem dec_ascii : ∀ b ∈ l.drop (sgn l), b.toNat < 128 := by
  intro b hb
  rw [dec_drop D, List.mem_append] at hb
  rcases hb with hb | hb
  · have := dec_body_low D b hb; omega
  rw [List.mem_append, List.mem_append] at hb
  rcases hb with hb | hb | hb
  · rcases D.hE with ⟨h1, _⟩ | ⟨e, h1, h2, _⟩
    · rw [h1] at hb; simp at hb
    · rw [h1] at hb; simp at hb; subst hb; omega
  · rcases D.hS with h1 | ⟨s, h1, h2⟩
    · rw [h1] at hb; simp at hb
    · rw [h1] at hb; simp at hb; subst hb; omega
  · have := isD_range (D.hX b hb); omega
theorem dec_cut : (Lib.cut (I ++ (P ++ F)) [46]).1 = I ∧ (Lib.cut (I ++ (P ++ F)) [46]).2.1 = F := by
  have hocc : ∀ (s : List UInt8) (j : Nat), Lib.occAt s [46] j = decide (s[j]? = some 46) := by
    intro s j
    unfold Lib.occAt
    by_cases hj : j < s.length
    · rw [List.drop_eq_getElem_cons hj, List.getElem?_eq_getElem hj]
      simp only [List.isPrefixOf, Bool.and_true, Option.some.injEq]
      exact Bool.eq_iff_iff.2 ⟨fun h => decide_eq_true (beq_iff_eq.1 h).symm, fun h => beq_iff_eq.2 (of_decide_eq_true h).symm⟩
    · rw [List.drop_eq_nil_of_le (by omega), List.getElem?_eq_none (by omega)]; rfl
  have hI : ∀ j : Nat, j < I.length → ¬ I[j]? = some 46 := by
    intro j hj h
    have := isD_range (D.hI 46 (List.mem_of_getElem? h))
    revert this; decide
  rcases D.hP with ⟨h1, h2⟩ | ⟨h1, h2⟩
  · have hn : Lib.index (I ++ (P ++ F)) [46] = -1 := by
      rw [h1, h2]
      refine Lib.index_none ?_
      intro j _
      rw [hocc, decide_eq_false_iff_not]
      simp only [List.append_nil]
      intro h
      exact hI j (List.getElem?_eq_some_iff.1 h).1 h
    unfold Lib.cut
    rw [hn, if_neg (by decide), h1, h2]
    simp
  · have hn : Lib.index (I ++ (P ++ F)) [46] = (I.length : Int) := by
      refine Lib.index_first (i := I.length) (by simp) ?_ ?_
      · rw [hocc, h1, List.getElem?_append_right (Nat.le_refl _), Nat.sub_self]; rfl
      · intro j hj
        rw [hocc, decide_eq_false_iff_not, List.getElem?_append_left hj]
        exact hI j hj
    unfold Lib.cut
    rw [hn, if_pos (by omega)]
    refine ⟨?_, ?_⟩
    · show List.take (Int.toNat (I.length : Int)) _ = _
      rw [Int.toNat_natCast, List.take_left]
    · show List.drop (Int.toNat (I.length : Int) + 1) _ = _
      rw [Int.toNat_natCast, ← List.drop_drop, List.drop_left, h1]; rfl
theorem dec_exp_digits : ∀ b ∈ (expP l).drop (sgn (expP l)), isD b = true := by rw [← D.lX]; exact D.hX
theorem dec_expP : (E = [] ∧ expP l = []) ∨ (E ≠ [] ∧ expP l = (l.drop (sgn l)).drop ((I ++ (P ++ F)).length + 1)) := by
  rcases D.hE with ⟨h1, h2, h3⟩ | ⟨e, h1, h2, h3⟩
  · exact .inl ⟨h1, by rw [← D.lE, h2, h3]; rfl⟩
  · refine .inr ⟨by rw [h1]; simp, ?_⟩
    rw [dec_drop D, ← List.drop_drop, List.drop_left, h1, ← D.lE]; rfl
theorem dec_len : l.length = sg.length + (I.length + (P.length + F.length)) + (E.length + (S2.length + X.length)) := by
  have := congrArg List.length D.all
  simp only [List.length_append] at this
  omega
end
end Go.Proofs.YthimfoonalfoeaaDoor
/- Layer 1: Parse is walked. -/
set_option linter.unusedVariables false
set_option linter.unusedSimpArgs false
namespace Go.Proofs.YthimfoonalfoeaaDoor
open Go.RowKit Fx
/-- what the library's functions ask of the world -/
structure Env (w : World) : Prop where
  max : ∃ m, w.cell? ⟨2, 0, none⟩ = some (.int .i64 m)
  pow : Lib.TabIs Tryd.prog w "internal/strconv.uint64pow10" .u64 Lib.pow10Tab
theorem cell_lt {w : World} {b : Nat} {v : Value} (h : w.cell? ⟨b, 0, none⟩ = some v) : b < w.heap.size := by
  by_cases hb : b < w.heap.size
  · exact hb
  · exfalso
    have : w.heap[b]? = none := Array.getElem?_eq_none (by omega)
    simp [World.cell?, this] at h
theorem Env.below {w w' : World} (h : Env w) (hb : Below w.heap.size w w') : Env w' := by
  obtain ⟨⟨m, hm⟩, hp⟩ := h
  refine ⟨⟨m, ?_⟩, Joins.tab_stays (g := 3) (by kernel_rfl) hp hb (Nat.le_refl _)⟩
  have hlt := cell_lt hm
  have := hb.block 2 hlt
  simp only [World.cell?] at hm ⊢
  rw [this]; exact hm
theorem retIB {a b : Int} {c d : Bool} (h1 : a = b) (h2 : c = d) : Ending.returned (.tuple #[.int .i64 a, .bool c]) = Ending.returned (.tuple #[.int .i64 b, .bool d]) := by rw [h1, h2]
theorem powP_range (x : List UInt8) (h : ∀ b ∈ x.drop (sgn x), isD b = true) : -999999 ≤ powP x ∧ powP x ≤ 999999 := by
  have hn : (if x.length - sgn x ≤ 6 then val (x.drop (sgn x)) else 999999 : Nat) ≤ 999999 := by
    split
    · rename_i h6
      have := val_lt _ h
      rw [List.length_drop] at this
      have h2 : 10 ^ (x.length - sgn x) ≤ 10 ^ 6 := Nat.pow_le_pow_right (by omega) h6
      omega
    · omega
  unfold powP
  simp only []
  split
  · omega
  · split <;> omega
theorem bytes_ascii {l : List UInt8} (h : ∀ b ∈ l, b.toNat < 128) : ∀ (j : Nat) b, (bytesOf l).data.toList[j]? = some b → b.toNat < 128 := by
  intro j b hb
  rw [bytesOf_list] at hb
  exact h b (List.mem_of_getElem? hb)
theorem eE_ascii : ∀ (j : Nat) b, (⟨#[101, 69]⟩ : ByteArray).data.toList[j]? = some b → b.toNat < 128 := by
  intro j b hb
  have h := List.mem_of_getElem? hb
  simp at h
  rcases h with rfl | rfl <;> decide
end Go.Proofs.YthimfoonalfoeaaDoor
/- Layer 1's Stop and Add, of the program and of the reference, are walked. -/
set_option linter.unusedVariables false
set_option linter.unusedSimpArgs false
namespace Go.Proofs.YthimfoonalfoeaaDoor
open Go.RowKit
namespace Fx
/-- a number, stopped -/
def stopZ (n : Int) : Int := if 1099511627776 < n then 1099511627776 else if n < -1099511627776 then -1099511627776 else n
def addZ (a b : Int) : Int := stopZ (stopZ a + stopZ b)
/-- what a product of two numbers not below nothing is, stopped -/
def mulN (x y : Nat) : Nat := min (x * y / 1000) 1099511627776
def mulZ (a b : Int) : Int := if (stopZ a < 0) = (stopZ b < 0) then mulN (stopZ a).natAbs (stopZ b).natAbs else -(mulN (stopZ a).natAbs (stopZ b).natAbs : Int)
end Fx
open Fx
theorem stopZ_range (n : Int) : -1099511627776 ≤ stopZ n ∧ stopZ n ≤ 1099511627776 := by unfold stopZ; (repeat' split) <;> omega
theorem stopZ_of {n : Int} (h1 : -1099511627776 ≤ n) (h2 : n ≤ 1099511627776) : stopZ n = n := by unfold stopZ; rw [if_neg (by omega), if_neg (by omega)]
theorem stopZ_eq (n : Int) : stopZ n = min (max n (-1099511627776)) 1099511627776 := by unfold stopZ; (repeat' split) <;> omega

theorem fx_stop (n : Int) (w : World) (h1 : -9223372036854775808 ≤ n) (h2 : n ≤ 9223372036854775807) :
    Calls Tryd.prog 30 #[.int .i64 n] w fun e w' => e = .returned (.int .i64 (stopZ n)) ∧ w = w' := by
  by_cases c1 : 1099511627776 < n
  · go_enter Tryd.func30, Tryd.ntmps30
    go_wp2
    all_goals (go_ret; refine ⟨ret_int ?_, rfl⟩; unfold stopZ; (repeat' split) <;> omega)
  · by_cases c2 : n < -1099511627776
    · go_enter Tryd.func30, Tryd.ntmps30
      go_wp2
      all_goals (go_ret; refine ⟨ret_int ?_, rfl⟩; unfold stopZ; (repeat' split) <;> omega)
    · go_enter Tryd.func30, Tryd.ntmps30
      go_wp2
      all_goals (go_ret; refine ⟨ret_int ?_, rfl⟩; unfold stopZ; (repeat' split) <;> omega)
theorem abs_form (a : Int) : ∃ (s : Bool) (x : Nat), x ≤ 1099511627776 ∧ (s = true → 0 < x) ∧ stopZ a = (if s then -(x : Int) else x) ∧ x = (stopZ a).natAbs ∧ (s = true ↔ stopZ a < 0) := by
  have h := stopZ_range a
  by_cases hn : stopZ a < 0
  · exact ⟨true, (stopZ a).natAbs, by omega, fun _ => by omega, by simp; omega, rfl, by simp [hn]⟩
  · exact ⟨false, (stopZ a).natAbs, by omega, (fun h => by cases h), by simp; omega, rfl, by simp [hn]⟩
theorem mulZ_form {a b : Int} {sx sy : Bool} {x y : Nat} (hx : x = (stopZ a).natAbs) (hy : y = (stopZ b).natAbs) (h1 : sx = true ↔ stopZ a < 0) (h2 : sy = true ↔ stopZ b < 0) :
    (if sx = sy then (mulN x y : Int) else -(mulN x y : Int)) = mulZ a b := by
  unfold mulZ
  rw [← hx, ← hy]
  have : (sx = sy) = ((stopZ a < 0) = (stopZ b < 0)) := by
    rw [← h1, ← h2]
    cases sx <;> cases sy <;> simp
  simp only [this]
end Go.Proofs.YthimfoonalfoeaaDoor
/- Layer 1: the program's Mul is walked, with the library's Div64 by 1000 under it. -/
set_option linter.unusedVariables false
set_option linter.unusedSimpArgs false
namespace Go.Proofs.YthimfoonalfoeaaDoor
open Go.RowKit Fx

theorem lz1000 : 64 - (Lib.bitLen (1000 : Int).toNat : Int) = 54 := by decide +kernel
theorem and_zero : bits .and .u64 18014398509481984000 4294967295 = 0 := by decide +kernel
theorem or_parts (hi lo : Nat) (hhi : hi < 1000) (hlo : lo < 18446744073709551616) :
    bits .or .u64 ((hi : Int) * 18014398509481984) ((lo : Int) / 1024) = ((hi * 18014398509481984 + lo / 1024 : Nat) : Int) := by
  have h1 : (hi : Int) * 18014398509481984 = ((hi * 18014398509481984 : Nat) : Int) := by rw [Int.natCast_mul]; rfl
  have h2 : (lo : Int) / 1024 = ((lo / 1024 : Nat) : Int) := by rw [Int.natCast_ediv]; rfl
  rw [h1, h2, u64_or_nat _ _ (by omega) (by omega)]
  congr 1
  have := Nat.two_pow_add_eq_or_of_lt (b := lo / 1024) (i := 54) (by omega) hi
  rw [show (2 : Nat) ^ 54 = 18014398509481984 from by decide] at this
  rw [Nat.mul_comm hi, this]
theorem wrap_low (lo : Nat) : IntKind.u64.wrap ((lo : Int) * 18014398509481984) = ((lo * 18014398509481984 % 18446744073709551616 : Nat) : Int) := by
  rw [IntKind.wrap_u64]
  omega
theorem and_low (V : Nat) (hV : V < 18446744073709551616) (h0 : V % 4294967296 = 0) : bits .and .u64 (V : Int) 4294967295 = 0 := by
  have := u64_and_nat V 4294967295 hV (by omega)
  rw [show ((4294967295 : Nat) : Int) = 4294967295 from rfl] at this
  rw [this]
  have h2 := Nat.and_two_pow_sub_one_eq_mod V 32
  rw [show (2 : Nat) ^ 32 - 1 = 4294967295 from by decide, show (2 : Nat) ^ 32 = 4294967296 from by decide] at h2
  rw [h2, h0]; rfl

theorem wraps_core (U t r X q : Nat) (hr : r < 4194304000) (ht : t < 4294967296) (hX : U * 4294967296 = X + r * 4294967296) (hq : (q : Int) * 18014398509481984000 = (X : Int)) :
    IntKind.u64.wrap ((U : Int) * 4294967296) = ((U * 4294967296 % 18446744073709551616 : Nat) : Int) ∧
    IntKind.u64.wrap (((U * 4294967296 % 18446744073709551616 : Nat) : Int) + (t : Int)) = (((U * 4294967296 % 18446744073709551616 + t) % 18446744073709551616 : Nat) : Int) ∧
    IntKind.u64.wrap ((q : Int) * 18014398509481984000) = ((X % 18446744073709551616 : Nat) : Int) ∧
    IntKind.u64.wrap ((((U * 4294967296 % 18446744073709551616 + t) % 18446744073709551616 : Nat) : Int) - ((X % 18446744073709551616 : Nat) : Int)) = ((r * 4294967296 + t : Nat) : Int) := by
  rw [hq]
  simp only [IntKind.wrap_u64]
  refine ⟨by omega, by omega, by omega, ?_⟩
  rw [hX]
  omega
theorem wraps (q r t U : Nat) (hu : U = 4194304000 * q + r) (hr : r < 4194304000) (ht : t < 4294967296) :
    IntKind.u64.wrap ((U : Int) * 4294967296) = ((U * 4294967296 % 18446744073709551616 : Nat) : Int) ∧
    IntKind.u64.wrap (((U * 4294967296 % 18446744073709551616 : Nat) : Int) + (t : Int)) = (((U * 4294967296 % 18446744073709551616 + t) % 18446744073709551616 : Nat) : Int) ∧
    IntKind.u64.wrap ((q : Int) * 18014398509481984000) = ((q * 18014398509481984000 % 18446744073709551616 : Nat) : Int) ∧
    IntKind.u64.wrap ((((U * 4294967296 % 18446744073709551616 + t) % 18446744073709551616 : Nat) : Int) - ((q * 18014398509481984000 % 18446744073709551616 : Nat) : Int)) = ((r * 4294967296 + t : Nat) : Int) := by
  exact wraps_core U t r (q * 18014398509481984000) q hr ht (by omega) (by rw [Int.natCast_mul]; rfl)
end Go.Proofs.YthimfoonalfoeaaDoor
/- Layer 1: a number's text: Print of the program is walked. -/
set_option linter.unusedVariables false
set_option linter.unusedSimpArgs false
namespace Go.Proofs.YthimfoonalfoeaaDoor
open Go.RowKit Fx Go.Sort
namespace Fx
def dig (n : Nat) : UInt8 := UInt8.ofNat (48 + n)
/-- the text of so many thousandths -/
def fracT (r : Nat) : List UInt8 :=
  if r = 0 then [] else 46 :: dig (r / 100) :: ((if 0 < r % 100 then [dig (r / 10 % 10)] else []) ++ (if 0 < r % 10 then [dig (r % 10)] else []))
def printN (a : Nat) : List UInt8 := Lib.decDigits (a / 1000) ++ fracT (a % 1000)
def printP (n : Int) : List UInt8 := (if stopZ n < 0 then [45] else []) ++ printN (stopZ n).natAbs
end Fx
theorem dec_big {u : Nat} (h : 10 ≤ u) : Lib.decDigits u = Lib.decDigits (u / 10) ++ [dig (u % 10)] := by
  rw [Lib.decDigits, dif_neg (by omega)]; rfl
theorem dec_small {u : Nat} (h : u < 10) : Lib.decDigits u = [dig u] := by
  rw [Lib.decDigits, dif_pos h]; rfl
theorem dec_thousand {r : Nat} (h : r < 1000) : Lib.decDigits (1000 + r) = [49, dig (r / 100), dig (r / 10 % 10), dig (r % 10)] := by
  rw [dec_big (by omega), dec_big (by omega), dec_big (by omega), dec_small (by omega)]
  have e1 : (1000 + r) / 10 / 10 / 10 = 1 := by omega
  have e2 : (1000 + r) / 10 / 10 % 10 = r / 100 := by omega
  have e3 : (1000 + r) / 10 % 10 = r / 10 % 10 := by omega
  have e4 : (1000 + r) % 10 = r % 10 := by omega
  rw [e1, e2, e3, e4]; rfl
theorem trim_frac : ∀ r : Fin 1000, r.val ≠ 0 → 46 :: Lib.trimRightB [dig (r.val / 100), dig (r.val / 10 % 10), dig (r.val % 10)] 48 = fracT r.val := by decide +kernel
theorem itoa_nat (a : Nat) : Lib.itoa (a : Int) = Lib.decDigits a := by
  unfold Lib.itoa; rw [if_neg (by omega)]; rfl
theorem deci_len (a : Nat) (h : a < 10000000000000) : (Lib.decDigits a).length ≤ 14 := by
  have key : ∀ k a, a < 10 ^ k → 1 ≤ k → (Lib.decDigits a).length ≤ k := by
    intro k
    induction k with
    | zero => intro a _ h; omega
    | succ k ih =>
      intro a ha _
      by_cases h10 : a < 10
      · rw [dec_small h10]; simp
      · rw [dec_big (by omega), List.length_append]
        rw [Nat.pow_succ] at ha
        by_cases hk : k = 0
        · subst hk; omega
        · have := ih (a / 10) (by omega) (by omega)
          simp; omega
  have := key 13 a (by omega) (by omega)
  omega
set_option maxRecDepth 100000 in
set_option maxHeartbeats 4000000 in
theorem fx_print_core (neg : Bool) (a : Nat) (n : Int) (w : World) (h1 : -9223372036854775808 ≤ n) (h2 : n ≤ 9223372036854775807) (hw : Env w) (ha : a ≤ 1099511627776) (hs : stopZ n = if neg = true then -(a : Int) else (a : Int)) (hn : neg = true → 0 < a) :
    Calls Tryd.prog 17 #[.int .i64 n] w fun e w' => e = .returned (.string (bytesOf ((if neg = true then [45] else []) ++ printN a))) ∧ Below w.heap.size w w' := by
  obtain ⟨q, hq⟩ : ∃ q, a / 1000 = q := ⟨_, rfl⟩
  obtain ⟨r, hr⟩ : ∃ r, a % 1000 = r := ⟨_, rfl⟩
  have hqb : q ≤ 1099511627 := by omega
  have hrb : r < 1000 := by omega
  have hdl := deci_len q (by omega)
  have hdz := bytesOf_size (Lib.decDigits q)
  have hqi : (a : Int).tdiv 1000 = (q : Int) := by rw [Int.tdiv_eq_ediv_of_nonneg (by omega)]; omega
  have hri : (a : Int).tmod 1000 = (r : Int) := by rw [Int.tmod_eq_emod_of_nonneg (by omega)]; omega
  have hqi2 : (a : Int) / 1000 = (q : Int) := by omega
  have hri2 : (a : Int) % 1000 = (r : Int) := by omega
  have Hs := Lib.hid hs
  have HP := Lib.hid (show printN a = Lib.decDigits q ++ fracT r by unfold printN; rw [hq, hr])
  clear hs hq hr
  cases neg with
  | true =>
    have hp := hn rfl
    simp only [if_true] at Hs
    go_enter Tryd.func17, Tryd.ntmps17
    go_wp2_with fail
    refine (fx_stop n w h1 h2).mono ?_
    rintro e w1 ⟨rfl, rfl⟩
    rw [Hs.out]
    go_wp2_with fail
    refine (Tryd.strconv_Itoa (q : Int) (by omega) (by omega) _ hw.pow).mono ?_
    rintro e w2 ⟨rfl, k, os, rfl⟩
    rw [itoa_nat, show (⟨(Lib.decDigits q).toArray⟩ : ByteArray) = bytesOf (Lib.decDigits q) from rfl]
    have hb2 := Lib.below_grow w.heap.size w (Nat.le_refl _) k os
    have hw2 := hw.below hb2
    generalize grow (w.drewN k) os = W2 at *
    by_cases hr0 : r = 0
    · have hz : ((r : Int) == 0) = true := by simp; omega
      have hf : fracT r = [] := by rw [hr0]; rfl
      have HF := Lib.hid hf
      clear hf hr0
      go_wp2
      go_ret
      exact ⟨congrArg (fun b => Ending.returned (Value.string b)) (by rw [HP.out, HF.out, List.append_nil]; exact bytesOf_append [45] _), hb2⟩
    · have hz : ((r : Int) == 0) = false := by simp; omega
      have hf := trim_frac ⟨r, hrb⟩ hr0
      have HF := Lib.hid hf
      have hsl := str_from (P := Tryd.prog) (T := 9) Tryd.underlying9 [49, dig (r / 100), dig (r / 10 % 10), dig (r % 10)] .i64 1 (by simp)
      have hcast : ((1 : Nat) : Int) = 1 := rfl
      rw [hcast] at hsl
      have hsz := bytesOf_size [49, dig (r / 100), dig (r / 10 % 10), dig (r % 10)]
      have hTl : (Lib.trimRightB [dig (r / 100), dig (r / 10 % 10), dig (r % 10)] 48).length ≤ 3 := by
        unfold Lib.trimRightB
        rw [List.length_reverse]
        exact Nat.le_trans (List.dropWhile_suffix _).length_le (by simp)
      obtain ⟨T, hT⟩ : ∃ T, Lib.trimRightB [dig (r / 100), dig (r / 10 % 10), dig (r % 10)] 48 = T := ⟨_, rfl⟩
      rw [hT] at hTl
      have HT := Lib.hid hT
      have hsT := bytesOf_size T
      clear hf hT
      go_wp2_with fail
      refine (Tryd.strconv_Itoa (1000 + (r : Int)) (by omega) (by omega) _ hw2.pow).mono ?_
      rintro e w3 ⟨rfl, k2, os2, rfl⟩
      rw [show (1000 + (r : Int)) = ((1000 + r : Nat) : Int) from by omega, itoa_nat, dec_thousand hrb]
      rw [show (⟨[49, dig (r / 100), dig (r / 10 % 10), dig (r % 10)].toArray⟩ : ByteArray) = bytesOf [49, dig (r / 100), dig (r / 10 % 10), dig (r % 10)] from rfl]
      have hb3 := hb2.trans ((Lib.below_grow W2.heap.size W2 (Nat.le_refl _) k2 os2).mono hb2.size)
      generalize grow (W2.drewN k2) os2 = W3 at *
      go_wp2_with fail
      refine (Tryd.strings_TrimRight_one _ 48 (by decide) _ (by rw [bytesOf_size]; simp)).mono ?_
      rintro e w4 ⟨rfl, rfl⟩
      rw [bytesOf_list, HT.out, show (⟨T.toArray⟩ : ByteArray) = bytesOf T from rfl]
      go_wp2
      go_ret
      refine ⟨congrArg (fun b => Ending.returned (Value.string b)) ?_, hb3⟩
      have h9 := HF.out
      rw [HP.out, ← h9, HT.out]
      show bytesOf [45] ++ bytesOf (Lib.decDigits q) ++ bytesOf [46] ++ bytesOf T = _
      rw [bytesOf_append, bytesOf_append, bytesOf_append]
      simp
  | false =>
    simp only [Bool.false_eq_true, if_false] at Hs
    go_enter Tryd.func17, Tryd.ntmps17
    go_wp2_with fail
    refine (fx_stop n w h1 h2).mono ?_
    rintro e w1 ⟨rfl, rfl⟩
    rw [Hs.out]
    go_wp2_with fail
    refine (Tryd.strconv_Itoa (q : Int) (by omega) (by omega) _ hw.pow).mono ?_
    rintro e w2 ⟨rfl, k, os, rfl⟩
    rw [itoa_nat, show (⟨(Lib.decDigits q).toArray⟩ : ByteArray) = bytesOf (Lib.decDigits q) from rfl]
    have hb2 := Lib.below_grow w.heap.size w (Nat.le_refl _) k os
    have hw2 := hw.below hb2
    generalize grow (w.drewN k) os = W2 at *
    by_cases hr0 : r = 0
    · have hz : ((r : Int) == 0) = true := by simp; omega
      have hf : fracT r = [] := by rw [hr0]; rfl
      have HF := Lib.hid hf
      clear hf hr0
      go_wp2
      go_ret
      exact ⟨congrArg (fun b => Ending.returned (Value.string b)) (by rw [HP.out, HF.out, List.append_nil]; exact bytesOf_append [] _), hb2⟩
    · have hz : ((r : Int) == 0) = false := by simp; omega
      have hf := trim_frac ⟨r, hrb⟩ hr0
      have HF := Lib.hid hf
      have hsl := str_from (P := Tryd.prog) (T := 9) Tryd.underlying9 [49, dig (r / 100), dig (r / 10 % 10), dig (r % 10)] .i64 1 (by simp)
      have hcast : ((1 : Nat) : Int) = 1 := rfl
      rw [hcast] at hsl
      have hsz := bytesOf_size [49, dig (r / 100), dig (r / 10 % 10), dig (r % 10)]
      have hTl : (Lib.trimRightB [dig (r / 100), dig (r / 10 % 10), dig (r % 10)] 48).length ≤ 3 := by
        unfold Lib.trimRightB
        rw [List.length_reverse]
        exact Nat.le_trans (List.dropWhile_suffix _).length_le (by simp)
      obtain ⟨T, hT⟩ : ∃ T, Lib.trimRightB [dig (r / 100), dig (r / 10 % 10), dig (r % 10)] 48 = T := ⟨_, rfl⟩
      rw [hT] at hTl
      have HT := Lib.hid hT
      have hsT := bytesOf_size T
      clear hf hT
      go_wp2_with fail
      refine (Tryd.strconv_Itoa (1000 + (r : Int)) (by omega) (by omega) _ hw2.pow).mono ?_
      rintro e w3 ⟨rfl, k2, os2, rfl⟩
      rw [show (1000 + (r : Int)) = ((1000 + r : Nat) : Int) from by omega, itoa_nat, dec_thousand hrb]
      rw [show (⟨[49, dig (r / 100), dig (r / 10 % 10), dig (r % 10)].toArray⟩ : ByteArray) = bytesOf [49, dig (r / 100), dig (r / 10 % 10), dig (r % 10)] from rfl]
      have hb3 := hb2.trans ((Lib.below_grow W2.heap.size W2 (Nat.le_refl _) k2 os2).mono hb2.size)
      generalize grow (W2.drewN k2) os2 = W3 at *
      go_wp2_with fail
      refine (Tryd.strings_TrimRight_one _ 48 (by decide) _ (by rw [bytesOf_size]; simp)).mono ?_
      rintro e w4 ⟨rfl, rfl⟩
      rw [bytesOf_list, HT.out, show (⟨T.toArray⟩ : ByteArray) = bytesOf T from rfl]
      go_wp2
      go_ret
      refine ⟨congrArg (fun b => Ending.returned (Value.string b)) ?_, hb3⟩
      have h9 := HF.out
      rw [HP.out, ← h9, HT.out]
      show bytesOf [] ++ bytesOf (Lib.decDigits q) ++ bytesOf [46] ++ bytesOf T = _
      rw [bytesOf_append, bytesOf_append, bytesOf_append]
      simp
theorem stop_form (n : Int) : ∃ (neg : Bool) (a : Nat), a ≤ 1099511627776 ∧ stopZ n = (if neg = true then -(a : Int) else (a : Int)) ∧ (neg = true → 0 < a) ∧ printP n = (if neg = true then [45] else []) ++ printN a := by
  obtain ⟨h1, h2⟩ := stopZ_range n
  by_cases h : stopZ n < 0
  · exact ⟨true, (stopZ n).natAbs, by omega, by simp; omega, fun _ => by omega, by unfold printP; rw [if_pos h]; rfl⟩
  · exact ⟨false, (stopZ n).natAbs, by omega, by simp; omega, fun h => by simp at h, by unfold printP; rw [if_neg h]; rfl⟩
theorem fx_print (n : Int) (w : World) (h1 : -9223372036854775808 ≤ n) (h2 : n ≤ 9223372036854775807) (hw : Env w) :
    Calls Tryd.prog 17 #[.int .i64 n] w fun e w' => e = .returned (.string (bytesOf (printP n))) ∧ Below w.heap.size w w' := by
  obtain ⟨neg, a, ha, hs, hn, hp⟩ := stop_form n
  rw [hp]
  exact fx_print_core neg a n w h1 h2 hw ha hs hn
end Go.Proofs.YthimfoonalfoeaaDoor
set_option linter.unusedVariables false
set_option linter.unusedSimpArgs false
namespace Go.Proofs.YthimfoonalfoeaaDoor
open Go.RowKit Rn
namespace Tp
def hexd (k : Nat) : UInt8 := UInt8.ofNat (if k < 10 then 48 + k else 87 + k)
/-- a number in small hex digits -/
def hexT (n : Nat) : List UInt8 := if h : n < 16 then [hexd n] else hexT (n / 16) ++ [hexd (n % 16)]
termination_by n
decreasing_by exact Nat.div_lt_self (by omega) (by omega)
/-- a character, escaped -/
def escP (c : Int) : List UInt8 := 92 :: (hexT c.toNat ++ [32])
/-- must the character at a place of a name be escaped? first: the place is the first one, or the second one behind a sign; only: it is a sign, and all there is; e: the first one of a Dim -/
def needB (c : Int) (first only e : Bool) : Bool := !withinB c || (first && digitB c) || only || (e && decide (c = 101 ∨ c = 69))
def partP (c : Int) (b : Bool) : List UInt8 := if b = true then escP c else Lib.encodeRune c
/-- a name's text from a place on -/
def nameF (l : List Int) (dim : Bool) : Nat → List Int → List UInt8
  | _, [] => []
  | i, c :: r => partP c (needB c (decide (i = 0 ∨ i = 1 ∧ l[0]? = some 45)) (decide (l = [45])) (dim && decide (i = 0))) ++ nameF l dim (i + 1) r
def nameP (l : List Int) (dim : Bool) : List UInt8 := nameF l dim 0 l
/-- a text ahead of which a quote stands -/
def quoteB (c : Int) : Bool := decide (c = 34 ∨ c = 92 ∨ c = 10 ∨ c = 12 ∨ c = 13)
def quotedP (l : List Int) : List UInt8 := 34 :: l.flatMap (fun c => partP c (quoteB c))
/-- may a character be a Delim? -/
def delimB (c : Int) : Bool := !whiteB c && !beginsB c && !digitB c && decide (c ≠ 34 ∧ c ≠ 39 ∧ c ≠ 40 ∧ c ≠ 41 ∧ c ≠ 91 ∧ c ≠ 93 ∧ c ≠ 123 ∧ c ≠ 125 ∧ c ≠ 58 ∧ c ≠ 59 ∧ c ≠ 44 ∧ c ≠ 12 ∧ c ≠ 13)
/-- a token's text may be, by its kind -/
def kindB (k : Int) (l : List Int) : Bool :=
  if (2 ≤ k ∧ k ≤ 5) ∨ k = 10 then decide (l ≠ [])
  else if k = 6 ∨ k = 7 then true
  else if k = 11 then (match l with | [c] => delimB c | _ => false)
  else if k = 12 then decide (l = [40] ∨ l = [91] ∨ l = [123])
  else if k = 13 then decide (l = [41] ∨ l = [93] ∨ l = [125])
  else decide (1 ≤ k ∧ k ≤ 16 ∧ l = [])
def numOk (k n : Int) : Bool := decide (Fx.stopZ n = n ∧ ((8 ≤ k ∧ k ≤ 10) ∨ n = 0))
/-- a token may be -/
def oneB (t : GTok) : Bool := match utfP t.text with
  | none => false
  | some l => decide ((0 : Int) ∉ l) && numOk t.kind t.n && kindB t.kind l
/-- a token's text -/
def tokenP (t : GTok) : List UInt8 :=
  if oneB t = true then
    let l := (utfP t.text).getD []
    let k := t.kind
    if k = 1 then [10] else if k = 2 then nameP l false else if k = 3 then nameP l false ++ [40] else if k = 4 then 64 :: nameP l false else if k = 5 then 35 :: nameP l false
    else if k = 6 then quotedP l ++ [34] else if k = 7 then quotedP l
    else if k = 8 then Fx.printP t.n else if k = 9 then Fx.printP t.n ++ [37] else if k = 10 then Fx.printP t.n ++ nameP l true
    else if k = 14 then [58] else if k = 15 then [59] else if k = 16 then [44] else t.text
  else []
/-- tokens may be -/
def pairsB : List GTok → Bool
  | [] => true
  | [t] => oneB t && decide (t.kind ≠ 7)
  | t :: u :: l => oneB t && !(decide (t.kind = 1) && decide (u.kind = 1)) && !(decide (t.kind = 7) && decide (u.kind ≠ 1)) && !(decide (t.kind = 11) && decide (t.text = [92]) && decide (u.kind ≠ 1)) && pairsB (u :: l)
def rightB (l : List GTok) : Bool := pairsB l && decide (l.length ≤ 16384)
/-- are two tokens kept apart? -/
def apartB (a b : Int) : Bool := decide (a ≠ 1 ∧ a ≠ 3 ∧ a ≠ 12 ∧ a ≠ 13 ∧ a ≠ 6 ∧ a ≠ 14 ∧ a ≠ 15 ∧ a ≠ 16 ∧ b ≠ 1 ∧ b ≠ 13 ∧ b ≠ 6 ∧ b ≠ 14 ∧ b ≠ 15 ∧ b ≠ 16)
def joinP : List GTok → List UInt8
  | [] => []
  | [t] => tokenP t
  | t :: u :: l => tokenP t ++ ((if apartB t.kind u.kind = true then [47, 42, 42, 47] else []) ++ joinP (u :: l))
def printL (l : List GTok) : List UInt8 := if rightB l = true then joinP l else []
end Tp
end Go.Proofs.YthimfoonalfoeaaDoor
