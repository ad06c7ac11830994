/- Layer 1: the exponent's number is walked. -/
import Derived.Test.YtflehiokbbldgaaDoorFxParts
import Derived.Test.YtflehiokbbldgaaDoorFxLength
import Derived.Lib.AtoiErrMem
set_option linter.unusedVariables false
set_option linter.unusedSimpArgs false
namespace Go.Proofs.YtflehiokbbldgaaDoor
open Go.RowKit Fx
theorem bytesOf_append (a b : List UInt8) : bytesOf a ++ bytesOf b = bytesOf (a ++ b) := by
  rw [← bytesOf_eta (bytesOf a ++ bytesOf b)]
  congr 1
theorem val_foldl (l : List UInt8) : ∀ n, l.foldl (fun n b => 10 * n + dv b) n = n * 10 ^ l.length + val l := by
  induction l with
  | nil => intro n; simp [val]
  | cons b l ih =>
    intro n
    unfold val
    simp only [List.foldl_cons, List.length_cons]
    rw [ih, ih (10 * 0 + dv b), Nat.pow_succ]
    rw [Nat.add_mul]
    have : 10 * n * 10 ^ l.length = n * (10 ^ l.length * 10) := by
      rw [Nat.mul_comm 10 n, Nat.mul_assoc, Nat.mul_comm 10]
    rw [this, Nat.mul_zero, Nat.zero_add]
    omega
theorem val_cons (b : UInt8) (l : List UInt8) : val (b :: l) = dv b * 10 ^ l.length + val l := by
  show List.foldl _ (10 * 0 + dv b) l = _
  rw [val_foldl]; simp
theorem decFrom_val (l : List UInt8) (h : ∀ b ∈ l, isD b = true) : ∀ n, Lib.decFrom n l = some (l.foldl (fun n b => 10 * n + dv b) n) := by
  induction l with
  | nil => intro n; rfl
  | cons b l ih =>
    intro n
    have hb := isD_range (h b (by simp))
    have hd : Lib.digitVal b = some (dv b) := by unfold Lib.digitVal; rw [if_pos hb]; rfl
    simp only [Lib.decFrom, hd, List.foldl_cons]
    rw [ih (fun c hc => h c (by simp [hc])), Nat.mul_comm]
theorem val_trim (l : List UInt8) : val (l.dropWhile (· == 48)) = val l := by
  induction l with
  | nil => rfl
  | cons b l ih =>
    by_cases hb : b = 48
    · subst hb; rw [List.dropWhile_cons, if_pos (by rfl), ih, val_cons]; simp [dv]
    · rw [List.dropWhile_cons, if_neg (by simpa using hb)]
theorem atoi_nought (d : List UInt8) (h : ∀ b ∈ d, isD b = true) : Lib.atoi (48 :: d) = some (val d : Int) := by
  have h2 : ∀ b ∈ (48 :: d : List UInt8), isD b = true := by
    intro b hb
    rcases List.mem_cons.1 hb with rfl | hb
    · rfl
    · exact h b hb
  have : Lib.decNat (48 :: d) = some (val d) := by
    unfold Lib.decNat
    rw [if_neg (by simp), decFrom_val _ h2]
    show some (val (48 :: d)) = _
    rw [val_cons]; simp [dv]
  unfold Lib.atoi
  simp only []
  rw [if_neg (by decide), if_neg (by decide), this]
  rfl
theorem val_lt (l : List UInt8) (h : ∀ b ∈ l, isD b = true) : val l < 10 ^ l.length := by
  induction l with
  | nil => decide
  | cons b l ih =>
    have hb := isD_range (h b (by simp))
    have := ih fun c hc => h c (by simp [hc])
    have hd : dv b ≤ 9 := by unfold dv; omega
    rw [val_cons, List.length_cons, Nat.pow_succ]
    have : dv b * 10 ^ l.length ≤ 9 * 10 ^ l.length := Nat.mul_le_mul_right _ hd
    omega
theorem dropWhile_all {p q : UInt8 → Bool} {l : List UInt8} (h : ∀ b ∈ l, q b = true) : ∀ b ∈ l.dropWhile p, q b = true :=
  fun b hb => h b ((List.dropWhile_suffix p).subset hb)
set_option maxRecDepth 100000 in
set_option maxHeartbeats 2000000 in
theorem fx_power (x : List UInt8) (w : World) (hl : x.length ≤ 1000000) (hd : ∀ b ∈ x.drop (sgn x), isD b = true) :
    Calls Tryd.prog 26 #[.string (bytesOf x)] w fun e w' => e = .returned (.int .i64 (powP x)) ∧ Below w.heap.size w w' := by
  have hs := bytesOf_size x
  by_cases hx : x = []
  · subst hx
    obtain ⟨e1, e2⟩ := str_none
    go_enter Tryd.func26, Tryd.ntmps26
    go_wp2
    go_ret
    exact ⟨rfl, Below.refl _ _⟩
  · obtain ⟨e1, e2⟩ := str_some hx
    have hpos : 0 < x.length := List.length_pos_iff.2 hx
    obtain ⟨b, hb⟩ : ∃ b, x[0]? = some b := ⟨_, List.getElem?_eq_getElem hpos⟩
    have hix := str_at (P := Tryd.prog) (T := 9) Tryd.underlying9 x .i64 0 b hb
    rw [Int.ofNat_zero] at hix
    obtain ⟨k, hk⟩ : ∃ k, sgn x = k := ⟨_, rfl⟩
    have hk1 := sgn_le x
    rw [hk] at hk1 hd
    have hf := str_from (P := Tryd.prog) (T := 9) Tryd.underlying9 x .i64 k (by omega)
    have hat := atoi_nought _ (dropWhile_all (p := (· == 48)) hd)
    rw [val_trim] at hat
    have hvl := val_lt _ hd
    have hdl : ((x.drop k).dropWhile (· == 48)).length ≤ x.length - k := by
      have := (List.dropWhile_suffix (· == (48 : UInt8)) (l := x.drop k)).length_le
      rwa [List.length_drop] at this
    rw [List.length_drop] at hvl
    obtain ⟨V, hV⟩ : ∃ V, val (x.drop k) = V := ⟨_, rfl⟩
    rw [hV] at hat hvl
    have hpv : powP x = if x[0]? = some 45 then -((if x.length - k ≤ 6 then V else 999999 : Nat) : Int) else ((if x.length - k ≤ 6 then V else 999999 : Nat) : Int) := by
      unfold powP; rw [if_neg hx, hk, hV]
    have Hk := Lib.hid hk
    have Hpv := Lib.hid hpv
    have Hb := Lib.hid hb
    have HV := Lib.hid hV
    have Hat := Lib.hid hat
    clear hk hpv hb hV hat
    by_cases h6 : x.length - k ≤ 6
    · have hV6 : V < 1000000 := Nat.lt_of_lt_of_le hvl (Nat.pow_le_pow_right (n := 10) (by omega) h6)
      go_enter Tryd.func26, Tryd.ntmps26
      go_wp2_with fail
      refine (fx_sign x w (by omega)).mono ?_
      rintro e w1 ⟨rfl, rfl⟩
      rw [Hk.out]
      go_wp2_with fail
      refine (Tryd.strings_TrimLeft_one _ 48 (by decide) _).mono ?_
      rintro e w1 ⟨rfl, rfl⟩
      rw [bytesOf_list]
      rw [show (⟨(Lib.trimLeftB (x.drop k) 48).toArray⟩ : ByteArray) = bytesOf ((x.drop k).dropWhile (· == 48)) from rfl]
      have hsd := bytesOf_size ((x.drop k).dropWhile (· == 48))
      go_wp2_with fail
      rw [show (⟨#[48]⟩ : ByteArray) = bytesOf [48] from rfl, bytesOf_append]
      refine (Tryd.strconv_Atoi _ (V : Int) (by rw [bytesOf_size]; simp; omega) (by rw [bytesOf_list]; exact Hat.out) _).mono ?_
      rintro e w2 ⟨rfl, t, rfl⟩
      have hbw := Lib.bytesWorld_below w1 5 t
      by_cases hm : b.toNat = 45
      · have hv : powP x = -(V : Int) := by
          rw [Hpv.out, if_pos h6, if_pos]
          rw [Hb.out]; congr 1; exact UInt8.toNat_inj.1 hm
        have Hv := Lib.hid hv
        clear hv
        rw [hm] at hix
        go_wp2
        go_ret
        exact ⟨ret_int (by rw [Hv.out]), hbw⟩
      · have hv : powP x = (V : Int) := by
          rw [Hpv.out, if_pos h6, if_neg]
          rw [Hb.out]; intro h; injection h with h; subst h; exact hm rfl
        have Hv := Lib.hid hv
        have hc := byte_ne hm
        clear hv
        go_wp2
        go_ret
        exact ⟨ret_int (by rw [Hv.out]), hbw⟩
    · go_enter Tryd.func26, Tryd.ntmps26
      go_wp2_with fail
      refine (fx_sign x w (by omega)).mono ?_
      rintro e w1 ⟨rfl, rfl⟩
      rw [Hk.out]
      go_wp2_with fail
      refine (Tryd.strings_TrimLeft_one _ 48 (by decide) _).mono ?_
      rintro e w1 ⟨rfl, rfl⟩
      rw [bytesOf_list]
      rw [show (⟨(Lib.trimLeftB (x.drop k) 48).toArray⟩ : ByteArray) = bytesOf ((x.drop k).dropWhile (· == 48)) from rfl]
      by_cases hm : b.toNat = 45
      · have hv : powP x = -(999999 : Int) := by
          rw [Hpv.out, if_neg h6, if_pos]
          · rfl
          rw [Hb.out]; congr 1; exact UInt8.toNat_inj.1 hm
        have Hv := Lib.hid hv
        clear hv
        rw [hm] at hix
        go_wp2
        go_ret
        exact ⟨ret_int (by rw [Hv.out]), Below.refl _ _⟩
      · have hv : powP x = (999999 : Int) := by
          rw [Hpv.out, if_neg h6, if_neg]
          · rfl
          rw [Hb.out]; intro h; injection h with h; subst h; exact hm rfl
        have Hv := Lib.hid hv
        have hc := byte_ne hm
        clear hv
        go_wp2
        go_ret
        exact ⟨ret_int (by rw [Hv.out]), Below.refl _ _⟩
end Go.Proofs.YtflehiokbbldgaaDoor
