/- The law RulesSame is walked: rules are the same just if all their parts are; a copy is the same. -/
import Derived.Test.YtfhdihdafmahgaaGreatDoorB10
import Derived.Lib.OthersKept
import Derived.Test.YtfhdihdafmahgaaGreatDoorB13
import Derived.Deep.DeepCutAuto
import Derived.Test.YtfhdihdafmahgaaGreatDoorB09
import Derived.Maps.StringElems
import Derived.Lib.Builder
import Derived.Lib.AppendStr
import Derived.Test.YtfhdihdafmahgaaGreatDoorB11
import Derived.Test.YtfhdihdafmahgaaGreatDoorB12
import Derived.OpenShut
import Derived.Carry
import Derived.Deep.SlicePairs
import Derived.Test.YtfhdihdafmahgaaGreatDoorB04
import Derived.Test.YtfhdihdafmahgaaGreatDoorB05
/- Layer 4: a text that is UTF-8, gone through character by character. Plain facts. -/
set_option linter.unusedVariables false
set_option linter.unusedSimpArgs false
namespace Go.Proofs.YtfhdihdafmahgaaGreatDoor
open Go.RowKit Rn Tp
theorem decU_drop (l : List UInt8) (p : Nat) : Utf8.decode (bytesOf l) p = Lib.decodeL (l.drop p) := by
  rw [decL_N, Lib.decode_at, bytesOf_size, bytesOf_get, bytesOf_get, bytesOf_get, bytesOf_get, List.length_drop, List.getElem?_drop, List.getElem?_drop, List.getElem?_drop, List.getElem?_drop]; rfl
/-- where the k-th character begins -/
def posU (cs : List Int) (k : Nat) : Nat := (writeP (cs.take k)).length
theorem posU_split (cs : List Int) (k : Nat) : writeP cs = writeP (cs.take k) ++ writeP (cs.drop k) := by rw [← write_app, List.take_append_drop]
theorem posU_drop (cs : List Int) (k : Nat) : (writeP cs).drop (posU cs k) = writeP (cs.drop k) := by
  conv => lhs; rw [posU_split cs k]
  unfold posU
  rw [List.drop_left]
theorem posU_succ {cs : List Int} {k : Nat} {c : Int} (h : cs[k]? = some c) : posU cs (k + 1) = posU cs k + (Lib.encodeRune c).length := by
  unfold posU
  rw [take_snoc cs k c h, write_app, List.length_append, write_one]
theorem posU_ge (cs : List Int) : ∀ k, k ≤ cs.length → k ≤ posU cs k
  | 0, _ => Nat.zero_le _
  | k + 1, h => by
    have := posU_ge cs k (by omega)
    rw [posU_succ (List.getElem?_eq_getElem (by omega))]
    have := (encode_len cs[k]).1
    omega
theorem posU_zero (cs : List Int) : posU cs 0 = 0 := by unfold posU; simp [writeP]
theorem posU_end (cs : List Int) : posU cs cs.length = (writeP cs).length := by unfold posU; rw [List.take_length]
theorem posU_step {cs : List Int} (hv : ∀ c ∈ cs, isB c = true) {k : Nat} {c : Int} (h : cs[k]? = some c) : Utf8.decode (bytesOf (writeP cs)) (posU cs k) = (c.toNat, (Lib.encodeRune c).length) ∧ posU cs k < (writeP cs).length := by
  have hc := hv c (List.mem_of_getElem? h)
  have hk : k < cs.length := (List.getElem?_eq_some_iff.1 h).1
  have hd : cs.drop k = c :: cs.drop (k + 1) := by
    rw [List.drop_eq_getElem_cons hk]
    rw [List.getElem?_eq_getElem hk] at h
    injection h with h
    rw [h]
  refine ⟨?_, ?_⟩
  · rw [decU_drop, posU_drop, hd, write_cons]
    exact decL_write c hc _
  · have := congrArg List.length (posU_split cs k)
    rw [List.length_append, hd, write_cons, List.length_append] at this
    have h4 := (encode_len c).1
    unfold posU
    omega
theorem enc_two {c : Int} (hc : isB c = true) (h : 128 ≤ c) : 2 ≤ (Lib.encodeRune c).length := by
  have hc' : 0 ≤ c ∧ c ≤ 1114111 ∧ (c < 55296 ∨ 57343 < c) := by simpa [isB] using hc
  by_cases c2 : c < 2048
  · have e : Lib.encodeRune c = [(192 + c / 64).toNat.toUInt8, (128 + c % 64).toNat.toUInt8] := by simp [Lib.encodeRune, Lib.encodeRuneZ_two (by omega : 128 ≤ c) (by omega)]
    rw [e]; simp
  · by_cases c3 : c < 65536
    · have e : Lib.encodeRune c = [(224 + c / 4096).toNat.toUInt8, (128 + c / 64 % 64).toNat.toUInt8, (128 + c % 64).toNat.toUInt8] := by simp [Lib.encodeRune, Lib.encodeRuneZ_three (r := c) (by omega)]
      rw [e]; simp
    · have e : Lib.encodeRune c = [(240 + c / 262144).toNat.toUInt8, (128 + c / 4096 % 64).toNat.toUInt8, (128 + c / 64 % 64).toNat.toUInt8, (128 + c % 64).toNat.toUInt8] := by simp [Lib.encodeRune, Lib.encodeRuneZ_four (by omega : 65536 ≤ c) (by omega)]
      rw [e]; simp
theorem enc_low1 {c : Int} (h0 : 0 ≤ c) (h : c < 128) : ∃ b : UInt8, Lib.encodeRune c = [b] ∧ (b.toNat : Int) = c := by
  have e : Lib.encodeRune c = [c.toNat.toUInt8] := by simp [Lib.encodeRune, Lib.encodeRuneZ_one h0 (by omega : c ≤ 127)]
  have g0 := b_of c h0 (by omega)
  exact ⟨_, e, by rw [g0]; omega⟩
/-- a character as the language turns it into a string -/
theorem encode_is {c : Int} (hc : isB c = true) : Utf8.encode c = bytesOf (Lib.encodeRune c) := by
  have hc' : 0 ≤ c ∧ c ≤ 1114111 ∧ (c < 55296 ∨ 57343 < c) := by simpa [isB] using hc
  obtain ⟨n, rfl⟩ : ∃ n : Nat, c = n := ⟨c.toNat, by omega⟩
  have hv : Utf8.valid (n : Int) = true := by unfold Utf8.valid; simp; omega
  have e : (n : Int).toNat = n := by omega
  unfold Utf8.encode
  simp only [hv, if_true, e]
  by_cases c1 : n < 128
  · rw [if_pos c1]
    simp [Lib.encodeRune, Lib.encodeRuneZ_one (by omega : (0 : Int) ≤ n) (by omega : (n : Int) ≤ 127), bytesOf]
  · rw [if_neg c1]
    by_cases c2 : n < 2048
    · rw [if_pos c2]
      have z0 : (192 + (n : Int) / 64).toNat = 192 + n / 64 := by omega
      have z1 : (128 + (n : Int) % 64).toNat = 128 + n % 64 := by omega
      simp [Lib.encodeRune, Lib.encodeRuneZ_two (by omega : (128 : Int) ≤ n) (by omega : (n : Int) ≤ 2047), bytesOf, z0, z1]
    · rw [if_neg c2]
      by_cases c3 : n < 65536
      · rw [if_pos c3]
        have z0 : (224 + (n : Int) / 4096).toNat = 224 + n / 4096 := by omega
        have z1 : (128 + (n : Int) / 64 % 64).toNat = 128 + n / 64 % 64 := by omega
        have z2 : (128 + (n : Int) % 64).toNat = 128 + n % 64 := by omega
        simp [Lib.encodeRune, Lib.encodeRuneZ_three (r := (n : Int)) (by omega), bytesOf, z0, z1, z2]
      · rw [if_neg c3]
        have z0 : (240 + (n : Int) / 262144).toNat = 240 + n / 262144 := by omega
        have z1 : (128 + (n : Int) / 4096 % 64).toNat = 128 + n / 4096 % 64 := by omega
        have z2 : (128 + (n : Int) / 64 % 64).toNat = 128 + n / 64 % 64 := by omega
        have z3 : (128 + (n : Int) % 64).toNat = 128 + n % 64 := by omega
        simp [Lib.encodeRune, Lib.encodeRuneZ_four (by omega : (65536 : Int) ≤ n) (by omega), bytesOf, z0, z1, z2, z3]
/-- which bytes stand at the first places -/
theorem first_cases {cs : List Int} (hv : ∀ c ∈ cs, isB c = true) {k : Nat} (hk : k < cs.length) :
    (posU cs k = 0 ∧ k = 0 ∧ decide (k = 0 ∨ k = 1 ∧ cs[0]? = some 45) = true) ∨ (k ≠ 0 ∧ posU cs k = 1 ∧ ∃ b : UInt8, (writeP cs)[0]? = some b ∧ ((b.toNat = 45 ∧ decide (k = 0 ∨ k = 1 ∧ cs[0]? = some 45) = true) ∨ (b.toNat ≠ 45 ∧ decide (k = 0 ∨ k = 1 ∧ cs[0]? = some 45) = false))) ∨ (k ≠ 0 ∧ 2 ≤ posU cs k ∧ decide (k = 0 ∨ k = 1 ∧ cs[0]? = some 45) = false) := by
  cases k with
  | zero => exact .inl ⟨posU_zero cs, rfl, by simp⟩
  | succ k =>
    right
    have hge := posU_ge cs (k + 1) (by omega)
    obtain ⟨c0, r, rfl⟩ := List.exists_cons_of_length_pos (l := cs) (by omega)
    have hc0 := hv c0 (by simp)
    have hr0 := isB_range' hc0
    have hp1 : posU (c0 :: r) 1 = (Lib.encodeRune c0).length := by
      have : posU (c0 :: r) 1 = posU (c0 :: r) 0 + (Lib.encodeRune c0).length := posU_succ (cs := c0 :: r) (k := 0) (c := c0) rfl
      rw [posU_zero] at this; omega
    by_cases h2 : 2 ≤ posU (c0 :: r) (k + 1)
    · right
      refine ⟨by omega, h2, ?_⟩
      simp only [decide_eq_false_iff_not, not_or, not_and]
      refine ⟨by omega, fun h1 h3 => ?_⟩
      obtain rfl : k = 0 := by omega
      have h3 : c0 = 45 := by simpa using h3
      subst h3
      rw [hp1] at h2
      exact absurd h2 (by decide)
    · left
      obtain rfl : k = 0 := by omega
      have hlen : (Lib.encodeRune c0).length = 1 := by rw [hp1] at h2; have := encode_len c0; omega
      have hlow : c0 < 128 := by
        by_cases h : c0 < 128
        · exact h
        · have := enc_two hc0 (by omega); omega
      obtain ⟨b, e, hb⟩ := enc_low1 hr0.1 hlow
      refine ⟨by omega, by rw [hp1]; exact hlen, b, by rw [write_cons, e]; rfl, ?_⟩
      by_cases h45 : c0 = 45
      · left; exact ⟨by omega, by simp [h45]⟩
      · right; exact ⟨by omega, by simp [h45]⟩
end Go.Proofs.YtfhdihdafmahgaaGreatDoor
/- Layer 4: a printed name, a printed text: the program's name and quoted are walked. -/
set_option linter.unusedVariables false
set_option linter.unusedSimpArgs false
namespace Go.Proofs.YtfhdihdafmahgaaGreatDoor
open Go.RowKit Rn Tp
theorem part_len {c : Int} (hc : isB c = true) (b : Bool) : (partP c b).length ≤ 10 := by
  unfold partP
  split
  · exact esc_len c hc
  · have := (encode_len c).2; omega
set_option maxRecDepth 100000 in
set_option maxHeartbeats 8000000 in
theorem tp_name (cs : List Int) (dim : Bool) (w : World) (hv : ∀ c ∈ cs, isB c = true) (hl : cs.length ≤ 1000000) (hD : Db w) :
    Calls Tryz.prog 113 #[.string (bytesOf (writeP cs)), .bool dim] w fun e w' => e = .returned (.string (bytesOf (nameP cs dim))) ∧ Below w.heap.size w w' := by
  have hwl := writeP_len cs
  have hz := bytesOf_size (writeP cs)
  have Hv := Lib.hid hv
  have hu := utf_write cs hv
  have h45 := utf_low hu 45 (by decide)
  have Hu := Lib.hid h45
  clear hv hu h45
  have hit0 : (w.iter (bytesOf (writeP cs)) 0).heap[w.heap.size]? = some (.stringIter (bytesOf (writeP cs)) 0) := World.iter_heap _ _ _
  have hb0 : Below w.heap.size w (w.iter (bytesOf (writeP cs)) 0) := (Below.refl _ _).alloc (Nat.le_refl _) _
  go_enter Tryz.func113, Tryz.ntmps113
  go_wp2_with fail
  go_loopw [5] (fun o wr => ∃ (k : Nat) (out : List UInt8), k ≤ cs.length ∧ Hid (out ++ nameF cs dim k (cs.drop k) = nameP cs dim) ∧ out.length ≤ 10 * k ∧ o = .string (bytesOf out) ∧ wr.heap[w.heap.size]? = some (.stringIter (bytesOf (writeP cs)) (posU cs k)) ∧ Below w.heap.size w wr) (fun _ wr => (writeP cs).length - wr.iterPos w.heap.size)
  case atStart => exact ⟨0, [], Nat.zero_le _, rfl, by simp, rfl, by rw [posU_zero]; exact hit0, hb0⟩
  case round =>
    obtain ⟨k, out, hk, hrun, hol, rfl, hit, hb⟩ := hrel
    have hip := iterPos_of hit
    have hoz := bytesOf_size out
    by_cases hlt : k < cs.length
    · obtain ⟨c, hc⟩ : ∃ c, cs[k]? = some c := ⟨_, List.getElem?_eq_getElem hlt⟩
      have hcB := Hv.out c (List.mem_of_getElem? hc)
      have hcr := isB_range' hcB
      obtain ⟨hdec, hpl⟩ := posU_step Hv.out hc
      have hsuc := posU_succ hc
      have hel := encode_len c
      have hfc := first_cases Hv.out hlt
      have hdrop : cs.drop k = c :: cs.drop (k + 1) := by
        rw [List.drop_eq_getElem_cons hlt]
        rw [List.getElem?_eq_getElem hlt] at hc
        injection hc with hc
        rw [hc]
      have hnx : ∀ ty, (Instr.next (.pointer (some ⟨w.heap.size, 0, none⟩)) true ty).run Tryz.prog wr = _ := fun ty => Lib.run_next_any_at wr w.heap.size (bytesOf (writeP cs)) (posU cs k) ty hit (by rw [hz]; exact hpl)
      have hit1 := Lib.iterAt_heap wr w.heap.size (bytesOf (writeP cs)) (posU cs k) (posU cs k + (Lib.encodeRune c).length) hit
      have hb1 := Lib.below_iterAt hb (k := w.heap.size) (Nat.le_refl _) (bytesOf (writeP cs)) (posU cs k + (Lib.encodeRune c).length)
      rw [hdec] at hnx
      simp only [] at hnx
      rw [show ((c.toNat : Nat) : Int) = c by omega] at hnx
      obtain ⟨F, hF⟩ : ∃ F, decide (k = 0 ∨ k = 1 ∧ cs[0]? = some 45) = F := ⟨_, rfl⟩
      obtain ⟨nd, hnd⟩ : ∃ nd, needB c F (decide (cs = [45])) (dim && decide (k = 0)) = nd := ⟨_, rfl⟩
      have hnew : Hid ((out ++ partP c nd) ++ nameF cs dim (k + 1) (cs.drop (k + 1)) = nameP cs dim) := by
        show _ = _
        rw [← hrun.out, hdrop, ← hnd, ← hF, List.append_assoc]; rfl
      have hpl10 := part_len hcB nd
      have hpz := bytesOf_size (partP c nd)
      rw [hF] at hfc
      rw [← hsuc] at hnx hit1 hb1
      have Hnd := Lib.hid hnd
      have HcB := Lib.hid hcB
      have HF := Lib.hid hfc
      generalize wr.iterAt w.heap.size (bytesOf (writeP cs)) (posU cs (k + 1)) = W1 at *
      obtain ⟨p, hp⟩ : ∃ p, posU cs k = p := ⟨_, rfl⟩
      rw [hp] at hnx HF hpl hip hsuc
      clear hrun hdrop hc hF hnd hdec hcB hit hfc hp
      go_upto_region 5 with (fail)
      go_cut [8] (fun x wx => x = .bool F ∧ wx = W1)
      case first =>
        have hun : (undef : Value) = .tuple #[] := rfl
        rcases HF.out with ⟨h0, _, hF⟩ | ⟨_, h1, b, hb, ⟨hbb, hF⟩ | ⟨hbb, hF⟩⟩ | ⟨_, h2, hF⟩
        · have t0 : ((p : Int) == 0) = true := by simp; omega
          clear h0 HF Hnd hnew
          have HN := Lib.hid hF
          clear hF
          go_wp2_with fail
          go_meet
          exact ⟨by rw [HN.out], rfl⟩
        · have t0 : ((p : Int) == 0) = false := by simp; omega
          have t1 : ((p : Int) == 1) = true := by simp; omega
          have hix : ∀ W, (Instr.index 9 (.string (bytesOf (writeP cs))) (.int .i64 0)).run Tryz.prog W = .ok (.int .u8 (b.toNat : Int)) W := fun W => str_at (P := Tryz.prog) (T := 9) Tryz.underlying9 (writeP cs) .i64 0 b hb W
          have tb : ((b.toNat : Int) == 45) = true := by simp; omega
          clear h1 HF Hnd hnew hb hbb
          have HN := Lib.hid hF
          clear hF
          go_wp2_with fail
          go_meet
          exact ⟨by rw [HN.out], rfl⟩
        · have t0 : ((p : Int) == 0) = false := by simp; omega
          have t1 : ((p : Int) == 1) = true := by simp; omega
          have hix : ∀ W, (Instr.index 9 (.string (bytesOf (writeP cs))) (.int .i64 0)).run Tryz.prog W = .ok (.int .u8 (b.toNat : Int)) W := fun W => str_at (P := Tryz.prog) (T := 9) Tryz.underlying9 (writeP cs) .i64 0 b hb W
          have tb : ((b.toNat : Int) == 45) = false := by simp; omega
          clear h1 HF Hnd hnew hb hbb
          have HN := Lib.hid hF
          clear hF
          go_wp2_with fail
          go_meet
          exact ⟨by rw [HN.out], rfl⟩
        · have t0 : ((p : Int) == 0) = false := by simp; omega
          have t1 : ((p : Int) == 1) = false := by simp; omega
          clear h2 HF Hnd hnew
          have HN := Lib.hid hF
          clear hF
          go_wp2_with fail
          go_meet
          exact ⟨by rw [HN.out], rfl⟩
      case rest =>
        obtain ⟨rfl, rfl⟩ := hcut
        have hkp : decide (k = 0) = ((p : Int) == 0) := by
          rcases HF.out with ⟨h0, hk0, _⟩ | ⟨hk0, h1, _⟩ | ⟨hk0, h2, _⟩
          · rw [Bool.eq_iff_iff]; simp [h0, hk0]
          · rw [Bool.eq_iff_iff]; simp [hk0]; omega
          · rw [Bool.eq_iff_iff]; simp [hk0]; omega
        have hnd2 := Hnd.out
        rw [hkp] at hnd2
        obtain ⟨E, hE⟩ : ∃ E, (dim && ((p : Int) == 0) && decide (c = 101 ∨ c = 69)) = E := ⟨_, rfl⟩
        have hnd3 : (!withinB c || (F && digitB c) || decide (cs = [45]) || E) = nd := by rw [← hnd2, ← hE]; unfold needB; rfl
        have Hnd3 := Lib.hid hnd3
        have HE := Lib.hid hE
        clear hnd2 hnd3 hE hkp Hnd HF
        go_upto_region 6 with (fail)
        go_cut [9] (fun x wx => x = .bool E ∧ wx = wc)
        case first =>
          have hun : (undef : Value) = .tuple #[] := rfl
          have hE := HE.out
          cases dim with
          | false =>
            simp only [Bool.false_and] at hE
            have HN := Lib.hid hE
            clear hE
            go_wp2_with fail
            go_meet
            exact ⟨by rw [HN.out], rfl⟩
          | true =>
            cases hp0 : ((p : Int) == 0) with
            | false =>
              rw [hp0] at hE
              simp only [Bool.and_false, Bool.false_and] at hE
              have HN := Lib.hid hE
              clear hE
              go_wp2_with fail
              go_meet
              exact ⟨by rw [HN.out], rfl⟩
            | true =>
              rw [hp0] at hE
              simp only [Bool.and_true, Bool.true_and] at hE
              by_cases c1 : c = 101
              · have t1 := eq_t c1
                have hE2 : E = true := by rw [← hE]; simp [c1]
                have HN := Lib.hid hE2
                clear c1 hE hE2
                go_wp2_with fail
                go_meet
                exact ⟨by rw [HN.out], rfl⟩
              · have t1 := eq_f c1
                have hE2 : E = (c == 69) := by rw [← hE, Bool.eq_iff_iff]; simp [c1]
                have HN := Lib.hid hE2
                clear c1 hE hE2
                go_wp2_with fail
                go_meet
                exact ⟨by rw [HN.out], rfl⟩
        case rest =>
          obtain ⟨rfl, rfl⟩ := hcut
          clear HE hnx
          go_upto_region 7 with (fail)
          go_cut [56] (fun x wx => x = .bool nd ∧ wx = wc)
          case first =>
            have hun : (undef : Value) = .tuple #[] := rfl
            have hW := fun w => rn_within c w
            have hD1 := fun w => rn_digit c w
            have hnd := Hnd3.out
            generalize withinB c = b1 at *
            generalize digitB c = b2 at *
            have hU := Hu.out
            obtain ⟨o, ho⟩ : ∃ o, decide (cs = [45]) = o := ⟨_, rfl⟩
            rw [ho] at hnd
            have hS : (o = true ∧ (bytesOf (writeP cs)).toList = [45] ∧ ((bytesOf (writeP cs)).toList == [45]) = true) ∨ (o = false ∧ ¬ (bytesOf (writeP cs)).toList = [45] ∧ ((bytesOf (writeP cs)).toList == [45]) = false) := by
              by_cases h : cs = [45]
              · left; exact ⟨by rw [← ho]; simp [h], str_is (hU.2 h)⟩
              · right; exact ⟨by rw [← ho]; simp [h], str_not (fun e => h (hU.1 e))⟩
            clear ho hU
            cases b1 with
            | false =>
              simp only [Bool.not_false, Bool.true_or] at hnd
              clear hS
              have HN := Lib.hid hnd
              clear hnd
              go_wp2_with (first | (go_at_call 87; refine (hW _).mono ?_; rintro e w' ⟨rfl, rfl⟩))
              go_meet
              exact ⟨by rw [HN.out], rfl⟩
            | true =>
              simp only [Bool.not_true, Bool.false_or] at hnd
              cases F with
              | true =>
                simp only [Bool.true_and] at hnd
                cases b2 with
                | true =>
                  simp only [Bool.true_or] at hnd
                  clear hS
                  have HN := Lib.hid hnd
                  clear hnd
                  go_wp2_with (first | (go_at_call 87; refine (hW _).mono ?_; rintro e w' ⟨rfl, rfl⟩) | (go_at_call 125; refine (hD1 _).mono ?_; rintro e w' ⟨rfl, rfl⟩))
                  go_meet
                  exact ⟨by rw [HN.out], rfl⟩
                | false =>
                  simp only [Bool.false_or] at hnd
                  rcases hS with ⟨rfl, s1, s2⟩ | ⟨rfl, s1, s2⟩
                  · simp only [Bool.true_or] at hnd
                    have HN := Lib.hid hnd
                    clear hnd
                    go_wp2_with (first | (go_at_call 87; refine (hW _).mono ?_; rintro e w' ⟨rfl, rfl⟩) | (go_at_call 125; refine (hD1 _).mono ?_; rintro e w' ⟨rfl, rfl⟩))
                    go_meet
                    exact ⟨by rw [HN.out], rfl⟩
                  · simp only [Bool.false_or] at hnd
                    have HN := Lib.hid hnd
                    clear hnd
                    go_wp2_with (first | (go_at_call 87; refine (hW _).mono ?_; rintro e w' ⟨rfl, rfl⟩) | (go_at_call 125; refine (hD1 _).mono ?_; rintro e w' ⟨rfl, rfl⟩))
                    go_meet
                    exact ⟨by rw [HN.out], rfl⟩
              | false =>
                simp only [Bool.false_and, Bool.false_or] at hnd
                rcases hS with ⟨rfl, s1, s2⟩ | ⟨rfl, s1, s2⟩
                · simp only [Bool.true_or] at hnd
                  have HN := Lib.hid hnd
                  clear hnd
                  go_wp2_with (first | (go_at_call 87; refine (hW _).mono ?_; rintro e w' ⟨rfl, rfl⟩))
                  go_meet
                  exact ⟨by rw [HN.out], rfl⟩
                · simp only [Bool.false_or] at hnd
                  have HN := Lib.hid hnd
                  clear hnd
                  go_wp2_with (first | (go_at_call 87; refine (hW _).mono ?_; rintro e w' ⟨rfl, rfl⟩))
                  go_meet
                  exact ⟨by rw [HN.out], rfl⟩
          case rest =>
            obtain ⟨rfl, rfl⟩ := hcut
            have hbs := hb1.size
            clear Hnd3 Hu
            cases nd with
            | true =>
              have hesc := tp_escaped c wc HcB.out (hD.below hb1)
              have hpe : partP c true = escP c := rfl
              rw [hpe] at hnew hpl10 hpz
              clear hpe
              go_wp2_with fail
              refine hesc.mono ?_
              rintro e w2 ⟨rfl, hb2⟩
              have hit2 := (hb2.block w.heap.size (Array.getElem?_eq_some_iff.1 hit1).1).trans hit1
              have hip2 := iterPos_of hit2
              go_wp2_with fail
              refine ⟨⟨k + 1, out ++ escP c, by omega, hnew, by rw [List.length_append]; omega, by rw [bytesOf_append], hit2, hb1.trans (hb2.mono hbs)⟩, ?_⟩
              rw [hip2, hip]; omega
            | false =>
              have henc := encode_is HcB.out
              have hpe : partP c false = Lib.encodeRune c := rfl
              rw [hpe] at hnew hpl10 hpz
              clear hpe
              have hip2 := iterPos_of hit1
              go_wp2_with fail
              refine ⟨⟨k + 1, out ++ Lib.encodeRune c, by omega, hnew, by rw [List.length_append]; omega, by rw [bytesOf_append], hit1, hb1⟩, ?_⟩
              rw [hip2, hip]; omega
    · obtain rfl : k = cs.length := by omega
      have hfin : out = nameP cs dim := by rw [← hrun.out, List.drop_length]; simp [nameF]
      have hnx : ∀ ty, (Instr.next (.pointer (some ⟨w.heap.size, 0, none⟩)) true ty).run Tryz.prog wr = _ := fun ty => Lib.run_next_end_at wr w.heap.size (bytesOf (writeP cs)) (posU cs cs.length) ty hit (by rw [hz, posU_end]; omega)
      have HN := Lib.hid hfin
      clear hfin hrun
      go_wp2
      go_ret
      exact ⟨congrArg (fun x => Ending.returned (Value.string (bytesOf x))) HN.out, hb⟩
set_option maxRecDepth 100000 in
set_option maxHeartbeats 8000000 in
theorem tp_quoted (cs : List Int) (w : World) (hv : ∀ c ∈ cs, isB c = true) (hl : cs.length ≤ 1000000) (hD : Db w) :
    Calls Tryz.prog 114 #[.string (bytesOf (writeP cs))] w fun e w' => e = .returned (.string (bytesOf (quotedP cs))) ∧ Below w.heap.size w w' := by
  have hwl := writeP_len cs
  have hz := bytesOf_size (writeP cs)
  have Hv := Lib.hid hv
  clear hv
  have hit0 : (w.iter (bytesOf (writeP cs)) 0).heap[w.heap.size]? = some (.stringIter (bytesOf (writeP cs)) 0) := World.iter_heap _ _ _
  have hb0 : Below w.heap.size w (w.iter (bytesOf (writeP cs)) 0) := (Below.refl _ _).alloc (Nat.le_refl _) _
  go_enter Tryz.func114, Tryz.ntmps114
  go_wp2_with fail
  go_loopw [3] (fun o wr => ∃ (k : Nat) (out : List UInt8), k ≤ cs.length ∧ Hid (out ++ (cs.drop k).flatMap (fun c => partP c (quoteB c)) = quotedP cs) ∧ out.length ≤ 10 * k + 1 ∧ o = .string (bytesOf out) ∧ wr.heap[w.heap.size]? = some (.stringIter (bytesOf (writeP cs)) (posU cs k)) ∧ Below w.heap.size w wr) (fun _ wr => (writeP cs).length - wr.iterPos w.heap.size)
  case atStart => exact ⟨0, [34], Nat.zero_le _, rfl, by simp, rfl, by rw [posU_zero]; exact hit0, hb0⟩
  case round =>
    obtain ⟨k, out, hk, hrun, hol, rfl, hit, hb⟩ := hrel
    have hip := iterPos_of hit
    have hoz := bytesOf_size out
    by_cases hlt : k < cs.length
    · obtain ⟨c, hc⟩ : ∃ c, cs[k]? = some c := ⟨_, List.getElem?_eq_getElem hlt⟩
      have hcB := Hv.out c (List.mem_of_getElem? hc)
      have hcr := isB_range' hcB
      obtain ⟨hdec, hpl⟩ := posU_step Hv.out hc
      have hsuc := posU_succ hc
      have hel := encode_len c
      have hdrop : cs.drop k = c :: cs.drop (k + 1) := by
        rw [List.drop_eq_getElem_cons hlt]
        rw [List.getElem?_eq_getElem hlt] at hc
        injection hc with hc
        rw [hc]
      have hnx : ∀ ty, (Instr.next (.pointer (some ⟨w.heap.size, 0, none⟩)) true ty).run Tryz.prog wr = _ := fun ty => Lib.run_next_any_at wr w.heap.size (bytesOf (writeP cs)) (posU cs k) ty hit (by rw [hz]; exact hpl)
      have hit1 := Lib.iterAt_heap wr w.heap.size (bytesOf (writeP cs)) (posU cs k) (posU cs k + (Lib.encodeRune c).length) hit
      have hb1 := Lib.below_iterAt hb (k := w.heap.size) (Nat.le_refl _) (bytesOf (writeP cs)) (posU cs k + (Lib.encodeRune c).length)
      rw [hdec] at hnx
      simp only [] at hnx
      rw [show ((c.toNat : Nat) : Int) = c by omega] at hnx
      obtain ⟨nd, hnd⟩ : ∃ nd, quoteB c = nd := ⟨_, rfl⟩
      have hnew : Hid ((out ++ partP c nd) ++ (cs.drop (k + 1)).flatMap (fun c => partP c (quoteB c)) = quotedP cs) := by
        show _ = _
        rw [← hrun.out, hdrop, ← hnd, List.append_assoc]; rfl
      have hpl10 := part_len hcB nd
      have hpz := bytesOf_size (partP c nd)
      rw [← hsuc] at hnx hit1 hb1
      have HcB := Lib.hid hcB
      have hnd2 : (c = 34 ∧ nd = true) ∨ (c = 92 ∧ nd = true) ∨ (c = 10 ∧ nd = true) ∨ (c = 12 ∧ nd = true) ∨ (c = 13 ∧ nd = true) ∨ ((c == 34) = false ∧ (c == 92) = false ∧ (c == 10) = false ∧ (c == 12) = false ∧ (c == 13) = false ∧ nd = false) := by
        rw [← hnd]
        unfold quoteB
        simp; omega
      have Hnd := Lib.hid hnd2
      generalize wr.iterAt w.heap.size (bytesOf (writeP cs)) (posU cs (k + 1)) = W1 at *
      obtain ⟨p, hp⟩ : ∃ p, posU cs k = p := ⟨_, rfl⟩
      rw [hp] at hnx hpl hip hsuc
      clear hrun hdrop hc hnd hdec hcB hit hp hnd2
      go_upto_region 5 with (fail)
      go_cut [28] (fun x wx => x = .bool nd ∧ wx = W1)
      case first =>
        have hun : (undef : Value) = .tuple #[] := rfl
        rcases Hnd.out with ⟨h, hn⟩ | ⟨h, hn⟩ | ⟨h, hn⟩ | ⟨h, hn⟩ | ⟨h, hn⟩ | ⟨e1, e2, e3, e4, e5, hn⟩
        case inr.inr.inr.inr.inr =>
          have HN := Lib.hid hn
          clear hn Hnd hnew
          go_wp2_with fail
          go_meet
          exact ⟨by rw [HN.out], rfl⟩
        case inl =>
          have HN := Lib.hid hn
          have e0 : (c == 34) = true := by rw [h]; decide
          clear h hn Hnd hnew
          go_wp2_with fail
          go_meet
          exact ⟨by rw [HN.out], rfl⟩
        case inr.inl =>
          have HN := Lib.hid hn
          have e0 : (c == 34) = false := by rw [h]; decide
          have e1 : (c == 92) = true := by rw [h]; decide
          clear h hn Hnd hnew
          go_wp2_with fail
          go_meet
          exact ⟨by rw [HN.out], rfl⟩
        case inr.inr.inl =>
          have HN := Lib.hid hn
          have e0 : (c == 34) = false := by rw [h]; decide
          have e1 : (c == 92) = false := by rw [h]; decide
          have e2 : (c == 10) = true := by rw [h]; decide
          clear h hn Hnd hnew
          go_wp2_with fail
          go_meet
          exact ⟨by rw [HN.out], rfl⟩
        case inr.inr.inr.inl =>
          have HN := Lib.hid hn
          have e0 : (c == 34) = false := by rw [h]; decide
          have e1 : (c == 92) = false := by rw [h]; decide
          have e2 : (c == 10) = false := by rw [h]; decide
          have e3 : (c == 12) = true := by rw [h]; decide
          clear h hn Hnd hnew
          go_wp2_with fail
          go_meet
          exact ⟨by rw [HN.out], rfl⟩
        case inr.inr.inr.inr.inl =>
          have HN := Lib.hid hn
          have e0 : (c == 34) = false := by rw [h]; decide
          have e1 : (c == 92) = false := by rw [h]; decide
          have e2 : (c == 10) = false := by rw [h]; decide
          have e3 : (c == 12) = false := by rw [h]; decide
          have e4 : (c == 13) = true := by rw [h]; decide
          clear h hn Hnd hnew
          go_wp2_with fail
          go_meet
          exact ⟨by rw [HN.out], rfl⟩
      case rest =>
        obtain ⟨rfl, rfl⟩ := hcut
        have hbs := hb1.size
        clear Hnd
        cases nd with
        | true =>
          have hesc := tp_escaped c wc HcB.out (hD.below hb1)
          have hpe : partP c true = escP c := rfl
          rw [hpe] at hnew hpl10 hpz
          clear hpe
          go_wp2_with fail
          refine hesc.mono ?_
          rintro e w2 ⟨rfl, hb2⟩
          have hit2 := (hb2.block w.heap.size (Array.getElem?_eq_some_iff.1 hit1).1).trans hit1
          have hip2 := iterPos_of hit2
          go_wp2_with fail
          refine ⟨⟨k + 1, out ++ escP c, by omega, hnew, by rw [List.length_append]; omega, by rw [bytesOf_append], hit2, hb1.trans (hb2.mono hbs)⟩, ?_⟩
          rw [hip2, hip]; omega
        | false =>
          have henc := encode_is HcB.out
          have hpe : partP c false = Lib.encodeRune c := rfl
          rw [hpe] at hnew hpl10 hpz
          clear hpe
          have hip2 := iterPos_of hit1
          go_wp2_with fail
          refine ⟨⟨k + 1, out ++ Lib.encodeRune c, by omega, hnew, by rw [List.length_append]; omega, by rw [bytesOf_append], hit1, hb1⟩, ?_⟩
          rw [hip2, hip]; omega
    · obtain rfl : k = cs.length := by omega
      have hfin : out = quotedP cs := by rw [← hrun.out, List.drop_length]; simp
      have hnx : ∀ ty, (Instr.next (.pointer (some ⟨w.heap.size, 0, none⟩)) true ty).run Tryz.prog wr = _ := fun ty => Lib.run_next_end_at wr w.heap.size (bytesOf (writeP cs)) (posU cs cs.length) ty hit (by rw [hz, posU_end]; omega)
      have HN := Lib.hid hfin
      clear hfin hrun
      go_wp2
      go_ret
      exact ⟨congrArg (fun x => Ending.returned (Value.string (bytesOf x))) HN.out, hb⟩
end Go.Proofs.YtfhdihdafmahgaaGreatDoor
/- Layer 4: a printed text's bytes are its characters'; what is printed of tokens below 128. Plain laws. -/
set_option linter.unusedVariables false
set_option linter.unusedSimpArgs false
namespace Go.Proofs.YtfhdihdafmahgaaGreatDoor
open Go.RowKit Rn Tk Fx Tp
theorem write_nil : writeP [] = [] := by simp [writeP]
theorem escP_low (c : Int) : ∀ b ∈ escP c, b.toNat < 128 ∧ 32 ≤ b.toNat := by
  intro b hb
  unfold escP at hb
  rcases List.mem_cons.1 hb with rfl | hb
  · decide
  · rcases List.mem_append.1 hb with hb | hb
    · have := hexT_low c.toNat c.toNat (Nat.le_refl _) b hb; omega
    · obtain rfl : b = 32 := by simpa using hb
      decide
theorem part_write (c : Int) (b : Bool) : partP c b = writeP (partC c b) := by
  cases b with
  | true => exact (write_chr (escP c) (fun b hb => (escP_low c b hb).1)).symm
  | false => exact (write_one c).symm
theorem name_write (l : List Int) (dim : Bool) : ∀ (r : List Int) (i : Nat), nameF l dim i r = writeP (nameG l dim i r)
  | [], i => rfl
  | c :: r, i => by
    unfold nameF nameG
    rw [write_app, part_write, name_write l dim r (i + 1)]
theorem nameP_write (l : List Int) (dim : Bool) : nameP l dim = writeP (nameC l dim) := name_write l dim l 0
theorem quoted_write (l : List Int) : quotedP l = writeP (34 :: bodyC l) := by
  have : ∀ l : List Int, l.flatMap (fun c => partP c (quoteB c)) = writeP (bodyC l) := by
    intro l
    induction l with
    | nil => rfl
    | cons c l ih =>
      show partP c (quoteB c) ++ l.flatMap (fun c => partP c (quoteB c)) = writeP (partC c (quoteB c) ++ bodyC l)
      rw [ih, write_app, part_write]
  rw [write_cons]
  unfold quotedP
  rw [this]; rfl
theorem printP_low (n : Int) : ∀ b ∈ Fx.printP n, b.toNat < 128 ∧ 32 ≤ b.toNat := by
  intro b hb
  rcases printP_bytes n b hb with h | rfl | rfl
  · unfold isD at h; simp at h; omega
  · decide
  · decide
theorem printP_write (n : Int) : Fx.printP n = writeP (chr (Fx.printP n)) := (write_chr _ (fun b hb => (printP_low n b hb).1)).symm
theorem token_write {t : GTok} (h : oneB t = true) : tokenP t = writeP (tC t) := by
  obtain ⟨e1, e2, e3, e4, e5⟩ := one_facts h
  have w1 : ∀ a : List UInt8, (∀ b ∈ a, b.toNat < 128) → a = writeP (chr a) := fun a ha => (write_chr a ha).symm
  obtain ⟨k1, k2⟩ := kind_range h
  have hx : (utfP t.text).getD [] = textC t := rfl
  unfold tokenP tC
  rw [if_pos h]
  simp only [hx]
  generalize textC t = l at *
  rw [← e3]
  generalize t.kind = k at *
  have hK : k = 1 ∨ k = 2 ∨ k = 3 ∨ k = 4 ∨ k = 5 ∨ k = 6 ∨ k = 7 ∨ k = 8 ∨ k = 9 ∨ k = 10 ∨ k = 11 ∨ k = 12 ∨ k = 13 ∨ k = 14 ∨ k = 15 ∨ k = 16 := by omega
  rcases hK with rfl | rfl | rfl | rfl | rfl | rfl | rfl | rfl | rfl | rfl | rfl | rfl | rfl | rfl | rfl | rfl
  · rfl
  · exact nameP_write l false
  · show nameP l false ++ [40] = writeP (nameC l false ++ [40])
    rw [write_app, nameP_write]; rfl
  · show 64 :: nameP l false = writeP (64 :: nameC l false)
    rw [write_cons, nameP_write]; rfl
  · show 35 :: nameP l false = writeP (35 :: nameC l false)
    rw [write_cons, nameP_write]; rfl
  · show quotedP l ++ [34] = writeP ((34 :: bodyC l) ++ [34])
    rw [write_app, quoted_write]; rfl
  · exact quoted_write l
  · exact printP_write _
  · show Fx.printP t.n ++ [37] = writeP (chr (Fx.printP t.n) ++ [37])
    rw [write_app, ← printP_write]; rfl
  · show Fx.printP t.n ++ nameP l true = writeP (chr (Fx.printP t.n) ++ nameC l true)
    rw [write_app, ← printP_write, nameP_write]
  · rfl
  · rfl
  · rfl
  · rfl
  · rfl
  · rfl
theorem sep_write (a b : Int) : (if apartB a b = true then ([47, 42, 42, 47] : List UInt8) else []) = writeP (sepC a b) := by
  unfold sepC
  split <;> rfl
theorem one_of_pairs {t : GTok} : ∀ {l : List GTok}, pairsB l = true → t ∈ l → oneB t = true
  | [], _, ht => by cases ht
  | [u], h, ht => by
    obtain rfl : t = u := by simpa using ht
    simp [pairsB] at h; exact h.1
  | u :: v :: l, h, ht => by
    unfold pairsB at h
    simp only [Bool.and_eq_true] at h
    rcases List.mem_cons.1 ht with rfl | ht
    · exact h.1.1.1.1
    · exact one_of_pairs h.2 ht
theorem join_write : ∀ {l : List GTok}, (∀ t ∈ l, oneB t = true) → joinP l = writeP (joinC l)
  | [], _ => rfl
  | [t], h => token_write (h t (by simp))
  | t :: u :: l, h => by
    show tokenP t ++ (_ ++ joinP (u :: l)) = writeP (tC t ++ (sepC t.kind u.kind ++ joinC (u :: l)))
    rw [write_app, write_app, ← token_write (h t (by simp)), ← sep_write, join_write (l := u :: l) (fun x hx => h x (by simp [hx]))]
/-- characters as they are scanned -/
def PlainL (l : List Int) : Prop := ∀ c ∈ l, Plain c
theorem PlainL.app {a b : List Int} (ha : PlainL a) (hb : PlainL b) : PlainL (a ++ b) := fun c hc => by
  rcases List.mem_append.1 hc with h | h
  · exact ha c h
  · exact hb c h
theorem PlainL.cons {c : Int} {a : List Int} (hc : Plain c) (ha : PlainL a) : PlainL (c :: a) := fun d hd => by
  rcases List.mem_cons.1 hd with rfl | h
  · exact hc
  · exact ha d h
theorem PlainL.low {a : List UInt8} (h : ∀ b ∈ a, b.toNat < 128 ∧ 32 ≤ b.toNat) : PlainL (chr a) := fun c hc => by
  obtain ⟨b, hb, rfl⟩ := List.mem_map.1 hc
  have := h b hb
  exact low_plain this.1 (by omega) (by omega) (by omega)
theorem part_plain {c : Int} (hc : isB c = true ∧ c ≠ 0) (b : Bool) (hb : b = false → c ≠ 12 ∧ c ≠ 13) : PlainL (partC c b) := by
  cases b with
  | true => exact PlainL.low (escP_low c)
  | false =>
    intro d hd
    obtain rfl : d = c := by simpa [partC] using hd
    exact ⟨hc.1, hc.2, (hb rfl).1, (hb rfl).2⟩
theorem need_within {c : Int} {a b d : Bool} (h : needB c a b d = false) : withinB c = true := by
  unfold needB at h
  rcases hw : withinB c with _ | _
  · rw [hw] at h; simp at h
  · rfl
theorem within_not {c : Int} (h : withinB c = true) : c ≠ 12 ∧ c ≠ 13 ∧ c ≠ 10 := by
  refine ⟨?_, ?_, ?_⟩ <;> rintro rfl <;> revert h <;> decide
theorem name_plain (l : List Int) (dim : Bool) : ∀ (r : List Int) (i : Nat), (∀ c ∈ r, isB c = true ∧ c ≠ 0) → PlainL (nameG l dim i r)
  | [], i, _ => fun c hc => by cases hc
  | c :: r, i, h => by
    unfold nameG
    exact (part_plain (h c (by simp)) _ (fun hf => ⟨(within_not (need_within hf)).1, (within_not (need_within hf)).2.1⟩)).app (name_plain l dim r (i + 1) (fun d hd => h d (by simp [hd])))
theorem body_plain : ∀ (r : List Int), (∀ c ∈ r, isB c = true ∧ c ≠ 0) → PlainL (bodyC r)
  | [], _ => fun c hc => by cases hc
  | c :: r, h => by
    show PlainL (partC c (quoteB c) ++ bodyC r)
    exact (part_plain (h c (by simp)) _ (fun hf => by have := of_decide_eq_false hf; omega)).app (body_plain r (fun d hd => h d (by simp [hd])))
theorem plain_of (k : Int) (h : isB k = true ∧ k ≠ 0 ∧ k ≠ 12 ∧ k ≠ 13) : Plain k := ⟨h.1, h.2.1, h.2.2.1, h.2.2.2⟩
theorem one_plain {k : Int} (h : isB k = true ∧ k ≠ 0 ∧ k ≠ 12 ∧ k ≠ 13) : PlainL [k] := PlainL.cons (plain_of k h) (fun c hc => by cases hc)
theorem tok_plain {t : GTok} (h : oneB t = true) : PlainL (tC t) := by
  obtain ⟨e1, e2, e3, e4, e5⟩ := one_facts h
  obtain ⟨k1, k2⟩ := kind_range h
  unfold tC
  generalize textC t = l at *
  generalize t.kind = k at *
  have hK : k = 1 ∨ k = 2 ∨ k = 3 ∨ k = 4 ∨ k = 5 ∨ k = 6 ∨ k = 7 ∨ k = 8 ∨ k = 9 ∨ k = 10 ∨ k = 11 ∨ k = 12 ∨ k = 13 ∨ k = 14 ∨ k = 15 ∨ k = 16 := by omega
  have hN : PlainL (nameC l false) := name_plain l false l 0 e2
  have hM : PlainL (nameC l true) := name_plain l true l 0 e2
  have hB : PlainL (34 :: bodyC l) := (body_plain l e2).cons (plain_of _ (by decide))
  rcases hK with rfl | rfl | rfl | rfl | rfl | rfl | rfl | rfl | rfl | rfl | rfl | rfl | rfl | rfl | rfl | rfl
  · exact one_plain (k := 10) (by decide)
  · exact hN
  · exact hN.app (one_plain (k := 40) (by decide))
  · exact hN.cons (plain_of 64 (by decide))
  · exact hN.cons (plain_of 35 (by decide))
  · exact hB.app (one_plain (k := 34) (by decide))
  · exact hB
  · exact PlainL.low (printP_low t.n)
  · exact (PlainL.low (printP_low t.n)).app (one_plain (k := 37) (by decide))
  · exact (PlainL.low (printP_low t.n)).app hM
  · obtain ⟨c, rfl, hd⟩ := single_of e5
    have hc := e2 c (by simp)
    obtain ⟨d1, d2, d3, d4⟩ := delim_facts hd
    exact one_plain (k := c) ⟨hc.1, hc.2, by omega, by omega⟩
  · have hl : l = [40] ∨ l = [91] ∨ l = [123] := by simpa [kindB] using e5
    rcases hl with rfl | rfl | rfl
    · exact one_plain (k := 40) (by decide)
    · exact one_plain (k := 91) (by decide)
    · exact one_plain (k := 123) (by decide)
  · have hl : l = [41] ∨ l = [93] ∨ l = [125] := by simpa [kindB] using e5
    rcases hl with rfl | rfl | rfl
    · exact one_plain (k := 41) (by decide)
    · exact one_plain (k := 93) (by decide)
    · exact one_plain (k := 125) (by decide)
  · exact one_plain (k := 58) (by decide)
  · exact one_plain (k := 59) (by decide)
  · exact one_plain (k := 44) (by decide)
theorem sep_plain (a b : Int) : PlainL (sepC a b) := by
  unfold sepC
  split
  · exact PlainL.low (a := [47, 42, 42, 47]) (by decide)
  · exact fun c hc => by cases hc
theorem join_plain : ∀ {l : List GTok}, (∀ t ∈ l, oneB t = true) → PlainL (joinC l)
  | [], _ => fun c hc => by cases hc
  | [t], h => tok_plain (h t (by simp))
  | t :: u :: l, h => (tok_plain (h t (by simp))).app ((sep_plain _ _).app (join_plain (l := u :: l) (fun x hx => h x (by simp [hx]))))
/-- tokens that may be, printed, are scanned as they were -/
theorem scan_print {l : List GTok} (h : rightB l = true) : scanT (readP (printL l)) = l.map gT := by
  have hp : pairsB l = true := by unfold rightB at h; simp only [Bool.and_eq_true] at h; exact h.1
  unfold printL
  rw [if_pos h, join_write (fun t ht => one_of_pairs hp ht), read_write _ (join_plain (fun t ht => one_of_pairs hp ht))]
  exact scan_join l hp
/-- a token alone -/
theorem scan_token {t : GTok} (h : oneB t = true) : scanT (readP (tokenP t)) = if t.kind = 7 then [⟨6, t.text, 0⟩] else [gT t] := by
  rw [token_write h, read_write _ (tok_plain h)]
  split
  · rename_i h7; exact scan_bad h h7
  · rename_i h7; exact scan_join [t] (by simp [pairsB, h, h7])
theorem gT_inj {a b : GTok} (ha : oneB a = true) (hb : oneB b = true) (h : gT a = gT b) : a = b := by
  have h1 := (kind_range ha).1
  have h2 := (kind_range hb).1
  obtain ⟨k, t, n⟩ := a
  obtain ⟨k', t', n'⟩ := b
  unfold gT at h
  simp only [Tok.mk.injEq, GTok.mk.injEq] at *
  refine ⟨by omega, h.2⟩
theorem map_inj : ∀ {a b : List GTok}, (∀ t ∈ a, oneB t = true) → (∀ t ∈ b, oneB t = true) → a.map gT = b.map gT → a = b
  | [], [], _, _, _ => rfl
  | [], _ :: _, _, _, h => by simp at h
  | _ :: _, [], _, _, h => by simp at h
  | x :: a, y :: b, ha, hb, h => by
    simp only [List.map_cons, List.cons.injEq] at h
    rw [gT_inj (ha x (by simp)) (hb y (by simp)) h.1, map_inj (fun t ht => ha t (by simp [ht])) (fun t ht => hb t (by simp [ht])) h.2]
/-- unlike tokens that may be are printed as unlike texts -/
theorem print_inj {a b : List GTok} (ha : rightB a = true) (hb : rightB b = true) : printL a = printL b ↔ a = b := by
  constructor
  · intro h
    have h1 := scan_print ha
    rw [h, scan_print hb] at h1
    have hpa : pairsB a = true := by unfold rightB at ha; simp only [Bool.and_eq_true] at ha; exact ha.1
    have hpb : pairsB b = true := by unfold rightB at hb; simp only [Bool.and_eq_true] at hb; exact hb.1
    exact (map_inj (fun t ht => one_of_pairs hpb ht) (fun t ht => one_of_pairs hpa ht) h1).symm
  · rintro rfl; rfl
/-! Characters below 128. -/
/-- bytes below 128, of which so many are 10 -/
def Asc (n : Nat) (l : List UInt8) : Prop := (∀ b ∈ l, b.toNat < 128) ∧ l.count 10 = n
theorem Asc.app {a b : List UInt8} {m n : Nat} (ha : Asc m a) (hb : Asc n b) : Asc (m + n) (a ++ b) := ⟨fun x hx => by
  rcases List.mem_append.1 hx with h | h
  · exact ha.1 x h
  · exact hb.1 x h, by rw [List.count_append, ha.2, hb.2]⟩
theorem asc_low {l : List UInt8} (h : ∀ b ∈ l, b.toNat < 128 ∧ 32 ≤ b.toNat) : Asc 0 l := ⟨fun b hb => (h b hb).1, by
  rw [List.count_eq_zero]
  intro hm
  exact absurd (h 10 hm).2 (by decide)⟩
theorem enc_asc {c : Int} (h0 : 0 ≤ c) (h : c < 128) (h10 : c ≠ 10) : Asc 0 (Lib.encodeRune c) := by
  have e : Lib.encodeRune c = [c.toNat.toUInt8] := by simp [Lib.encodeRune, Lib.encodeRuneZ_one h0 (by omega : c ≤ 127)]
  have g0 := b_of c h0 (by omega)
  rw [e]
  refine ⟨fun b hb => ?_, ?_⟩
  · obtain rfl : b = c.toNat.toUInt8 := by simpa using hb
    rw [g0]; omega
  · rw [List.count_eq_zero]
    intro hm
    have : (10 : UInt8) = c.toNat.toUInt8 := by simpa using hm
    rw [← this] at g0
    have : (10 : UInt8).toNat = 10 := rfl
    omega
theorem part_asc {c : Int} (h0 : 0 ≤ c) (h : c < 128) (b : Bool) (hb : b = false → c ≠ 10) : Asc 0 (partP c b) := by
  cases b with
  | true => exact asc_low (escP_low c)
  | false => exact enc_asc h0 h (hb rfl)
theorem name_asc (l : List Int) (dim : Bool) : ∀ (r : List Int) (i : Nat), (∀ c ∈ r, 0 ≤ c ∧ c < 128) → Asc 0 (nameF l dim i r)
  | [], i, _ => ⟨fun b hb => (by cases hb), rfl⟩
  | c :: r, i, h => by
    unfold nameF
    exact (part_asc (h c (by simp)).1 (h c (by simp)).2 _ (fun hf => (within_not (need_within hf)).2.2)).app (name_asc l dim r (i + 1) (fun d hd => h d (by simp [hd])))
theorem quoted_asc (l : List Int) (h : ∀ c ∈ l, 0 ≤ c ∧ c < 128) : Asc 0 (quotedP l) := by
  have : ∀ r : List Int, (∀ c ∈ r, 0 ≤ c ∧ c < 128) → Asc 0 (r.flatMap (fun c => partP c (quoteB c))) := by
    intro r
    induction r with
    | nil => exact fun _ => ⟨fun b hb => (by cases hb), rfl⟩
    | cons c r ih =>
      intro h
      show Asc 0 (partP c (quoteB c) ++ _)
      exact (part_asc (h c (by simp)).1 (h c (by simp)).2 _ (fun hf => by have := of_decide_eq_false hf; omega)).app (ih (fun d hd => h d (by simp [hd])))
  exact (asc_low (l := [34]) (by decide)).app (this l h)
/-- a text below 128 has characters below 128 -/
theorem text_low {t : GTok} (h : oneB t = true) (ha : ∀ b ∈ t.text, b.toNat < 128) : ∀ c ∈ textC t, 0 ≤ c ∧ c < 128 := by
  obtain ⟨e1, e2, e3, e4, e5⟩ := one_facts h
  intro c hc
  have h0 := (isB_range' (e2 c hc).1)
  refine ⟨h0.1, ?_⟩
  by_cases hlt : c < 128
  · exact hlt
  exfalso
  have hmem : ∀ b ∈ Lib.encodeRune c, b.toNat < 128 := fun b hb => by
    refine ha b ?_
    rw [← e3]
    unfold writeP
    exact List.mem_flatMap.2 ⟨c, hc, hb⟩
  have hd := decL_write c (e2 c hc).1 []
  rw [List.append_nil] at hd
  obtain ⟨b0, r, e⟩ := List.exists_cons_of_ne_nil (show Lib.encodeRune c ≠ [] from by have := enc_ne c []; rwa [List.append_nil] at this)
  have hb := hmem b0 (by rw [e]; simp)
  rw [e, decL_N] at hd
  unfold Lib.decodeN at hd
  simp at hd
  rw [if_pos (by omega)] at hd
  have := congrArg Prod.fst hd
  simp at this
  omega
theorem tok_asc {t : GTok} (h : oneB t = true) (ha : ∀ b ∈ t.text, b.toNat < 128) : Asc (if t.kind = 1 then 1 else 0) (tokenP t) := by
  have hl := text_low h ha
  obtain ⟨e1, e2, e3, e4, e5⟩ := one_facts h
  obtain ⟨k1, k2⟩ := kind_range h
  have htx : t.kind = 11 ∨ t.kind = 12 ∨ t.kind = 13 → Asc 0 t.text := by
    intro hk
    rw [← e3]
    generalize textC t = l at *
    rcases hk with hk | hk | hk
    · rw [hk] at e5
      obtain ⟨c, rfl, hd⟩ := single_of e5
      have hc := hl c (by simp)
      obtain ⟨d1, d2, d3, d4⟩ := delim_facts hd
      rw [write_one]
      exact enc_asc hc.1 hc.2 (by unfold whiteB at d1; simp at d1; omega)
    · rw [hk] at e5
      have hl : l = [40] ∨ l = [91] ∨ l = [123] := by simpa [kindB] using e5
      rcases hl with rfl | rfl | rfl <;> (rw [write_one]; exact enc_asc (by decide) (by decide) (by decide))
    · rw [hk] at e5
      have hl : l = [41] ∨ l = [93] ∨ l = [125] := by simpa [kindB] using e5
      rcases hl with rfl | rfl | rfl <;> (rw [write_one]; exact enc_asc (by decide) (by decide) (by decide))
  have hx : (utfP t.text).getD [] = textC t := rfl
  unfold tokenP
  rw [if_pos h]
  simp only [hx]
  generalize textC t = l at *
  generalize t.kind = k at *
  have a1 : ∀ b : UInt8, b.toNat < 128 → 32 ≤ b.toNat → Asc 0 [b] := fun b h1 h2 => asc_low (fun x hx => by
    obtain rfl : x = b := by simpa using hx
    exact ⟨h1, h2⟩)
  have hN : Asc 0 (nameP l false) := name_asc l false l 0 hl
  have hM : Asc 0 (nameP l true) := name_asc l true l 0 hl
  have hK : k = 1 ∨ k = 2 ∨ k = 3 ∨ k = 4 ∨ k = 5 ∨ k = 6 ∨ k = 7 ∨ k = 8 ∨ k = 9 ∨ k = 10 ∨ k = 11 ∨ k = 12 ∨ k = 13 ∨ k = 14 ∨ k = 15 ∨ k = 16 := by omega
  rcases hK with rfl | rfl | rfl | rfl | rfl | rfl | rfl | rfl | rfl | rfl | rfl | rfl | rfl | rfl | rfl | rfl
  · refine ⟨fun b hb => ?_, rfl⟩
    obtain rfl : b = 10 := by simpa using hb
    decide
  · exact hN
  · exact hN.app (a1 40 (by decide) (by decide))
  · exact (a1 64 (by decide) (by decide)).app hN
  · exact (a1 35 (by decide) (by decide)).app hN
  · exact (quoted_asc l hl).app (a1 34 (by decide) (by decide))
  · exact quoted_asc l hl
  · exact asc_low (printP_low t.n)
  · exact (asc_low (printP_low t.n)).app (a1 37 (by decide) (by decide))
  · exact (asc_low (printP_low t.n)).app hM
  · exact htx (by omega)
  · exact htx (by omega)
  · exact htx (by omega)
  · exact a1 58 (by decide) (by decide)
  · exact a1 59 (by decide) (by decide)
  · exact a1 44 (by decide) (by decide)
/-- how many Spaces there are -/
def spacesN (l : List GTok) : Nat := l.countP (fun t => decide (t.kind = 1))
theorem join_asc : ∀ {l : List GTok}, (∀ t ∈ l, oneB t = true) → (∀ t ∈ l, ∀ b ∈ t.text, b.toNat < 128) → Asc (spacesN l) (joinP l)
  | [], _, _ => ⟨fun b hb => (by cases hb), rfl⟩
  | [t], h, ha => by
    have := tok_asc (h t (by simp)) (ha t (by simp))
    have e : spacesN [t] = if t.kind = 1 then 1 else 0 := by simp [spacesN, List.countP_cons]
    rw [e]; exact this
  | t :: u :: l, h, ha => by
    have h1 := tok_asc (h t (by simp)) (ha t (by simp))
    have h2 := join_asc (l := u :: l) (fun x hx => h x (by simp [hx])) (fun x hx => ha x (by simp [hx]))
    have h3 : Asc 0 (if apartB t.kind u.kind = true then ([47, 42, 42, 47] : List UInt8) else []) := by
      split
      · exact asc_low (by decide)
      · exact ⟨fun b hb => (by cases hb), rfl⟩
    have e : spacesN (t :: u :: l) = (if t.kind = 1 then 1 else 0) + (0 + spacesN (u :: l)) := by
      simp [spacesN, List.countP_cons]; omega
    rw [e]
    exact h1.app (h3.app h2)
end Go.Proofs.YtfhdihdafmahgaaGreatDoor
/- Layer 4: a token's text: the program's Token is walked. -/
set_option linter.unusedVariables false
set_option linter.unusedSimpArgs false
namespace Go.Proofs.YtfhdihdafmahgaaGreatDoor
open Go.RowKit Go.Maps Rn Tp Fx
set_option maxRecDepth 100000 in
set_option maxHeartbeats 1000000 in
theorem tp_num (n : Int) (g : Nat) (w : World) (h1 : -9223372036854775808 ≤ n) (h2 : n ≤ 9223372036854775807) (hE : Env w) (hc : w.cell? ⟨g, 2, none⟩ = some (.int .i64 n)) :
    Calls Tryz.prog 111 #[.pointer (some ⟨g, 0, none⟩)] w fun e w' => e = .returned (.string (bytesOf (Fx.printP n))) ∧ Below w.heap.size w w' := by
  go_enter Tryz.func111, Tryz.ntmps111
  go_wp2_with fail
  refine (fx_print n w h1 h2 hE).mono ?_
  rintro e w1 ⟨rfl, hb⟩
  go_wp2
  go_ret
  exact ⟨rfl, hb⟩
theorem keyedInt : Keyed Tryz.prog 3 := int_keyed Tryz.underlying3
theorem zero_str (w : World) : (zeroValue 9).run Tryz.prog w = .ok (.string ⟨#[]⟩) w := by kernel_rfl
abbrev SMap (w : World) (b n : Nat) (D : DataW Unit) : Prop := w.ownsMap Tryz.prog 3 (plainElem Tryz.prog 9) b n D
theorem smap_put {w : World} {b n : Nat} {D : DataW Unit} (h : SMap w b n D) (hn : n < 100) (k : Int) (s : List UInt8) (hk : (Lit.int .i64 k).wf = true) (hs : s.length ≤ 100) :
    ∃ w', (Instr.mapUpdate 139 (.map (some b)) (.int .i64 k) (.string (bytesOf s))).run Tryz.prog w = .ok () w' ∧ SMap w' b (n + 1) (D.put (.int .i64 k) (.lit (.string s))) ∧ w.grownBy w' (some b) :=
  h.update keyedInt Tryz.underlying139 (by unfold maxLen; omega) (keyOf_int_mk Tryz.underlying3 hk) (by
    have := plainElem_string (H := Unit) (P := Tryz.prog) (e := 9) Tryz.underlying9 (s := bytesOf s) (by rw [bytesOf_size]; unfold maxLen; omega)
    rw [bytesOf_list] at this
    exact this)
def sepD : DataW Unit := .map [(.int .i64 14, .lit (.string [58])), (.int .i64 15, .lit (.string [59])), (.int .i64 16, .lit (.string [44]))]
theorem sepD_puts : (((DataW.map [] : DataW Unit).put (.int .i64 14) (.lit (.string [58]))).put (.int .i64 15) (.lit (.string [59]))).put (.int .i64 16) (.lit (.string [44])) = sepD := by rfl
theorem sep_at {k : Int} (hk : k = 11 ∨ k = 12 ∨ k = 13 ∨ k = 14 ∨ k = 15 ∨ k = 16) : ∃ s : List UInt8, s = (if k = 14 then [58] else if k = 15 then [59] else if k = 16 then [44] else []) ∧ sepD.atKey (.int .i64 k) (.lit (.string [])) = .lit (.string s) := by
  rcases hk with rfl | rfl | rfl | rfl | rfl | rfl <;> exact ⟨_, rfl, rfl⟩
theorem nameF_len (l : List Int) (dim : Bool) : ∀ (r : List Int) (i : Nat), (∀ c ∈ r, isB c = true) → (nameF l dim i r).length ≤ 10 * r.length
  | [], i, _ => by simp [nameF]
  | c :: r, i, h => by
    unfold nameF
    have := nameF_len l dim r (i + 1) (fun d hd => h d (by simp [hd]))
    have h2 := part_len (h c (by simp)) (needB c (decide (i = 0 ∨ i = 1 ∧ l[0]? = some 45)) (decide (l = [45])) (dim && decide (i = 0)))
    rw [List.length_append, List.length_cons]; omega
theorem nameP_len {l : List Int} (dim : Bool) (h : ∀ c ∈ l, isB c = true) : (nameP l dim).length ≤ 10 * l.length := nameF_len l dim l 0 h
theorem quotedP_len {l : List Int} (h : ∀ c ∈ l, isB c = true) : (quotedP l).length ≤ 10 * l.length + 1 := by
  have key : ∀ r : List Int, (∀ c ∈ r, isB c = true) → (r.flatMap (fun c => partP c (quoteB c))).length ≤ 10 * r.length := by
    intro r
    induction r with
    | nil => simp
    | cons c r ih =>
      intro h
      have h1 := ih (fun d hd => h d (by simp [hd]))
      have h2 := part_len (h c (by simp)) (quoteB c)
      rw [List.flatMap_cons, List.length_append, List.length_cons]; omega
  have := key l h
  unfold quotedP; rw [List.length_cons]; omega
set_option maxRecDepth 100000 in
/-- the map's literal made anew, and read -/
theorem sep_map (W : World) (k : Int) (hk : k = 11 ∨ k = 12 ∨ k = 13 ∨ k = 14 ∨ k = 15 ∨ k = 16) : ∃ w1 w2 w3 s, s = (if k = 14 then [58] else if k = 15 then [59] else if k = 16 then [44] else ([] : List UInt8)) ∧
    (Instr.mapUpdate 139 (.map (some W.heap.size)) (.int .i64 14) (.string ⟨#[58]⟩)).run Tryz.prog (W.alloc (.map #[] 0)) = .ok () w1 ∧
    (Instr.mapUpdate 139 (.map (some W.heap.size)) (.int .i64 15) (.string ⟨#[59]⟩)).run Tryz.prog w1 = .ok () w2 ∧
    (Instr.mapUpdate 139 (.map (some W.heap.size)) (.int .i64 16) (.string ⟨#[44]⟩)).run Tryz.prog w2 = .ok () w3 ∧
    (Instr.lookup 139 (.map (some W.heap.size)) (.int .i64 k) false).run Tryz.prog w3 = .ok (.string (bytesOf s)) w3 ∧ Below W.heap.size W w3 := by
  have K0 : SMap (W.alloc (.map #[] 0)) W.heap.size 0 (.map []) := World.ownsMap_made _ _ _ _
  obtain ⟨w1, r1, K1, g1⟩ := smap_put K0 (by omega) 14 [58] (by decide) (by simp)
  obtain ⟨w2, r2, K2, g2⟩ := smap_put K1 (by omega) 15 [59] (by decide) (by simp)
  obtain ⟨w3, r3, K3, g3⟩ := smap_put K2 (by omega) 16 [44] (by decide) (by simp)
  rw [sepD_puts] at K3
  have hcw : (Lit.int .i64 k).wf = true := by rcases hk with rfl | rfl | rfl | rfl | rfl | rfl <;> decide
  have hzs := plainElem_string (H := Unit) (P := Tryz.prog) (e := 9) Tryz.underlying9 (s := bytesOf []) (by rw [bytesOf_size]; unfold maxLen; simp)
  rw [bytesOf_list] at hzs
  obtain ⟨v, ps, rl, hv⟩ := K3.lookup keyedInt Tryz.underlying139 (zero_str _) hzs (keyOf_int_mk Tryz.underlying3 hcw)
  obtain ⟨x, rfl, hx, _⟩ := plainElem_string_inv Tryz.underlying9 hv
  obtain ⟨s, hs, hat⟩ := sep_at hk
  have hx' := (Prod.mk.inj hx).1
  rw [hat] at hx'
  have hxs : x = bytesOf s := by
    injection hx' with hx'
    injection hx' with hx'
    rw [hx', bytesOf_eta]
  rw [hxs] at rl
  refine ⟨w1, w2, w3, s, hs, r1, r2, r3, rl, ?_⟩
  have g : (W.alloc (.map #[] 0)).grownBy w3 (some W.heap.size) := (g1.trans g2).trans g3
  exact ((Below.refl _ _).alloc (Nat.le_refl _) _).grown g (by simp) (fun k hk => by injection hk with hk; omega)
set_option maxRecDepth 100000 in
set_option maxHeartbeats 8000000 in
theorem tp_token (t : GTok) (w : World) (hl : t.text.length ≤ 1000000) (hn : -9223372036854775808 ≤ t.n ∧ t.n ≤ 9223372036854775807) (hT : Tabs w) (hE : Env w) (hD : Db w) :
    Calls Tryz.prog 76 #[tokG t] w fun e w' => e = .returned (.string (bytesOf (tokenP t))) ∧ Below w.heap.size w w' := by
  obtain ⟨wA, hwA⟩ : ∃ wA, w.alloc (.cells #[.int .i64 t.kind, .string (bytesOf t.text), .int .i64 t.n] 58) = wA := ⟨_, rfl⟩
  have bA : Below w.heap.size w wA := by rw [← hwA]; exact (Below.refl _ _).alloc (Nat.le_refl _) _
  have rA : RowAt wA w.heap.size [.int .i64 t.kind, .string (bytesOf t.text), .int .i64 t.n] := by rw [← hwA]; exact RowAt.new _ _ _
  obtain ⟨x0, _⟩ := rA.2 0 _ rfl
  obtain ⟨x1, _⟩ := rA.2 1 _ rfl
  obtain ⟨x2, _⟩ := rA.2 2 _ rfl
  have hR := tp_right t wA (by unfold maxLen; omega) hn (hT.below bA)
  cases hO : oneB t with
  | false =>
    have htp : tokenP t = [] := by unfold tokenP; rw [if_neg (by rw [hO]; decide)]
    rw [hO] at hR
    have HT := Lib.hid htp
    clear htp hO
    go_enter Tryz.func76, Tryz.ntmps76
    go_wp2_with fail
    refine hR.mono ?_
    rintro e w1 ⟨rfl, hb⟩
    go_wp2
    go_ret
    exact ⟨by rw [HT.out]; rfl, bA.trans (hb.mono bA.size)⟩
  | true =>
    obtain ⟨e1, e2, e3, e4, e5⟩ := one_facts hO
    obtain ⟨k1, k2⟩ := kind_range hO
    have htp : tokenP t = tokenP t := rfl
    conv at htp =>
      rhs
      unfold tokenP
      rw [if_pos hO]
    have hx : (utfP t.text).getD [] = textC t := rfl
    simp only [hx] at htp
    have htx : 11 ≤ t.kind → (14 ≤ t.kind → t.text = []) := by
      intro _ h14
      have hl : textC t = [] := by
        have := e5
        unfold kindB at this
        rw [if_neg (by omega), if_neg (by omega), if_neg (by omega), if_neg (by omega), if_neg (by omega)] at this
        exact (of_decide_eq_true this).2.2
      rw [← e3, hl]; simp [writeP]
    obtain ⟨R, hRR⟩ : ∃ R, tokenP t = R := ⟨_, rfl⟩
    rw [hRR] at htp ⊢
    rw [hO] at hR
    obtain ⟨kind, text, n⟩ := t
    simp only [] at *
    generalize textC ⟨kind, text, n⟩ = cs at *
    have hv : ∀ c ∈ cs, isB c = true := fun c hc => (e2 c hc).1
    have hcl : cs.length ≤ 1000000 := by
      have := posU_ge cs cs.length (Nat.le_refl _)
      rw [posU_end, e3] at this; omega
    subst e3
    clear hRR hO hx e1 e2 e4 e5
    have HP := Lib.hid htp
    have HX := Lib.hid htx
    clear htp htx
    have hEA := hE.below bA
    have hDA := hD.below bA
    have cN := fun (dim : Bool) (W : World) (h : Below wA.heap.size wA W) => tp_name cs dim W hv hcl (hDA.below h)
    have cQ := fun (W : World) (h : Below wA.heap.size wA W) => tp_quoted cs W hv hcl (hDA.below h)
    have cF := fun (W : World) (h : Below wA.heap.size wA W) => tp_num n w.heap.size W hn.1 hn.2 (hEA.below h) ((h.cell (p := ⟨w.heap.size, 2, none⟩) rA.1).trans x2)
    have hK : kind = 1 ∨ kind = 2 ∨ kind = 3 ∨ kind = 4 ∨ kind = 5 ∨ kind = 6 ∨ kind = 7 ∨ kind = 8 ∨ kind = 9 ∨ kind = 10 ∨ (kind = 11 ∨ kind = 12 ∨ kind = 13 ∨ kind = 14 ∨ kind = 15 ∨ kind = 16) := by omega
    have hNz := fun dim => bytesOf_size (nameP cs dim)
    have hNl := fun dim => nameP_len (l := cs) dim hv
    have hQz := bytesOf_size (quotedP cs)
    have hQl := quotedP_len (l := cs) hv
    have hFz := bytesOf_size (Fx.printP n)
    have hFl := printP_len n
    have hTz := bytesOf_size (writeP cs)
    have hNz0 := hNz false
    have hNl0 := hNl false
    have hNz1 := hNz true
    have hNl1 := hNl true
    clear hNz hNl
    have base : ∀ {W1 : World}, Below wA.heap.size wA W1 → Below w.heap.size w W1 := fun h => bA.trans (h.mono bA.size)
    have cells : ∀ {W1 : World}, Below wA.heap.size wA W1 → W1.cell? ⟨w.heap.size, 0, none⟩ = some (.int .i64 kind) ∧ W1.cell? ⟨w.heap.size, 1, none⟩ = some (.string (bytesOf (writeP cs))) ∧ W1.cell? ⟨w.heap.size, 2, none⟩ = some (.int .i64 n) := fun h => ⟨(h.cell (p := ⟨w.heap.size, 0, none⟩) rA.1).trans x0, (h.cell (p := ⟨w.heap.size, 1, none⟩) rA.1).trans x1, (h.cell (p := ⟨w.heap.size, 2, none⟩) rA.1).trans x2⟩
    rcases hK with rfl | rfl | rfl | rfl | rfl | rfl | rfl | rfl | rfl | rfl | hK
    case inl =>
      go_enter Tryz.func76, Tryz.ntmps76
      go_wp2_with fail
      refine hR.mono ?_
      rintro e w1 ⟨rfl, hb⟩
      obtain ⟨y0, y1, y2⟩ := cells hb
      go_wp2
      go_ret
      exact ⟨congrArg (fun b => Ending.returned (Value.string b)) (by rw [HP.out]; rfl), base hb⟩
    case inr.inl =>
      go_enter Tryz.func76, Tryz.ntmps76
      go_wp2_with fail
      refine hR.mono ?_
      rintro e w1 ⟨rfl, hb⟩
      obtain ⟨y0, y1, y2⟩ := cells hb
      go_wp2_with fail
      refine (cN false _ hb).mono ?_
      rintro e w2 ⟨rfl, hb2⟩
      go_wp2
      go_ret
      refine ⟨congrArg (fun b => Ending.returned (Value.string b)) ?_, base (hb.trans (hb2.mono hb.size))⟩
      rw [HP.out]
      rfl
    case inr.inr.inl =>
      go_enter Tryz.func76, Tryz.ntmps76
      go_wp2_with fail
      refine hR.mono ?_
      rintro e w1 ⟨rfl, hb⟩
      obtain ⟨y0, y1, y2⟩ := cells hb
      go_wp2_with fail
      refine (cN false _ hb).mono ?_
      rintro e w2 ⟨rfl, hb2⟩
      go_wp2
      go_ret
      refine ⟨congrArg (fun b => Ending.returned (Value.string b)) ?_, base (hb.trans (hb2.mono hb.size))⟩
      rw [HP.out]
      exact bytesOf_append (nameP cs false) [40]
    case inr.inr.inr.inl =>
      go_enter Tryz.func76, Tryz.ntmps76
      go_wp2_with fail
      refine hR.mono ?_
      rintro e w1 ⟨rfl, hb⟩
      obtain ⟨y0, y1, y2⟩ := cells hb
      go_wp2_with fail
      refine (cN false _ hb).mono ?_
      rintro e w2 ⟨rfl, hb2⟩
      go_wp2
      go_ret
      refine ⟨congrArg (fun b => Ending.returned (Value.string b)) ?_, base (hb.trans (hb2.mono hb.size))⟩
      rw [HP.out]
      exact bytesOf_append [64] (nameP cs false)
    case inr.inr.inr.inr.inl =>
      go_enter Tryz.func76, Tryz.ntmps76
      go_wp2_with fail
      refine hR.mono ?_
      rintro e w1 ⟨rfl, hb⟩
      obtain ⟨y0, y1, y2⟩ := cells hb
      go_wp2_with fail
      refine (cN false _ hb).mono ?_
      rintro e w2 ⟨rfl, hb2⟩
      go_wp2
      go_ret
      refine ⟨congrArg (fun b => Ending.returned (Value.string b)) ?_, base (hb.trans (hb2.mono hb.size))⟩
      rw [HP.out]
      exact bytesOf_append [35] (nameP cs false)
    case inr.inr.inr.inr.inr.inl =>
      go_enter Tryz.func76, Tryz.ntmps76
      go_wp2_with fail
      refine hR.mono ?_
      rintro e w1 ⟨rfl, hb⟩
      obtain ⟨y0, y1, y2⟩ := cells hb
      go_wp2_with fail
      refine (cQ _ hb).mono ?_
      rintro e w2 ⟨rfl, hb2⟩
      go_wp2
      go_ret
      refine ⟨congrArg (fun b => Ending.returned (Value.string b)) ?_, base (hb.trans (hb2.mono hb.size))⟩
      rw [HP.out]
      exact bytesOf_append (quotedP cs) [34]
    case inr.inr.inr.inr.inr.inr.inl =>
      go_enter Tryz.func76, Tryz.ntmps76
      go_wp2_with fail
      refine hR.mono ?_
      rintro e w1 ⟨rfl, hb⟩
      obtain ⟨y0, y1, y2⟩ := cells hb
      go_wp2_with fail
      refine (cQ _ hb).mono ?_
      rintro e w2 ⟨rfl, hb2⟩
      go_wp2
      go_ret
      refine ⟨congrArg (fun b => Ending.returned (Value.string b)) ?_, base (hb.trans (hb2.mono hb.size))⟩
      rw [HP.out]
      rfl
    case inr.inr.inr.inr.inr.inr.inr.inl =>
      go_enter Tryz.func76, Tryz.ntmps76
      go_wp2_with fail
      refine hR.mono ?_
      rintro e w1 ⟨rfl, hb⟩
      obtain ⟨y0, y1, y2⟩ := cells hb
      go_wp2_with fail
      refine (cF _ hb).mono ?_
      rintro e w2 ⟨rfl, hb2⟩
      go_wp2
      go_ret
      refine ⟨congrArg (fun b => Ending.returned (Value.string b)) ?_, base (hb.trans (hb2.mono hb.size))⟩
      rw [HP.out]
      rfl
    case inr.inr.inr.inr.inr.inr.inr.inr.inl =>
      go_enter Tryz.func76, Tryz.ntmps76
      go_wp2_with fail
      refine hR.mono ?_
      rintro e w1 ⟨rfl, hb⟩
      obtain ⟨y0, y1, y2⟩ := cells hb
      go_wp2_with fail
      refine (cF _ hb).mono ?_
      rintro e w2 ⟨rfl, hb2⟩
      go_wp2
      go_ret
      refine ⟨congrArg (fun b => Ending.returned (Value.string b)) ?_, base (hb.trans (hb2.mono hb.size))⟩
      rw [HP.out]
      exact bytesOf_append (Fx.printP n) [37]
    case inr.inr.inr.inr.inr.inr.inr.inr.inr.inl =>
      go_enter Tryz.func76, Tryz.ntmps76
      go_wp2_with fail
      refine hR.mono ?_
      rintro e w1 ⟨rfl, hb⟩
      obtain ⟨y0, y1, y2⟩ := cells hb
      have hlt : w.heap.size < w1.heap.size := Nat.lt_of_lt_of_le rA.1 hb.size
      have z1 := bw_cell (B := w1.heap.size) y1 hlt
      go_wp2_with fail
      refine wp_region_bw w1.heap.size (by kernel_rfl) (by kernel_rfl) ?_
      repeat (go_big_quiet_step (first | (go_at_call 111; rename_i W; exact calls_bw (Nat.le_refl _) (cF W.val (hb.trans (W.is.mono hb.size)))) | (go_at_call 113; rename_i W; exact calls_bw (Nat.le_refl _) (cN true W.val (hb.trans (W.is.mono hb.size))))))
      refine wpQuiet_nil ?_
      intro _ hw'
      obtain ⟨W, rfl⟩ := hw'
      go_wp2
      go_ret
      refine ⟨congrArg (fun b => Ending.returned (Value.string b)) ?_, base (hb.trans (W.is.mono hb.size))⟩
      rw [HP.out]
      exact bytesOf_append (Fx.printP n) (nameP cs true)
    case inr.inr.inr.inr.inr.inr.inr.inr.inr.inr =>
      have hfin : R = (if kind = 14 then [58] else if kind = 15 then [59] else if kind = 16 then [44] else []) ++ writeP cs := by
        rw [HP.out]
        rcases hK with rfl | rfl | rfl | rfl | rfl | rfl
        · rfl
        · rfl
        · rfl
        · rw [HX.out (by omega) (by omega)]; rfl
        · rw [HX.out (by omega) (by omega)]; rfl
        · rw [HX.out (by omega) (by omega)]; rfl
      have HF := Lib.hid hfin
      have hks : (kind == 1) = false ∧ (kind == 2) = false ∧ (kind == 3) = false ∧ (kind == 4) = false ∧ (kind == 5) = false ∧ (kind == 6) = false ∧ (kind == 7) = false ∧ (kind == 8) = false ∧ (kind == 9) = false ∧ (kind == 10) = false := by simp; omega
      obtain ⟨q1, q2, q3, q4, q5, q6, q7, q8, q9, q10⟩ := hks
      have HK := Lib.hid hK
      clear hfin HP HX hK
      go_enter Tryz.func76, Tryz.ntmps76
      go_wp2_with fail
      refine hR.mono ?_
      rintro e w1 ⟨rfl, hb⟩
      obtain ⟨y0, y1, y2⟩ := cells hb
      have hlt : w.heap.size < w1.heap.size := Nat.lt_of_lt_of_le rA.1 hb.size
      obtain ⟨m1, m2, m3, s, hs, r1, r2, r3, rl, hbm⟩ := sep_map w1 kind HK.out
      have z0 := (hbm.cell (p := ⟨w.heap.size, 0, none⟩) hlt).trans y0
      have z1 := (hbm.cell (p := ⟨w.heap.size, 1, none⟩) hlt).trans y1
      have hmm := @run_makeMap Tryz.prog
      have hsl : s.length ≤ 1 := by rw [hs]; split <;> (try simp) <;> split <;> (try simp) <;> split <;> simp
      have hsz := bytesOf_size s
      have HS := Lib.hid hs
      clear hs
      go_wp2
      go_ret
      refine ⟨congrArg (fun b => Ending.returned (Value.string b)) ?_, base (hb.trans (hbm.mono hb.size))⟩
      rw [HF.out, ← HS.out]
      exact bytesOf_append s (writeP cs)
end Go.Proofs.YtfhdihdafmahgaaGreatDoor
/- Layer 4: a strings.Builder of the call's own: WriteString is walked (its String has a contract). -/
set_option linter.unusedVariables false
set_option linter.unusedSimpArgs false
namespace Go.Proofs.YtfhdihdafmahgaaGreatDoor
open Go.RowKit Rn Tp
theorem bd_size : (Tryz.prog.info? 109).map (·.size) = some 2 := by kernel_rfl
theorem bd_lies : liesAt Tryz.prog Tryz.prog.depth 109 (2 / Tryz.prog.cellsOf 109) 0 109 1 = true := by kernel_rfl
theorem bd_byte : (Tryz.prog.info? 5).map (fun i => (i.zero, i.size, i.bytes)) = some (some (.int .u8 0), 1, 1) := by kernel_rfl
abbrev IsB (B b : Nat) (l : List UInt8) (w : World) : Prop := Lib.IsBuilder 109 5 B b (Lib.byteCells l) w
set_option maxRecDepth 100000 in
set_option maxHeartbeats 1000000 in
theorem tp_copy_used (b : Nat) (w : World) (h0 : w.cell? ⟨b, 0, none⟩ = some (.pointer (some ⟨b, 0, none⟩))) :
    Calls Tryz.prog 110 #[.pointer (some ⟨b, 0, none⟩)] w fun e w' => e = .returned (.tuple #[]) ∧ w' = w := by
  obtain ⟨j, hj, _⟩ := Option.map_eq_some_iff.1 bd_size
  go_enter Tryz.func110, Tryz.ntmps110
  go_wp2
  rw [Lib.run_neq_ptr_same w _ Tryz.underlying107 hj]
  go_wp2
  go_end0
  exact ⟨rfl, rfl⟩
set_option maxRecDepth 100000 in
set_option maxHeartbeats 1000000 in
theorem tp_copy_fresh (b : Nat) (w : World) (h0 : w.cell? ⟨b, 0, none⟩ = some (.pointer none)) (hsh : w.shape? b = some (109, 2)) (hfz : w.frozen? ⟨b, 0, none⟩ = false) :
    Calls Tryz.prog 110 #[.pointer (some ⟨b, 0, none⟩)] w fun e w' => e = .returned (.tuple #[]) ∧ w' = w.setCell ⟨b, 0, none⟩ (.pointer (some ⟨b, 0, none⟩)) := by
  obtain ⟨j, hj, hjs⟩ := Option.map_eq_some_iff.1 bd_size
  go_enter Tryz.func110, Tryz.ntmps110
  go_wp2
  rw [Lib.run_to_unsafe w ⟨b, 0, none⟩ Tryz.underlying107 Tryz.underlying159 hj (by rw [hjs]; decide) hsh (Nat.zero_lt_succ 1)]
  simp only [Result.andThen]
  rw [Oper.upon_value]
  go_wp2
  rw [run_callFunc_extern Tryz.func141 (by kernel_rfl) (by kernel_rfl) (by kernel_rfl) (e := Extern.AbiNoEscape.same) (by kernel_rfl)]
  rw [Lib.run_noEscape]
  simp only [Result.andThen]
  rw [Oper.upon_value]
  go_wp2
  rw [Lib.run_from_unsafe w ⟨b, 0, none⟩ Tryz.underlying159 Tryz.underlying107 hj hsh bd_lies]
  simp only [Result.andThen]
  rw [Oper.upon_value]
  go_wp2
  go_end0
  exact ⟨rfl, rfl⟩
theorem tp_copy (B b : Nat) (bs : List Value) (w : World) (h : Lib.IsBuilder 109 5 B b bs w) :
    Calls Tryz.prog 110 #[.pointer (some ⟨b, 0, none⟩)] w fun e w' => e = .returned (.tuple #[]) ∧ (Lib.BuilderAt 109 5 B b (.pointer (some ⟨b, 0, none⟩)) bs w' ∧ Below B w w' ∧ Lib.OthersKept 5 (some b) w w') := by
  rcases h with h | h
  · refine (tp_copy_fresh b w h.cell0 h.shape h.frozen0).mono ?_
    rintro e w' ⟨rfl, rfl⟩
    exact ⟨rfl, h.used _, (Below.refl B w).setCell (p := ⟨b, 0, none⟩) h.1 _, (Lib.OthersKept.refl _ _ w).setCell ⟨b, 0, none⟩ rfl _⟩
  · refine (tp_copy_used b w h.cell0).mono ?_
    rintro e w' ⟨rfl, rfl⟩
    exact ⟨rfl, h, Below.refl B _, Lib.OthersKept.refl _ _ _⟩
set_option maxRecDepth 100000 in
set_option maxHeartbeats 2000000 in
theorem tp_wstr (B b : Nat) (bs l : List UInt8) (w : World) (h : IsB B b bs w) (hlen : bs.length + l.length ≤ 140737488355328) (hBw : B ≤ w.heap.size) :
    Calls Tryz.prog 75 #[.pointer (some ⟨b, 0, none⟩), .string (bytesOf l)] w fun e w' => e = .returned (.tuple #[.int .i64 l.length, .nilIface]) ∧ IsB B b (bs ++ l) w' ∧ Below B w w' ∧ Lib.OthersKept 5 (some b) w w' := by
  obtain ⟨i0, hi, hz0, hz1, hz2⟩ := info_parts bd_byte
  have hbl := Lib.byteCells_length bs
  have hz := bytesOf_size l
  have hsc : Lib.strCells (bytesOf l) = Lib.byteCells l := by unfold Lib.strCells; rw [bytesOf_list]; rfl
  go_enter Tryz.func75, Tryz.ntmps75
  go_wp2_with (go_at_call 110; refine (tp_copy B b (Lib.byteCells bs) _ h).mono ?_)
  rintro e w1 ⟨rfl, h1, hb1, ko1⟩
  obtain ⟨hB, v, hbk, hown, hne⟩ := h1
  have c0 : w1.cell? ⟨b, 0, none⟩ = some (.pointer (some ⟨b, 0, none⟩)) := by rw [Lib.cell_of_heap hbk]; rfl
  have c1 : w1.cell? ⟨b, 1, none⟩ = some v := by rw [Lib.cell_of_heap hbk]; rfl
  go_wp2_with (at_builtin; refine Lib.wpList_append_own_string _ rfl _ _ 22 9 rfl B 5 i0 Tryz.underlying22 Tryz.underlying9 hi hz0 hz1 hz2 _ _ _ rfl hown (bytesOf l) rfl ?c3 ?c4 ?c5 ?_)
  case c3 => unfold maxLen; omega
  case c4 => omega
  case c5 => have := hb1.size; omega
  intro v' w2 hown' hgrow _
  have hlt : b < w1.heap.size := by
    rcases Nat.lt_or_ge b w1.heap.size with h' | h'
    · exact h'
    · simp [Array.getElem?_eq_none h'] at hbk
  have hb2 : w2.heap[b]? = some (.cells #[.pointer (some ⟨b, 0, none⟩), v] 109 (0, 0)) := by
    rw [hgrow.block b hlt (fun e => hne e.symm)]
    exact hbk
  have d0 : w2.cell? ⟨b, 0, none⟩ = some (.pointer (some ⟨b, 0, none⟩)) := by rw [Lib.cell_of_heap hb2]; rfl
  have d1 : w2.cell? ⟨b, 1, none⟩ = some v := by rw [Lib.cell_of_heap hb2]; rfl
  have f1 : w2.frozen? ⟨b, 1, none⟩ = false := Lib.frozen_of_heap hb2 1
  obtain ⟨ao, n', cap, rfl⟩ : ∃ ao n' cap, v' = .slice ao n' cap := by
    rcases hown'.2 with ⟨hv, _⟩ | ⟨g, cap, cur, hv, _⟩
    · exact ⟨_, _, _, hv⟩
    · exact ⟨_, _, _, hv⟩
  go_wp2
  go_ret2
  refine ⟨?_, ?_, ?_, ?_⟩
  · rw [← hz]; rfl
  · refine .inr ?_
    have happ : Lib.byteCells (bs ++ l) = Lib.byteCells bs ++ Lib.strCells (bytesOf l) := by rw [hsc, Lib.byteCells_append]
    rw [happ]
    exact Lib.BuilderAt.put (T := 109) (e := 5) hB hb2 (bs' := Lib.byteCells bs ++ Lib.strCells (bytesOf l)) (by rw [List.length_append, Lib.strCells_length]; simpa [hsc, hbl, hz] using hown') (by decide)
  · exact (hb1.grown hgrow (by have := hb1.size; omega) (fun k hk => (hown.lt k hk).1)).setCell (p := ⟨b, 1, none⟩) hB _
  · refine (ko1.grown hgrow (fun g hg => ?_)).setCell ⟨b, 1, none⟩ rfl _
    rcases hown.2 with ⟨rfl, _⟩ | ⟨g', cap', cur', rfl, _, hg', _⟩
    · simp [Value.ownBlock] at hg
    · simp only [Value.ownBlock, Option.some.injEq] at hg
      subst hg
      exact ⟨_, _, hg'⟩
end Go.Proofs.YtfhdihdafmahgaaGreatDoor
/- Layer 4: tokens as text: the program's Print is walked. -/
set_option linter.unusedVariables false
set_option linter.unusedSimpArgs false
namespace Go.Proofs.YtfhdihdafmahgaaGreatDoor
open Go.RowKit Rn Tp Fx
theorem tokenP_len {t : GTok} (hl : t.text.length ≤ 1000000) : (tokenP t).length ≤ 10000100 := by
  cases hO : oneB t with
  | false => unfold tokenP; rw [if_neg (by rw [hO]; decide)]; simp
  | true =>
    obtain ⟨e1, e2, e3, e4, e5⟩ := one_facts hO
    obtain ⟨k1, k2⟩ := kind_range hO
    have hv : ∀ c ∈ textC t, isB c = true := fun c hc => (e2 c hc).1
    have hcl : (textC t).length ≤ 1000000 := by
      have := posU_ge (textC t) (textC t).length (Nat.le_refl _)
      rw [posU_end, e3] at this; omega
    have hx : (utfP t.text).getD [] = textC t := rfl
    have hN := nameP_len (l := textC t) false hv
    have hM := nameP_len (l := textC t) true hv
    have hQ := quotedP_len (l := textC t) hv
    have hF := printP_len t.n
    unfold tokenP
    rw [if_pos hO]
    simp only [hx]
    generalize t.kind = k at *
    have hK : k = 1 ∨ k = 2 ∨ k = 3 ∨ k = 4 ∨ k = 5 ∨ k = 6 ∨ k = 7 ∨ k = 8 ∨ k = 9 ∨ k = 10 ∨ k = 11 ∨ k = 12 ∨ k = 13 ∨ k = 14 ∨ k = 15 ∨ k = 16 := by omega
    rcases hK with rfl | rfl | rfl | rfl | rfl | rfl | rfl | rfl | rfl | rfl | rfl | rfl | rfl | rfl | rfl | rfl <;> simp <;> omega
/-- what is printed of tokens, one behind the other: what stands ahead of one, by the kind of the token ahead -/
def gapP (p : Option GTok) (t : GTok) : List UInt8 := match p with
  | none => []
  | some s => if apartB s.kind t.kind = true then [47, 42, 42, 47] else []
def runP : Option GTok → List GTok → List UInt8
  | _, [] => []
  | p, t :: l => gapP p t ++ (tokenP t ++ runP (some t) l)
theorem run_join : ∀ (l : List GTok) (p : GTok), runP (some p) l = match l with
    | [] => []
    | t :: r => gapP (some p) t ++ joinP (t :: r)
  | [], p => rfl
  | [t], p => by simp [runP, joinP]
  | t :: u :: r, p => by
    have := run_join (u :: r) t
    rw [runP, this]
    rfl
theorem run_all (l : List GTok) : runP none l = joinP l := by
  cases l with
  | nil => rfl
  | cons t r =>
    rw [runP]
    show [] ++ (tokenP t ++ runP (some t) r) = _
    rw [run_join]
    cases r with
    | nil => simp [joinP]
    | cons u r => rfl
def prevT (l : List GTok) (k : Nat) : Option GTok := if k = 0 then none else l[k - 1]?
theorem run_step {l : List GTok} {k : Nat} {t : GTok} (h : l[k]? = some t) : runP (prevT l k) (l.drop k) = gapP (prevT l k) t ++ (tokenP t ++ runP (prevT l (k + 1)) (l.drop (k + 1))) := by
  have hk : k < l.length := (List.getElem?_eq_some_iff.1 h).1
  have hd : l.drop k = t :: l.drop (k + 1) := by
    rw [List.drop_eq_getElem_cons hk]
    rw [List.getElem?_eq_getElem hk] at h
    injection h with h
    rw [h]
  have hp : prevT l (k + 1) = some t := by unfold prevT; rw [if_neg (by omega)]; exact h
  rw [hd, hp]; rfl
theorem isB_below {T e : TypeId} {B b : Nat} {bs : List Value} {w w' : World} (h : Lib.IsBuilder T e B b bs w) (hb : Below w.heap.size w w') : Lib.IsBuilder T e B b bs w' := by
  rcases h with h | h
  · have hlt := h.lt
    obtain ⟨h1, v, h2, h3, h4⟩ := h
    exact .inl ⟨h1, v, (hb.block b hlt).trans h2, own_below h3 hb, h4⟩
  · have hlt := h.lt
    obtain ⟨h1, v, h2, h3, h4⟩ := h
    exact .inr ⟨h1, v, (hb.block b hlt).trans h2, own_below h3 hb, h4⟩
set_option maxRecDepth 100000 in
set_option maxHeartbeats 8000000 in
theorem tp_print (l : List GTok) (A : Option Addr) (n cap : Nat) (w : World) (hr : TokRow w w.heap.size A n l) (hT : Tabs w) (hE : Env w) (hD : Db w) :
    Calls Tryz.prog 50 #[.slice A n cap] w fun e w' => e = .returned (.string (bytesOf (printL l))) ∧ Below w.heap.size w w' := by
  have hlen : l.length = n := hr.rd.len
  have hn := hr.hn
  have Hlen := Lib.hid hlen
  clear hlen
  have hRt := tp_rights l A n cap w hr hT
  cases hO : rightB l with
  | false =>
    rw [hO] at hRt
    have hfin : printL l = [] := by unfold printL; rw [if_neg (by rw [hO]; decide)]
    have HF := Lib.hid hfin
    clear hfin hO
    go_enter Tryz.func50, Tryz.ntmps50
    go_wp2_with fail
    refine hRt.mono ?_
    rintro e w1 ⟨rfl, hb⟩
    go_wp2
    go_ret
    exact ⟨by rw [HF.out]; rfl, hb⟩
  | true =>
    rw [hO] at hRt
    have hfin : printL l = runP none l := by unfold printL; rw [if_pos hO, run_all]
    have HF := Lib.hid hfin
    clear hfin hO
    go_enter Tryz.func50, Tryz.ntmps50
    go_wp2_with fail
    refine hRt.mono ?_
    rintro e w1 ⟨rfl, hb1⟩
    have hs1 := hb1.size
    go_wp2_with fail
    obtain ⟨W0, hW0⟩ : ∃ W0, w1.alloc (.cells #[.pointer none, .slice none 0 0] 109) = W0 := ⟨_, rfl⟩
    have I0 : IsB w1.heap.size w1.heap.size [] W0 := by rw [← hW0]; exact Lib.fresh_isBuilder _ _ _
    have b0 : Below w1.heap.size w1 W0 := by rw [← hW0]; exact (Below.refl _ _).alloc (Nat.le_refl _) _
    rw [hW0]
    clear hW0
    go_loopw [11] (fun i wr => ∃ (k : Nat) (acc : List UInt8), k ≤ n ∧ i = .int .i64 k ∧ Hid (acc ++ runP (prevT l k) (l.drop k) = runP none l) ∧ acc.length ≤ 10000104 * k ∧ IsB w1.heap.size w1.heap.size acc wr ∧ Below w1.heap.size w1 wr) (fun i _ => n - (intOf i).toNat)
    case atStart => exact ⟨0, [], by omega, rfl, rfl, by simp, I0, b0⟩
    case round =>
      obtain ⟨k, acc, hk, rfl, hrun, hal, hI, hb⟩ := hrel
      have hbw : Below w.heap.size w wr := hb1.trans (hb.mono hs1)
      have hrw := hr.below hbw
      have hbs := hb.size
      have hws := hbw.size
      by_cases hlt : k < n
      · obtain ⟨b, off, t, hA, hbl, ht, c0, c1, c2⟩ := hrw.rd.at_ hlt
        subst hA
        have hsm := hr.small t (List.mem_of_getElem? ht)
        have hstep := run_step ht
        have dk : decide ((k : Int) < (n : Int)) = true := by simp; omega
        obtain ⟨WA, hWA⟩ : ∃ WA, wr.alloc (.cells #[.int .i64 t.kind, .string (bytesOf t.text), .int .i64 t.n] 58) = WA := ⟨_, rfl⟩
        have bA : Below wr.heap.size wr WA := by rw [← hWA]; exact (Below.refl _ _).alloc (Nat.le_refl _) _
        have rA : RowAt WA wr.heap.size [.int .i64 t.kind, .string (bytesOf t.text), .int .i64 t.n] := by rw [← hWA]; exact RowAt.new _ _ _
        have xA : WA.heap[wr.heap.size]? = some (.cells #[.int .i64 t.kind, .string (bytesOf t.text), .int .i64 t.n] 58) := by rw [← hWA]; exact heap_alloc_new _ _
        have hTl := tokenP_len (t := t) hsm.1
        have hbA : Below w.heap.size w WA := hbw.trans (bA.mono hws)
        obtain ⟨a0, _⟩ := rA.2 0 _ rfl
        obtain ⟨a1, _⟩ := rA.2 1 _ rfl
        obtain ⟨a2, _⟩ := rA.2 2 _ rfl
        obtain ⟨ap, hap⟩ : ∃ ap : Bool, (gapP (prevT l k) t = if ap = true then [47, 42, 42, 47] else []) ∧ ((k = 0 ∧ ap = false) ∨ ∃ (j : Nat) (u : GTok), k = j + 1 ∧ ap = apartB u.kind t.kind ∧ wr.cell? ⟨b, off + j * 3, none⟩ = some (.int .i64 u.kind)) := by
          cases k with
          | zero => exact ⟨false, rfl, .inl ⟨rfl, rfl⟩⟩
          | succ j =>
            obtain ⟨b', off', u, hA', _, hu, d0, _, _⟩ := hrw.rd.at_ (show j < n by omega)
            injection hA' with hA'
            injection hA' with e1 e2
            subst e1 e2
            refine ⟨apartB u.kind t.kind, ?_, .inr ⟨j, u, rfl, rfl, d0⟩⟩
            have : prevT l (j + 1) = some u := by unfold prevT; rw [if_neg (by omega)]; exact hu
            rw [this]; rfl
        obtain ⟨hgap, hap2⟩ := hap
        have hnew : Hid ((acc ++ (if ap = true then [47, 42, 42, 47] else [])) ++ tokenP t ++ runP (prevT l (k + 1)) (l.drop (k + 1)) = runP none l) := by
          show _ = _
          rw [← hrun.out, hstep, hgap]; simp
        have HAP := Lib.hid hap2
        have hz47 := bytesOf_size (tokenP t)
        have hTA : Tabs WA := hT.below hbA
        have hEA : Env WA := hE.below hbA
        have hDA : Db WA := hD.below hbA
        have hIA : IsB w1.heap.size w1.heap.size acc WA := isB_below hI bA
        clear hrun hstep hgap hap2
        go_upto_region 7 with (fail)
        go_cut [28] (fun x wx => x = .bool ap ∧ Below WA.heap.size WA wx)
        case first =>
          rcases HAP.out with ⟨hk0, hap⟩ | ⟨j, u, hkj, hap, d0⟩
          · have tk : decide ((0 : Int) < (k : Int)) = false := by simp; omega
            have tk2 : decide (0 < k) = false := by simp; omega
            have HN := Lib.hid hap
            clear hk0 hap HAP hnew
            refine wp_region_bw WA.heap.size (by kernel_rfl) (by kernel_rfl) ?_
            repeat (go_big_quiet_step (fail))
            refine wpQuiet_nil ?_
            intro _ hw'
            obtain ⟨W, rfl⟩ := hw'
            go_wp2_with fail
            go_meet
            exact ⟨by rw [HN.out], W.is⟩
          · have tk : decide ((0 : Int) < (k : Int)) = true := by simp; omega
            have tk2 : decide (0 < k) = true := by simp; omega
            have HN := Lib.hid hap
            have hwj : IntKind.i64.wrap ((k : Int) - 1) = (j : Int) := by rw [IntKind.wrap_i64]; omega
            have hj1 : (k : Int) - 1 = (j : Int) := by omega
            have hjn : (j : Int) < (n : Int) := by omega
            have hblA : b < WA.heap.size := Nat.lt_of_lt_of_le hbl hbA.size
            have z0 := bw_cell (B := WA.heap.size) a0 rA.1
            have z1 := bw_cell (B := WA.heap.size) ((bA.cell (p := ⟨b, off + j * 3, none⟩) (Nat.lt_of_lt_of_le hbl hws)).trans d0) hblA
            have cA := fun W => tp_apart u.kind t.kind W
            clear hkj hap HAP hnew d0
            refine wp_region_bw WA.heap.size (by kernel_rfl) (by kernel_rfl) ?_
            repeat (go_big_quiet_step (first | (go_at_call 74; exact calls_bw_same (cA _))))
            refine wpQuiet_nil ?_
            intro _ hw'
            obtain ⟨W, rfl⟩ := hw'
            go_wp2_with fail
            go_meet
            exact ⟨by rw [HN.out], W.is⟩
        case rest =>
          obtain ⟨rfl, hbc⟩ := hcut
          have hI1 := isB_below hIA hbc
          have e0 := (hbc.cell (p := ⟨wr.heap.size, 0, none⟩) rA.1).trans a0
          have e1 := (hbc.cell (p := ⟨wr.heap.size, 1, none⟩) rA.1).trans a1
          have e2 := (hbc.cell (p := ⟨wr.heap.size, 2, none⟩) rA.1).trans a2
          have hbA1 : Below w1.heap.size w1 WA := hb.trans (bA.mono hbs)
          have hb3 : Below w1.heap.size w1 wc := hbA1.trans (hbc.mono hbA1.size)
          have hB3 : w1.heap.size ≤ wc.heap.size := hb3.size
          have hltr : wr.heap.size < wc.heap.size := Nat.lt_of_lt_of_le rA.1 hbc.size
          clear HAP hWA a0 a1 a2 c0 c1 c2 hrw
          cases ap with
          | true =>
            rw [if_pos rfl] at hnew
            go_wp2_with fail
            refine (tp_wstr w1.heap.size w1.heap.size acc [47, 42, 42, 47] wc hI1 (by simp; omega) hB3).mono ?_
            rintro e w4 ⟨rfl, hI2, hb4, ko4⟩
            have hblt : w1.heap.size < wr.heap.size := by rcases hI with h | h <;> exact h.lt
            have x4 := ko4 wr.heap.size _ ((hbc.block wr.heap.size rA.1).trans xA) (by intro e; injection e; omega) (by intro c fz e; injection e with _ e _; exact absurd e (by decide))
            have e0 : w4.cell? ⟨wr.heap.size, 0, none⟩ = some (.int .i64 t.kind) := by simp [World.cell?, x4]
            have e1 : w4.cell? ⟨wr.heap.size, 1, none⟩ = some (.string (bytesOf t.text)) := by simp [World.cell?, x4]
            have e2 : w4.cell? ⟨wr.heap.size, 2, none⟩ = some (.int .i64 t.n) := by simp [World.cell?, x4]
            have hb2 : Below w1.heap.size w1 w4 := hb3.trans hb4
            have hbw2 : Below w.heap.size w w4 := hb1.trans (hb2.mono hs1)
            have hTw : Tabs w4 := hT.below hbw2
            have hEw : Env w4 := hE.below hbw2
            have hDw : Db w4 := hD.below hbw2
            have hB2 : w1.heap.size ≤ w4.heap.size := hb2.size
            have cT := tp_token t w4 hsm.1 ⟨hsm.2.1, hsm.2.2⟩ hTw hEw hDw
            go_wp2_with fail
            refine cT.mono ?_
            rintro e w5 ⟨rfl, hb5⟩
            have hI5 := isB_below hI2 hb5
            have hB5 : w1.heap.size ≤ w5.heap.size := Nat.le_trans hB2 hb5.size
            go_wp2_with fail
            refine (tp_wstr w1.heap.size w1.heap.size _ (tokenP t) w5 hI5 (by simp; omega) hB5).mono ?_
            rintro e w6 ⟨rfl, hI6, hb6, _⟩
            go_wp2_with fail
            go_roundw
            case rel => exact ⟨k + 1, _, by omega, by go_num, hnew, (by simp; omega), hI6, hb2.trans ((hb5.mono hB2).trans hb6)⟩
            case measure => simp [intOf]; omega
          | false =>
            rw [if_neg (by decide), List.append_nil] at hnew
            have hI2 := hI1
            have hb2 := hb3
            have hbw2 : Below w.heap.size w wc := hb1.trans (hb2.mono hs1)
            have hTw : Tabs wc := hT.below hbw2
            have hEw : Env wc := hE.below hbw2
            have hDw : Db wc := hD.below hbw2
            have hB2 : w1.heap.size ≤ wc.heap.size := hb2.size
            have cT := tp_token t wc hsm.1 ⟨hsm.2.1, hsm.2.2⟩ hTw hEw hDw
            go_wp2_with fail
            refine cT.mono ?_
            rintro e w5 ⟨rfl, hb5⟩
            have hI5 := isB_below hI2 hb5
            have hB5 : w1.heap.size ≤ w5.heap.size := Nat.le_trans hB2 hb5.size
            go_wp2_with fail
            refine (tp_wstr w1.heap.size w1.heap.size _ (tokenP t) w5 hI5 (by omega) hB5).mono ?_
            rintro e w6 ⟨rfl, hI6, hb6, _⟩
            go_wp2_with fail
            go_roundw
            case rel => exact ⟨k + 1, _, by omega, by go_num, hnew, (by simp; omega), hI6, hb2.trans ((hb5.mono hB2).trans hb6)⟩
            case measure => simp [intOf]; omega
      · obtain rfl : k = n := by omega
        have dk : decide ((k : Int) < (k : Int)) = false := by simp
        have hfin : acc = printL l := by
          rw [HF.out, ← hrun.out, ← Hlen.out, List.drop_length]
          simp [runP]
        have HB := Lib.hid hfin
        have hS := Tryz.Builder_String_any w1.heap.size w1.heap.size acc wr hI (Nat.le_trans (Nat.le_refl _) hbs)
        clear hfin hrun hlt hk hRt hr hrw
        go_wp2_with fail
        refine hS.mono ?_
        rintro e w4 ⟨rfl, hb4⟩
        go_wp2
        go_ret
        exact ⟨congrArg (fun x => Ending.returned (Value.string (bytesOf x))) HB.out, hb1.trans ((hb.trans hb4).mono hs1)⟩
end Go.Proofs.YtfhdihdafmahgaaGreatDoor
/- Layer 4: what the laws have in common: Few and awake are walked. -/
set_option linter.unusedVariables false
set_option linter.unusedSimpArgs false
namespace Go.Proofs.YtfhdihdafmahgaaGreatDoor
open Go.RowKit Rn Tp Tk
namespace Tp
def fewB (l : List GTok) : Bool := decide (l.length ≤ 100) && l.all (fun t => decide (t.text.length ≤ 100))
end Tp
theorem few_facts {l : List GTok} (h : fewB l = true) : l.length ≤ 100 ∧ ∀ t ∈ l, t.text.length ≤ 100 := by
  unfold fewB at h
  simp only [Bool.and_eq_true, decide_eq_true_eq, List.all_eq_true] at h
  exact h
set_option maxRecDepth 100000 in
set_option maxHeartbeats 2000000 in
theorem tp_few (l : List GTok) (A : Option Addr) (n cap : Nat) (w : World) (hr : ReadsT w w.heap.size A n l) (hn : n ≤ 9223372036854775807) (hs : ∀ t ∈ l, t.text.length ≤ maxLen) :
    Calls Tryz.prog 48 #[.slice A n cap] w fun e w' => e = .returned (.bool (fewB l)) ∧ w = w' := by
  have hlen : l.length = n := hr.len
  have Hlen := Lib.hid hlen
  have Hs := Lib.hid hs
  clear hlen hs
  go_enter Tryz.func48, Tryz.ntmps48
  go_wp2_with fail
  go_loopw [3] (fun i wr => ∃ k : Nat, k ≤ n ∧ k ≤ 101 ∧ i = .int .i64 k ∧ w = wr ∧ Hid (∀ t ∈ l.take k, t.text.length ≤ 100)) (fun i _ => 101 - (intOf i).toNat)
  case atStart => exact ⟨0, by omega, by omega, rfl, rfl, (by show ∀ t ∈ _, _; simp)⟩
  case round =>
    obtain ⟨k, hk, hk1, rfl, rfl, hx⟩ := hrel
    by_cases hlt : k < n
    · have dk : decide ((k : Int) < (n : Int)) = true := by simp; omega
      by_cases h100 : k ≤ 100
      · have d100 : decide ((k : Int) ≤ 100) = true := by simp; omega
        have d100n : decide (k ≤ 100) = true := by simp; omega
        obtain ⟨b, off, t, hA, hbw, ht, c0, c1, c2⟩ := hr.at_ hlt
        subst hA
        have hsm := Hs.out t (List.mem_of_getElem? ht)
        unfold maxLen at hsm
        have hz := bytesOf_size t.text
        by_cases hl : t.text.length ≤ 100
        · have dl : decide ((100 : Int) < (t.text.length : Int)) = false := by simp; omega
          have hnew : Hid (∀ t ∈ l.take (k + 1), t.text.length ≤ 100) := by
            show ∀ t ∈ _, _
            rw [take_snoc l k t ht]
            intro x hx2
            rcases List.mem_append.1 hx2 with h | h
            · exact hx.out x h
            · obtain rfl : x = t := by simpa using h
              exact hl
          clear hx ht hl
          go_wp2_with fail
          go_roundw
          case rel => exact ⟨k + 1, by omega, by omega, by go_num, trivial, hnew⟩
          case measure => simp [intOf]; omega
        · have dl : decide ((100 : Int) < (t.text.length : Int)) = true := by simp; omega
          have hfin : fewB l = false := by
            cases h : fewB l with
            | false => rfl
            | true => exact absurd ((few_facts h).2 t (List.mem_of_getElem? ht)) hl
          have HF := Lib.hid hfin
          clear hfin hx ht hl
          go_wp2
          go_ret
          exact ⟨ret_bool HF.out.symm, rfl⟩
      · have d100 : decide ((k : Int) ≤ 100) = false := by simp; omega
        have d100n : decide (k ≤ 100) = false := by simp; omega
        have hfin : fewB l = decide ((n : Int) ≤ 100) := by
          unfold fewB
          rw [Hlen.out]
          have : ¬ n ≤ 100 := by omega
          simp [this]; omega
        have HF := Lib.hid hfin
        clear hfin hx
        go_wp2
        go_ret
        exact ⟨ret_bool HF.out.symm, rfl⟩
    · obtain rfl : k = n := by omega
      have dk : decide ((k : Int) < (k : Int)) = false := by simp
      have hfin : fewB l = decide ((k : Int) ≤ 100) := by
        have h2 := hx.out
        rw [← Hlen.out, List.take_length] at h2
        unfold fewB
        rw [Hlen.out]
        have : l.all (fun t => decide (t.text.length ≤ 100)) = true := by rw [List.all_eq_true]; intro t ht; simpa using h2 t ht
        rw [this]
        simp; omega
      have HF := Lib.hid hfin
      clear hfin hx hlt
      go_wp2
      go_ret
      exact ⟨ret_bool HF.out.symm, rfl⟩
/-- what the document fixes of two names -/
def awakeL : List GTok := [⟨2, [49, 97], 0⟩, ⟨2, [98], 0⟩]
theorem awake_right : rightB awakeL = true := by decide +kernel
theorem awake_print : printL awakeL = [92, 51, 49, 32, 97, 47, 42, 42, 47, 98] := by decide +kernel
theorem awake_token : tokenP ⟨10, [101, 49], 1500⟩ = [49, 46, 53, 92, 54, 53, 32, 49] := by decide +kernel
end Go.Proofs.YtfhdihdafmahgaaGreatDoor
/- Layer 6: the laws' Few is walked. -/
set_option linter.unusedVariables false
set_option linter.unusedSimpArgs false
namespace Go.Proofs.YtfhdihdafmahgaaGreatDoor
open Go.RowKit Rn Tp Ru
namespace Ru
/-- what memory bounds -/
def LimD (d : Decl) : Prop := d.name.length ≤ maxLen ∧ d.value.length ≤ maxLen ∧ ∀ t ∈ d.value, t.text.length ≤ maxLen
def LimM (m : Margin) : Prop := m.name.length ≤ maxLen ∧ m.decls.length ≤ maxLen ∧ ∀ d ∈ m.decls, LimD d
def LimR (r : Rule) : Prop := r.prelude.length ≤ maxLen ∧ (∀ t ∈ r.prelude, t.text.length ≤ maxLen) ∧ r.decls.length ≤ maxLen ∧ (∀ d ∈ r.decls, LimD d) ∧ r.margins.length ≤ maxLen ∧ ∀ m ∈ r.margins, LimM m
end Ru
theorem take_all {α : Type} {P : α → Bool} {l : List α} {k : Nat} {x : α} (h : ∀ y ∈ l.take k, P y = true) (hx : l[k]? = some x) (hp : P x = true) : ∀ y ∈ l.take (k + 1), P y = true := by
  rw [List.take_add_one, hx, Option.toList_some]
  intro y hy
  rcases List.mem_append.1 hy with h1 | h1
  · exact h y h1
  · rw [List.mem_singleton.1 h1]; exact hp
theorem all_not {α : Type} {P : α → Bool} {l : List α} {k : Nat} {x : α} (hx : l[k]? = some x) (hp : P x = false) : l.all P = false := by
  rw [List.all_eq_false]
  exact ⟨x, List.mem_of_getElem? hx, by rw [hp]; decide⟩
set_option maxRecDepth 100000 in
set_option maxHeartbeats 4000000 in
theorem ru_few1 (ds : List Decl) (A : Option Addr) (n c : Nat) (w : World) (h : DeclsS w (· < w.heap.size) A n ds) (hn : n ≤ maxLen) (hs : ∀ d ∈ ds, LimD d) :
    Calls Tryz.prog 47 #[.slice A n c] w fun e w' => e = .returned (.bool (declsFew ds)) ∧ Below w.heap.size w w' := by
  unfold maxLen at hn
  have hlen := h.len
  have Hlen := Lib.hid hlen
  have Hs := Lib.hid hs
  clear hlen hs
  go_enter Tryz.func47, Tryz.ntmps47
  go_wp2_with fail
  go_loopw [7] (fun i wr => ∃ k : Nat, k ≤ n ∧ i = .int .i64 (k : Int) ∧ Hid (∀ d ∈ ds.take k, declFew d = true) ∧ Below w.heap.size w wr) (fun i _ => n - (intOf i).toNat)
  case atStart => exact ⟨0, by omega, rfl, (by show ∀ d ∈ _, _; simp), Below.refl _ _⟩
  case round =>
    obtain ⟨k, hk, rfl, hall, hb⟩ := hrel
    by_cases hlt : k < n
    · have hbs := hb.size
      obtain ⟨b, off, A1, c1, d, hA, hbl, hdk, f0, f1, f2, hX⟩ := h.at_ hlt
      subst hA
      have hki : (k : Int) < (n : Int) := by omega
      have hl := Hs.out d (List.mem_of_getElem? hdk)
      obtain ⟨m1, m2, m3⟩ := hl
      unfold maxLen at m1 m2
      replace f0 := (hb.cell (p := ⟨b, off + k * 3, none⟩) hbl).trans f0
      replace f1 := (hb.cell (p := ⟨b, off + k * 3 + 1, none⟩) hbl).trans f1
      replace f2 := (hb.cell (p := ⟨b, off + k * 3 + 2, none⟩) hbl).trans f2
      obtain ⟨WA, hWA⟩ : ∃ WA, wr.alloc (.cells #[.string (bytesOf d.name), .slice A1 d.value.length c1, .bool d.imp] 34) = WA := ⟨_, rfl⟩
      have bA : Below wr.heap.size wr WA := by rw [← hWA]; exact (Below.refl _ _).alloc (Nat.le_refl _) _
      have rA : RowAt WA wr.heap.size [.string (bytesOf d.name), .slice A1 d.value.length c1, .bool d.imp] := by rw [← hWA]; exact RowAt.new _ _ _
      have hBA := hb.trans (bA.mono hbs)
      have cF := tp_few d.value A1 d.value.length c1 WA (hX.below hBA) (by omega) m3
      obtain ⟨a0, _⟩ := rA.2 0 _ rfl
      obtain ⟨a1, _⟩ := rA.2 1 _ rfl
      obtain ⟨a2, _⟩ := rA.2 2 _ rfl
      obtain ⟨r, hr⟩ : ∃ r, fewB d.value = r := ⟨_, rfl⟩
      rw [hr] at cF
      have hr4 : few4 d.value = r := hr
      have hsz := bytesOf_size d.name
      obtain ⟨g, hg⟩ : ∃ g, declFew d = g := ⟨_, rfl⟩
      have hge : g = (decide (d.name.length ≤ 100) && decide (d.value.length ≤ 20) && r) := by rw [← hg, ← hr4]; rfl
      have Hg := Lib.hid hg
      have Hge := Lib.hid hge
      have Hdk := Lib.hid hdk
      clear hg hge hr hr4 hdk m3 rA
      go_upto_region 4 with (fail)
      go_cut [26] (fun x wx => x = .bool (!g) ∧ WA = wx)
      case first =>
        have hun : (undef : Value) = .tuple #[] := rfl
        by_cases h1 : d.name.length ≤ 100
        · have e1 : decide ((100 : Int) < (d.name.length : Int)) = false := by simp; omega
          by_cases h2 : d.value.length ≤ 20
          · have e2 : decide ((20 : Int) < (d.value.length : Int)) = false := by simp; omega
            have eg : g = r := by rw [Hge.out, decide_eq_true h1, decide_eq_true h2]; simp
            have EG := Lib.hid eg
            clear eg h1 h2
            go_wp2_with fail
            refine cF.mono ?_
            rintro e w3 ⟨rfl, rfl⟩
            go_wp2_with fail
            go_meet
            exact ⟨by rw [EG.out], rfl⟩
          · have e2 : decide ((20 : Int) < (d.value.length : Int)) = true := by simp; omega
            have eg : g = false := by rw [Hge.out, decide_eq_false h2]; simp
            have EG := Lib.hid eg
            clear eg h1 h2 cF
            go_wp2_with fail
            go_meet
            exact ⟨by rw [EG.out]; rfl, rfl⟩
        · have e1 : decide ((100 : Int) < (d.name.length : Int)) = true := by simp; omega
          have eg : g = false := by rw [Hge.out, decide_eq_false h1]; simp
          have EG := Lib.hid eg
          clear eg h1 cF
          go_wp2_with fail
          go_meet
          exact ⟨by rw [EG.out]; rfl, rfl⟩
      case rest =>
        obtain ⟨rfl, rfl⟩ := hcut
        cases g with
        | false =>
          have hf : declsFew ds = false := by unfold declsFew; rw [all_not Hdk.out Hg.out, Bool.and_false]
          have HF := Lib.hid hf
          clear hf hall
          go_wp2_with fail
          go_ret
          exact ⟨ret_bool HF.out.symm, hBA⟩
        | true =>
          have hnew : Hid (∀ d ∈ ds.take (k + 1), declFew d = true) := take_all hall.out Hdk.out Hg.out
          clear hall
          go_wp2_with fail
          go_roundw
          case rel => exact ⟨k + 1, by omega, by go_num, hnew, hBA⟩
          case measure => simp [intOf]; omega
    · obtain rfl : k = n := by omega
      have dk : ¬ (k : Int) < (k : Int) := by omega
      have hf : declsFew ds = decide ((k : Int) ≤ 8) := by
        have h2 := hall.out
        rw [← Hlen.out, List.take_length] at h2
        unfold declsFew
        rw [List.all_eq_true.2 h2, Hlen.out, Bool.and_true]
        exact decide_eq_decide.2 ⟨fun h => by omega, fun h => by omega⟩
      have HF := Lib.hid hf
      clear hf hall
      go_wp2_with fail
      go_ret
      exact ⟨ret_bool HF.out.symm, hb⟩
set_option maxRecDepth 100000 in
set_option maxHeartbeats 8000000 in
theorem ru_few (l : List Rule) (A : Option Addr) (n c : Nat) (w : World) (h : RulesS w (· < w.heap.size) A n l) (hn : n ≤ maxLen) (hs : ∀ r ∈ l, LimR r) :
    Calls Tryz.prog 12 #[.slice A n c] w fun e w' => e = .returned (.bool (fewR l)) ∧ Below w.heap.size w w' := by
  unfold maxLen at hn
  have hlen := h.len
  have Hlen := Lib.hid hlen
  have Hs := Lib.hid hs
  clear hlen hs
  go_enter Tryz.func12, Tryz.ntmps12
  go_wp2_with fail
  go_loopw [4] (fun i wr => ∃ k : Nat, k ≤ n ∧ k ≤ 9 ∧ i = .int .i64 (k : Int) ∧ Hid (∀ r ∈ l.take k, ruleFew r = true) ∧ Below w.heap.size w wr) (fun i _ => 9 - (intOf i).toNat)
  case atStart => exact ⟨0, by omega, by omega, rfl, (by show ∀ d ∈ _, _; simp), Below.refl _ _⟩
  case round =>
    obtain ⟨k, hk, hk9, rfl, hall, hb⟩ := hrel
    have hbs := hb.size
    by_cases hlt : k < n ∧ k ≤ 8
    · obtain ⟨hlt1, hlt2⟩ := hlt
      obtain ⟨b, off, A1, c1, A2, c2, A3, c3, r, hA, hbl, hrk, f0, f1, f2, f3, hX1, hX2, hX3⟩ := h.at_ hlt1
      subst hA
      have hki : (k : Int) < (n : Int) := by omega
      have hki8 : (k : Int) ≤ 8 := by omega
      have hki8n : decide (k ≤ 8) = true := by simp; omega
      obtain ⟨m1, m2, m3, m4, m5, m6⟩ := Hs.out r (List.mem_of_getElem? hrk)
      unfold maxLen at m1 m3 m5
      replace f1 := (hb.cell (p := ⟨b, off + k * 4 + 1, none⟩) hbl).trans f1
      replace f2 := (hb.cell (p := ⟨b, off + k * 4 + 2, none⟩) hbl).trans f2
      replace f3 := (hb.cell (p := ⟨b, off + k * 4 + 3, none⟩) hbl).trans f3
      have cF := tp_few r.prelude A1 r.prelude.length c1 wr (hX1.below hb) (by omega) m2
      have cD := ru_few1 r.decls A2 r.decls.length c2 wr (hX2.below hb) (by unfold maxLen; omega) m4
      have hM := hX3.below hb
      obtain ⟨q1, hq1⟩ : ∃ q, fewB r.prelude = q := ⟨_, rfl⟩
      obtain ⟨q2, hq2⟩ : ∃ q, declsFew r.decls = q := ⟨_, rfl⟩
      rw [hq1] at cF
      rw [hq2] at cD
      have hq1' : few4 r.prelude = q1 := hq1
      obtain ⟨q3, hq3⟩ : ∃ q, r.margins.all marginFew = q := ⟨_, rfl⟩
      have hge : ruleFew r = (decide (r.prelude.length ≤ 20) && q1 && decide (r.margins.length ≤ 8) && q2 && q3) := by rw [← hq1', ← hq2, ← hq3]; rfl
      obtain ⟨g, hg⟩ : ∃ g, (decide (r.prelude.length ≤ 20) && q1 && decide (r.margins.length ≤ 8) && q2) = g := ⟨_, rfl⟩
      rw [hg] at hge
      have Hg := Lib.hid hg
      have Hge := Lib.hid hge
      have Hq3 := Lib.hid hq3
      have Hrk := Lib.hid hrk
      have M6 := Lib.hid m6
      clear hg hge hq1 hq1' hq2 hq3 hrk m2 m4 m6 hX1 hX2 hX3 f0
      go_upto_region 5 with (fail)
      go_cut [51] (fun x wx => x = .bool (!g) ∧ Below wr.heap.size wr wx)
      case first =>
        have hun : (undef : Value) = .tuple #[] := rfl
        by_cases h1 : r.prelude.length ≤ 20
        · have e1 : decide ((20 : Int) < (r.prelude.length : Int)) = false := by simp; omega
          cases q1 with
          | false =>
            have eg : g = false := by rw [← Hg.out]; simp
            have EG := Lib.hid eg
            clear eg h1 cD
            go_wp2_with fail
            refine cF.mono ?_
            rintro e w3 ⟨rfl, rfl⟩
            go_wp2_with fail
            go_meet
            exact ⟨by rw [EG.out]; rfl, Below.refl _ _⟩
          | true =>
            by_cases h2 : r.margins.length ≤ 8
            · have e2 : decide ((8 : Int) < (r.margins.length : Int)) = false := by simp; omega
              have eg : g = q2 := by rw [← Hg.out, decide_eq_true h1, decide_eq_true h2]; simp
              have EG := Lib.hid eg
              clear eg h1 h2
              go_wp2_with fail
              refine cF.mono ?_
              rintro e w3 ⟨rfl, rfl⟩
              go_wp2_with fail
              refine cD.mono ?_
              rintro e w4 ⟨rfl, hb4⟩
              go_wp2_with fail
              go_meet
              exact ⟨by rw [EG.out], hb4⟩
            · have e2 : decide ((8 : Int) < (r.margins.length : Int)) = true := by simp; omega
              have eg : g = false := by rw [← Hg.out, decide_eq_false h2]; simp
              have EG := Lib.hid eg
              clear eg h1 h2 cD
              go_wp2_with fail
              refine cF.mono ?_
              rintro e w3 ⟨rfl, rfl⟩
              go_wp2_with fail
              go_meet
              exact ⟨by rw [EG.out]; rfl, Below.refl _ _⟩
        · have e1 : decide ((20 : Int) < (r.prelude.length : Int)) = true := by simp; omega
          have eg : g = false := by rw [← Hg.out, decide_eq_false h1]; simp
          have EG := Lib.hid eg
          clear eg h1 cF cD
          go_wp2_with fail
          go_meet
          exact ⟨by rw [EG.out]; rfl, Below.refl _ _⟩
      case rest =>
        obtain ⟨rfl, hbc⟩ := hcut
        obtain ⟨wc1, hu⟩ : ∃ x, x = wc := ⟨_, rfl⟩
        subst hu
        have hbW := hb.trans (hbc.mono hbs)
        have hlb : b < wr.heap.size := Nat.lt_of_lt_of_le hbl hbs
        have f3' := (hbc.cell (p := ⟨b, off + k * 4 + 3, none⟩) hlb).trans f3
        have hMc := hM.below hbc
        clear cF cD hM
        cases g with
        | false =>
          have hf : fewR l = false := by unfold fewR; rw [all_not Hrk.out (by rw [Hge.out]; rfl), Bool.and_false]
          have HF := Lib.hid hf
          clear hf hall
          go_wp2_with fail
          go_ret
          exact ⟨ret_bool HF.out.symm, hbW⟩
        | true =>
          obtain ⟨mm, hmm⟩ : ∃ mm, r.margins.length = mm := ⟨_, rfl⟩
          rw [hmm] at hMc f3' m5
          have Hmm := Lib.hid hmm
          clear hmm f1 f2 f3
          go_wp2_with fail
          go_loopw [58] (fun i wx => ∃ j : Nat, j ≤ mm ∧ i = .int .i64 (j : Int) ∧ Hid (∀ m ∈ r.margins.take j, marginFew m = true) ∧ Below wc1.heap.size wc1 wx) (fun i _ => mm - (intOf i).toNat)
          case atStart => exact ⟨0, by omega, rfl, (by show ∀ d ∈ _, _; simp), Below.refl _ _⟩
          case round =>
            obtain ⟨j, hj, rfl, hallm, hbx⟩ := hrel
            obtain ⟨wx, hux⟩ : ∃ x, x = wr := ⟨_, rfl⟩
            subst hux
            have hbWx := hbW.trans (hbx.mono hbW.size)
            by_cases hjl : j < mm
            · have hbxs := hbx.size
              obtain ⟨b', off', A4, c4, m, hA, hbl', hmj, g0, g1, hX⟩ := hMc.at_ hjl
              subst hA
              have hji : (j : Int) < (mm : Int) := by omega
              obtain ⟨n1, n2, n3⟩ := M6.out m (List.mem_of_getElem? hmj)
              unfold maxLen at n1 n2
              replace g0 := (hbx.cell (p := ⟨b', off' + j * 2, none⟩) hbl').trans g0
              replace g1 := (hbx.cell (p := ⟨b', off' + j * 2 + 1, none⟩) hbl').trans g1
              obtain ⟨WA, hWA⟩ : ∃ WA, wx.alloc (.cells #[.string (bytesOf m.name), .slice A4 m.decls.length c4] 41) = WA := ⟨_, rfl⟩
              have bA : Below wx.heap.size wx WA := by rw [← hWA]; exact (Below.refl _ _).alloc (Nat.le_refl _) _
              have rA : RowAt WA wx.heap.size [.string (bytesOf m.name), .slice A4 m.decls.length c4] := by rw [← hWA]; exact RowAt.new _ _ _
              have hBA := hbx.trans (bA.mono hbxs)
              have cF := ru_few1 m.decls A4 m.decls.length c4 WA (hX.below hBA) (by unfold maxLen; omega) n3
              obtain ⟨a0, _⟩ := rA.2 0 _ rfl
              obtain ⟨a1, _⟩ := rA.2 1 _ rfl
              obtain ⟨r', hr⟩ : ∃ r, declsFew m.decls = r := ⟨_, rfl⟩
              rw [hr] at cF
              have hsz := bytesOf_size m.name
              obtain ⟨g, hg⟩ : ∃ g, marginFew m = g := ⟨_, rfl⟩
              have hge : g = (decide (m.name.length ≤ 100) && r') := by rw [← hg, ← hr]; rfl
              have Hg2 := Lib.hid hg
              have Hge2 := Lib.hid hge
              have Hmj := Lib.hid hmj
              clear hg hge hr hmj n3 rA
              go_upto_region 10 with (fail)
              go_cut [72] (fun x wy => x = .bool (!g) ∧ Below WA.heap.size WA wy)
              case first =>
                have hun : (undef : Value) = .tuple #[] := rfl
                by_cases h1 : m.name.length ≤ 100
                · have e1 : decide ((100 : Int) < (m.name.length : Int)) = false := by simp; omega
                  have eg : g = r' := by rw [Hge2.out, decide_eq_true h1]; simp
                  have EG := Lib.hid eg
                  clear eg h1
                  go_wp2_with fail
                  refine cF.mono ?_
                  rintro e w3 ⟨rfl, hb3⟩
                  go_wp2_with fail
                  go_meet
                  exact ⟨by rw [EG.out], hb3⟩
                · have e1 : decide ((100 : Int) < (m.name.length : Int)) = true := by simp; omega
                  have eg : g = false := by rw [Hge2.out, decide_eq_false h1]; simp
                  have EG := Lib.hid eg
                  clear eg h1 cF
                  go_wp2_with fail
                  go_meet
                  exact ⟨by rw [EG.out]; rfl, Below.refl _ _⟩
              case rest =>
                obtain ⟨rfl, hby⟩ := hcut
                have hBy := hBA.trans (hby.mono hBA.size)
                cases g with
                | false =>
                  have hf : fewR l = false := by
                    have h3 : r.margins.all marginFew = false := all_not Hmj.out Hg2.out
                    unfold fewR; rw [all_not Hrk.out (by rw [Hge.out, ← Hq3.out, h3]; rfl), Bool.and_false]
                  have HF := Lib.hid hf
                  clear hf hall hallm
                  go_wp2_with fail
                  go_ret
                  exact ⟨ret_bool HF.out.symm, hbW.trans (hBy.mono hbW.size)⟩
                | true =>
                  have hnew : Hid (∀ m ∈ r.margins.take (j + 1), marginFew m = true) := take_all hallm.out Hmj.out Hg2.out
                  clear hallm
                  go_wp2_with fail
                  go_roundw
                  case rel => exact ⟨j + 1, by omega, by go_num, hnew, hBy⟩
                  case measure => simp [intOf]; omega
            · obtain rfl : j = mm := by omega
              have dj : ¬ (j : Int) < (j : Int) := by omega
              have hrf : ruleFew r = true := by
                have h2 := hallm.out
                rw [← Hmm.out, List.take_length] at h2
                rw [Hge.out, ← Hq3.out, List.all_eq_true.2 h2]; rfl
              have hnew : Hid (∀ r ∈ l.take (k + 1), ruleFew r = true) := take_all hall.out Hrk.out hrf
              have wk : IntKind.i64.wrap ((k : Int) + 1) = (k : Int) + 1 := by rw [IntKind.wrap_i64]; omega
              clear hall hallm hrf
              go_wp2_with fail
              go_roundw
              case rel => exact ⟨k + 1, by omega, by omega, by go_num, hnew, hbWx⟩
              case measure => simp [intOf]; omega
    · have hf : fewR l = decide ((n : Int) ≤ 8) := by
        unfold fewR
        rw [Hlen.out]
        by_cases h8 : n ≤ 8
        · obtain rfl : k = n := by omega
          have h2 := hall.out
          rw [← Hlen.out, List.take_length] at h2
          rw [List.all_eq_true.2 h2, Bool.and_true]
          exact decide_eq_decide.2 ⟨fun h => by omega, fun h => by omega⟩
        · rw [decide_eq_false h8, Bool.false_and]
          exact (decide_eq_false (by omega)).symm
      have HF := Lib.hid hf
      have h2 : k = n ∨ (k < n ∧ k = 9) := by omega
      clear hf hall hlt
      rcases h2 with h2 | ⟨h2, h3⟩
      · subst h2
        have dk : ¬ (k : Int) < (k : Int) := by omega
        go_wp2_with fail
        go_ret
        exact ⟨ret_bool HF.out.symm, hb⟩
      · subst h3
        have dk : ((9 : Nat) : Int) < (n : Int) := by omega
        go_wp2_with fail
        go_ret
        exact ⟨ret_bool HF.out.symm, hb⟩
end Go.Proofs.YtfhdihdafmahgaaGreatDoor
/- Layer 6: what an argument's rules are bounded by. -/
set_option linter.unusedVariables false
namespace Go.Proofs.YtfhdihdafmahgaaGreatDoor
open Go.RowKit Ru
def okT (t : GTok) : Prop := t.text.length ≤ maxLen ∧ num64 t
def okD (d : Decl) : Prop := d.name.length ≤ maxLen ∧ d.value.length ≤ maxLen ∧ ∀ t ∈ d.value, okT t
def okM (m : Margin) : Prop := m.name.length ≤ maxLen ∧ m.decls.length ≤ maxLen ∧ ∀ d ∈ m.decls, okD d
def okR (r : Rule) : Prop := r.prelude.length ≤ maxLen ∧ (∀ t ∈ r.prelude, okT t) ∧ r.decls.length ≤ maxLen ∧ (∀ d ∈ r.decls, okD d) ∧ r.margins.length ≤ maxLen ∧ ∀ m ∈ r.margins, okM m
theorem okR.lim {r : Rule} (h : okR r) : LimR r := by
  obtain ⟨a1, a2, a3, a4, a5, a6⟩ := h
  exact ⟨a1, fun t ht => (a2 t ht).1, a3, fun d hd => ⟨(a4 d hd).1, (a4 d hd).2.1, fun t ht => ((a4 d hd).2.2 t ht).1⟩, a5, fun m hm => ⟨(a6 m hm).1, (a6 m hm).2.1, fun d hd => ⟨((a6 m hm).2.2 d hd).1, ((a6 m hm).2.2 d hd).2.1, fun t ht => (((a6 m hm).2.2 d hd).2.2 t ht).1⟩⟩⟩
theorem okR.num {l : List Rule} (h : ∀ r ∈ l, okR r) : AllT num64 l := fun r hr => by
  obtain ⟨a1, a2, a3, a4, a5, a6⟩ := h r hr
  exact ⟨fun t ht => (a2 t ht).2, fun d hd t ht => ((a4 d hd).2.2 t ht).2, fun m hm d hd t ht => (((a6 m hm).2.2 d hd).2.2 t ht).2⟩
end Go.Proofs.YtfhdihdafmahgaaGreatDoor
/- An argument that is a slice of tokens, opened: it reads as a list of tokens. -/
set_option linter.unusedVariables false
namespace Go.Proofs.YtfhdihdafmahgaaGreatDoor
open Go.ChangeShapes Go.WideShapes Go.ChangeAt Go.RowKit Go.Lib Go.Deep
set_option maxRecDepth 100000
section
variable {H : Type} {enc : TypeId × Value → H} {W : World} {base : Nat}
theorem tok_three {fs : List Field} (hf : fs.map (fun f => (f.name, f.type, f.offset)) = [("Kind", 3, 0), ("Text", 9, 1), ("N", 3, 2)]) : ∃ f0 f1 f2, fs = [f0, f1, f2] ∧ f0.type = 3 ∧ f1.type = 9 ∧ f2.type = 3 ∧ f0.offset = 0 ∧ f1.offset = 1 ∧ f2.offset = 2 := by
  rcases fs with _ | ⟨a, _ | ⟨b, _ | ⟨c, _ | ⟨d, fs⟩⟩⟩⟩
  · simp at hf
  · simp at hf
  · simp at hf
  · simp only [List.map_cons, List.map_nil, List.cons.injEq, Prod.mk.injEq, and_true] at hf
    obtain ⟨⟨_, a2, a3⟩, ⟨_, b2, b3⟩, _, c2, c3⟩ := hf
    exact ⟨a, b, c, rfl, a2, b2, c2, a3, b3, c3⟩
  · simp at hf
instance : Inhabited GTok := ⟨⟨0, [], 0⟩⟩
theorem cellsG_get {l : List GTok} {j : Nat} {u : Value} (h : (cellsG l)[j]? = some u) : ∃ i t, i < l.length ∧ l[i]? = some t ∧ ((j = i * 3 ∧ u = .int .i64 t.kind) ∨ (j = i * 3 + 1 ∧ u = .string (bytesOf t.text)) ∨ (j = i * 3 + 2 ∧ u = .int .i64 t.n)) := by
  have hj : j < l.length * 3 := by have := (List.getElem?_eq_some_iff.1 h).1; rw [cellsG_len] at this; exact this
  have hi : j / 3 < l.length := by omega
  have ht : l[j / 3]? = some l[j / 3] := List.getElem?_eq_getElem hi
  obtain ⟨h1, h2, h3⟩ := cellsG_at l (j / 3) _ ht
  refine ⟨j / 3, _, hi, ht, ?_⟩
  have hr : j = j / 3 * 3 ∨ j = j / 3 * 3 + 1 ∨ j = j / 3 * 3 + 2 := by omega
  rcases hr with e | e | e
  · rw [← e, h] at h1; injection h1 with h1; exact .inl ⟨e, h1⟩
  · rw [← e, h] at h2; injection h2 with h2; exact .inr (.inl ⟨e, h2⟩)
  · rw [← e, h] at h3; injection h3 with h3; exact .inr (.inr ⟨e, h3⟩)
theorem open_toks {b0 : Nat} {sp : Nat → Bool} {hd : Bool} {v : Value} {d : DataW H} {ps : List MemPlace} (hv : Value.okWide Tryz.prog W .any base 32 v) (h : DataW.Trod enc Tryz.prog W b0 sp hd 32 v d ps) :
    ∃ (A : Option Addr) (n c : Nat) (l : List GTok), v = .slice A n c ∧ n ≤ c ∧ c ≤ maxLen ∧ ReadsT W W.heap.size A n l ∧ ∀ t ∈ l, t.text.length ≤ maxLen ∧ -9223372036854775808 ≤ t.n ∧ t.n ≤ 9223372036854775807 := by
  obtain ⟨a0, len, cap, rfl⟩ := okWide_slice Tryz.underlying32 hv
  obtain ⟨fuel, hf⟩ := h
  rcases open_slice Tryz.underlying32 hf with ⟨hcs, _⟩ | ⟨a, len', cap', m, fu, D, Pl, hcs, _, hl, hm, hmm, _, hx⟩
  · simp only [Value.cells, List.cons.injEq, Value.slice.injEq, and_true] at hcs
    obtain ⟨rfl, rfl, rfl⟩ := hcs
    exact ⟨none, 0, 0, [], rfl, Nat.le_refl _, Nat.zero_le _, ⟨by simp [cellsG], fun h => absurd h (by omega)⟩, fun t ht => by cases ht⟩
  · simp only [Value.cells, List.cons.injEq, Value.slice.injEq, and_true] at hcs
    obtain ⟨rfl, rfl, rfl⟩ := hcs
    have hlm : len ≤ m := by rw [hmm]; split <;> omega
    obtain ⟨f0, f1, f2, hfs, y0, y1, y2, o0, o1, o2⟩ := tok_three tok_fields
    have hst : Tryz.prog.underlying 58 = some (.struct #[f0, f1, f2]) := by
      rw [tok_under]
      congr 2
      apply Array.ext'
      exact hfs
    have ce : Tryz.prog.cellsOf 58 = 3 := by kernel_rfl
    have ci : Tryz.prog.cellsOf 3 = 1 := by kernel_rfl
    have cs1 : Tryz.prog.cellsOf 9 = 1 := by kernel_rfl
    have each : ∀ i, i < m → ∃ t : GTok, W.cell? (a.add (i * 3)) = some (.int .i64 t.kind) ∧ W.cell? (a.add (i * 3 + 1)) = some (.string (bytesOf t.text)) ∧ W.cell? (a.add (i * 3 + 2)) = some (.int .i64 t.n) ∧ t.text.length ≤ maxLen ∧ -9223372036854775808 ≤ t.n ∧ t.n ≤ 9223372036854775807 := by
      intro i hi
      obtain ⟨cs', h1, h2⟩ := hx i hi
      rw [ce] at h1
      obtain ⟨_, hlen, hcell⟩ := World.cells?_some h1
      obtain ⟨xs, k, hk, hxy, _, hxl, hf⟩ := DataW.trod_struct hst h2
      match xs, hxl, cs', hlen with
      | [z0, z1, z2], _, [v0, v1, v2], _ =>
        have g0 := hf 0 f0 rfl
        have g1 := hf 1 f1 rfl
        have g2 := hf 2 f2 rfl
        simp [o0, o1, o2, y0, y1, y2, ci, cs1] at g0 g1 g2
        have e0 := hcell 0 (by omega)
        have e1 := hcell 1 (by omega)
        have e2 := hcell 2 (by omega)
        rw [Go.Deep.add_add] at e0 e1 e2
        obtain ⟨n0, q0, _, w0⟩ := DataW.trod_int Tryz.underlying3 g0
        obtain ⟨s1, q1, _, w1⟩ := DataW.trod_string Tryz.underlying9 g1
        obtain ⟨n2, q2, _, w2⟩ := DataW.trod_int Tryz.underlying3 g2
        simp only [List.cons.injEq, and_true] at q0 q1 q2
        subst q0 q1 q2
        refine ⟨⟨n0, s1.data.toList, n2⟩, by simpa using e0, by rw [bytesOf_eta]; simpa using e1, by simpa using e2, ?_, bounds_i64 w2⟩
        have : s1.data.toList.length = s1.size := by rw [Array.length_toList]; rfl
        rw [this]; exact w1
    obtain ⟨q, hq⟩ := choose_lt each
    refine ⟨some a, len, cap, (List.range len).map q, rfl, hl, hm, ⟨by rw [cellsG_len]; simp, fun hn => ?_⟩, fun t ht => ?_⟩
    · obtain ⟨b, off, fld⟩ := a
      have hspot : fld = none := by simpa [Addr.add] using World.cell?_spot (hq 0 (by omega)).1
      subst hspot
      refine ⟨b, off, rfl, ?_, fun j u hu => ?_⟩
      · have h0 := (hq 0 (by omega)).1
        rw [Go.WideShapes.add_plain] at h0
        exact World.block_lt_of_cell? _ _ h0
      · obtain ⟨i, t, hi, ht, hc⟩ := cellsG_get hu
        have hil : i < len := by simpa using hi
        rw [List.getElem?_map, List.getElem?_range hil] at ht
        injection ht with ht
        obtain ⟨g0, g1, g2, _⟩ := hq i (by omega)
        rw [Go.WideShapes.add_plain] at g0 g1 g2
        rw [← ht] at hc
        rcases hc with ⟨rfl, rfl⟩ | ⟨rfl, rfl⟩ | ⟨rfl, rfl⟩
        · exact g0
        · exact g1
        · exact g2
    · obtain ⟨i, hi, rfl⟩ := List.mem_map.1 ht
      exact (hq i (by have := List.mem_range.1 hi; omega)).2.2.2
end
end Go.Proofs.YtfhdihdafmahgaaGreatDoor
/- An argument that is a slice of rules, opened: it reads as a list of rules, in blocks of the world. -/
set_option linter.unusedVariables false
namespace Go.Proofs.YtfhdihdafmahgaaGreatDoor
open Go.ChangeShapes Go.WideShapes Go.ChangeAt Go.RowKit Go.Lib Go.Deep Ru
set_option maxRecDepth 100000
section
variable {H : Type} {enc : TypeId × Value → H} {W : World} {b0 : Nat} {sp : Nat → Bool} {hd : Bool}
theorem flat_get {α : Type} {f : α → List Value} {s : Nat} (hs : 0 < s) (hf : ∀ x, (f x).length = s) {l : List α} {j : Nat} {u : Value} (h : (l.flatMap f)[j]? = some u) : ∃ x, l[j / s]? = some x ∧ (f x)[j % s]? = some u := by
  have hj : j < l.length * s := by have := (List.getElem?_eq_some_iff.1 h).1; rw [flat_len hf] at this; exact this
  have hi : j / s < l.length := (Nat.div_lt_iff_lt_mul hs).2 hj
  have ht : l[j / s]? = some l[j / s] := List.getElem?_eq_getElem hi
  refine ⟨_, ht, ?_⟩
  rw [← flat_at hf l (j / s) (j % s) _ ht (Nat.mod_lt _ hs), Nat.mul_comm, Nat.div_add_mod]
  exact h
theorem open_rows {α : Type} [Inhabited α] {f : α → List Value} {s : Nat} {Q : α → Prop} {t e : TypeId} {fuel : Nat} {cs : List Value} {x : DataW H × List MemPlace}
    (ht : Tryz.prog.underlying t = some (.slice e)) (ce : Tryz.prog.cellsOf e = s) (hs : 0 < s) (hf : ∀ x, (f x).length = s)
    (hel : ∀ n cs y, DataW.trod enc Tryz.prog W b0 sp hd n e cs = some y → ∃ a : α, cs = f a ∧ Q a)
    (h : DataW.trod enc Tryz.prog W b0 sp hd fuel t cs = some x) :
    ∃ (A : Option Addr) (n c : Nat) (l : List α), cs = [.slice A n c] ∧ n ≤ c ∧ c ≤ maxLen ∧ l.length = n ∧ ReadsS W (· < W.heap.size) s A n (l.flatMap f) ∧ ∀ a ∈ l, Q a := by
  rcases open_slice ht h with ⟨rfl, _⟩ | ⟨a, len, cap, m, fu, D, Pl, rfl, _, hl, hm, hmm, _, hx⟩
  · exact ⟨none, 0, 0, [], rfl, Nat.le_refl _, Nat.zero_le _, rfl, ReadsS.nil, fun a ha => by cases ha⟩
  · have hlm : len ≤ m := by rw [hmm]; split <;> omega
    have each : ∀ i, i < m → ∃ q : α, (∀ j u, (f q)[j]? = some u → W.cell? (a.add (i * s + j)) = some u) ∧ Q q := by
      intro i hi
      obtain ⟨cs', h1, h2⟩ := hx i hi
      rw [ce] at h1
      obtain ⟨q, rfl, hq⟩ := hel _ _ _ h2
      obtain ⟨_, hlen, hcell⟩ := World.cells?_some h1
      refine ⟨q, fun j u hu => ?_, hq⟩
      have hj := (List.getElem?_eq_some_iff.1 hu).1
      have e0 := hcell j (by omega)
      rw [Go.Deep.add_add] at e0
      rw [e0, hu]
    obtain ⟨q, hq⟩ := choose_lt each
    refine ⟨some a, len, cap, (List.range len).map q, rfl, hl, hm, by simp, ⟨by rw [flat_len hf]; simp, fun hn => ?_⟩, fun y hy => ?_⟩
    · obtain ⟨b, off, fld⟩ := a
      have h0 : ∃ u, (f (q 0))[0]? = some u := ⟨_, List.getElem?_eq_getElem (by rw [hf]; exact hs)⟩
      obtain ⟨u0, h0⟩ := h0
      have c0 := (hq 0 (by omega)).1 0 u0 h0
      have hspot : fld = none := by simpa [Addr.add] using World.cell?_spot c0
      subst hspot
      refine ⟨b, off, rfl, ?_, fun j u hu => ?_⟩
      · rw [Go.WideShapes.add_plain] at c0
        exact World.block_lt_of_cell? _ _ c0
      · obtain ⟨y, hy, hc⟩ := flat_get hs hf hu
        have hil : j / s < len := by have := (List.getElem?_eq_some_iff.1 hy).1; simpa using this
        rw [List.getElem?_map, List.getElem?_range hil] at hy
        injection hy with hy
        rw [← hy] at hc
        have g := (hq (j / s) (by omega)).1 _ _ hc
        rw [Go.WideShapes.add_plain, Nat.mul_comm, Nat.div_add_mod] at g
        exact g
    · obtain ⟨i, hi, rfl⟩ := List.mem_map.1 hy
      exact (hq i (by have := List.mem_range.1 hi; omega)).2
/-- a struct of three parts -/
theorem st3 {fs : List Field} {n0 n1 n2 : String} {t0 t1 t2 : TypeId} {a0 a1 a2 : Nat} (hf : fs.map (fun f => (f.name, f.type, f.offset)) = [(n0, t0, a0), (n1, t1, a1), (n2, t2, a2)]) : ∃ f0 f1 f2, fs = [f0, f1, f2] ∧ f0.type = t0 ∧ f1.type = t1 ∧ f2.type = t2 ∧ f0.offset = a0 ∧ f1.offset = a1 ∧ f2.offset = a2 := by
  rcases fs with _ | ⟨a, _ | ⟨b, _ | ⟨c, _ | ⟨d, fs⟩⟩⟩⟩
  · simp at hf
  · simp at hf
  · simp at hf
  · simp only [List.map_cons, List.map_nil, List.cons.injEq, Prod.mk.injEq, and_true] at hf
    obtain ⟨⟨_, a2, a3⟩, ⟨_, b2, b3⟩, _, c2, c3⟩ := hf
    exact ⟨a, b, c, rfl, a2, b2, c2, a3, b3, c3⟩
  · simp at hf
theorem st2 {fs : List Field} {n0 n1 : String} {t0 t1 : TypeId} {a0 a1 : Nat} (hf : fs.map (fun f => (f.name, f.type, f.offset)) = [(n0, t0, a0), (n1, t1, a1)]) : ∃ f0 f1, fs = [f0, f1] ∧ f0.type = t0 ∧ f1.type = t1 ∧ f0.offset = a0 ∧ f1.offset = a1 := by
  rcases fs with _ | ⟨a, _ | ⟨b, _ | ⟨c, fs⟩⟩⟩
  · simp at hf
  · simp at hf
  · simp only [List.map_cons, List.map_nil, List.cons.injEq, Prod.mk.injEq, and_true] at hf
    obtain ⟨⟨_, a2, a3⟩, _, b2, b3⟩ := hf
    exact ⟨a, b, rfl, a2, b2, a3, b3⟩
  · simp at hf
theorem st4 {fs : List Field} {n0 n1 n2 n3 : String} {t0 t1 t2 t3 : TypeId} {a0 a1 a2 a3 : Nat} (hf : fs.map (fun f => (f.name, f.type, f.offset)) = [(n0, t0, a0), (n1, t1, a1), (n2, t2, a2), (n3, t3, a3)]) : ∃ f0 f1 f2 f3, fs = [f0, f1, f2, f3] ∧ f0.type = t0 ∧ f1.type = t1 ∧ f2.type = t2 ∧ f3.type = t3 ∧ f0.offset = a0 ∧ f1.offset = a1 ∧ f2.offset = a2 ∧ f3.offset = a3 := by
  rcases fs with _ | ⟨a, _ | ⟨b, _ | ⟨c, _ | ⟨d, _ | ⟨e, fs⟩⟩⟩⟩⟩
  · simp at hf
  · simp at hf
  · simp at hf
  · simp at hf
  · simp only [List.map_cons, List.map_nil, List.cons.injEq, Prod.mk.injEq, and_true] at hf
    obtain ⟨⟨_, a2, a3⟩, ⟨_, b2, b3⟩, ⟨_, c2, c3⟩, _, d2, d3⟩ := hf
    exact ⟨a, b, c, d, rfl, a2, b2, c2, d2, a3, b3, c3, d3⟩
  · simp at hf
theorem und_of {t : TypeId} {l : List Field} (h1 : Tryz.prog.underlying t = some (.struct (Tryz.prog.fieldsOf t))) (h2 : (Tryz.prog.fieldsOf t).toList = l) : Tryz.prog.underlying t = some (.struct l.toArray) := by
  rw [h1]
  congr 2
  apply Array.ext'
  rw [h2]
theorem decl_fields : (Tryz.prog.fieldsOf 34).toList.map (fun f => (f.name, f.type, f.offset)) = [("Name", 9, 0), ("Value", 32, 1), ("Important", 4, 2)] := by kernel_rfl
theorem margin_fields : (Tryz.prog.fieldsOf 41).toList.map (fun f => (f.name, f.type, f.offset)) = [("Name", 9, 0), ("Decls", 31, 1)] := by kernel_rfl
theorem rule_fields : (Tryz.prog.fieldsOf 39).toList.map (fun f => (f.name, f.type, f.offset)) = [("Kind", 3, 0), ("Prelude", 32, 1), ("Decls", 31, 2), ("Margins", 37, 3)] := by kernel_rfl
theorem decl_under : Tryz.prog.underlying 34 = some (.struct (Tryz.prog.fieldsOf 34)) := by kernel_rfl
theorem margin_under : Tryz.prog.underlying 41 = some (.struct (Tryz.prog.fieldsOf 41)) := by kernel_rfl
theorem rule_under : Tryz.prog.underlying 39 = some (.struct (Tryz.prog.fieldsOf 39)) := by kernel_rfl
theorem co_int : Tryz.prog.cellsOf 3 = 1 := by kernel_rfl
theorem co_str : Tryz.prog.cellsOf 9 = 1 := by kernel_rfl
theorem co_bool : Tryz.prog.cellsOf 4 = 1 := by kernel_rfl
theorem co_toks : Tryz.prog.cellsOf 32 = 1 := by kernel_rfl
theorem co_decls : Tryz.prog.cellsOf 31 = 1 := by kernel_rfl
theorem co_margins : Tryz.prog.cellsOf 37 = 1 := by kernel_rfl
theorem co_tok : Tryz.prog.cellsOf 58 = 3 := by kernel_rfl
theorem co_decl : Tryz.prog.cellsOf 34 = 3 := by kernel_rfl
theorem co_margin : Tryz.prog.cellsOf 41 = 2 := by kernel_rfl
theorem co_rule : Tryz.prog.cellsOf 39 = 4 := by kernel_rfl
theorem el_tok {n : Nat} {cs : List Value} {y : DataW H × List MemPlace} (h : DataW.trod enc Tryz.prog W b0 sp hd n 58 cs = some y) : ∃ t : GTok, cs = cells1 t ∧ okT t := by
  obtain ⟨f0, f1, f2, hfs, y0, y1, y2, o0, o1, o2⟩ := st3 tok_fields
  obtain ⟨xs, k, hk, hxy, hl, hxl, hf⟩ := DataW.trod_struct (und_of tok_under hfs) h
  rw [co_tok] at hl
  match xs, hxl, cs, hl with
  | [z0, z1, z2], _, [v0, v1, v2], _ =>
    have g0 := hf 0 f0 rfl
    have g1 := hf 1 f1 rfl
    have g2 := hf 2 f2 rfl
    simp [o0, o1, o2, y0, y1, y2, co_int, co_str] at g0 g1 g2
    obtain ⟨n0, q0, _, w0⟩ := DataW.trod_int Tryz.underlying3 g0
    obtain ⟨s1, q1, _, w1⟩ := DataW.trod_string Tryz.underlying9 g1
    obtain ⟨n2, q2, _, w2⟩ := DataW.trod_int Tryz.underlying3 g2
    simp only [List.cons.injEq, and_true] at q0 q1 q2
    subst q0 q1 q2
    refine ⟨⟨n0, s1.data.toList, n2⟩, by simp [cells1, bytesOf_eta], ?_, bounds_i64 w2⟩
    have : s1.data.toList.length = s1.size := by rw [Array.length_toList]; rfl
    rw [this]; exact w1
instance : Inhabited MDecl := ⟨⟨⟨[], [], false⟩, none, 0⟩⟩
instance : Inhabited MMargin := ⟨⟨⟨[], []⟩, none, 0⟩⟩
instance : Inhabited MRule := ⟨⟨⟨0, [], [], []⟩, none, 0, none, 0, none, 0⟩⟩
theorem sl_toks {n : Nat} {cs : List Value} {y : DataW H × List MemPlace} (h : DataW.trod enc Tryz.prog W b0 sp hd n 32 cs = some y) :
    ∃ (A : Option Addr) (c : Nat) (l : List GTok), cs = [.slice A l.length c] ∧ l.length ≤ maxLen ∧ ReadsS W (· < W.heap.size) 3 A l.length (cellsG l) ∧ ∀ t ∈ l, okT t := by
  obtain ⟨A, n, c, l, rfl, h1, h2, rfl, h3, h4⟩ := open_rows (f := cells1) (Q := okT) Tryz.underlying32 co_tok (by omega) cells1_len (fun _ _ _ h => el_tok h) h
  exact ⟨A, c, l, rfl, by omega, h3, h4⟩
theorem el_decl {n : Nat} {cs : List Value} {y : DataW H × List MemPlace} (h : DataW.trod enc Tryz.prog W b0 sp hd n 34 cs = some y) : ∃ m : MDecl, cs = m.cells ∧ ReadsS W (· < W.heap.size) 3 m.A m.d.value.length (cellsG m.d.value) ∧ okD m.d := by
  obtain ⟨f0, f1, f2, hfs, y0, y1, y2, o0, o1, o2⟩ := st3 decl_fields
  obtain ⟨xs, k, hk, hxy, hl, hxl, hf⟩ := DataW.trod_struct (und_of decl_under hfs) h
  rw [co_decl] at hl
  match xs, hxl, cs, hl with
  | [z0, z1, z2], _, [v0, v1, v2], _ =>
    have g0 := hf 0 f0 rfl
    have g1 := hf 1 f1 rfl
    have g2 := hf 2 f2 rfl
    simp [o0, o1, o2, y0, y1, y2, co_toks, co_str, co_bool] at g0 g1 g2
    obtain ⟨s0, q0, _, w0⟩ := DataW.trod_string Tryz.underlying9 g0
    obtain ⟨A, c, l, q1, hl1, hr, hq⟩ := sl_toks g1
    obtain ⟨b2, q2, _⟩ := DataW.trod_bool Tryz.underlying4 g2
    simp only [List.cons.injEq, and_true] at q0 q1 q2
    subst q0 q1 q2
    have : s0.data.toList.length = s0.size := by rw [Array.length_toList]; rfl
    exact ⟨⟨⟨s0.data.toList, l, b2⟩, A, c⟩, by simp [MDecl.cells, bytesOf_eta], hr, by rw [this]; exact w0, hl1, hq⟩
theorem sl_decls {n : Nat} {cs : List Value} {y : DataW H × List MemPlace} (h : DataW.trod enc Tryz.prog W b0 sp hd n 31 cs = some y) :
    ∃ (A : Option Addr) (c : Nat) (l : List Decl), cs = [.slice A l.length c] ∧ l.length ≤ maxLen ∧ DeclsS W (· < W.heap.size) A l.length l ∧ ∀ d ∈ l, okD d := by
  obtain ⟨A, n, c, l, rfl, h1, h2, rfl, h3, h4⟩ := open_rows (f := MDecl.cells) (Q := fun m => ReadsS W (· < W.heap.size) 3 m.A m.d.value.length (cellsG m.d.value) ∧ okD m.d) Tryz.underlying31 co_decl (by omega) MDecl.len (fun _ _ _ h => el_decl h) h
  refine ⟨A, c, l.map (·.d), by rw [List.length_map], by rw [List.length_map]; omega, ?_, fun d hd' => ?_⟩
  · rw [List.length_map]; exact ⟨l, rfl, h3, fun m hm => (h4 m hm).1⟩
  · obtain ⟨m, hm, rfl⟩ := List.mem_map.1 hd'
    exact (h4 m hm).2
theorem el_margin {n : Nat} {cs : List Value} {y : DataW H × List MemPlace} (h : DataW.trod enc Tryz.prog W b0 sp hd n 41 cs = some y) : ∃ m : MMargin, cs = m.cells ∧ DeclsS W (· < W.heap.size) m.A m.m.decls.length m.m.decls ∧ okM m.m := by
  obtain ⟨f0, f1, hfs, y0, y1, o0, o1⟩ := st2 margin_fields
  obtain ⟨xs, k, hk, hxy, hl, hxl, hf⟩ := DataW.trod_struct (und_of margin_under hfs) h
  rw [co_margin] at hl
  match xs, hxl, cs, hl with
  | [z0, z1], _, [v0, v1], _ =>
    have g0 := hf 0 f0 rfl
    have g1 := hf 1 f1 rfl
    simp [o0, o1, y0, y1, co_decls, co_str] at g0 g1
    obtain ⟨s0, q0, _, w0⟩ := DataW.trod_string Tryz.underlying9 g0
    obtain ⟨A, c, l, q1, hl1, hr, hq⟩ := sl_decls g1
    simp only [List.cons.injEq, and_true] at q0 q1
    subst q0 q1
    have : s0.data.toList.length = s0.size := by rw [Array.length_toList]; rfl
    exact ⟨⟨⟨s0.data.toList, l⟩, A, c⟩, by simp [MMargin.cells, bytesOf_eta], hr, by rw [this]; exact w0, hl1, hq⟩
theorem sl_margins {n : Nat} {cs : List Value} {y : DataW H × List MemPlace} (h : DataW.trod enc Tryz.prog W b0 sp hd n 37 cs = some y) :
    ∃ (A : Option Addr) (c : Nat) (l : List Margin), cs = [.slice A l.length c] ∧ l.length ≤ maxLen ∧ MarginsS W (· < W.heap.size) A l.length l ∧ ∀ d ∈ l, okM d := by
  obtain ⟨A, n, c, l, rfl, h1, h2, rfl, h3, h4⟩ := open_rows (f := MMargin.cells) (Q := fun m => DeclsS W (· < W.heap.size) m.A m.m.decls.length m.m.decls ∧ okM m.m) Tryz.underlying37 co_margin (by omega) MMargin.len (fun _ _ _ h => el_margin h) h
  refine ⟨A, c, l.map (·.m), by rw [List.length_map], by rw [List.length_map]; omega, ?_, fun d hd' => ?_⟩
  · rw [List.length_map]; exact ⟨l, rfl, h3, fun m hm => (h4 m hm).1⟩
  · obtain ⟨m, hm, rfl⟩ := List.mem_map.1 hd'
    exact (h4 m hm).2
theorem el_rule {n : Nat} {cs : List Value} {y : DataW H × List MemPlace} (h : DataW.trod enc Tryz.prog W b0 sp hd n 39 cs = some y) : ∃ m : MRule, cs = m.cells ∧ m.Reads W (· < W.heap.size) ∧ okR m.r := by
  obtain ⟨f0, f1, f2, f3, hfs, y0, y1, y2, y3, o0, o1, o2, o3⟩ := st4 rule_fields
  obtain ⟨xs, k, hk, hxy, hl, hxl, hf⟩ := DataW.trod_struct (und_of rule_under hfs) h
  rw [co_rule] at hl
  match xs, hxl, cs, hl with
  | [z0, z1, z2, z3], _, [v0, v1, v2, v3], _ =>
    have g0 := hf 0 f0 rfl
    have g1 := hf 1 f1 rfl
    have g2 := hf 2 f2 rfl
    have g3 := hf 3 f3 rfl
    simp [o0, o1, o2, o3, y0, y1, y2, y3, co_toks, co_int, co_decls, co_margins] at g0 g1 g2 g3
    obtain ⟨n0, q0, _, w0⟩ := DataW.trod_int Tryz.underlying3 g0
    obtain ⟨A1, c1, l1, q1, hl1, hr1, hq1⟩ := sl_toks g1
    obtain ⟨A2, c2, l2, q2, hl2, hr2, hq2⟩ := sl_decls g2
    obtain ⟨A3, c3, l3, q3, hl3, hr3, hq3⟩ := sl_margins g3
    simp only [List.cons.injEq, and_true] at q0 q1 q2 q3
    subst q0 q1 q2 q3
    exact ⟨⟨⟨n0, l1, l2, l3⟩, A1, c1, A2, c2, A3, c3⟩, rfl, ⟨hr1, hr2, hr3⟩, hl1, hq1, hl2, hq2, hl3, hq3⟩
theorem open_rules {base : Nat} {v : Value} {d : DataW H} {ps : List MemPlace} (hv : Value.okWide Tryz.prog W .any base 24 v) (h : DataW.Trod enc Tryz.prog W b0 sp hd 24 v d ps) :
    ∃ (A : Option Addr) (n c : Nat) (l : List Rule), v = .slice A n c ∧ n ≤ c ∧ c ≤ maxLen ∧ RulesS W (· < W.heap.size) A n l ∧ ∀ r ∈ l, okR r := by
  obtain ⟨a0, len, cap, rfl⟩ := okWide_slice Tryz.underlying24 hv
  obtain ⟨fuel, hf⟩ := h
  obtain ⟨A, n, c, l, hcs, h1, h2, rfl, h3, h4⟩ := open_rows (f := MRule.cells) (Q := fun m => m.Reads W (· < W.heap.size) ∧ okR m.r) Tryz.underlying24 co_rule (by omega) MRule.len (fun _ _ _ h => el_rule h) hf
  simp only [Value.cells, List.cons.injEq, Value.slice.injEq, and_true] at hcs
  obtain ⟨rfl, rfl, rfl⟩ := hcs
  refine ⟨a0, _, cap, l.map (·.r), rfl, h1, h2, ⟨l, rfl, h3, fun m hm => (h4 m hm).1⟩, fun d hd' => ?_⟩
  obtain ⟨m, hm, rfl⟩ := List.mem_map.1 hd'
  exact (h4 m hm).2
end
end Go.Proofs.YtfhdihdafmahgaaGreatDoor
/- Layer 6: the law RulesSame's own comparison: lists gone through side by side. -/
set_option linter.unusedVariables false
set_option linter.unusedSimpArgs false
namespace Go.Proofs.YtfhdihdafmahgaaGreatDoor
open Go.RowKit Rn Tp Ru
namespace Ru
/-- two lists, gone through side by side so far: whether they are the same -/
def SI {α : Type} (xs ys : List α) (k : Nat) (ok : Bool) : Prop := if ok = true then xs.length = ys.length ∧ xs.take k = ys.take k else xs ≠ ys
theorem SI.start {α : Type} (xs ys : List α) : SI xs ys 0 (decide (xs.length = ys.length)) := by
  unfold SI
  by_cases h : xs.length = ys.length
  · rw [decide_eq_true h, if_pos rfl]; exact ⟨h, rfl⟩
  · rw [decide_eq_false h, if_neg (by decide)]; exact fun e => h (by rw [e])
theorem SI.step {α : Type} [DecidableEq α] {xs ys : List α} {k : Nat} {x y : α} (h : SI xs ys k true) (hx : xs[k]? = some x) (hy : ys[k]? = some y) : SI xs ys (k + 1) (decide (x = y)) := by
  unfold SI at h ⊢
  rw [if_pos rfl] at h
  by_cases e : x = y
  · rw [decide_eq_true e, if_pos rfl]
    refine ⟨h.1, ?_⟩
    rw [List.take_add_one, List.take_add_one, hx, hy, h.2, e]
  · rw [decide_eq_false e, if_neg (by decide)]
    intro he
    rw [he, hy] at hx
    injection hx with hx
    exact e hx.symm
theorem SI.done {α : Type} [DecidableEq α] {xs ys : List α} {k : Nat} {ok : Bool} (h : SI xs ys k ok) (hk : ok = true → xs.length ≤ k) : ok = decide (xs = ys) := by
  unfold SI at h
  cases ok with
  | true =>
    rw [if_pos rfl] at h
    have h2 := hk rfl
    have h3 := h.2
    rw [List.take_of_length_le h2, List.take_of_length_le (by have := h.1; omega)] at h3
    exact (decide_eq_true h3).symm
  | false =>
    rw [if_neg (by decide)] at h
    exact (decide_eq_false h).symm
theorem SI.len {α : Type} {xs ys : List α} {k : Nat} (h : SI xs ys k true) : xs.length = ys.length := by
  unfold SI at h; rw [if_pos rfl] at h; exact h.1
/-- a rule's margin rules, gone through side by side, when all else of them is the same -/
def RI (x y : Rule) (k : Nat) (ok : Bool) : Prop := if ok = true then (x.kind = y.kind ∧ x.prelude = y.prelude ∧ x.decls = y.decls) ∧ SI x.margins y.margins k true else x ≠ y
theorem RI.start {x y : Rule} {p1 p2 p3 p4 g : Bool} (h1 : decide (x.kind = y.kind) = p1) (h2 : decide (x.prelude = y.prelude) = p2) (h3 : decide (x.decls = y.decls) = p3) (h4 : decide (x.margins.length = y.margins.length) = p4) (hg : g = (p1 && p2 && p3 && p4)) : RI x y 0 g := by
  unfold RI
  cases g with
  | true =>
    rw [if_pos rfl]
    have h := hg.symm
    simp only [Bool.and_eq_true] at h
    obtain ⟨⟨⟨a1, a2⟩, a3⟩, a4⟩ := h
    rw [← h1] at a1; rw [← h2] at a2; rw [← h3] at a3; rw [← h4] at a4
    refine ⟨⟨of_decide_eq_true a1, of_decide_eq_true a2, of_decide_eq_true a3⟩, ?_⟩
    have := SI.start x.margins y.margins
    rw [a4] at this; exact this
  | false =>
    rw [if_neg (by decide)]
    intro e
    subst e
    have e1 : p1 = true := by rw [← h1]; simp
    have e2 : p2 = true := by rw [← h2]; simp
    have e3 : p3 = true := by rw [← h3]; simp
    have e4 : p4 = true := by rw [← h4]; simp
    rw [e1, e2, e3, e4] at hg
    cases hg
theorem RI.step {x y : Rule} {k : Nat} {m n : Margin} (h : RI x y k true) (hx : x.margins[k]? = some m) (hy : y.margins[k]? = some n) : RI x y (k + 1) (decide (m = n)) := by
  unfold RI at h ⊢
  rw [if_pos rfl] at h
  have h2 := SI.step h.2 hx hy
  cases hd : decide (m = n) with
  | true => rw [if_pos rfl]; rw [hd] at h2; exact ⟨h.1, h2⟩
  | false =>
    rw [if_neg (by decide)]
    rw [hd] at h2
    unfold SI at h2
    rw [if_neg (by decide)] at h2
    intro e; exact h2 (by rw [e])
theorem RI.done {x y : Rule} {k : Nat} {ok : Bool} (h : RI x y k ok) (hk : ok = true → x.margins.length ≤ k) : ok = decide (x = y) := by
  unfold RI at h
  cases ok with
  | true =>
    rw [if_pos rfl] at h
    have h2 := SI.done h.2 hk
    obtain ⟨⟨a1, a2, a3⟩, _⟩ := h
    refine (decide_eq_true ?_).symm
    have a4 := of_decide_eq_true h2.symm
    obtain ⟨x1, x2, x3, x4⟩ := x
    obtain ⟨y1, y2, y3, y4⟩ := y
    simp only [] at a1 a2 a3 a4
    rw [a1, a2, a3, a4]
  | false =>
    rw [if_neg (by decide)] at h
    exact (decide_eq_false h).symm
theorem RI.len {x y : Rule} {k : Nat} (h : RI x y k true) : x.margins.length = y.margins.length := by
  unfold RI at h; rw [if_pos rfl] at h; exact h.2.len
end Ru
theorem decl_dec (x y : Decl) : decide (x = y) = (decide (x.name = y.name) && (x.imp == y.imp) && decide (x.value = y.value)) := by
  obtain ⟨a, b, c⟩ := x
  obtain ⟨d, e, f⟩ := y
  rw [Bool.eq_iff_iff]
  simp only [decide_eq_true_eq, Bool.and_eq_true, beq_iff_eq, Decl.mk.injEq]
  constructor
  · rintro ⟨h1, h2, h3⟩; exact ⟨⟨h1, h3⟩, h2⟩
  · rintro ⟨⟨h1, h3⟩, h2⟩; exact ⟨h1, h2, h3⟩
set_option maxRecDepth 100000 in
set_option maxHeartbeats 8000000 in
theorem ru_lsame1 (xs ys : List Decl) (A A' : Option Addr) (n m c c' : Nat) (w : World) (hx : DeclsS w (· < w.heap.size) A n xs) (hy : DeclsS w (· < w.heap.size) A' m ys) (hn : n ≤ 1000000) (hss : ∀ d ∈ xs, d.value.length ≤ 1000000) :
    Calls Tryz.prog 13 #[.slice A n c, .slice A' m c'] w fun e w' => e = .returned (.bool (decide (xs = ys))) ∧ Below w.heap.size w w' := by
  have hlx := hx.len
  have hly := hy.len
  have Hlx := Lib.hid hlx
  have Hly := Lib.hid hly
  have Hss := Lib.hid hss
  clear hlx hly hss
  have hs0 : Hid (SI xs ys 0 ((n : Int) == (m : Int))) := by
    have h := SI.start xs ys
    rw [Hlx.out, Hly.out] at h
    have e : decide (n = m) = ((n : Int) == (m : Int)) := by rw [Bool.eq_iff_iff]; simp; omega
    rw [e] at h; exact h
  go_enter Tryz.func13, Tryz.ntmps13
  go_wp2_with fail
  go_loopw [5, 6] (fun o i wr => ∃ (k : Nat) (g : Bool), k ≤ n ∧ o = .bool g ∧ i = .int .i64 (k : Int) ∧ Hid (SI xs ys k g) ∧ Below w.heap.size w wr) (fun _ i _ => n - (intOf i).toNat)
  case atStart => exact ⟨0, _, by omega, rfl, rfl, hs0, Below.refl _ _⟩
  case round =>
    obtain ⟨k, g, hk, rfl, rfl, hsi, hb⟩ := hrel
    have hbs := hb.size
    obtain ⟨u, hu⟩ : ∃ x, x = wr := ⟨_, rfl⟩
    subst hu
    by_cases hlt : k < n
    · have dk : (k : Int) < (n : Int) := by omega
      cases g with
      | true =>
        have hnm : n = m := by have := hsi.out.len; rw [Hlx.out, Hly.out] at this; exact this
        have hkm : k < m := by omega
        have dkm : (k : Int) < (m : Int) := by omega
        have dk0 : (0 : Int) ≤ (k : Int) := by omega
        have Hnm := Lib.hid hnm
        clear hnm
        obtain ⟨b, off, A1, c1, x, hA, hbl, hxk, f0, f1, f2, hX⟩ := hx.at_ hlt
        obtain ⟨b', off', A2, c2, y, hA', hbl', hyk, g0, g1, g2, hY⟩ := hy.at_ hkm
        subst hA hA'
        have hbu : b < u.heap.size := Nat.lt_of_lt_of_le hbl hbs
        have hbu' : b' < u.heap.size := Nat.lt_of_lt_of_le hbl' hbs
        have x0 := bw_cell (B := u.heap.size) ((hb.cell (p := ⟨b, off + k * 3, none⟩) hbl).trans f0) hbu
        have x1 := bw_cell (B := u.heap.size) ((hb.cell (p := ⟨b, off + k * 3 + 1, none⟩) hbl).trans f1) hbu
        have x2 := bw_cell (B := u.heap.size) ((hb.cell (p := ⟨b, off + k * 3 + 2, none⟩) hbl).trans f2) hbu
        have y0 := bw_cell (B := u.heap.size) ((hb.cell (p := ⟨b', off' + k * 3, none⟩) hbl').trans g0) hbu'
        have y1 := bw_cell (B := u.heap.size) ((hb.cell (p := ⟨b', off' + k * 3 + 1, none⟩) hbl').trans g1) hbu'
        have y2 := bw_cell (B := u.heap.size) ((hb.cell (p := ⟨b', off' + k * 3 + 2, none⟩) hbl').trans g2) hbu'
        have hXb : ReadsT u u.heap.size A1 x.value.length x.value := (hX.keep (Kept.of_below hb (fun b h => h))).more (fun b h => Nat.lt_of_lt_of_le h hbs)
        have hYb : ReadsT u u.heap.size A2 y.value.length y.value := (hY.keep (Kept.of_below hb (fun b h => h))).more (fun b h => Nat.lt_of_lt_of_le h hbs)
        have hxx := Hss.out x (List.mem_of_getElem? hxk)
        have cT := fun W : BW u.heap.size u => toks_same x.value y.value A1 A2 x.value.length y.value.length c1 c2 W.val (hXb.below W.is) (hYb.below W.is) hxx
        have hnew := hsi.out.step hxk hyk
        rw [decl_dec] at hnew
        have hs := str_cmp x.name y.name
        obtain ⟨p1, hp1⟩ : ∃ p, decide (x.name = y.name) = p := ⟨_, rfl⟩
        obtain ⟨p2, hp2⟩ : ∃ p, (x.imp == y.imp) = p := ⟨_, rfl⟩
        obtain ⟨p3, hp3⟩ : ∃ p, decide (x.value = y.value) = p := ⟨_, rfl⟩
        rw [hp1, hp2, hp3] at hnew
        rw [hp1] at hs
        rw [hp3] at cT
        have Hnew := Lib.hid hnew
        have wk : IntKind.i64.wrap ((k : Int) + 1) = (k : Int) + 1 := by rw [IntKind.wrap_i64]; omega
        clear hp1 hp3 hsi f0 f1 f2 g0 g1 g2 hX hY hXb hYb hxk hyk hnew hs0
        go_upto_region 5 with (fail)
        cases p1 with
        | false =>
          have HN : Hid (SI xs ys (k + 1) false) := Hnew.out
          refine wp_region_bw u.heap.size (by kernel_rfl) (by kernel_rfl) ?_
          repeat (go_big_quiet_step (first | (go_at_call 14; rename_i W; exact calls_bw (Nat.le_refl _) (cT W))))
          refine wpQuiet_nil ?_
          intro _ hw'
          obtain ⟨W, rfl⟩ := hw'
          have hB := hb.trans (W.is.mono hbs)
          clear cT hs hp2 x0 x1 x2 y0 y1 y2
          go_wp2_with fail
          go_roundw
          case rel => exact ⟨k + 1, _, by omega, rfl, by go_num, HN, hB⟩
          case measure => simp [intOf]; omega
        | true =>
          cases p2 with
          | false =>
            have HN : Hid (SI xs ys (k + 1) false) := Hnew.out
            refine wp_region_bw u.heap.size (by kernel_rfl) (by kernel_rfl) ?_
            repeat (go_big_quiet_step (first | (go_at_call 14; rename_i W; exact calls_bw (Nat.le_refl _) (cT W))))
            refine wpQuiet_nil ?_
            intro _ hw'
            obtain ⟨W, rfl⟩ := hw'
            have hB := hb.trans (W.is.mono hbs)
            clear cT hs hp2 x0 x1 x2 y0 y1 y2
            go_wp2_with fail
            go_roundw
            case rel => exact ⟨k + 1, _, by omega, rfl, by go_num, HN, hB⟩
            case measure => simp [intOf]; omega
          | true =>
            have HN : Hid (SI xs ys (k + 1) p3) := by have := Hnew.out; rw [Bool.true_and, Bool.true_and] at this; exact this
            refine wp_region_bw u.heap.size (by kernel_rfl) (by kernel_rfl) ?_
            repeat (go_big_quiet_step (first | (go_at_call 14; rename_i W; exact calls_bw (Nat.le_refl _) (cT W))))
            refine wpQuiet_nil ?_
            intro _ hw'
            obtain ⟨W, rfl⟩ := hw'
            have hB := hb.trans (W.is.mono hbs)
            clear cT hs hp2 x0 x1 x2 y0 y1 y2
            go_wp2_with fail
            go_roundw
            case rel => exact ⟨k + 1, _, by omega, rfl, by go_num, HN, hB⟩
            case measure => simp [intOf]; omega
      | false =>
        have hf := hsi.out.done (fun h => by cases h)
        have HF := Lib.hid hf
        clear hf hsi hs0
        go_wp2_with fail
        go_ret
        exact ⟨ret_bool HF.out, hb⟩
    · obtain rfl : k = n := by omega
      have dk : ¬ (k : Int) < (k : Int) := by omega
      have hf := hsi.out.done (fun _ => by rw [Hlx.out]; omega)
      have HF := Lib.hid hf
      have hun : (undef : Value) = .tuple #[] := rfl
      clear hf hsi hs0
      go_wp2_with fail
      go_ret
      exact ⟨ret_bool HF.out, hb⟩
end Go.Proofs.YtfhdihdafmahgaaGreatDoor
/- Layer 6: the law's own is walked: a copy of rules. -/
set_option linter.unusedVariables false
set_option linter.unusedSimpArgs false
namespace Go.Proofs.YtfhdihdafmahgaaGreatDoor
open Go.RowKit Rn Tp Ru
/-- a row of declarations of the call's own -/
structure DJ (w wr : World) (v : Value) (md : List MDecl) : Prop where
  bel : Below w.heap.size w wr
  own : wr.ownsRow w.heap.size 34 3 v md.length (cellsD md)
  rd : DeclsM wr (RS w wr v) md
section
variable {w wr W w3 : World} {v v' : Value} {md : List MDecl} {o : Obj}
theorem DJ.start (w : World) : DJ w w (.slice none 0 0) [] := ⟨Below.refl _ _, World.ownsRow_nil _ _ _ _, (fun m hm => by cases hm)⟩
theorem DJ.below (h : DJ w wr v md) (hb : Below wr.heap.size wr W) : DJ w W v md :=
  ⟨h.bel.trans (hb.mono h.bel.size), own_below h.own hb, (h.rd.keep (Kept.of_below hb (fun b h => h.2.1))).more (fun b hb' => ⟨hb'.1, Nat.lt_of_lt_of_le hb'.2.1 hb.size, hb'.2.2⟩)⟩
theorem DJ.push {m : MDecl} (h : DJ w W v md) (hm : ReadsS W (RS w W v) 3 m.A m.d.value.length (cellsG m.d.value)) (hw : w.heap.size ≤ W.heap.size)
    (hown : w3.ownsRow w.heap.size 34 3 v' (md.length + 1) (cellsD md ++ m.cells)) (hg : (W.alloc o).grownBy w3 v.ownBlock) (hat : v'.ownBlock = v.ownBlock ∨ v'.ownBlock = some (W.heap.size + 1)) : DJ w w3 v' (md ++ [m]) := by
  have hsz : W.heap.size + 1 ≤ w3.heap.size := by have := hg.size; simpa using this
  have hS : ∀ b, RS w W v b → RS w w3 v' b := fun b hb => ⟨hb.1, by have := hb.2.1; omega, by
    rcases hat with e | e
    · rw [e]; exact hb.2.2
    · rw [e]; intro e2; injection e2 with e2; have := hb.2.1; omega⟩
  have hkA : Kept (RS w W v) W (W.alloc o) := Kept.of_alloc o (fun b hb => hb.2.1)
  have hkG : Kept (RS w W v) (W.alloc o) w3 := Kept.of_grown hg (fun b hb => ⟨by have := hb.2.1; simp; omega, fun e => hb.2.2 e.symm⟩)
  have hk := hkA.trans hkG
  exact ⟨push_below h.bel hw h.own hg, by rw [List.length_append, cellsD_snoc]; exact hown, ((h.rd.keep hk).more hS).snoc ((hm.keep hk).more hS)⟩
theorem DJ.done {A : Option Addr} {n c : Nat} (h : DJ w wr (.slice A n c) md) (hn : n = md.length) : DeclsS wr (Fresh w wr) A n (md.map (·.d)) := by
  subst hn
  exact ⟨md, rfl, ReadsS.of_own h.own (fun b hb => h.own.lt b hb), h.rd.more (fun b hb => ⟨hb.1, hb.2.1⟩)⟩
end
def OwnD (ds : List Decl) (w : World) (e : Ending) (w' : World) : Prop := (∃ A c, e = .returned (.slice A ds.length c) ∧ DeclsS w' (Fresh w w') A ds.length ds) ∧ Below w.heap.size w w'
set_option maxRecDepth 100000 in
set_option maxHeartbeats 4000000 in
theorem ru_own1 (ds : List Decl) (A : Option Addr) (n c : Nat) (w : World) (h : DeclsS w (· < w.heap.size) A n ds) (hn : n ≤ 1000) (hs : ∀ d ∈ ds, d.value.length ≤ 1000000) :
    Calls Tryz.prog 49 #[.slice A n c] w (OwnD ds w) := by
  have hlen := h.len
  have Hlen := Lib.hid hlen
  have Hs := Lib.hid hs
  obtain ⟨hi0, hi, hz0, hz1, hz2⟩ := info_take ru_tok_info
  obtain ⟨di0, di, dz0, dz1, dz2⟩ := info_take ru_decl_info
  clear hlen hs
  go_enter Tryz.func49, Tryz.ntmps49
  go_wp2_with fail
  go_loopw [3, 8] (fun v i wr => ∃ (k : Nat) (A1 : Option Addr) (n1 c1 : Nat) (md : List MDecl), k ≤ n ∧ i = .int .i64 (k : Int) ∧ v = .slice A1 n1 c1 ∧ Hid (n1 = k ∧ md.length = k ∧ md.map (·.d) = ds.take k) ∧ DJ w wr (.slice A1 n1 c1) md) (fun _ i _ => n - (intOf i).toNat)
  case atStart => exact ⟨0, none, 0, 0, [], by omega, rfl, rfl, ⟨rfl, rfl, rfl⟩, DJ.start w⟩
  case round =>
    obtain ⟨k, A1, n1, c1, md, hk, rfl, rfl, hmd, hJ⟩ := hrel
    have hb := hJ.bel
    have hbs := hb.size
    by_cases hlt : k < n
    · obtain ⟨b, off, A2, c2, d, hA, hbl, hdk, f0, f1, f2, hX⟩ := h.at_ hlt
      subst hA
      have hki : (k : Int) < (n : Int) := by omega
      have hdl := Hs.out d (List.mem_of_getElem? hdk)
      replace f0 := (hb.cell (p := ⟨b, off + k * 3, none⟩) hbl).trans f0
      replace f1 := (hb.cell (p := ⟨b, off + k * 3 + 1, none⟩) hbl).trans f1
      replace f2 := (hb.cell (p := ⟨b, off + k * 3 + 2, none⟩) hbl).trans f2
      obtain ⟨WA, hWA⟩ : ∃ WA, wr.alloc (.cells #[.string (bytesOf d.name), .slice A2 d.value.length c2, .bool d.imp] 34) = WA := ⟨_, rfl⟩
      have bA : Below wr.heap.size wr WA := by rw [← hWA]; exact (Below.refl _ _).alloc (Nat.le_refl _) _
      have rA : RowAt WA wr.heap.size [.string (bytesOf d.name), .slice A2 d.value.length c2, .bool d.imp] := by rw [← hWA]; exact RowAt.new _ _ _
      have hBA := hb.trans (bA.mono hbs)
      have hltA := rA.1
      obtain ⟨a0, _⟩ := rA.2 0 _ rfl
      obtain ⟨a1, g1⟩ := rA.2 1 _ rfl
      obtain ⟨a2, _⟩ := rA.2 2 _ rfl
      have hR : Reads WA WA.heap.size 3 A2 d.value.length (cellsG d.value) := hX.below hBA
      have hR2 := hR.alloc (Nat.le_refl _) (.cells #[] 58)
      have own0 := World.ownsRow_made (base := WA.heap.size) (e := 58) (size := 3) WA #[] 0 (Nat.le_refl _) (Nat.zero_le _) rfl
      have b0 : Below WA.heap.size WA (WA.alloc (.cells #[] 58)) := (Below.refl _ _).alloc (Nat.le_refl _) _
      have h1 := cells_one d.value
      have Hdk := Lib.hid hdk
      have l0 := hJ.own.lt
      have HJ := Lib.hid hJ
      have b1 := (b0.cell (p := ⟨wr.heap.size, 1, none⟩) hltA).trans a1
      clear hdk hX hR hJ
      go_wp2_with (at_builtin; refine wpList_append_reads _ rfl _ _ 32 rfl WA.heap.size 58 hi0 _ 3 32 Tryz.underlying32 hi hz0 hz1 hz2 rfl (by decide) _ 0 [] rfl own0 WA.heap.size A2 d.value.length c2 (cellsG d.value) rfl hR2 h1 ?e3 ?e4 ?e5 ?_)
      case e3 => unfold maxLen; omega
      case e4 => omega
      case e5 => simp
      intro v' w3 hown hg
      try simp only [Nat.zero_add, List.nil_append] at hown
      obtain ⟨A3, c3, rfl, _, _⟩ := own_form hown
      have lt3 := hown.lt
      have hB3 : Below WA.heap.size WA w3 := b0.grown hg (by simp) (fun k hk => (own0.lt k hk).1)
      have r3 := rA.below hB3 hltA
      obtain ⟨y0, _⟩ := r3.2 0 _ rfl
      obtain ⟨y1, yf1⟩ := r3.2 1 _ rfl
      obtain ⟨y2, _⟩ := r3.2 2 _ rfl
      have r4 := r3.store 1 (.slice A3 d.value.length c3)
      have sA := bA.size
      have s3 := hB3.size
      have hb4 : Below wr.heap.size wr (w3.setCell ⟨wr.heap.size, 1, none⟩ (.slice A3 d.value.length c3)) := (bA.trans (hB3.mono bA.size)).setCell (p := ⟨wr.heap.size, 1, none⟩) (Nat.le_refl _) _
      have hR3 : ReadsS w3 (Fresh WA w3) 3 A3 d.value.length (cellsG d.value) := ReadsS.of_own hown lt3
      have hR4 := hR3.keep (Kept.setCell (p := ⟨wr.heap.size, 1, none⟩) (.slice A3 d.value.length c3) (fun x hx => by have := hx.1; show x ≠ wr.heap.size; omega))
      obtain ⟨w4, hw4⟩ : ∃ w4, w3.setCell ⟨wr.heap.size, 1, none⟩ (.slice A3 d.value.length c3) = w4 := ⟨_, rfl⟩
      have sz4 : w4.heap.size ≤ w3.heap.size ∧ w3.heap.size ≤ w4.heap.size := by rw [← hw4]; simp [World.setCell]
      rw [hw4] at r4 hb4 hR4
      have hJ4 := HJ.out.below hb4
      obtain ⟨p0, _⟩ := r4.2 0 _ rfl
      obtain ⟨p1, _⟩ := r4.2 1 _ rfl
      obtain ⟨p2, _⟩ := r4.2 2 _ rfl
      have hm : ReadsS w4 (RS w w4 (.slice A1 n1 c1)) 3 A3 d.value.length (cellsG d.value) := hR4.more (fun b hb => ⟨by have := hb.1; omega, by have := hb.2; omega, fun e => by have := (l0 b e).2; have := hb.1; omega⟩)
      have hw : w.heap.size ≤ w4.heap.size := hJ4.bel.size
      have hmd2 := hmd.out.2.1
      have ho4 := hJ4.own
      have HJ4 := Lib.hid hJ4
      have Hmd2 := Lib.hid hmd2
      have hk1 : md.length ≤ 1000 := by omega
      clear hown hg r3 r4 hR3 hR4 rA hJ4 hmd2 HJ own0 hR2 sz4
      go_wp2_with (at_builtin; refine wpList_append_own_at _ rfl _ _ 31 rfl w.heap.size 34 di0 _ 3 48 Tryz.underlying31 di dz0 dz1 dz2 rfl (by decide) _ md.length (cellsD md) rfl (ho4.alloc _) ⟨w4.heap.size, 0, none⟩ 1 1 [.string (bytesOf d.name), .slice A3 d.value.length c3, .bool d.imp] rfl rfl (cells_new3 _ _ _ _ _) ?f2 ?f3 ?f4 ?f5 ?_)
      case f2 => intro u hu; simp at hu; rcases hu with rfl | rfl | rfl <;> rfl
      case f3 => unfold maxLen; omega
      case f4 => omega
      case f5 => simp; omega
      intro v' w5 hown5 hg5 _ hat
      have hJ5 := HJ4.out.push (m := ⟨d, A3, c3⟩) hm hw hown5 hg5 hat
      obtain ⟨A5, c5, rfl, _, _⟩ := own_form hown5
      have hmdn : Hid (md.length + 1 = k + 1 ∧ (md ++ [(⟨d, A3, c3⟩ : MDecl)]).length = k + 1 ∧ (md ++ [(⟨d, A3, c3⟩ : MDecl)]).map (·.d) = ds.take (k + 1)) := by
        refine ⟨by rw [Hmd2.out], by rw [List.length_append, Hmd2.out]; rfl, ?_⟩
        rw [List.map_append, hmd.out.2.2, List.take_add_one, Hdk.out]; rfl
      clear hown5 hg5 hat hm HJ4 ho4
      go_wp2_with fail
      go_roundw
      case rel => exact ⟨k + 1, A5, md.length + 1, c5, _, by omega, by go_num, rfl, hmdn, hJ5⟩
      case measure => simp [intOf]; omega
    · obtain rfl : k = n := by omega
      have dk : ¬ (k : Int) < (k : Int) := by omega
      have hdn := hJ.done (by rw [hmd.out.1, hmd.out.2.1])
      have hbe := hJ.bel
      have hfin : OwnD ds w (.returned (.slice A1 n1 c1)) wr := by
        obtain ⟨q1, q2, q3⟩ := hmd.out
        rw [q3, ← Hlen.out, List.take_length] at hdn
        rw [q1] at hdn ⊢
        refine ⟨⟨A1, c1, by rw [Hlen.out], ?_⟩, hbe⟩
        rw [Hlen.out]; exact hdn
      have HF := Lib.hid hfin
      clear hfin hdn hJ
      go_wp2_with fail
      go_ret
      exact HF.out
end Go.Proofs.YtfhdihdafmahgaaGreatDoor
/- Layer 6: the statements of the law's own that draw their order are walked apart, over a frame of letters. -/
set_option linter.unusedVariables false
set_option linter.unusedSimpArgs false
namespace Go.Proofs.YtfhdihdafmahgaaGreatDoor
open Go.RowKit Rn Tp Ru
section
variable {P : Program} (w : World)
theorem step_append_reads {ops : Array Oper} {o : Oper} {a : Act} {K : Act → World → Prop} {Q : Exit → Act → World → Prop} {E : Prop} (hgd : o.guard = none) (s x : Operand) (t : TypeId)
    (ho : o.op = .call { callee := .builtin .append, args := #[s, x], argTypes := #[t, t] })
    (base : Nat) (e : TypeId) (i : TypeInfo) (z : Value) (size bytes : Nat) (ht : P.underlying t = some (.slice e)) (hi : P.info? e = some i) (hz : i.zero = some z)
    (hsize : i.size = size) (hby : i.bytes = bytes) (hzs : z.cells.size = size) (hsz : 0 < size)
    (v : Value) (n : Nat) (xs : List Value) (hs : a.eval s = v) (hown : w.ownsRow base e size v n xs)
    (B : Nat) (A : Option Addr) (m c : Nat) (news : List Value) (hx : a.eval x = .slice A m c) (hr : Reads w B size A m news) (h1 : ∀ u ∈ news, u.oneCell' = true)
    (h63 : n + m ≤ maxLen) (hbytes : (n + m) * bytes ≤ 140737488355328) (hbase : base ≤ w.heap.size)
    (h : ∀ v' w', w'.ownsRow base e size v' (n + m) (xs ++ news) → w.grownBy w' v.ownBlock → K (a.put o.dst v') w') :
    if Region.wanted o (yielded ops a.tmps) = true then Oper.wp P o a w K Q else E := by
  have hw : Region.wanted o (yielded ops a.tmps) = true := by simp [Region.wanted, hgd]
  rw [if_pos hw]
  exact wp_append_reads w s x t ho base e i z size bytes ht hi hz hsize hby hzs hsz v n xs hs hown B A m c news hx hr h1 h63 hbytes hbase h
theorem step_append_own_at {ops : Array Oper} {o : Oper} {a : Act} {K : Act → World → Prop} {Q : Exit → Act → World → Prop} {E : Prop} (hgd : o.guard = none) (s x : Operand) (t : TypeId)
    (ho : o.op = .call { callee := .builtin .append, args := #[s, x], argTypes := #[t, t] })
    (base : Nat) (e : TypeId) (i : TypeInfo) (z : Value) (size bytes : Nat) (ht : P.underlying t = some (.slice e)) (hi : P.info? e = some i) (hz : i.zero = some z)
    (hsize : i.size = size) (hby : i.bytes = bytes) (hzs : z.cells.size = size) (hsz : 0 < size)
    (v : Value) (n : Nat) (xs : List Value) (hs : a.eval s = v) (hown : w.ownsRow base e size v n xs)
    (ad : Addr) (m c : Nat) (news : List Value) (hx : a.eval x = .slice (some ad) m c) (hl : news.length = m * size) (hnews : ∀ j u, news[j]? = some u → w.cell? (ad.add j) = some u) (h1 : ∀ u ∈ news, u.oneCell' = true)
    (h63 : n + m ≤ maxLen) (hbytes : (n + m) * bytes ≤ 140737488355328) (hbase : base ≤ w.heap.size)
    (h : ∀ v' w', w'.ownsRow base e size v' (n + m) (xs ++ news) → w.grownBy w' v.ownBlock → (v' = .slice none 0 0 ↔ v = .slice none 0 0 ∧ m = 0) → (v'.ownBlock = v.ownBlock ∨ v'.ownBlock = some w.heap.size) → K (a.put o.dst v') w') :
    if Region.wanted o (yielded ops a.tmps) = true then Oper.wp P o a w K Q else E := by
  have hw : Region.wanted o (yielded ops a.tmps) = true := by simp [Region.wanted, hgd]
  rw [if_pos hw]
  obtain ⟨v', w', hr, h2, h3, h4, h5⟩ := run_append_own_at (P := P) w base t o.type e i z size bytes ht hi hz hsize hby hzs hsz v n xs hown ad m c news hl hnews h1 h63 hbytes hbase
  unfold Oper.wp execOp
  simp only [ho, resolve, invoke, builtin, Sem.run_bind, Sem.run_pure, Result.andThen_ok, List.map_toArray, List.map_cons, List.map_nil, hs, hx, hr]
  exact h v' w' h2 h3 h4 h5
end
noncomputable def ownFill : Code := (regionR 6 (Tryz.f15.body.getD .skip)).getD .skip
noncomputable def ownPush : Code := (regionR 11 (Tryz.f15.body.getD .skip)).getD .skip
/-- behind the statement that copies a rule's prelude and declarations -/
def OwnRet (r : Rule) (g : Nat) (xm : Value) (w w' : World) : Prop :=
  ∃ (B1 : Option Addr) (d1 : Nat) (B2 : Option Addr) (d2 : Nat), RowAt w' g [.int .i64 r.kind, .slice B1 r.prelude.length d1, .slice B2 r.decls.length d2, xm] ∧ ReadsS w' (Fresh w w') 3 B1 r.prelude.length (cellsG r.prelude) ∧ DeclsS w' (Fresh w w') B2 r.decls.length r.decls ∧ Below g w w'
theorem own_fin {r : Rule} {g : Nat} {xm x1 x2 : Value} {wX w3 w9 : World} {B1 B2 : Option Addr} {d1 d2 : Nat} (hg : g < wX.heap.size) (hB3 : Below wX.heap.size wX.drew w3)
    (hP : ReadsS w3 (Fresh wX w3) 3 B1 r.prelude.length (cellsG r.prelude)) (hD : DeclsS w9 (Fresh w3 w9) B2 r.decls.length r.decls) (hb : Below w3.heap.size w3 w9) (r9 : RowAt w9 g [.int .i64 r.kind, x1, x2, xm]) :
    OwnRet r g xm wX ((w9.setCell ⟨g, 1, none⟩ (.slice B1 r.prelude.length d1)).setCell ⟨g, 2, none⟩ (.slice B2 r.decls.length d2)) := by
  have s3 := hB3.size
  have s9 := hb.size
  have s3' : wX.heap.size ≤ w3.heap.size := s3
  have hP9 : ReadsS w9 (Fresh wX w9) 3 B1 r.prelude.length (cellsG r.prelude) := (hP.keep (Kept.of_below hb (fun b h => h.2))).more (fun b h => ⟨h.1, by have := h.2; omega⟩)
  have hD9 : DeclsS w9 (Fresh wX w9) B2 r.decls.length r.decls := hD.more (fun b h => ⟨by have := h.1; omega, h.2⟩)
  have hne : ∀ x, Fresh wX w9 x → x ≠ g := fun x hx => by have := hx.1; omega
  have hbg : Below g wX w9 := ((Below.refl _ _).drew.trans (hB3.mono (Nat.le_of_lt hg))).trans (hb.mono (by omega))
  have hk : Kept (Fresh wX w9) w9 ((w9.setCell ⟨g, 1, none⟩ (.slice B1 r.prelude.length d1)).setCell ⟨g, 2, none⟩ (.slice B2 r.decls.length d2)) := (Kept.setCell (p := ⟨g, 1, none⟩) _ hne).trans (fun b hb => Below.heap_setCell _ _ _ _ (hne b hb))
  exact ⟨B1, d1, B2, d2, (r9.store 1 _).store 2 _, (hP9.keep hk).more (fun b hb => ⟨hb.1, by have := hb.2; simp [World.setCell]; omega⟩), (hD9.keep hk).more (fun b hb => ⟨hb.1, by have := hb.2; simp [World.setCell]; omega⟩), (hbg.setCell (p := ⟨g, 1, none⟩) (Nat.le_refl _) _).setCell (p := ⟨g, 2, none⟩) (Nat.le_refl _) _⟩
set_option maxRecDepth 1000000 in
set_option maxHeartbeats 4000000 in
theorem ru_own_fill {wX : World} {g : Nat} {r : Rule} {A1 A2 : Option Addr} {c1 c2 : Nat} {xm : Value} (u0 u1 u2 u4 u5 u7 u8 u9 u10 u11 u12 u13 u14 u15 u16 u17 u18 u19 u20 u21 u22 u23 u24 u25 u26 u27 u28 u29 u30 u31 u32 u33 u34 u35 u36 u37 u38 u39 u40 u41 u42 u43 u44 u45 u46 u47 u48 u49 u50 u51 : Value)
    (rX : RowAt wX g [.int .i64 r.kind, .slice A1 r.prelude.length c1, .slice A2 r.decls.length c2, xm]) (hP : ReadsS wX (· < wX.heap.size) 3 A1 r.prelude.length (cellsG r.prelude)) (hD : DeclsS wX (· < wX.heap.size) A2 r.decls.length r.decls)
    (hp : r.prelude.length ≤ 1000) (hd : r.decls.length ≤ 1000) (hds : ∀ d ∈ r.decls, d.value.length ≤ 1000000) :
    Code.wp Tryz.prog ownFill (fun e' a W => match e' with
      | .normal => (∃ v16 v17 v18 v19 v20 v21 v22 v23 v24 v25 : Value, a = ⟨(List.toArray (u0 :: u1 :: u2 :: Value.func (.func 49) #[] #[] :: u4 :: u5 :: Value.pointer (some ⟨g, 0, none⟩) :: u7 :: u8 :: u9 :: u10 :: u11 :: u12 :: u13 :: u14 :: u15 :: v16 :: v17 :: v18 :: v19 :: v20 :: v21 :: v22 :: v23 :: v24 :: v25 :: u26 :: u27 :: u28 :: u29 :: u30 :: u31 :: u32 :: u33 :: u34 :: u35 :: u36 :: u37 :: u38 :: u39 :: u40 :: u41 :: u42 :: u43 :: u44 :: u45 :: u46 :: u47 :: u48 :: u49 :: u50 :: u51 :: [])), []⟩) ∧ OwnRet r g xm wX W
      | _ => False) ⟨(List.toArray (u0 :: u1 :: u2 :: Value.func (.func 49) #[] #[] :: u4 :: u5 :: Value.pointer (some ⟨g, 0, none⟩) :: u7 :: u8 :: u9 :: u10 :: u11 :: u12 :: u13 :: u14 :: u15 :: u16 :: u17 :: u18 :: u19 :: u20 :: u21 :: u22 :: u23 :: u24 :: u25 :: u26 :: u27 :: u28 :: u29 :: u30 :: u31 :: u32 :: u33 :: u34 :: u35 :: u36 :: u37 :: u38 :: u39 :: u40 :: u41 :: u42 :: u43 :: u44 :: u45 :: u46 :: u47 :: u48 :: u49 :: u50 :: u51 :: [])), []⟩ wX := by
  conv => arg 2; whnf
  obtain ⟨hi0, hi, hz0, hz1, hz2⟩ := info_take ru_tok_info
  have hgl : g < wX.heap.size := rX.1
  have r0 : RowAt wX.drew g [.int .i64 r.kind, .slice A1 r.prelude.length c1, .slice A2 r.decls.length c2, xm] := rX
  obtain ⟨k1, _⟩ := r0.2 1 _ rfl
  obtain ⟨k2, _⟩ := r0.2 2 _ rfl
  have b0 : Below wX.heap.size wX.drew (wX.alloc (.cells #[] 58)).drew := (Below.refl wX.heap.size wX.drew).alloc (Nat.le_refl _) (.cells #[] 58)
  have rA := r0.below b0 hgl
  obtain ⟨l1, _⟩ := rA.2 1 _ rfl
  obtain ⟨l2, _⟩ := rA.2 2 _ rfl
  have own0 : (wX.alloc (.cells #[] 58)).drew.ownsRow wX.heap.size 58 3 (.slice (some ⟨wX.heap.size, 0, none⟩) 0 0) 0 [] := World.ownsRow_made (base := wX.heap.size) (e := 58) (size := 3) wX.drew #[] 0 (Nat.le_refl _) (Nat.zero_le _) rfl
  have hD0 : DeclsS wX.drew (· < wX.drew.heap.size) A2 r.decls.length r.decls := hD
  have hR : Reads wX.drew wX.heap.size 3 A1 r.prelude.length (cellsG r.prelude) := hP
  have hR2 : Reads (wX.alloc (.cells #[] 58)).drew wX.heap.size 3 A1 r.prelude.length (cellsG r.prelude) := hR.alloc (Nat.le_refl _) (.cells #[] 58)
  have h1 := cells_one r.prelude
  clear hP hD rA
  refine wp_region_any (by kernel_rfl) ?_
  try (change wpAny _ _ _ _ _ _ _ (World.drew _))
  refine wpAny_take (i := 1) (v := ?_) rfl (by kernel_rfl) (by kernel_rfl) (by kernel_rfl) (fun _ _ _ h => h) (Or.inl ⟨by kernel_rfl, ?_⟩) ?_
  rotate_left
  · intro w; go_simp; (try with_reducible rfl)
  refine wpAny_take (i := 4) (v := ?_) rfl (by kernel_rfl) (by kernel_rfl) (by kernel_rfl) (fun _ _ _ h => h) (Or.inl ⟨by kernel_rfl, ?_⟩) ?_
  rotate_left
  · intro w; go_simp; (try with_reducible rfl)
  refine wpAny_take (i := 5) (v := ?_) rfl (by kernel_rfl) (by kernel_rfl) (by kernel_rfl) (fun _ _ _ h => h) (Or.inl ⟨by kernel_rfl, ?_⟩) ?_
  rotate_left
  · intro w; go_simp; (try with_reducible rfl)
  refine wpAny_ready (rs := [0, 2, 6]) (by kernel_rfl) (by simp) ?_
  refine AllReady.cons rfl (fun K hK => ?_) ?_
  · go_simp
    (try (refine hK _ _ ?_; clear hK K))
    refine wpAny_ready (rs := [2, 6]) (by kernel_rfl) (by simp) ?_
    refine AllReady.cons rfl (fun K hK => ?_) ?_
    · go_simp
      (try (refine hK _ _ ?_; clear hK K))
      refine wpAny_ready (rs := [3, 6]) (by kernel_rfl) (by simp) ?_
      refine AllReady.cons rfl (fun K hK => ?_) ?_
      · (refine step_append_reads _ rfl _ _ 32 rfl wX.heap.size 58 hi0 _ 3 32 Tryz.underlying32 hi hz0 hz1 hz2 rfl (by decide) _ 0 [] rfl own0 wX.heap.size A1 r.prelude.length c1 (cellsG r.prelude) rfl hR2 h1 (by unfold maxLen; omega) (by omega) (by simp) ?_; intro v' w3 hown hg; (try simp only [Nat.zero_add, List.nil_append] at hown); obtain ⟨A3, c3, rfl, _, _⟩ := own_form hown; have lt3 := hown.lt; have hB3 : Below wX.heap.size wX.drew w3 := b0.grown hg (by simp) (fun k hk => (own0.lt k hk).1); have r3 := r0.below hB3 hgl; obtain ⟨y1, _⟩ := r3.2 1 _ rfl; obtain ⟨y2, _⟩ := r3.2 2 _ rfl; have s3 := hB3.size; have hP3 : ReadsS w3 (Fresh wX w3) 3 A3 r.prelude.length (cellsG r.prelude) := ReadsS.of_own hown lt3; have cD := ru_own1 r.decls A2 r.decls.length c2 w3 (hD0.below hB3) hd hds; clear hown hg lt3)
        refine hK _ _ ?_
        clear hK K
        (try go_simp)
        refine wpAny_ready (rs := [6]) (by kernel_rfl) (by simp) ?_
        refine AllReady.cons rfl (fun K hK => ?_) ?_
        · go_simp
          (try (refine hK _ _ ?_; clear hK K))
          refine wpAny_take (i := 8) (v := ?_) rfl (by kernel_rfl) (by kernel_rfl) (by kernel_rfl) (fun _ _ _ h => h) (Or.inl ⟨by kernel_rfl, ?_⟩) ?_
          rotate_left
          · intro w; go_simp; (try with_reducible rfl)
          refine wpAny_ready (rs := [7]) (by kernel_rfl) (by simp) ?_
          refine AllReady.cons rfl (fun K hK => ?_) ?_
          · go_simp
            go_wp2_with (first | (refine cD.mono ?_; rintro e9 w9 ⟨⟨A9, c9, rfl, hD9⟩, hb9⟩; have hB9 : Below wX.heap.size wX.drew w9 := hB3.trans (hb9.mono s3); have r9 := r0.below hB9 hgl; obtain ⟨z1, f1⟩ := r9.2 1 _ rfl; obtain ⟨z2, f2⟩ := r9.2 2 _ rfl; have g9 := r9.1) | (go_at_call 49; refine cD.mono ?_; rintro e9 w9 ⟨⟨A9, c9, rfl, hD9⟩, hb9⟩; have hB9 : Below wX.heap.size wX.drew w9 := hB3.trans (hb9.mono s3); have r9 := r0.below hB9 hgl; obtain ⟨z1, f1⟩ := r9.2 1 _ rfl; obtain ⟨z2, f2⟩ := r9.2 2 _ rfl; have g9 := r9.1))
            (try (refine hK _ _ ?_; clear hK K))
            refine wpAny_ready (rs := [9]) (by kernel_rfl) (by simp) ?_
            refine AllReady.cons rfl (fun K hK => ?_) ?_
            · go_simp
              (try (refine hK _ _ ?_; clear hK K))
              refine wpAny_take (i := 10) (v := ?_) rfl (by kernel_rfl) (by kernel_rfl) (by kernel_rfl) (fun _ _ _ h => h) (Or.inl ⟨by kernel_rfl, ?_⟩) ?_
              rotate_left
              · intro w; go_simp; (try with_reducible rfl)
              refine wpAny_ready (rs := [11]) (by kernel_rfl) (by simp) ?_
              refine AllReady.cons rfl (fun K hK => ?_) ?_
              · go_simp
                (try (refine hK _ _ ?_; clear hK K))
                refine wpAny_done (by kernel_rfl) ?_ _
                exact ⟨⟨_, _, _, _, _, _, _, _, _, _, rfl⟩, own_fin (wX := wX) hgl hB3 hP3 hD9 hb9 r9⟩
              · exact AllReady.nil
            · exact AllReady.nil
          · exact AllReady.nil
        · exact AllReady.nil
      · refine AllReady.cons rfl (fun K hK => ?_) ?_
        · go_simp
          (try (refine hK _ _ ?_; clear hK K))
          refine wpAny_ready (rs := [3]) (by kernel_rfl) (by simp) ?_
          refine AllReady.cons rfl (fun K hK => ?_) ?_
          · (refine step_append_reads _ rfl _ _ 32 rfl wX.heap.size 58 hi0 _ 3 32 Tryz.underlying32 hi hz0 hz1 hz2 rfl (by decide) _ 0 [] rfl own0 wX.heap.size A1 r.prelude.length c1 (cellsG r.prelude) rfl hR2 h1 (by unfold maxLen; omega) (by omega) (by simp) ?_; intro v' w3 hown hg; (try simp only [Nat.zero_add, List.nil_append] at hown); obtain ⟨A3, c3, rfl, _, _⟩ := own_form hown; have lt3 := hown.lt; have hB3 : Below wX.heap.size wX.drew w3 := b0.grown hg (by simp) (fun k hk => (own0.lt k hk).1); have r3 := r0.below hB3 hgl; obtain ⟨y1, _⟩ := r3.2 1 _ rfl; obtain ⟨y2, _⟩ := r3.2 2 _ rfl; have s3 := hB3.size; have hP3 : ReadsS w3 (Fresh wX w3) 3 A3 r.prelude.length (cellsG r.prelude) := ReadsS.of_own hown lt3; have cD := ru_own1 r.decls A2 r.decls.length c2 w3 (hD0.below hB3) hd hds; clear hown hg lt3)
            refine hK _ _ ?_
            clear hK K
            (try go_simp)
            refine wpAny_take (i := 8) (v := ?_) rfl (by kernel_rfl) (by kernel_rfl) (by kernel_rfl) (fun _ _ _ h => h) (Or.inl ⟨by kernel_rfl, ?_⟩) ?_
            rotate_left
            · intro w; go_simp; (try with_reducible rfl)
            refine wpAny_ready (rs := [7]) (by kernel_rfl) (by simp) ?_
            refine AllReady.cons rfl (fun K hK => ?_) ?_
            · go_simp
              go_wp2_with (first | (refine cD.mono ?_; rintro e9 w9 ⟨⟨A9, c9, rfl, hD9⟩, hb9⟩; have hB9 : Below wX.heap.size wX.drew w9 := hB3.trans (hb9.mono s3); have r9 := r0.below hB9 hgl; obtain ⟨z1, f1⟩ := r9.2 1 _ rfl; obtain ⟨z2, f2⟩ := r9.2 2 _ rfl; have g9 := r9.1) | (go_at_call 49; refine cD.mono ?_; rintro e9 w9 ⟨⟨A9, c9, rfl, hD9⟩, hb9⟩; have hB9 : Below wX.heap.size wX.drew w9 := hB3.trans (hb9.mono s3); have r9 := r0.below hB9 hgl; obtain ⟨z1, f1⟩ := r9.2 1 _ rfl; obtain ⟨z2, f2⟩ := r9.2 2 _ rfl; have g9 := r9.1))
              (try (refine hK _ _ ?_; clear hK K))
              refine wpAny_ready (rs := [9]) (by kernel_rfl) (by simp) ?_
              refine AllReady.cons rfl (fun K hK => ?_) ?_
              · go_simp
                (try (refine hK _ _ ?_; clear hK K))
                refine wpAny_take (i := 10) (v := ?_) rfl (by kernel_rfl) (by kernel_rfl) (by kernel_rfl) (fun _ _ _ h => h) (Or.inl ⟨by kernel_rfl, ?_⟩) ?_
                rotate_left
                · intro w; go_simp; (try with_reducible rfl)
                refine wpAny_ready (rs := [11]) (by kernel_rfl) (by simp) ?_
                refine AllReady.cons rfl (fun K hK => ?_) ?_
                · go_simp
                  (try (refine hK _ _ ?_; clear hK K))
                  refine wpAny_done (by kernel_rfl) ?_ _
                  exact ⟨⟨_, _, _, _, _, _, _, _, _, _, rfl⟩, own_fin (wX := wX) hgl hB3 hP3 hD9 hb9 r9⟩
                · exact AllReady.nil
              · exact AllReady.nil
            · exact AllReady.nil
          · exact AllReady.nil
        · exact AllReady.nil
    · refine AllReady.cons rfl (fun K hK => ?_) ?_
      · go_simp
        (try (refine hK _ _ ?_; clear hK K))
        refine wpAny_ready (rs := [2]) (by kernel_rfl) (by simp) ?_
        refine AllReady.cons rfl (fun K hK => ?_) ?_
        · go_simp
          (try (refine hK _ _ ?_; clear hK K))
          refine wpAny_ready (rs := [3]) (by kernel_rfl) (by simp) ?_
          refine AllReady.cons rfl (fun K hK => ?_) ?_
          · (refine step_append_reads _ rfl _ _ 32 rfl wX.heap.size 58 hi0 _ 3 32 Tryz.underlying32 hi hz0 hz1 hz2 rfl (by decide) _ 0 [] rfl own0 wX.heap.size A1 r.prelude.length c1 (cellsG r.prelude) rfl hR2 h1 (by unfold maxLen; omega) (by omega) (by simp) ?_; intro v' w3 hown hg; (try simp only [Nat.zero_add, List.nil_append] at hown); obtain ⟨A3, c3, rfl, _, _⟩ := own_form hown; have lt3 := hown.lt; have hB3 : Below wX.heap.size wX.drew w3 := b0.grown hg (by simp) (fun k hk => (own0.lt k hk).1); have r3 := r0.below hB3 hgl; obtain ⟨y1, _⟩ := r3.2 1 _ rfl; obtain ⟨y2, _⟩ := r3.2 2 _ rfl; have s3 := hB3.size; have hP3 : ReadsS w3 (Fresh wX w3) 3 A3 r.prelude.length (cellsG r.prelude) := ReadsS.of_own hown lt3; have cD := ru_own1 r.decls A2 r.decls.length c2 w3 (hD0.below hB3) hd hds; clear hown hg lt3)
            refine hK _ _ ?_
            clear hK K
            (try go_simp)
            refine wpAny_take (i := 8) (v := ?_) rfl (by kernel_rfl) (by kernel_rfl) (by kernel_rfl) (fun _ _ _ h => h) (Or.inl ⟨by kernel_rfl, ?_⟩) ?_
            rotate_left
            · intro w; go_simp; (try with_reducible rfl)
            refine wpAny_ready (rs := [7]) (by kernel_rfl) (by simp) ?_
            refine AllReady.cons rfl (fun K hK => ?_) ?_
            · go_simp
              go_wp2_with (first | (refine cD.mono ?_; rintro e9 w9 ⟨⟨A9, c9, rfl, hD9⟩, hb9⟩; have hB9 : Below wX.heap.size wX.drew w9 := hB3.trans (hb9.mono s3); have r9 := r0.below hB9 hgl; obtain ⟨z1, f1⟩ := r9.2 1 _ rfl; obtain ⟨z2, f2⟩ := r9.2 2 _ rfl; have g9 := r9.1) | (go_at_call 49; refine cD.mono ?_; rintro e9 w9 ⟨⟨A9, c9, rfl, hD9⟩, hb9⟩; have hB9 : Below wX.heap.size wX.drew w9 := hB3.trans (hb9.mono s3); have r9 := r0.below hB9 hgl; obtain ⟨z1, f1⟩ := r9.2 1 _ rfl; obtain ⟨z2, f2⟩ := r9.2 2 _ rfl; have g9 := r9.1))
              (try (refine hK _ _ ?_; clear hK K))
              refine wpAny_ready (rs := [9]) (by kernel_rfl) (by simp) ?_
              refine AllReady.cons rfl (fun K hK => ?_) ?_
              · go_simp
                (try (refine hK _ _ ?_; clear hK K))
                refine wpAny_take (i := 10) (v := ?_) rfl (by kernel_rfl) (by kernel_rfl) (by kernel_rfl) (fun _ _ _ h => h) (Or.inl ⟨by kernel_rfl, ?_⟩) ?_
                rotate_left
                · intro w; go_simp; (try with_reducible rfl)
                refine wpAny_ready (rs := [11]) (by kernel_rfl) (by simp) ?_
                refine AllReady.cons rfl (fun K hK => ?_) ?_
                · go_simp
                  (try (refine hK _ _ ?_; clear hK K))
                  refine wpAny_done (by kernel_rfl) ?_ _
                  exact ⟨⟨_, _, _, _, _, _, _, _, _, _, rfl⟩, own_fin (wX := wX) hgl hB3 hP3 hD9 hb9 r9⟩
                · exact AllReady.nil
              · exact AllReady.nil
            · exact AllReady.nil
          · exact AllReady.nil
        · exact AllReady.nil
      · exact AllReady.nil
  · refine AllReady.cons rfl (fun K hK => ?_) ?_
    · go_simp
      (try (refine hK _ _ ?_; clear hK K))
      refine wpAny_ready (rs := [0, 6]) (by kernel_rfl) (by simp) ?_
      refine AllReady.cons rfl (fun K hK => ?_) ?_
      · go_simp
        (try (refine hK _ _ ?_; clear hK K))
        refine wpAny_ready (rs := [3, 6]) (by kernel_rfl) (by simp) ?_
        refine AllReady.cons rfl (fun K hK => ?_) ?_
        · (refine step_append_reads _ rfl _ _ 32 rfl wX.heap.size 58 hi0 _ 3 32 Tryz.underlying32 hi hz0 hz1 hz2 rfl (by decide) _ 0 [] rfl own0 wX.heap.size A1 r.prelude.length c1 (cellsG r.prelude) rfl hR2 h1 (by unfold maxLen; omega) (by omega) (by simp) ?_; intro v' w3 hown hg; (try simp only [Nat.zero_add, List.nil_append] at hown); obtain ⟨A3, c3, rfl, _, _⟩ := own_form hown; have lt3 := hown.lt; have hB3 : Below wX.heap.size wX.drew w3 := b0.grown hg (by simp) (fun k hk => (own0.lt k hk).1); have r3 := r0.below hB3 hgl; obtain ⟨y1, _⟩ := r3.2 1 _ rfl; obtain ⟨y2, _⟩ := r3.2 2 _ rfl; have s3 := hB3.size; have hP3 : ReadsS w3 (Fresh wX w3) 3 A3 r.prelude.length (cellsG r.prelude) := ReadsS.of_own hown lt3; have cD := ru_own1 r.decls A2 r.decls.length c2 w3 (hD0.below hB3) hd hds; clear hown hg lt3)
          refine hK _ _ ?_
          clear hK K
          (try go_simp)
          refine wpAny_ready (rs := [6]) (by kernel_rfl) (by simp) ?_
          refine AllReady.cons rfl (fun K hK => ?_) ?_
          · go_simp
            (try (refine hK _ _ ?_; clear hK K))
            refine wpAny_take (i := 8) (v := ?_) rfl (by kernel_rfl) (by kernel_rfl) (by kernel_rfl) (fun _ _ _ h => h) (Or.inl ⟨by kernel_rfl, ?_⟩) ?_
            rotate_left
            · intro w; go_simp; (try with_reducible rfl)
            refine wpAny_ready (rs := [7]) (by kernel_rfl) (by simp) ?_
            refine AllReady.cons rfl (fun K hK => ?_) ?_
            · go_simp
              go_wp2_with (first | (refine cD.mono ?_; rintro e9 w9 ⟨⟨A9, c9, rfl, hD9⟩, hb9⟩; have hB9 : Below wX.heap.size wX.drew w9 := hB3.trans (hb9.mono s3); have r9 := r0.below hB9 hgl; obtain ⟨z1, f1⟩ := r9.2 1 _ rfl; obtain ⟨z2, f2⟩ := r9.2 2 _ rfl; have g9 := r9.1) | (go_at_call 49; refine cD.mono ?_; rintro e9 w9 ⟨⟨A9, c9, rfl, hD9⟩, hb9⟩; have hB9 : Below wX.heap.size wX.drew w9 := hB3.trans (hb9.mono s3); have r9 := r0.below hB9 hgl; obtain ⟨z1, f1⟩ := r9.2 1 _ rfl; obtain ⟨z2, f2⟩ := r9.2 2 _ rfl; have g9 := r9.1))
              (try (refine hK _ _ ?_; clear hK K))
              refine wpAny_ready (rs := [9]) (by kernel_rfl) (by simp) ?_
              refine AllReady.cons rfl (fun K hK => ?_) ?_
              · go_simp
                (try (refine hK _ _ ?_; clear hK K))
                refine wpAny_take (i := 10) (v := ?_) rfl (by kernel_rfl) (by kernel_rfl) (by kernel_rfl) (fun _ _ _ h => h) (Or.inl ⟨by kernel_rfl, ?_⟩) ?_
                rotate_left
                · intro w; go_simp; (try with_reducible rfl)
                refine wpAny_ready (rs := [11]) (by kernel_rfl) (by simp) ?_
                refine AllReady.cons rfl (fun K hK => ?_) ?_
                · go_simp
                  (try (refine hK _ _ ?_; clear hK K))
                  refine wpAny_done (by kernel_rfl) ?_ _
                  exact ⟨⟨_, _, _, _, _, _, _, _, _, _, rfl⟩, own_fin (wX := wX) hgl hB3 hP3 hD9 hb9 r9⟩
                · exact AllReady.nil
              · exact AllReady.nil
            · exact AllReady.nil
          · exact AllReady.nil
        · refine AllReady.cons rfl (fun K hK => ?_) ?_
          · go_simp
            (try (refine hK _ _ ?_; clear hK K))
            refine wpAny_ready (rs := [3]) (by kernel_rfl) (by simp) ?_
            refine AllReady.cons rfl (fun K hK => ?_) ?_
            · (refine step_append_reads _ rfl _ _ 32 rfl wX.heap.size 58 hi0 _ 3 32 Tryz.underlying32 hi hz0 hz1 hz2 rfl (by decide) _ 0 [] rfl own0 wX.heap.size A1 r.prelude.length c1 (cellsG r.prelude) rfl hR2 h1 (by unfold maxLen; omega) (by omega) (by simp) ?_; intro v' w3 hown hg; (try simp only [Nat.zero_add, List.nil_append] at hown); obtain ⟨A3, c3, rfl, _, _⟩ := own_form hown; have lt3 := hown.lt; have hB3 : Below wX.heap.size wX.drew w3 := b0.grown hg (by simp) (fun k hk => (own0.lt k hk).1); have r3 := r0.below hB3 hgl; obtain ⟨y1, _⟩ := r3.2 1 _ rfl; obtain ⟨y2, _⟩ := r3.2 2 _ rfl; have s3 := hB3.size; have hP3 : ReadsS w3 (Fresh wX w3) 3 A3 r.prelude.length (cellsG r.prelude) := ReadsS.of_own hown lt3; have cD := ru_own1 r.decls A2 r.decls.length c2 w3 (hD0.below hB3) hd hds; clear hown hg lt3)
              refine hK _ _ ?_
              clear hK K
              (try go_simp)
              refine wpAny_take (i := 8) (v := ?_) rfl (by kernel_rfl) (by kernel_rfl) (by kernel_rfl) (fun _ _ _ h => h) (Or.inl ⟨by kernel_rfl, ?_⟩) ?_
              rotate_left
              · intro w; go_simp; (try with_reducible rfl)
              refine wpAny_ready (rs := [7]) (by kernel_rfl) (by simp) ?_
              refine AllReady.cons rfl (fun K hK => ?_) ?_
              · go_simp
                go_wp2_with (first | (refine cD.mono ?_; rintro e9 w9 ⟨⟨A9, c9, rfl, hD9⟩, hb9⟩; have hB9 : Below wX.heap.size wX.drew w9 := hB3.trans (hb9.mono s3); have r9 := r0.below hB9 hgl; obtain ⟨z1, f1⟩ := r9.2 1 _ rfl; obtain ⟨z2, f2⟩ := r9.2 2 _ rfl; have g9 := r9.1) | (go_at_call 49; refine cD.mono ?_; rintro e9 w9 ⟨⟨A9, c9, rfl, hD9⟩, hb9⟩; have hB9 : Below wX.heap.size wX.drew w9 := hB3.trans (hb9.mono s3); have r9 := r0.below hB9 hgl; obtain ⟨z1, f1⟩ := r9.2 1 _ rfl; obtain ⟨z2, f2⟩ := r9.2 2 _ rfl; have g9 := r9.1))
                (try (refine hK _ _ ?_; clear hK K))
                refine wpAny_ready (rs := [9]) (by kernel_rfl) (by simp) ?_
                refine AllReady.cons rfl (fun K hK => ?_) ?_
                · go_simp
                  (try (refine hK _ _ ?_; clear hK K))
                  refine wpAny_take (i := 10) (v := ?_) rfl (by kernel_rfl) (by kernel_rfl) (by kernel_rfl) (fun _ _ _ h => h) (Or.inl ⟨by kernel_rfl, ?_⟩) ?_
                  rotate_left
                  · intro w; go_simp; (try with_reducible rfl)
                  refine wpAny_ready (rs := [11]) (by kernel_rfl) (by simp) ?_
                  refine AllReady.cons rfl (fun K hK => ?_) ?_
                  · go_simp
                    (try (refine hK _ _ ?_; clear hK K))
                    refine wpAny_done (by kernel_rfl) ?_ _
                    exact ⟨⟨_, _, _, _, _, _, _, _, _, _, rfl⟩, own_fin (wX := wX) hgl hB3 hP3 hD9 hb9 r9⟩
                  · exact AllReady.nil
                · exact AllReady.nil
              · exact AllReady.nil
            · exact AllReady.nil
          · exact AllReady.nil
      · refine AllReady.cons rfl (fun K hK => ?_) ?_
        · go_simp
          (try (refine hK _ _ ?_; clear hK K))
          refine wpAny_ready (rs := [0]) (by kernel_rfl) (by simp) ?_
          refine AllReady.cons rfl (fun K hK => ?_) ?_
          · go_simp
            (try (refine hK _ _ ?_; clear hK K))
            refine wpAny_ready (rs := [3]) (by kernel_rfl) (by simp) ?_
            refine AllReady.cons rfl (fun K hK => ?_) ?_
            · (refine step_append_reads _ rfl _ _ 32 rfl wX.heap.size 58 hi0 _ 3 32 Tryz.underlying32 hi hz0 hz1 hz2 rfl (by decide) _ 0 [] rfl own0 wX.heap.size A1 r.prelude.length c1 (cellsG r.prelude) rfl hR2 h1 (by unfold maxLen; omega) (by omega) (by simp) ?_; intro v' w3 hown hg; (try simp only [Nat.zero_add, List.nil_append] at hown); obtain ⟨A3, c3, rfl, _, _⟩ := own_form hown; have lt3 := hown.lt; have hB3 : Below wX.heap.size wX.drew w3 := b0.grown hg (by simp) (fun k hk => (own0.lt k hk).1); have r3 := r0.below hB3 hgl; obtain ⟨y1, _⟩ := r3.2 1 _ rfl; obtain ⟨y2, _⟩ := r3.2 2 _ rfl; have s3 := hB3.size; have hP3 : ReadsS w3 (Fresh wX w3) 3 A3 r.prelude.length (cellsG r.prelude) := ReadsS.of_own hown lt3; have cD := ru_own1 r.decls A2 r.decls.length c2 w3 (hD0.below hB3) hd hds; clear hown hg lt3)
              refine hK _ _ ?_
              clear hK K
              (try go_simp)
              refine wpAny_take (i := 8) (v := ?_) rfl (by kernel_rfl) (by kernel_rfl) (by kernel_rfl) (fun _ _ _ h => h) (Or.inl ⟨by kernel_rfl, ?_⟩) ?_
              rotate_left
              · intro w; go_simp; (try with_reducible rfl)
              refine wpAny_ready (rs := [7]) (by kernel_rfl) (by simp) ?_
              refine AllReady.cons rfl (fun K hK => ?_) ?_
              · go_simp
                go_wp2_with (first | (refine cD.mono ?_; rintro e9 w9 ⟨⟨A9, c9, rfl, hD9⟩, hb9⟩; have hB9 : Below wX.heap.size wX.drew w9 := hB3.trans (hb9.mono s3); have r9 := r0.below hB9 hgl; obtain ⟨z1, f1⟩ := r9.2 1 _ rfl; obtain ⟨z2, f2⟩ := r9.2 2 _ rfl; have g9 := r9.1) | (go_at_call 49; refine cD.mono ?_; rintro e9 w9 ⟨⟨A9, c9, rfl, hD9⟩, hb9⟩; have hB9 : Below wX.heap.size wX.drew w9 := hB3.trans (hb9.mono s3); have r9 := r0.below hB9 hgl; obtain ⟨z1, f1⟩ := r9.2 1 _ rfl; obtain ⟨z2, f2⟩ := r9.2 2 _ rfl; have g9 := r9.1))
                (try (refine hK _ _ ?_; clear hK K))
                refine wpAny_ready (rs := [9]) (by kernel_rfl) (by simp) ?_
                refine AllReady.cons rfl (fun K hK => ?_) ?_
                · go_simp
                  (try (refine hK _ _ ?_; clear hK K))
                  refine wpAny_take (i := 10) (v := ?_) rfl (by kernel_rfl) (by kernel_rfl) (by kernel_rfl) (fun _ _ _ h => h) (Or.inl ⟨by kernel_rfl, ?_⟩) ?_
                  rotate_left
                  · intro w; go_simp; (try with_reducible rfl)
                  refine wpAny_ready (rs := [11]) (by kernel_rfl) (by simp) ?_
                  refine AllReady.cons rfl (fun K hK => ?_) ?_
                  · go_simp
                    (try (refine hK _ _ ?_; clear hK K))
                    refine wpAny_done (by kernel_rfl) ?_ _
                    exact ⟨⟨_, _, _, _, _, _, _, _, _, _, rfl⟩, own_fin (wX := wX) hgl hB3 hP3 hD9 hb9 r9⟩
                  · exact AllReady.nil
                · exact AllReady.nil
              · exact AllReady.nil
            · exact AllReady.nil
          · exact AllReady.nil
        · exact AllReady.nil
    · refine AllReady.cons rfl (fun K hK => ?_) ?_
      · go_simp
        (try (refine hK _ _ ?_; clear hK K))
        refine wpAny_ready (rs := [0, 2]) (by kernel_rfl) (by simp) ?_
        refine AllReady.cons rfl (fun K hK => ?_) ?_
        · go_simp
          (try (refine hK _ _ ?_; clear hK K))
          refine wpAny_ready (rs := [2]) (by kernel_rfl) (by simp) ?_
          refine AllReady.cons rfl (fun K hK => ?_) ?_
          · go_simp
            (try (refine hK _ _ ?_; clear hK K))
            refine wpAny_ready (rs := [3]) (by kernel_rfl) (by simp) ?_
            refine AllReady.cons rfl (fun K hK => ?_) ?_
            · (refine step_append_reads _ rfl _ _ 32 rfl wX.heap.size 58 hi0 _ 3 32 Tryz.underlying32 hi hz0 hz1 hz2 rfl (by decide) _ 0 [] rfl own0 wX.heap.size A1 r.prelude.length c1 (cellsG r.prelude) rfl hR2 h1 (by unfold maxLen; omega) (by omega) (by simp) ?_; intro v' w3 hown hg; (try simp only [Nat.zero_add, List.nil_append] at hown); obtain ⟨A3, c3, rfl, _, _⟩ := own_form hown; have lt3 := hown.lt; have hB3 : Below wX.heap.size wX.drew w3 := b0.grown hg (by simp) (fun k hk => (own0.lt k hk).1); have r3 := r0.below hB3 hgl; obtain ⟨y1, _⟩ := r3.2 1 _ rfl; obtain ⟨y2, _⟩ := r3.2 2 _ rfl; have s3 := hB3.size; have hP3 : ReadsS w3 (Fresh wX w3) 3 A3 r.prelude.length (cellsG r.prelude) := ReadsS.of_own hown lt3; have cD := ru_own1 r.decls A2 r.decls.length c2 w3 (hD0.below hB3) hd hds; clear hown hg lt3)
              refine hK _ _ ?_
              clear hK K
              (try go_simp)
              refine wpAny_take (i := 8) (v := ?_) rfl (by kernel_rfl) (by kernel_rfl) (by kernel_rfl) (fun _ _ _ h => h) (Or.inl ⟨by kernel_rfl, ?_⟩) ?_
              rotate_left
              · intro w; go_simp; (try with_reducible rfl)
              refine wpAny_ready (rs := [7]) (by kernel_rfl) (by simp) ?_
              refine AllReady.cons rfl (fun K hK => ?_) ?_
              · go_simp
                go_wp2_with (first | (refine cD.mono ?_; rintro e9 w9 ⟨⟨A9, c9, rfl, hD9⟩, hb9⟩; have hB9 : Below wX.heap.size wX.drew w9 := hB3.trans (hb9.mono s3); have r9 := r0.below hB9 hgl; obtain ⟨z1, f1⟩ := r9.2 1 _ rfl; obtain ⟨z2, f2⟩ := r9.2 2 _ rfl; have g9 := r9.1) | (go_at_call 49; refine cD.mono ?_; rintro e9 w9 ⟨⟨A9, c9, rfl, hD9⟩, hb9⟩; have hB9 : Below wX.heap.size wX.drew w9 := hB3.trans (hb9.mono s3); have r9 := r0.below hB9 hgl; obtain ⟨z1, f1⟩ := r9.2 1 _ rfl; obtain ⟨z2, f2⟩ := r9.2 2 _ rfl; have g9 := r9.1))
                (try (refine hK _ _ ?_; clear hK K))
                refine wpAny_ready (rs := [9]) (by kernel_rfl) (by simp) ?_
                refine AllReady.cons rfl (fun K hK => ?_) ?_
                · go_simp
                  (try (refine hK _ _ ?_; clear hK K))
                  refine wpAny_take (i := 10) (v := ?_) rfl (by kernel_rfl) (by kernel_rfl) (by kernel_rfl) (fun _ _ _ h => h) (Or.inl ⟨by kernel_rfl, ?_⟩) ?_
                  rotate_left
                  · intro w; go_simp; (try with_reducible rfl)
                  refine wpAny_ready (rs := [11]) (by kernel_rfl) (by simp) ?_
                  refine AllReady.cons rfl (fun K hK => ?_) ?_
                  · go_simp
                    (try (refine hK _ _ ?_; clear hK K))
                    refine wpAny_done (by kernel_rfl) ?_ _
                    exact ⟨⟨_, _, _, _, _, _, _, _, _, _, rfl⟩, own_fin (wX := wX) hgl hB3 hP3 hD9 hb9 r9⟩
                  · exact AllReady.nil
                · exact AllReady.nil
              · exact AllReady.nil
            · exact AllReady.nil
          · exact AllReady.nil
        · refine AllReady.cons rfl (fun K hK => ?_) ?_
          · go_simp
            (try (refine hK _ _ ?_; clear hK K))
            refine wpAny_ready (rs := [0]) (by kernel_rfl) (by simp) ?_
            refine AllReady.cons rfl (fun K hK => ?_) ?_
            · go_simp
              (try (refine hK _ _ ?_; clear hK K))
              refine wpAny_ready (rs := [3]) (by kernel_rfl) (by simp) ?_
              refine AllReady.cons rfl (fun K hK => ?_) ?_
              · (refine step_append_reads _ rfl _ _ 32 rfl wX.heap.size 58 hi0 _ 3 32 Tryz.underlying32 hi hz0 hz1 hz2 rfl (by decide) _ 0 [] rfl own0 wX.heap.size A1 r.prelude.length c1 (cellsG r.prelude) rfl hR2 h1 (by unfold maxLen; omega) (by omega) (by simp) ?_; intro v' w3 hown hg; (try simp only [Nat.zero_add, List.nil_append] at hown); obtain ⟨A3, c3, rfl, _, _⟩ := own_form hown; have lt3 := hown.lt; have hB3 : Below wX.heap.size wX.drew w3 := b0.grown hg (by simp) (fun k hk => (own0.lt k hk).1); have r3 := r0.below hB3 hgl; obtain ⟨y1, _⟩ := r3.2 1 _ rfl; obtain ⟨y2, _⟩ := r3.2 2 _ rfl; have s3 := hB3.size; have hP3 : ReadsS w3 (Fresh wX w3) 3 A3 r.prelude.length (cellsG r.prelude) := ReadsS.of_own hown lt3; have cD := ru_own1 r.decls A2 r.decls.length c2 w3 (hD0.below hB3) hd hds; clear hown hg lt3)
                refine hK _ _ ?_
                clear hK K
                (try go_simp)
                refine wpAny_take (i := 8) (v := ?_) rfl (by kernel_rfl) (by kernel_rfl) (by kernel_rfl) (fun _ _ _ h => h) (Or.inl ⟨by kernel_rfl, ?_⟩) ?_
                rotate_left
                · intro w; go_simp; (try with_reducible rfl)
                refine wpAny_ready (rs := [7]) (by kernel_rfl) (by simp) ?_
                refine AllReady.cons rfl (fun K hK => ?_) ?_
                · go_simp
                  go_wp2_with (first | (refine cD.mono ?_; rintro e9 w9 ⟨⟨A9, c9, rfl, hD9⟩, hb9⟩; have hB9 : Below wX.heap.size wX.drew w9 := hB3.trans (hb9.mono s3); have r9 := r0.below hB9 hgl; obtain ⟨z1, f1⟩ := r9.2 1 _ rfl; obtain ⟨z2, f2⟩ := r9.2 2 _ rfl; have g9 := r9.1) | (go_at_call 49; refine cD.mono ?_; rintro e9 w9 ⟨⟨A9, c9, rfl, hD9⟩, hb9⟩; have hB9 : Below wX.heap.size wX.drew w9 := hB3.trans (hb9.mono s3); have r9 := r0.below hB9 hgl; obtain ⟨z1, f1⟩ := r9.2 1 _ rfl; obtain ⟨z2, f2⟩ := r9.2 2 _ rfl; have g9 := r9.1))
                  (try (refine hK _ _ ?_; clear hK K))
                  refine wpAny_ready (rs := [9]) (by kernel_rfl) (by simp) ?_
                  refine AllReady.cons rfl (fun K hK => ?_) ?_
                  · go_simp
                    (try (refine hK _ _ ?_; clear hK K))
                    refine wpAny_take (i := 10) (v := ?_) rfl (by kernel_rfl) (by kernel_rfl) (by kernel_rfl) (fun _ _ _ h => h) (Or.inl ⟨by kernel_rfl, ?_⟩) ?_
                    rotate_left
                    · intro w; go_simp; (try with_reducible rfl)
                    refine wpAny_ready (rs := [11]) (by kernel_rfl) (by simp) ?_
                    refine AllReady.cons rfl (fun K hK => ?_) ?_
                    · go_simp
                      (try (refine hK _ _ ?_; clear hK K))
                      refine wpAny_done (by kernel_rfl) ?_ _
                      exact ⟨⟨_, _, _, _, _, _, _, _, _, _, rfl⟩, own_fin (wX := wX) hgl hB3 hP3 hD9 hb9 r9⟩
                    · exact AllReady.nil
                  · exact AllReady.nil
                · exact AllReady.nil
              · exact AllReady.nil
            · exact AllReady.nil
          · exact AllReady.nil
      · exact AllReady.nil
/-- behind the statement that copies a margin rule -/
def PushRet (wb : Nat) (m : Margin) (v : Value) (mm : List MMargin) (w : World) (v' : Value) (w5 : World) : Prop :=
  ∃ (A9 : Option Addr) (c9 : Nat) (w9 : World) (o : Obj), DeclsS w9 (Fresh w w9) A9 m.decls.length m.decls ∧ Below w.heap.size w w9 ∧ w5.ownsRow wb 41 2 v' (mm.length + 1) (cellsM mm ++ [.string (bytesOf m.name), .slice A9 m.decls.length c9]) ∧ (w9.alloc o).grownBy w5 v.ownBlock ∧ (v'.ownBlock = v.ownBlock ∨ v'.ownBlock = some (w9.heap.size + 1))
set_option maxRecDepth 1000000 in
set_option maxHeartbeats 4000000 in
theorem ru_own_push {wX : World} {g wb : Nat} {m : Margin} {A1 A4 : Option Addr} {c1 c4 : Nat} {mm : List MMargin} (u0 u1 u2 u4 u5 u6 u8 u10 u11 u12 u13 u14 u15 u16 u17 u18 u19 u20 u21 u22 u23 u24 u25 u26 u27 u28 u29 u30 u31 u32 u33 u34 u35 u36 u37 u38 u39 u40 u41 u42 u43 u44 u45 u46 u47 u48 u49 u50 u51 : Value)
    (rX : RowAt wX g [.string (bytesOf m.name), .slice A1 m.decls.length c1]) (hD : DeclsS wX (· < wX.heap.size) A1 m.decls.length m.decls) (ho : wX.ownsRow wb 41 2 (.slice A4 mm.length c4) mm.length (cellsM mm))
    (hwb : wb ≤ wX.heap.size) (hm : mm.length ≤ 1000) (hd : m.decls.length ≤ 1000) (hds : ∀ d ∈ m.decls, d.value.length ≤ 1000000) :
    Code.wp Tryz.prog ownPush (fun e' a W => match e' with
      | .normal => ∃ v7 : Value, (∃ v33 v34 v35 v36 v37 v38 v39 v40 v41 v42 : Value, a = ⟨(List.toArray (u0 :: u1 :: u2 :: Value.func (.func 49) #[] #[] :: u4 :: u5 :: u6 :: v7 :: u8 :: Value.pointer (some ⟨g, 0, none⟩) :: u10 :: u11 :: u12 :: u13 :: u14 :: u15 :: u16 :: u17 :: u18 :: u19 :: u20 :: u21 :: u22 :: u23 :: u24 :: u25 :: u26 :: u27 :: u28 :: u29 :: u30 :: u31 :: u32 :: v33 :: v34 :: v35 :: v36 :: v37 :: v38 :: v39 :: v40 :: v41 :: v42 :: u43 :: u44 :: u45 :: u46 :: u47 :: u48 :: u49 :: u50 :: u51 :: [])), []⟩) ∧ PushRet wb m (.slice A4 mm.length c4) mm wX v7 W
      | _ => False) ⟨(List.toArray (u0 :: u1 :: u2 :: Value.func (.func 49) #[] #[] :: u4 :: u5 :: u6 :: Value.slice A4 mm.length c4 :: u8 :: Value.pointer (some ⟨g, 0, none⟩) :: u10 :: u11 :: u12 :: u13 :: u14 :: u15 :: u16 :: u17 :: u18 :: u19 :: u20 :: u21 :: u22 :: u23 :: u24 :: u25 :: u26 :: u27 :: u28 :: u29 :: u30 :: u31 :: u32 :: u33 :: u34 :: u35 :: u36 :: u37 :: u38 :: u39 :: u40 :: u41 :: u42 :: u43 :: u44 :: u45 :: u46 :: u47 :: u48 :: u49 :: u50 :: u51 :: [])), []⟩ wX := by
  conv => arg 2; whnf
  obtain ⟨mi0, mi, mz0, mz1, mz2⟩ := info_take ru_margin_info
  have hgl : g < wX.heap.size := rX.1
  have r0 : RowAt wX.drew g [.string (bytesOf m.name), .slice A1 m.decls.length c1] := rX
  obtain ⟨k0, _⟩ := r0.2 0 _ rfl
  obtain ⟨k1, _⟩ := r0.2 1 _ rfl
  have hD0 : DeclsS wX.drew (· < wX.drew.heap.size) A1 m.decls.length m.decls := hD
  have cD := ru_own1 m.decls A1 m.decls.length c1 wX.drew hD0 hd hds
  have ho0 : wX.drew.ownsRow wb 41 2 (.slice A4 mm.length c4) mm.length (cellsM mm) := ho
  clear hD hD0
  refine wp_region_any (by kernel_rfl) ?_
  try (change wpAny _ _ _ _ _ _ _ (World.drew _))
  refine wpAny_take (i := 0) (v := ?_) rfl (by kernel_rfl) (by kernel_rfl) (by kernel_rfl) (fun _ _ _ h => h) (Or.inl ⟨by kernel_rfl, ?_⟩) ?_
  rotate_left
  · intro w; go_simp; (try with_reducible rfl)
  refine wpAny_take (i := 1) (v := ?_) rfl (by kernel_rfl) (by kernel_rfl) (by kernel_rfl) (fun _ _ _ h => h) (Or.inl ⟨by kernel_rfl, ?_⟩) ?_
  rotate_left
  · intro w; go_simp; (try with_reducible rfl)
  refine wpAny_take (i := 3) (v := ?_) rfl (by kernel_rfl) (by kernel_rfl) (by kernel_rfl) (fun _ _ _ h => h) (Or.inl ⟨by kernel_rfl, ?_⟩) ?_
  rotate_left
  · intro w; go_simp; (try with_reducible rfl)
  refine wpAny_take (i := 4) (v := ?_) rfl (by kernel_rfl) (by kernel_rfl) (by kernel_rfl) (fun _ _ _ h => h) (Or.inl ⟨by kernel_rfl, ?_⟩) ?_
  rotate_left
  · intro w; go_simp; (try with_reducible rfl)
  refine wpAny_ready (rs := [2, 5]) (by kernel_rfl) (by simp) ?_
  refine AllReady.cons rfl (fun K hK => ?_) ?_
  · go_simp
    (try (refine hK _ _ ?_; clear hK K))
    refine wpAny_ready (rs := [5]) (by kernel_rfl) (by simp) ?_
    refine AllReady.cons rfl (fun K hK => ?_) ?_
    · go_simp
      (try (refine hK _ _ ?_; clear hK K))
      refine wpAny_ready (rs := [6]) (by kernel_rfl) (by simp) ?_
      refine AllReady.cons rfl (fun K hK => ?_) ?_
      · go_simp
        go_wp2_with (first | (refine cD.mono ?_; rintro e9 w9 ⟨⟨A9, c9, rfl, hD9⟩, hb9⟩; have hB9 : Below wX.heap.size wX.drew w9 := hb9; have r9 := r0.below hB9 hgl; obtain ⟨z0, _⟩ := r9.2 0 _ rfl; obtain ⟨z1, _⟩ := r9.2 1 _ rfl; have ho9 := own_below ho0 hB9; have s9 : wX.heap.size ≤ w9.heap.size := hB9.size) | (go_at_call 49; refine cD.mono ?_; rintro e9 w9 ⟨⟨A9, c9, rfl, hD9⟩, hb9⟩; have hB9 : Below wX.heap.size wX.drew w9 := hb9; have r9 := r0.below hB9 hgl; obtain ⟨z0, _⟩ := r9.2 0 _ rfl; obtain ⟨z1, _⟩ := r9.2 1 _ rfl; have ho9 := own_below ho0 hB9; have s9 : wX.heap.size ≤ w9.heap.size := hB9.size))
        (try (refine hK _ _ ?_; clear hK K))
        refine wpAny_take (i := 7) (v := ?_) rfl (by kernel_rfl) (by kernel_rfl) (by kernel_rfl) (fun _ _ _ h => h) (Or.inl ⟨by kernel_rfl, ?_⟩) ?_
        rotate_left
        · intro w; go_simp; (try with_reducible rfl)
        refine wpAny_ready (rs := [8]) (by kernel_rfl) (by simp) ?_
        refine AllReady.cons rfl (fun K hK => ?_) ?_
        · go_simp
          (try (refine hK _ _ ?_; clear hK K))
          refine wpAny_ready (rs := [9]) (by kernel_rfl) (by simp) ?_
          refine AllReady.cons rfl (fun K hK => ?_) ?_
          · (refine step_append_own_at _ rfl _ _ 37 rfl wb 41 mi0 _ 2 40 Tryz.underlying37 mi mz0 mz1 mz2 rfl (by decide) _ mm.length (cellsM mm) rfl (ho9.alloc _) ⟨w9.heap.size, 0, none⟩ 1 1 [.string (bytesOf m.name), .slice A9 m.decls.length c9] rfl rfl (cells_new2 _ _ _ _) (by intro u hu; simp at hu; rcases hu with rfl | rfl <;> rfl) (by unfold maxLen; omega) (by omega) (by simp; omega) ?_; intro v' w5 hown5 hg5 _ hat)
            refine hK _ _ ?_
            clear hK K
            (try go_simp)
            refine wpAny_take (i := 10) (v := ?_) rfl (by kernel_rfl) (by kernel_rfl) (by kernel_rfl) (fun _ _ _ h => h) (Or.inl ⟨by kernel_rfl, ?_⟩) ?_
            rotate_left
            · intro w; go_simp; (try with_reducible rfl)
            refine wpAny_done (by kernel_rfl) ?_ _
            refine ⟨_, ⟨_, _, _, _, _, _, _, _, _, _, rfl⟩, A9, c9, w9, _, hD9, (Below.refl _ _).drew.trans hb9, hown5, hg5, hat.imp (fun e => e) (fun e => e.trans (by simp))⟩
          · exact AllReady.nil
        · exact AllReady.nil
      · exact AllReady.nil
    · exact AllReady.nil
  · refine AllReady.cons rfl (fun K hK => ?_) ?_
    · go_simp
      (try (refine hK _ _ ?_; clear hK K))
      refine wpAny_ready (rs := [2, 6]) (by kernel_rfl) (by simp) ?_
      refine AllReady.cons rfl (fun K hK => ?_) ?_
      · go_simp
        (try (refine hK _ _ ?_; clear hK K))
        refine wpAny_ready (rs := [6]) (by kernel_rfl) (by simp) ?_
        refine AllReady.cons rfl (fun K hK => ?_) ?_
        · go_simp
          go_wp2_with (first | (refine cD.mono ?_; rintro e9 w9 ⟨⟨A9, c9, rfl, hD9⟩, hb9⟩; have hB9 : Below wX.heap.size wX.drew w9 := hb9; have r9 := r0.below hB9 hgl; obtain ⟨z0, _⟩ := r9.2 0 _ rfl; obtain ⟨z1, _⟩ := r9.2 1 _ rfl; have ho9 := own_below ho0 hB9; have s9 : wX.heap.size ≤ w9.heap.size := hB9.size) | (go_at_call 49; refine cD.mono ?_; rintro e9 w9 ⟨⟨A9, c9, rfl, hD9⟩, hb9⟩; have hB9 : Below wX.heap.size wX.drew w9 := hb9; have r9 := r0.below hB9 hgl; obtain ⟨z0, _⟩ := r9.2 0 _ rfl; obtain ⟨z1, _⟩ := r9.2 1 _ rfl; have ho9 := own_below ho0 hB9; have s9 : wX.heap.size ≤ w9.heap.size := hB9.size))
          (try (refine hK _ _ ?_; clear hK K))
          refine wpAny_take (i := 7) (v := ?_) rfl (by kernel_rfl) (by kernel_rfl) (by kernel_rfl) (fun _ _ _ h => h) (Or.inl ⟨by kernel_rfl, ?_⟩) ?_
          rotate_left
          · intro w; go_simp; (try with_reducible rfl)
          refine wpAny_ready (rs := [8]) (by kernel_rfl) (by simp) ?_
          refine AllReady.cons rfl (fun K hK => ?_) ?_
          · go_simp
            (try (refine hK _ _ ?_; clear hK K))
            refine wpAny_ready (rs := [9]) (by kernel_rfl) (by simp) ?_
            refine AllReady.cons rfl (fun K hK => ?_) ?_
            · (refine step_append_own_at _ rfl _ _ 37 rfl wb 41 mi0 _ 2 40 Tryz.underlying37 mi mz0 mz1 mz2 rfl (by decide) _ mm.length (cellsM mm) rfl (ho9.alloc _) ⟨w9.heap.size, 0, none⟩ 1 1 [.string (bytesOf m.name), .slice A9 m.decls.length c9] rfl rfl (cells_new2 _ _ _ _) (by intro u hu; simp at hu; rcases hu with rfl | rfl <;> rfl) (by unfold maxLen; omega) (by omega) (by simp; omega) ?_; intro v' w5 hown5 hg5 _ hat)
              refine hK _ _ ?_
              clear hK K
              (try go_simp)
              refine wpAny_take (i := 10) (v := ?_) rfl (by kernel_rfl) (by kernel_rfl) (by kernel_rfl) (fun _ _ _ h => h) (Or.inl ⟨by kernel_rfl, ?_⟩) ?_
              rotate_left
              · intro w; go_simp; (try with_reducible rfl)
              refine wpAny_done (by kernel_rfl) ?_ _
              refine ⟨_, ⟨_, _, _, _, _, _, _, _, _, _, rfl⟩, A9, c9, w9, _, hD9, (Below.refl _ _).drew.trans hb9, hown5, hg5, hat.imp (fun e => e) (fun e => e.trans (by simp))⟩
            · exact AllReady.nil
          · exact AllReady.nil
        · exact AllReady.nil
      · refine AllReady.cons rfl (fun K hK => ?_) ?_
        · go_simp
          go_wp2_with (first | (refine cD.mono ?_; rintro e9 w9 ⟨⟨A9, c9, rfl, hD9⟩, hb9⟩; have hB9 : Below wX.heap.size wX.drew w9 := hb9; have r9 := r0.below hB9 hgl; obtain ⟨z0, _⟩ := r9.2 0 _ rfl; obtain ⟨z1, _⟩ := r9.2 1 _ rfl; have ho9 := own_below ho0 hB9; have s9 : wX.heap.size ≤ w9.heap.size := hB9.size) | (go_at_call 49; refine cD.mono ?_; rintro e9 w9 ⟨⟨A9, c9, rfl, hD9⟩, hb9⟩; have hB9 : Below wX.heap.size wX.drew w9 := hb9; have r9 := r0.below hB9 hgl; obtain ⟨z0, _⟩ := r9.2 0 _ rfl; obtain ⟨z1, _⟩ := r9.2 1 _ rfl; have ho9 := own_below ho0 hB9; have s9 : wX.heap.size ≤ w9.heap.size := hB9.size))
          (try (refine hK _ _ ?_; clear hK K))
          refine wpAny_ready (rs := [2]) (by kernel_rfl) (by simp) ?_
          refine AllReady.cons rfl (fun K hK => ?_) ?_
          · go_simp
            (try (refine hK _ _ ?_; clear hK K))
            refine wpAny_take (i := 7) (v := ?_) rfl (by kernel_rfl) (by kernel_rfl) (by kernel_rfl) (fun _ _ _ h => h) (Or.inl ⟨by kernel_rfl, ?_⟩) ?_
            rotate_left
            · intro w; go_simp; (try with_reducible rfl)
            refine wpAny_ready (rs := [8]) (by kernel_rfl) (by simp) ?_
            refine AllReady.cons rfl (fun K hK => ?_) ?_
            · go_simp
              (try (refine hK _ _ ?_; clear hK K))
              refine wpAny_ready (rs := [9]) (by kernel_rfl) (by simp) ?_
              refine AllReady.cons rfl (fun K hK => ?_) ?_
              · (refine step_append_own_at _ rfl _ _ 37 rfl wb 41 mi0 _ 2 40 Tryz.underlying37 mi mz0 mz1 mz2 rfl (by decide) _ mm.length (cellsM mm) rfl (ho9.alloc _) ⟨w9.heap.size, 0, none⟩ 1 1 [.string (bytesOf m.name), .slice A9 m.decls.length c9] rfl rfl (cells_new2 _ _ _ _) (by intro u hu; simp at hu; rcases hu with rfl | rfl <;> rfl) (by unfold maxLen; omega) (by omega) (by simp; omega) ?_; intro v' w5 hown5 hg5 _ hat)
                refine hK _ _ ?_
                clear hK K
                (try go_simp)
                refine wpAny_take (i := 10) (v := ?_) rfl (by kernel_rfl) (by kernel_rfl) (by kernel_rfl) (fun _ _ _ h => h) (Or.inl ⟨by kernel_rfl, ?_⟩) ?_
                rotate_left
                · intro w; go_simp; (try with_reducible rfl)
                refine wpAny_done (by kernel_rfl) ?_ _
                refine ⟨_, ⟨_, _, _, _, _, _, _, _, _, _, rfl⟩, A9, c9, w9, _, hD9, (Below.refl _ _).drew.trans hb9, hown5, hg5, hat.imp (fun e => e) (fun e => e.trans (by simp))⟩
              · exact AllReady.nil
            · exact AllReady.nil
          · exact AllReady.nil
        · exact AllReady.nil
    · exact AllReady.nil
end Go.Proofs.YtfhdihdafmahgaaGreatDoor
/- Layer 6: the law's own is walked: a copy of rules. -/
set_option linter.unusedVariables false
set_option linter.unusedSimpArgs false
namespace Go.Proofs.YtfhdihdafmahgaaGreatDoor
open Go.RowKit Rn Tp Ru
namespace Ru
/-- rules that may be copied here -/
def smallR (r : Rule) : Prop := r.prelude.length ≤ 1000 ∧ r.decls.length ≤ 1000 ∧ (∀ d ∈ r.decls, d.value.length ≤ 1000000) ∧ r.margins.length ≤ 1000 ∧ ∀ m ∈ r.margins, m.decls.length ≤ 1000 ∧ ∀ d ∈ m.decls, d.value.length ≤ 1000000
end Ru
/-- a row of rules of the call's own -/
structure OJ (rs : List Rule) (w wr : World) (k : Nat) (v : Value) (mr : List MRule) : Prop where
  bel : Below w.heap.size w wr
  own : wr.ownsRow w.heap.size 39 4 v mr.length (cellsR mr)
  rd : RulesM wr (RS w wr v) mr
  e1 : mr.map (·.r) = rs.take k
/-- a row of margin rules of the call's own -/
structure MJ (ms : List Margin) (w wr : World) (k : Nat) (v : Value) (mm : List MMargin) : Prop where
  bel : Below w.heap.size w wr
  own : wr.ownsRow w.heap.size 41 2 v mm.length (cellsM mm)
  rd : MarginsM wr (RS w wr v) mm
  e1 : mm.map (·.m) = ms.take k
section
variable {rs : List Rule} {ms : List Margin} {k : Nat} {w wr W w3 : World} {v v' : Value} {mr : List MRule} {mm : List MMargin} {o : Obj}
theorem OJ.start (rs : List Rule) (w : World) : OJ rs w w 0 (.slice none 0 0) [] := ⟨Below.refl _ _, World.ownsRow_nil _ _ _ _, (fun m hm => by cases hm), (by simp)⟩
theorem OJ.below (h : OJ rs w wr k v mr) (hb : Below wr.heap.size wr W) : OJ rs w W k v mr :=
  ⟨h.bel.trans (hb.mono h.bel.size), own_below h.own hb, (h.rd.keep (Kept.of_below hb (fun b h => h.2.1))).more (fun b hb' => ⟨hb'.1, Nat.lt_of_lt_of_le hb'.2.1 hb.size, hb'.2.2⟩), h.e1⟩
theorem OJ.push {m : MRule} (h : OJ rs w W k v mr) (hm : m.Reads W (RS w W v)) (hw : w.heap.size ≤ W.heap.size)
    (hown : w3.ownsRow w.heap.size 39 4 v' (mr.length + 1) (cellsR mr ++ m.cells)) (hg : (W.alloc o).grownBy w3 v.ownBlock) (hat : v'.ownBlock = v.ownBlock ∨ v'.ownBlock = some (W.heap.size + 1))
    (h1 : rs[k]? = some m.r) : OJ rs w w3 (k + 1) v' (mr ++ [m]) := by
  have hsz : W.heap.size + 1 ≤ w3.heap.size := by have := hg.size; simpa using this
  have hS : ∀ b, RS w W v b → RS w w3 v' b := fun b hb => ⟨hb.1, by have := hb.2.1; omega, by
    rcases hat with e | e
    · rw [e]; exact hb.2.2
    · rw [e]; intro e2; injection e2 with e2; have := hb.2.1; omega⟩
  have hkA : Kept (RS w W v) W (W.alloc o) := Kept.of_alloc o (fun b hb => hb.2.1)
  have hkG : Kept (RS w W v) (W.alloc o) w3 := Kept.of_grown hg (fun b hb => ⟨by have := hb.2.1; simp; omega, fun e => hb.2.2 e.symm⟩)
  have hk := hkA.trans hkG
  refine ⟨push_below h.bel hw h.own hg, by rw [List.length_append, cellsR_snoc]; exact hown, ?_, ?_⟩
  · exact ((h.rd.keep hk).more hS).snoc ((hm.keep hk).more hS)
  · rw [List.map_append, h.e1, List.take_add_one, h1]; rfl
theorem MJ.start (ms : List Margin) (w : World) : MJ ms w w 0 (.slice none 0 0) [] := ⟨Below.refl _ _, World.ownsRow_nil _ _ _ _, (fun m hm => by cases hm), (by simp)⟩
theorem MJ.below (h : MJ ms w wr k v mm) (hb : Below wr.heap.size wr W) : MJ ms w W k v mm :=
  ⟨h.bel.trans (hb.mono h.bel.size), own_below h.own hb, (h.rd.keep (Kept.of_below hb (fun b h => h.2.1))).more (fun b hb' => ⟨hb'.1, Nat.lt_of_lt_of_le hb'.2.1 hb.size, hb'.2.2⟩), h.e1⟩
theorem MJ.push {m : MMargin} (h : MJ ms w W k v mm) (hm : DeclsS W (RS w W v) m.A m.m.decls.length m.m.decls) (hw : w.heap.size ≤ W.heap.size)
    (hown : w3.ownsRow w.heap.size 41 2 v' (mm.length + 1) (cellsM mm ++ m.cells)) (hg : (W.alloc o).grownBy w3 v.ownBlock) (hat : v'.ownBlock = v.ownBlock ∨ v'.ownBlock = some (W.heap.size + 1))
    (h1 : ms[k]? = some m.m) : MJ ms w w3 (k + 1) v' (mm ++ [m]) := by
  have hsz : W.heap.size + 1 ≤ w3.heap.size := by have := hg.size; simpa using this
  have hS : ∀ b, RS w W v b → RS w w3 v' b := fun b hb => ⟨hb.1, by have := hb.2.1; omega, by
    rcases hat with e | e
    · rw [e]; exact hb.2.2
    · rw [e]; intro e2; injection e2 with e2; have := hb.2.1; omega⟩
  have hkA : Kept (RS w W v) W (W.alloc o) := Kept.of_alloc o (fun b hb => hb.2.1)
  have hkG : Kept (RS w W v) (W.alloc o) w3 := Kept.of_grown hg (fun b hb => ⟨by have := hb.2.1; simp; omega, fun e => hb.2.2 e.symm⟩)
  have hk := hkA.trans hkG
  refine ⟨push_below h.bel hw h.own hg, by rw [List.length_append, cellsM_snoc]; exact hown, ?_, ?_⟩
  · exact ((h.rd.keep hk).more hS).snoc ((hm.keep hk).more hS)
  · rw [List.map_append, h.e1, List.take_add_one, h1]; rfl
theorem MJ.done {A : Option Addr} {c : Nat} (h : MJ ms w wr ms.length (.slice A mm.length c) mm) : MarginsS wr (Fresh w wr) A ms.length ms := by
  have he : mm.map (·.m) = ms := by rw [h.e1, List.take_length]
  have hl : ms.length = mm.length := by rw [← he, List.length_map]
  refine ⟨mm, he, ?_, h.rd.more (fun b hb => ⟨hb.1, hb.2.1⟩)⟩
  rw [hl]
  exact ReadsS.of_own h.own (fun b hb => h.own.lt b hb)
theorem OJ.done {A : Option Addr} {n c : Nat} (h : OJ rs w wr rs.length (.slice A n c) mr) : RulesS wr (Fresh w wr) A rs.length rs := by
  have he : mr.map (·.r) = rs := by rw [h.e1, List.take_length]
  have hl : rs.length = mr.length := by rw [← he, List.length_map]
  refine ⟨mr, he, ?_, h.rd.more (fun b hb => ⟨hb.1, hb.2.1⟩)⟩
  rw [hl]
  obtain ⟨A', c', hv, _, _⟩ := own_form h.own
  injection hv with hv1 hv2 hv3
  subst hv1 hv2 hv3
  exact ReadsS.of_own h.own (fun b hb => h.own.lt b hb)
end
def OwnAll (rs : List Rule) (w : World) (e : Ending) (w' : World) : Prop := ∃ (A : Option Addr) (c : Nat) (mr : List MRule), e = .returned (.slice A rs.length c) ∧ OJ rs w w' rs.length (.slice A rs.length c) mr
set_option maxRecDepth 100000 in
set_option maxHeartbeats 8000000 in
theorem ru_own (rs : List Rule) (A : Option Addr) (n c : Nat) (w : World) (h : RulesS w (· < w.heap.size) A n rs) (hn : n ≤ 1000) (hs : ∀ r ∈ rs, smallR r) :
    Calls Tryz.prog 15 #[.slice A n c] w (OwnAll rs w) := by
  have hlen := h.len
  have Hlen := Lib.hid hlen
  have Hs := Lib.hid hs
  obtain ⟨ri0, ri, rz0, rz1, rz2⟩ := info_take ru_rule_info
  clear hlen hs
  go_enter Tryz.func15, Tryz.ntmps15
  go_wp2_with fail
  go_loopw [4, 12] (fun v i wr => ∃ (k : Nat) (A1 : Option Addr) (n1 c1 : Nat) (mr : List MRule), k ≤ n ∧ i = .int .i64 (k : Int) ∧ v = .slice A1 n1 c1 ∧ Hid (n1 = k ∧ mr.length = k) ∧ OJ rs w wr k (.slice A1 n1 c1) mr) (fun _ i _ => n - (intOf i).toNat)
  case atStart => exact ⟨0, none, 0, 0, [], by omega, rfl, rfl, ⟨rfl, rfl⟩, OJ.start rs w⟩
  case round =>
    obtain ⟨k, A1, n1, c1, mr, hk, rfl, rfl, hmr, hJ⟩ := hrel
    obtain ⟨u, hu⟩ : ∃ x, x = wr := ⟨_, rfl⟩
    subst hu
    have hb := hJ.bel
    have hbs := hb.size
    by_cases hlt : k < n
    · obtain ⟨b, off, C1, d1, C2, d2, C3, d3, r, hA, hbl, hrk, f0, f1, f2, f3, hX1, hX2, hX3⟩ := h.at_ hlt
      subst hA
      have hki : (k : Int) < (n : Int) := by omega
      obtain ⟨m1, m2, m3, m4, m5⟩ := Hs.out r (List.mem_of_getElem? hrk)
      replace f0 := (hb.cell (p := ⟨b, off + k * 4, none⟩) hbl).trans f0
      replace f1 := (hb.cell (p := ⟨b, off + k * 4 + 1, none⟩) hbl).trans f1
      replace f2 := (hb.cell (p := ⟨b, off + k * 4 + 2, none⟩) hbl).trans f2
      replace f3 := (hb.cell (p := ⟨b, off + k * 4 + 3, none⟩) hbl).trans f3
      obtain ⟨Zb, hZb⟩ : ∃ Zb, u.alloc (.cells #[.int .i64 0, .slice none 0 0, .slice none 0 0, .slice none 0 0] 39) = Zb := ⟨_, rfl⟩
      have bZb : Below u.heap.size u Zb := by rw [← hZb]; exact (Below.refl _ _).alloc (Nat.le_refl _) _
      have rZb : RowAt Zb u.heap.size [.int .i64 0, .slice none 0 0, .slice none 0 0, .slice none 0 0] := by rw [← hZb]; exact RowAt.new _ _ _
      obtain ⟨mZb0, nZb0⟩ := rZb.2 0 _ rfl
      obtain ⟨mZb1, nZb1⟩ := rZb.2 1 _ rfl
      obtain ⟨mZb2, nZb2⟩ := rZb.2 2 _ rfl
      obtain ⟨mZb3, nZb3⟩ := rZb.2 3 _ rfl
      obtain ⟨WA, hWA⟩ : ∃ WA, ((((Zb.setCell ⟨u.heap.size, 0, none⟩ (.int .i64 r.kind)).setCell ⟨u.heap.size, 1, none⟩ (.slice C1 r.prelude.length d1)).setCell ⟨u.heap.size, 2, none⟩ (.slice C2 r.decls.length d2)).setCell ⟨u.heap.size, 3, none⟩ (.slice C3 r.margins.length d3)) = WA := ⟨_, rfl⟩
      have bA : Below u.heap.size u WA := by rw [← hWA]; exact ((((bZb.setCell (p := ⟨u.heap.size, 0, none⟩) (Nat.le_refl _) _).setCell (p := ⟨u.heap.size, 1, none⟩) (Nat.le_refl _) _).setCell (p := ⟨u.heap.size, 2, none⟩) (Nat.le_refl _) _).setCell (p := ⟨u.heap.size, 3, none⟩) (Nat.le_refl _) _)
      have rA : RowAt WA u.heap.size [.int .i64 r.kind, .slice C1 r.prelude.length d1, .slice C2 r.decls.length d2, .slice C3 r.margins.length d3] := by rw [← hWA]; exact ((((rZb.store 0 (.int .i64 r.kind)).store 1 (.slice C1 r.prelude.length d1)).store 2 (.slice C2 r.decls.length d2)).store 3 (.slice C3 r.margins.length d3))
      have hBA := hb.trans (bA.mono hbs)
      have hgA := rA.1
      have l0 := hJ.own.lt
      have HJ := Lib.hid hJ
      have Hrk := Lib.hid hrk
      have M5 := Lib.hid m5
      have hP0 := hX1.keep (Kept.of_below hBA (fun b h => h))
      have hP1 : ReadsS WA (· < WA.heap.size) 3 C1 r.prelude.length (cellsG r.prelude) := hP0.more (fun b h => Nat.lt_of_lt_of_le h hBA.size)
      have hD1 := hX2.below hBA
      have hX3' := hX3
      clear hJ hrk m5 hX1 hX2 hX3 hP0
      go_upto_region 6 with (fail)
      go_cut [6] (fun x wx => x = .pointer (some ⟨u.heap.size, 0, none⟩) ∧ OwnRet r u.heap.size (.slice C3 r.margins.length d3) WA wx)
      case first =>
        rename_i hKK
        refine Code.wp_mono ?_ (ru_own_fill _ _ _ _ _ _ _ _ _ _ _ _ _ _ _ _ _ _ _ _ _ _ _ _ _ _ _ _ _ _ _ _ _ _ _ _ _ _ _ _ _ _ _ _ _ _ _ _ _ _ rA hP1 hD1 m1 m2 m3)
        intro e' a W hQ
        cases e' <;> first | exact hQ.elim | skip
        obtain ⟨⟨v16, v17, v18, v19, v20, v21, v22, v23, v24, v25, rfl⟩, hRR⟩ := hQ
        refine hKK _ _ ?_
        go_meet
        exact ⟨rfl, hRR⟩
      case rest =>
        obtain ⟨rfl, hRR⟩ := hcut
        obtain ⟨wF, huF⟩ : ∃ x, x = wc := ⟨_, rfl⟩
        subst huF
        obtain ⟨B1, e1, B2, e2, rF, hPF, hDF, hbF⟩ := hRR
        have bF : Below u.heap.size u wF := bA.trans hbF
        have sA := bA.size
        have sF := hbF.size
        have hMF : MarginsS wF (· < wF.heap.size) C3 r.margins.length r.margins := ((hX3'.keep (Kept.of_below (hb.trans (bF.mono hbs)) (fun b h => h))).more (fun b h => Nat.lt_of_lt_of_le h (hb.trans (bF.mono hbs)).size))
        obtain ⟨y3, _⟩ := rF.2 3 _ rfl
        obtain ⟨mq, hmq⟩ : ∃ mq, r.margins.length = mq := ⟨_, rfl⟩
        rw [hmq] at hMF y3 m4
        have Hmq := Lib.hid hmq
        have RF := Lib.hid rF
        have PF := Lib.hid hPF
        have DF := Lib.hid hDF
        clear hmq rF hPF hDF hP1 hD1 rA f0 f1 f2 f3 mZb0 mZb1 mZb2 mZb3 nZb0 nZb1 nZb2 nZb3
        go_wp2_with fail
        go_loopw [7, 29] (fun v i wx => ∃ (j : Nat) (A4 : Option Addr) (n4 c4 : Nat) (mm : List MMargin), j ≤ mq ∧ i = .int .i64 (j : Int) ∧ v = .slice A4 n4 c4 ∧ Hid (n4 = mm.length ∧ mm.length = j) ∧ MJ r.margins wF wx j (.slice A4 n4 c4) mm) (fun _ i _ => mq - (intOf i).toNat)
        case atStart => exact ⟨0, none, 0, 0, [], by omega, rfl, rfl, ⟨rfl, rfl⟩, MJ.start _ wF⟩
        case round =>
          obtain ⟨j, A4, n4, c4, mm, hj, rfl, rfl, hmm, hM⟩ := hrel
          obtain ⟨wx, hux⟩ : ∃ x, x = wr := ⟨_, rfl⟩
          subst hux
          have hbx := hM.bel
          have sx := hbx.size
          by_cases hjl : j < mq
          · obtain ⟨b', off', A5, c5, m, hA, hbl', hmj, g0, g1, hX⟩ := hMF.at_ hjl
            subst hA
            have hji : (j : Int) < (mq : Int) := by omega
            obtain ⟨n1', n2'⟩ := M5.out m (List.mem_of_getElem? hmj)
            replace g0 := (hbx.cell (p := ⟨b', off' + j * 2, none⟩) hbl').trans g0
            replace g1 := (hbx.cell (p := ⟨b', off' + j * 2 + 1, none⟩) hbl').trans g1
            obtain ⟨WB, hWB⟩ : ∃ WB, wx.alloc (.cells #[.string (bytesOf m.name), .slice A5 m.decls.length c5] 41) = WB := ⟨_, rfl⟩
            have bB : Below wx.heap.size wx WB := by rw [← hWB]; exact (Below.refl _ _).alloc (Nat.le_refl _) _
            have rB : RowAt WB wx.heap.size [.string (bytesOf m.name), .slice A5 m.decls.length c5] := by rw [← hWB]; exact RowAt.new _ _ _
            have hBB := hbx.trans (bB.mono sx)
            have hMB := hM.below bB
            have hDB := hX.below hBB
            obtain ⟨q1, q2⟩ := hmm.out
            subst q1
            have hml : mm.length ≤ 1000 := by omega
            have Q2 := Lib.hid q2
            clear q2
            have hoB := hMB.own
            have HM := Lib.hid hMB
            have Hmj := Lib.hid hmj
            have lB := hoB.lt
            clear hM hmj hX hMB
            go_upto_region 11 with (fail)
            refine Code.wp_mono ?_ (ru_own_push _ _ _ _ _ _ _ _ _ _ _ _ _ _ _ _ _ _ _ _ _ _ _ _ _ _ _ _ _ _ _ _ _ _ _ _ _ _ _ _ _ _ _ _ _ _ _ _ _ rB hDB hoB (by have := hBB.size; omega) hml n1' n2')
            intro e' a W hQ
            cases e' <;> first | exact hQ.elim | skip
            obtain ⟨v7, ⟨v33, v34, v35, v36, v37, v38, v39, v40, v41, v42, rfl⟩, A9, c9, w9, o9, hD9, hb9, hown9, hg9, hat9⟩ := hQ
            have hM9 := HM.out.below hb9
            have s9 := hb9.size
            have sB := hBB.size
            have hM10 := hM9.push (m := ⟨m, A9, c9⟩) (hD9.more (fun b hb => ⟨by have := hb.1; omega, hb.2, fun e => by have := (lB b e).2; have := hb.1; omega⟩)) hM9.bel.size hown9 hg9 hat9 Hmj.out
            obtain ⟨A10, c10, hv10, _, _⟩ := own_form hown9
            subst hv10
            have hmm' : Hid (mm.length + 1 = (mm ++ [(⟨m, A9, c9⟩ : MMargin)]).length ∧ (mm ++ [(⟨m, A9, c9⟩ : MMargin)]).length = j + 1) := ⟨by simp, by simp [Q2.out]⟩
            have HM10 := Lib.hid hM10
            have wj : IntKind.i64.wrap ((j : Int) + 1) = (j : Int) + 1 := by rw [IntKind.wrap_i64]; omega
            clear hown9 hg9 hat9 hD9 hM9 hM10 HM hoB hDB rB
            go_wp2_with fail
            go_roundw
            case rel => exact ⟨_, _, _, ⟨j + 1, by omega, by go_num, A10, mm.length + 1, c10, rfl, _, hmm', HM10.out⟩, rfl, rfl, rfl⟩
            case measure => simp [intOf]; omega
          · obtain rfl : j = mq := by omega
            have dj : ¬ (j : Int) < (j : Int) := by omega
            obtain ⟨q1, q2⟩ := hmm.out
            subst q1
            have hMd : MarginsS wx (Fresh wF wx) A4 r.margins.length r.margins := by
              have h1 := hM
              rw [← Hmq.out] at h1
              exact h1.done
            have hgF := RF.out.1
            have rX := RF.out.below hbx hgF
            obtain ⟨x3, xf3⟩ := rX.2 3 _ rfl
            have rG := rX.store 3 (.slice A4 mm.length c4)
            have bG : Below u.heap.size u (wx.setCell ⟨u.heap.size, 3, none⟩ (.slice A4 mm.length c4)) := (bF.trans (hbx.mono (by omega))).setCell (p := ⟨u.heap.size, 3, none⟩) (Nat.le_refl _) _
            have hne : ∀ x, wF.heap.size ≤ x → x ≠ u.heap.size := fun x hx => by omega
            have hPx := PF.out.keep (Kept.of_below hbx (fun b h => h.2))
            have hDx := DF.out.keep (Kept.of_below hbx (fun b h => h.2))
            have hPG := hPx.keep (Kept.setCell (p := ⟨u.heap.size, 3, none⟩) (.slice A4 mm.length c4) (fun x hx => by have := hx.1; show x ≠ u.heap.size; omega))
            have hDG := hDx.keep (Kept.setCell (p := ⟨u.heap.size, 3, none⟩) (.slice A4 mm.length c4) (fun x hx => by have := hx.1; show x ≠ u.heap.size; omega))
            have hMG := hMd.keep (Kept.setCell (p := ⟨u.heap.size, 3, none⟩) (.slice A4 mm.length c4) (fun x hx => by have := hx.1; show x ≠ u.heap.size; omega))
            have szG : wx.heap.size ≤ (wx.setCell ⟨u.heap.size, 3, none⟩ (.slice A4 mm.length c4)).heap.size := by simp [World.setCell]
            obtain ⟨WG, hWG⟩ : ∃ WG, wx.setCell ⟨u.heap.size, 3, none⟩ (.slice A4 mm.length c4) = WG := ⟨_, rfl⟩
            rw [hWG] at rG bG hPG hDG hMG szG
            obtain ⟨z0, _⟩ := rG.2 0 _ rfl
            obtain ⟨z1, _⟩ := rG.2 1 _ rfl
            obtain ⟨z2, _⟩ := rG.2 2 _ rfl
            obtain ⟨z3, _⟩ := rG.2 3 _ rfl
            have hlq : mm.length = r.margins.length := by rw [Hmq.out]; exact q2
            have hJG := HJ.out.below bG
            have hm : MRule.Reads WG (RS w WG (.slice A1 n1 c1)) ⟨r, B1, e1, B2, e2, A4, c4⟩ :=
              ⟨hPG.more (fun b hb => ⟨by have := hb.1; omega, by have := hb.2; omega, fun e => by have := (l0 b e).2; have := hb.1; omega⟩),
                hDG.more (fun b hb => ⟨by have := hb.1; omega, by have := hb.2; omega, fun e => by have := (l0 b e).2; have := hb.1; omega⟩),
                hMG.more (fun b hb => ⟨by have := hb.1; omega, by have := hb.2; omega, fun e => by have := (l0 b e).2; have := hb.1; omega⟩)⟩
            have hwG : w.heap.size ≤ WG.heap.size := hJG.bel.size
            obtain ⟨t1, t2⟩ := hmr.out
            subst t1
            have T2 := Lib.hid t2
            have hoG := hJG.own
            have HJG := Lib.hid hJG
            have Hm := Lib.hid hm
            have wk : IntKind.i64.wrap ((n1 : Int) + 1) = (n1 : Int) + 1 := by rw [IntKind.wrap_i64]; omega
            have hmrl : mr.length ≤ 1000 := by omega
            have Hlq := Lib.hid hlq
            clear t2 q2 hlq
            clear hJG hm rX rG hPx hDx hPG hDG hMG hMd hM HJ
            go_wp2_with (at_builtin; refine wpList_append_own_at _ rfl _ _ 24 rfl w.heap.size 39 ri0 _ 4 80 Tryz.underlying24 ri rz0 rz1 rz2 rfl (by decide) _ mr.length (cellsR mr) rfl (hoG.alloc _) ⟨WG.heap.size, 0, none⟩ 1 1 [.int .i64 r.kind, .slice B1 r.prelude.length e1, .slice B2 r.decls.length e2, .slice A4 mm.length c4] rfl rfl (cells_new4 _ _ _ _ _ _) (by intro u hu; simp at hu; rcases hu with rfl | rfl | rfl | rfl <;> rfl) (by unfold maxLen; omega) (by omega) (by simp; omega) ?_; intro v' w10 hown10 hg10 _ hat)
            rw [Hlq.out] at hown10
            have hJ10 := HJG.out.push (m := ⟨r, B1, e1, B2, e2, A4, c4⟩) Hm.out hwG hown10 hg10 (hat.imp (fun e => e) (fun e => e.trans (by simp))) Hrk.out
            obtain ⟨A11, c11, hv11, _, _⟩ := own_form hown10
            subst hv11
            have hmr' : Hid (mr.length + 1 = n1 + 1 ∧ (mr ++ [(⟨r, B1, e1, B2, e2, A4, c4⟩ : MRule)]).length = n1 + 1) := ⟨by rw [T2.out], by simp [T2.out]⟩
            have HJ10 := Lib.hid hJ10
            clear hown10 hg10 hat Hm hoG HJG hJ10
            go_wp2_with fail
            go_roundw
            case rel => exact ⟨n1 + 1, A11, mr.length + 1, c11, _, by omega, by go_num, rfl, hmr', HJ10.out⟩
            case measure => simp [intOf]; omega
    · obtain rfl : k = n := by omega
      have dk : ¬ (k : Int) < (k : Int) := by omega
      have hfin : OwnAll rs w (.returned (.slice A1 n1 c1)) u := by
        obtain ⟨t1, t2⟩ := hmr.out
        have hl := Hlen.out
        subst t1
        rw [← hl] at hJ ⊢
        exact ⟨A1, c1, mr, rfl, hJ⟩
      have HF := Lib.hid hfin
      clear hfin hJ
      go_wp2_with fail
      go_ret
      exact HF.out
end Go.Proofs.YtfhdihdafmahgaaGreatDoor
/- Layer 6: rules that may be gone through are small. Plain laws. -/
set_option linter.unusedVariables false
namespace Go.Proofs.YtfhdihdafmahgaaGreatDoor
open Go.RowKit Rn Tp Ru
theorem few_big {l : List Rule} (h : fewR l = true) : ∀ r ∈ l, bigR r := fun r hr => by
  obtain ⟨a1, _, a2, a3, a4⟩ := ruleFew_facts ((fewR_facts h).2 r hr)
  obtain ⟨b1, b2⟩ := declsFew_facts a3
  refine ⟨by omega, by omega, by omega, fun d hd => by have := (declFew_facts (b2 d hd)).2.1; omega, fun m hm => ?_⟩
  obtain ⟨d1, d2⟩ := declsFew_facts (marginFew_facts (a4 m hm)).2
  exact ⟨by omega, fun d hd => by have := (declFew_facts (d2 d hd)).2.1; omega⟩
theorem few_small {l : List Rule} (h : fewR l = true) : ∀ r ∈ l, smallR r := fun r hr => by
  obtain ⟨a1, _, a2, a3, a4⟩ := ruleFew_facts ((fewR_facts h).2 r hr)
  obtain ⟨b1, b2⟩ := declsFew_facts a3
  refine ⟨by omega, by omega, fun d hd => by have := (declFew_facts (b2 d hd)).2.1; omega, by omega, fun m hm => ?_⟩
  obtain ⟨d1, d2⟩ := declsFew_facts (marginFew_facts (a4 m hm)).2
  exact ⟨by omega, fun d hd => by have := (declFew_facts (d2 d hd)).2.1; omega⟩
theorem margin_dec (x y : Margin) : decide (x = y) = (decide (x.name = y.name) && decide (x.decls = y.decls)) := by
  obtain ⟨a, b⟩ := x
  obtain ⟨d, e⟩ := y
  rw [Bool.eq_iff_iff]
  simp only [decide_eq_true_eq, Bool.and_eq_true, Margin.mk.injEq]
end Go.Proofs.YtfhdihdafmahgaaGreatDoor
set_option linter.unusedVariables false
set_option linter.unusedSimpArgs false
namespace Go.Proofs.YtfhdihdafmahgaaGreatDoor
open Go.RowKit Rn Tp Ru
set_option maxRecDepth 100000 in
set_option maxHeartbeats 16000000 in
theorem same_go (xs ys : List Rule) (A A' : Option Addr) (n m c c' : Nat) (w : World) (hx : RulesS w (· < w.heap.size) A n xs) (hy : RulesS w (· < w.heap.size) A' m ys) (hnx : n ≤ maxLen) (hny : m ≤ maxLen) (hlx : ∀ r ∈ xs, LimR r) (hly : ∀ r ∈ ys, LimR r) (hT : Tabs w) (hE : Env w) (hB : Boxed w) :
    Calls Tryz.prog 4 #[.slice A n c, .slice A' m c'] w fun e w' => e = .returned (.bool true) ∧ Below w.heap.size w w' := by
  have cF := ru_few xs A n c w hx hnx hlx
  have cF' := fun (W : World) (h : Below w.heap.size w W) => ru_few ys A' m c' W (hy.below h) hny hly
  have cAw := fun (W : World) (h : Below w.heap.size w W) => ru_awake W (hT.below h) (hE.below h) (hB.below h)
  have hlx0 := hx.len
  have hly0 := hy.len
  have Hlx := Lib.hid hlx0
  have Hly := Lib.hid hly0
  obtain ⟨q1, hq1⟩ : ∃ q, fewR xs = q := ⟨_, rfl⟩
  obtain ⟨q2, hq2⟩ : ∃ q, fewR ys = q := ⟨_, rfl⟩
  rw [hq1] at cF
  simp only [hq2] at cF'
  have Hq1 := Lib.hid hq1
  have Hq2 := Lib.hid hq2
  clear hlx0 hly0 hq1 hq2 hlx hly hnx hny
  go_enter Tryz.func4, Tryz.ntmps4
  cases q1 with
  | false =>
    clear cF'
    go_wp2_with fail
    refine cF.mono ?_
    rintro e w1 ⟨rfl, hb1⟩
    go_wp2_with fail
    refine (cAw _ hb1).mono ?_
    rintro e w2 ⟨rfl, hb2⟩
    go_wp2_with fail
    go_ret
    exact ⟨rfl, hb1.trans (hb2.mono hb1.size)⟩
  | true =>
    go_wp2_with fail
    refine cF.mono ?_
    rintro e w1 ⟨rfl, hb1⟩
    have s1 := hb1.size
    clear cF
    go_wp2_with fail
    refine (cF' _ hb1).mono ?_
    rintro e w2 ⟨rfl, hb2'⟩
    have hb2 := hb1.trans (hb2'.mono s1)
    have s2 := hb2.size
    clear cF' hb2' hb1
    cases q2 with
    | false =>
      go_wp2_with fail
      refine (cAw _ hb2).mono ?_
      rintro e w3 ⟨rfl, hb3⟩
      go_wp2_with fail
      go_ret
      exact ⟨rfl, hb2.trans (hb3.mono s2)⟩
    | true =>
      have hbig := few_big Hq1.out
      have hsml := few_small Hq1.out
      have hn8 : n ≤ 8 := by have := (fewR_facts Hq1.out).1; rw [Hlx.out] at this; exact this
      have HBig := Lib.hid hbig
      have HSml := Lib.hid hsml
      have hs0 : Hid (SI xs ys 0 ((n : Int) == (m : Int))) := by
        have h := SI.start xs ys
        rw [Hlx.out, Hly.out] at h
        have e : decide (n = m) = ((n : Int) == (m : Int)) := by rw [Bool.eq_iff_iff]; simp; omega
        rw [e] at h; exact h
      clear hbig hsml
      go_wp2_with fail
      go_loopw [6, 7] (fun o i wr => ∃ (k : Nat) (g : Bool), k ≤ n ∧ o = .bool g ∧ i = .int .i64 (k : Int) ∧ Hid (SI xs ys k g) ∧ Below w.heap.size w wr) (fun _ i _ => n - (intOf i).toNat)
      case atStart => exact ⟨0, _, by omega, rfl, rfl, hs0, hb2⟩
      case round =>
        obtain ⟨k, g, hk, rfl, rfl, hsi, hb⟩ := hrel
        have hbs := hb.size
        obtain ⟨u, hu⟩ : ∃ x, x = wr := ⟨_, rfl⟩
        subst hu
        by_cases hrun : k < n ∧ g = true
        · obtain ⟨hlt, rfl⟩ := hrun
          have dk : (k : Int) < (n : Int) := by omega
          have hnm : n = m := by have := hsi.out.len; rw [Hlx.out, Hly.out] at this; exact this
          have hkm : k < m := by omega
          have dkm : (k : Int) < (m : Int) := by omega
          have dk0 : (0 : Int) ≤ (k : Int) := by omega
          clear hnm
          obtain ⟨b, off, A1, c1, A2, c2, A3, c3, x, hA, hbl, hxk, f0, f1, f2, f3, hX1, hX2, hX3⟩ := hx.at_ hlt
          obtain ⟨b', off', D1, e1, D2, e2, D3, e3, y, hA', hbl', hyk, g0, g1, g2, g3, hY1, hY2, hY3⟩ := hy.at_ hkm
          subst hA hA'
          have hbu : b < u.heap.size := Nat.lt_of_lt_of_le hbl hbs
          have hbu' : b' < u.heap.size := Nat.lt_of_lt_of_le hbl' hbs
          have fx3 := (hb.cell (p := ⟨b, off + k * 4 + 3, none⟩) hbl).trans f3
          have fy3 := (hb.cell (p := ⟨b', off' + k * 4 + 3, none⟩) hbl').trans g3
          have x0 := bw_cell (B := u.heap.size) ((hb.cell (p := ⟨b, off + k * 4, none⟩) hbl).trans f0) hbu
          have x1 := bw_cell (B := u.heap.size) ((hb.cell (p := ⟨b, off + k * 4 + 1, none⟩) hbl).trans f1) hbu
          have x2 := bw_cell (B := u.heap.size) ((hb.cell (p := ⟨b, off + k * 4 + 2, none⟩) hbl).trans f2) hbu
          have x3 := bw_cell (B := u.heap.size) fx3 hbu
          have y0 := bw_cell (B := u.heap.size) ((hb.cell (p := ⟨b', off' + k * 4, none⟩) hbl').trans g0) hbu'
          have y1 := bw_cell (B := u.heap.size) ((hb.cell (p := ⟨b', off' + k * 4 + 1, none⟩) hbl').trans g1) hbu'
          have y2 := bw_cell (B := u.heap.size) ((hb.cell (p := ⟨b', off' + k * 4 + 2, none⟩) hbl').trans g2) hbu'
          have y3 := bw_cell (B := u.heap.size) fy3 hbu'
          have hX1b : ReadsT u u.heap.size A1 x.prelude.length x.prelude := (hX1.keep (Kept.of_below hb (fun b h => h))).more (fun b h => Nat.lt_of_lt_of_le h hbs)
          have hY1b : ReadsT u u.heap.size D1 y.prelude.length y.prelude := (hY1.keep (Kept.of_below hb (fun b h => h))).more (fun b h => Nat.lt_of_lt_of_le h hbs)
          have hX2b := hX2.below hb
          have hY2b := hY2.below hb
          have hX3b := hX3.below hb
          have hY3b := hY3.below hb
          obtain ⟨z1, z2, z3, z4, z5⟩ := HBig.out x (List.mem_of_getElem? hxk)
          have cT := fun W : BW u.heap.size u => toks_same x.prelude y.prelude A1 D1 x.prelude.length y.prelude.length c1 e1 W.val (hX1b.below W.is) (hY1b.below W.is) z1
          have cD := fun W : BW u.heap.size u => ru_lsame1 x.decls y.decls A2 D2 x.decls.length y.decls.length c2 e2 W.val (hX2b.below W.is) (hY2b.below W.is) z2 z4
          obtain ⟨p1, hp1⟩ : ∃ p, decide (x.kind = y.kind) = p := ⟨_, rfl⟩
          obtain ⟨p2, hp2⟩ : ∃ p, decide (x.prelude = y.prelude) = p := ⟨_, rfl⟩
          obtain ⟨p3, hp3⟩ : ∃ p, decide (x.decls = y.decls) = p := ⟨_, rfl⟩
          obtain ⟨p4, hp4⟩ : ∃ p, decide (x.margins.length = y.margins.length) = p := ⟨_, rfl⟩
          obtain ⟨gg, hgg⟩ : ∃ g, (p1 && p2 && p3 && p4) = g := ⟨_, rfl⟩
          have hRI := RI.start hp1 hp2 hp3 hp4 hgg.symm
          have hk1 : (x.kind == y.kind) = p1 := by rw [← hp1, Bool.eq_iff_iff]; simp
          have hk4 : ((x.margins.length : Int) == (y.margins.length : Int)) = p4 := by rw [← hp4, Bool.eq_iff_iff]; simp; omega
          rw [hp2] at cT
          rw [hp3] at cD
          have HRI := Lib.hid hRI
          have Hgg := Lib.hid hgg
          have Hxk := Lib.hid hxk
          have Hyk := Lib.hid hyk
          have wk : IntKind.i64.wrap ((k : Int) + 1) = (k : Int) + 1 := by rw [IntKind.wrap_i64]; omega
          clear hp1 hp2 hp3 hp4 hRI hgg f0 f1 f2 f3 g0 g1 g2 g3 hX1 hX2 hX3 hY1 hY2 hY3 hX1b hY1b hX2b hY2b hxk hyk hs0 z1 z2 z3 z4
          go_upto_region 8 with (fail)
          go_cut [6] (fun x wx => x = .bool gg ∧ Below u.heap.size u wx)
          case first =>
            rename_i hKK
            cases p1 with
            | false =>
              refine wp_region_bw u.heap.size (by kernel_rfl) (by kernel_rfl) ?_
              repeat (go_big_quiet_step (first | (go_at_call 14; rename_i W; exact calls_bw (Nat.le_refl _) (cT W)) | (go_at_call 13; rename_i W; exact calls_bw (Nat.le_refl _) (cD W))))
              refine wpQuiet_nil ?_
              intro _ hw'
              obtain ⟨W, rfl⟩ := hw'
              refine hKK _ _ ?_
              go_meet
              exact ⟨by rw [← Hgg.out]; rfl, W.is⟩
            | true =>
              cases p2 with
              | false =>
                refine wp_region_bw u.heap.size (by kernel_rfl) (by kernel_rfl) ?_
                repeat (go_big_quiet_step (first | (go_at_call 14; rename_i W; exact calls_bw (Nat.le_refl _) (cT W)) | (go_at_call 13; rename_i W; exact calls_bw (Nat.le_refl _) (cD W))))
                refine wpQuiet_nil ?_
                intro _ hw'
                obtain ⟨W, rfl⟩ := hw'
                refine hKK _ _ ?_
                go_meet
                exact ⟨by rw [← Hgg.out]; rfl, W.is⟩
              | true =>
                cases p3 with
                | false =>
                  refine wp_region_bw u.heap.size (by kernel_rfl) (by kernel_rfl) ?_
                  repeat (go_big_quiet_step (first | (go_at_call 14; rename_i W; exact calls_bw (Nat.le_refl _) (cT W)) | (go_at_call 13; rename_i W; exact calls_bw (Nat.le_refl _) (cD W))))
                  refine wpQuiet_nil ?_
                  intro _ hw'
                  obtain ⟨W, rfl⟩ := hw'
                  refine hKK _ _ ?_
                  go_meet
                  exact ⟨by rw [← Hgg.out]; rfl, W.is⟩
                | true =>
                  refine wp_region_bw u.heap.size (by kernel_rfl) (by kernel_rfl) ?_
                  repeat (go_big_quiet_step (first | (go_at_call 14; rename_i W; exact calls_bw (Nat.le_refl _) (cT W)) | (go_at_call 13; rename_i W; exact calls_bw (Nat.le_refl _) (cD W))))
                  refine wpQuiet_nil ?_
                  intro _ hw'
                  obtain ⟨W, rfl⟩ := hw'
                  refine hKK _ _ ?_
                  go_meet
                  exact ⟨by rw [← Hgg.out]; simp, W.is⟩
          case rest =>
            obtain ⟨rfl, hbc⟩ := hcut
            obtain ⟨w3, hu3⟩ : ∃ x, x = wc := ⟨_, rfl⟩
            subst hu3
            have s3 := hbc.size
            have h3 := hb.trans (hbc.mono hbs)
            have fx3 := (hbc.cell (p := ⟨b, off + k * 4 + 3, none⟩) hbu).trans fx3
            have fy3 := (hbc.cell (p := ⟨b', off' + k * 4 + 3, none⟩) hbu').trans fy3
            have hX3c := hX3b.below hbc
            have hY3c := hY3b.below hbc
            obtain ⟨mq, hmq⟩ : ∃ mq, x.margins.length = mq := ⟨_, rfl⟩
            obtain ⟨mr, hmr⟩ : ∃ mr, y.margins.length = mr := ⟨_, rfl⟩
            have hmq8 : mq ≤ 8 := by
              have := (ruleFew_facts ((fewR_facts Hq1.out).2 x (List.mem_of_getElem? Hxk.out))).2.2.1
              omega
            rw [hmq] at fx3 hX3c
            rw [hmr] at fy3 hY3c
            have Hmq := Lib.hid hmq
            have Hmr := Lib.hid hmr
            have Z5 := Lib.hid z5
            clear hmq hmr cT cD hX3b hY3b x0 x1 x2 x3 y0 y1 y2 y3 hk1 hk4 z5
            go_wp2_with fail
            go_loopw [6, 8] (fun o i wx => ∃ (j : Nat) (g : Bool), j ≤ mq ∧ o = .bool g ∧ i = .int .i64 (j : Int) ∧ Hid (RI x y j g) ∧ Below w3.heap.size w3 wx) (fun _ i _ => mq - (intOf i).toNat)
            case atStart => exact ⟨0, _, by omega, rfl, rfl, HRI.out, Below.refl _ _⟩
            case round =>
              obtain ⟨j, g, hj, rfl, rfl, hri, hbx⟩ := hrel
              obtain ⟨wx, hux⟩ : ∃ x, x = wr := ⟨_, rfl⟩
              subst hux
              have sx := hbx.size
              have gx3 := (hbx.cell (p := ⟨b, off + k * 4 + 3, none⟩) (by show b < _; omega)).trans fx3
              have gy3 := (hbx.cell (p := ⟨b', off' + k * 4 + 3, none⟩) (by show b' < _; omega)).trans fy3
              by_cases hrun : j < mq ∧ g = true
              · obtain ⟨hjl, rfl⟩ := hrun
                have hmm : mq = mr := by have := hri.out.len; rw [Hmq.out, Hmr.out] at this; exact this
                have hjr : j < mr := by omega
                clear hmm
                have dj : (j : Int) < (mq : Int) := by omega
                have djr : (j : Int) < (mr : Int) := by omega
                have dj0 : (0 : Int) ≤ (j : Int) := by omega
                obtain ⟨bb, oo, A4, c4, mx, hA4, hbb, hmx, n0, n1, hM⟩ := hX3c.at_ hjl
                obtain ⟨bb', oo', A5, c5, my, hA5, hbb', hmy, r0, r1, hM'⟩ := hY3c.at_ hjr
                subst hA4 hA5
                have hbw : bb < wx.heap.size := Nat.lt_of_lt_of_le hbb sx
                have hbw' : bb' < wx.heap.size := Nat.lt_of_lt_of_le hbb' sx
                have x3 := bw_cell (B := wx.heap.size) gx3 (by show b < _; omega)
                have y3 := bw_cell (B := wx.heap.size) gy3 (by show b' < _; omega)
                have t0 := bw_cell (B := wx.heap.size) ((hbx.cell (p := ⟨bb, oo + j * 2, none⟩) hbb).trans n0) hbw
                have t1 := bw_cell (B := wx.heap.size) ((hbx.cell (p := ⟨bb, oo + j * 2 + 1, none⟩) hbb).trans n1) hbw
                have v0 := bw_cell (B := wx.heap.size) ((hbx.cell (p := ⟨bb', oo' + j * 2, none⟩) hbb').trans r0) hbw'
                have v1 := bw_cell (B := wx.heap.size) ((hbx.cell (p := ⟨bb', oo' + j * 2 + 1, none⟩) hbb').trans r1) hbw'
                have hMb := hM.below hbx
                have hMb' := hM'.below hbx
                obtain ⟨zz1, zz2⟩ := Z5.out mx (List.mem_of_getElem? hmx)
                have cD := fun W : BW wx.heap.size wx => ru_lsame1 mx.decls my.decls A4 A5 mx.decls.length my.decls.length c4 c5 W.val (hMb.below W.is) (hMb'.below W.is) zz1 zz2
                have hnew := hri.out.step hmx hmy
                rw [margin_dec] at hnew
                have hs := str_cmp mx.name my.name
                obtain ⟨p1, hp1⟩ : ∃ p, decide (mx.name = my.name) = p := ⟨_, rfl⟩
                obtain ⟨p2, hp2⟩ : ∃ p, decide (mx.decls = my.decls) = p := ⟨_, rfl⟩
                rw [hp1, hp2] at hnew
                rw [hp1] at hs
                rw [hp2] at cD
                have Hnew := Lib.hid hnew
                have wj : IntKind.i64.wrap ((j : Int) + 1) = (j : Int) + 1 := by rw [IntKind.wrap_i64]; omega
                clear hp1 hp2 hnew hri hM hM' hMb hMb' n0 n1 r0 r1 hmx hmy
                go_upto_region 12 with (fail)
                cases p1 with
                | false =>
                  have HN : Hid (RI x y (j + 1) false) := Hnew.out
                  refine wp_region_bw wx.heap.size (by kernel_rfl) (by kernel_rfl) ?_
                  repeat (go_big_quiet_step (first | (go_at_call 13; rename_i W; exact calls_bw (Nat.le_refl _) (cD W))))
                  refine wpQuiet_nil ?_
                  intro _ hw'
                  obtain ⟨W, rfl⟩ := hw'
                  have hB2 := hbx.trans (W.is.mono sx)
                  clear cD hs x3 y3 t0 t1 v0 v1 gx3 gy3
                  go_wp2_with fail
                  go_roundw
                  case rel => exact ⟨j + 1, _, by omega, rfl, by go_num, HN, hB2⟩
                  case measure => simp [intOf]; omega
                | true =>
                  have HN : Hid (RI x y (j + 1) p2) := by have := Hnew.out; rw [Bool.true_and] at this; exact this
                  refine wp_region_bw wx.heap.size (by kernel_rfl) (by kernel_rfl) ?_
                  repeat (go_big_quiet_step (first | (go_at_call 13; rename_i W; exact calls_bw (Nat.le_refl _) (cD W))))
                  refine wpQuiet_nil ?_
                  intro _ hw'
                  obtain ⟨W, rfl⟩ := hw'
                  have hB2 := hbx.trans (W.is.mono sx)
                  clear cD hs x3 y3 t0 t1 v0 v1 gx3 gy3
                  go_wp2_with fail
                  go_roundw
                  case rel => exact ⟨j + 1, _, by omega, rfl, by go_num, HN, hB2⟩
                  case measure => simp [intOf]; omega
              · have hdn : g = decide (x = y) := hri.out.done (fun e => by
                  rw [Hmq.out]
                  by_cases e2 : j < mq
                  · exact absurd ⟨e2, e⟩ hrun
                  · omega)
                have hnew := hsi.out.step Hxk.out Hyk.out
                rw [← hdn] at hnew
                have Hnew := Lib.hid hnew
                have hB2 := h3.trans (hbx.mono h3.size)
                have hjg : j = mq ∨ g = false := by
                  by_cases e : j < mq
                  · right; cases g with
                    | false => rfl
                    | true => exact absurd ⟨e, rfl⟩ hrun
                  · left; omega
                clear hdn hnew hri hsi hrun
                cases g with
                | false =>
                  go_wp2_with fail
                  go_roundw
                  case rel => exact ⟨k + 1, _, by omega, rfl, by go_num, Hnew, hB2⟩
                  case measure => simp [intOf]; omega
                | true =>
                  have hj2 : j = mq := hjg.resolve_right (by decide)
                  subst hj2
                  have dj : ¬ (j : Int) < (j : Int) := by omega
                  clear hjg
                  go_wp2_with fail
                  go_roundw
                  case rel => exact ⟨k + 1, _, by omega, rfl, by go_num, Hnew, hB2⟩
                  case measure => simp [intOf]; omega
        · have hf := hsi.out.done (fun e => by
            rw [Hlx.out]
            by_cases e2 : k < n
            · exact absurd ⟨e2, e⟩ hrun
            · omega)
          have HF := Lib.hid hf
          have hkg : k = n ∨ (k < n ∧ g = false) := by
            by_cases e : k < n
            · refine .inr ⟨e, ?_⟩
              cases g with
              | false => rfl
              | true => exact absurd ⟨e, rfl⟩ hrun
            · exact .inl (by omega)
          have cS := ru_same xs ys A A' n m c c' u (hx.below hb) (hy.below hb) (by omega) HBig.out
          obtain ⟨r, hr⟩ : ∃ r, decide (xs = ys) = r := ⟨_, rfl⟩
          rw [hr] at cS
          have hgr : g = r := by rw [HF.out, hr]
          have hrr : (r == r) = true := by simp
          subst hgr
          have hX := hx
          clear hf HF hr hsi hs0 hrun hy
          rcases hkg with hkn | ⟨hkn, hg⟩
          · have dk : ¬ (k : Int) < (n : Int) := by omega
            clear hkn
            go_wp2_with fail
            refine cS.mono ?_
            rintro e w3 ⟨rfl, hb3⟩
            have h3 := hb.trans (hb3.mono hbs)
            have s3 := h3.size
            have cO := ru_own xs A n c w3 (hX.below h3) (by omega) HSml.out
            clear cS
            go_wp2_with fail
            refine cO.mono ?_
            rintro e w4 ⟨A4, c4, mr, rfl, hOJ⟩
            have hb4 := hOJ.bel
            have h4 := h3.trans (hb4.mono s3)
            have s4 := h4.size
            have cS2 := ru_same xs xs A A4 n xs.length c c4 w4 (hX.below h4) (hOJ.done.more (fun b hb => hb.2)) (by omega) HBig.out
            rw [decide_eq_true rfl] at cS2
            clear cO hOJ
            go_wp2_with fail
            refine cS2.mono ?_
            rintro e w5 ⟨rfl, hb5⟩
            have h5 := h4.trans (hb5.mono s4)
            clear cS2
            go_wp2_with fail
            refine (cAw _ h5).mono ?_
            rintro e w6 ⟨rfl, hb6⟩
            go_wp2_with fail
            go_ret
            exact ⟨rfl, h5.trans (hb6.mono h5.size)⟩
          · subst hg
            have dk : (k : Int) < (n : Int) := by omega
            go_wp2_with fail
            refine cS.mono ?_
            rintro e w3 ⟨rfl, hb3⟩
            have h3 := hb.trans (hb3.mono hbs)
            have s3 := h3.size
            have cO := ru_own xs A n c w3 (hX.below h3) (by omega) HSml.out
            clear cS
            go_wp2_with fail
            refine cO.mono ?_
            rintro e w4 ⟨A4, c4, mr, rfl, hOJ⟩
            have hb4 := hOJ.bel
            have h4 := h3.trans (hb4.mono s3)
            have s4 := h4.size
            have cS2 := ru_same xs xs A A4 n xs.length c c4 w4 (hX.below h4) (hOJ.done.more (fun b hb => hb.2)) (by omega) HBig.out
            rw [decide_eq_true rfl] at cS2
            clear cO hOJ
            go_wp2_with fail
            refine cS2.mono ?_
            rintro e w5 ⟨rfl, hb5⟩
            have h5 := h4.trans (hb5.mono s4)
            clear cS2
            go_wp2_with fail
            refine (cAw _ h5).mono ?_
            rintro e w6 ⟨rfl, hb6⟩
            go_wp2_with fail
            go_ret
            exact ⟨rfl, h5.trans (hb6.mono h5.size)⟩
theorem walk_RulesSame (xs : List Rule) (A : Option Addr) (n c : Nat) (ys : List Rule) (A' : Option Addr) (m c' : Nat) (w : World)
    (hx : RulesS w (· < w.heap.size) A n xs) (hn : n ≤ c) (hc : c ≤ maxLen) (hxs : ∀ r ∈ xs, okR r) (hy : RulesS w (· < w.heap.size) A' m ys) (hm : m ≤ c') (hc' : c' ≤ maxLen) (hys : ∀ r ∈ ys, okR r) (hT : Tabs w) (hE : Env w) (hD : Db w) (hB : Boxed w) :
    Calls Tryz.prog 4 #[.slice A n c, .slice A' m c'] w fun e w' => e = .returned (.bool true) ∧ Below w.heap.size w w' :=
  same_go xs ys A A' n m c c' w hx hy (by omega) (by omega) (fun r hr => (hxs r hr).lim) (fun r hr => (hys r hr).lim) hT hE hB
end Go.Proofs.YtfhdihdafmahgaaGreatDoor
