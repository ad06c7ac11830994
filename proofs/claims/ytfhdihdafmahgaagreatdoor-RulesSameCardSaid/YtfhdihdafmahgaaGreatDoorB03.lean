/- Layer 1: the program's Mul is walked, with the library's Div64 by 1000 under it. -/
import Derived.Test.YtfhdihdafmahgaaGreatDoorB02
import Derived.Deep.DeepCutAuto
import Derived.Deep.CutBlock
import Derived.Lib.IndexMore
import Derived.Lib.IndexAny
import Derived.Lib.IndexLaws
import Derived.Lib.Atoi
import Derived.Lib.AtoiErrMem
import Derived.Lib.SmallJoins
import Derived.OneCell
import Derived.Test.YtfhdihdafmahgaaGreatDoorB01
import Derived.Laws.BitsAllLaws
import Derived.Deep.Cut
/- Layer 1: the document's digit and Length are walked. -/
set_option linter.unusedVariables false
set_option linter.unusedSimpArgs false
namespace Go.Proofs.YtfhdihdafmahgaaGreatDoor
open Go.RowKit Fx
namespace Fx
def isDAt (l : List UInt8) (i : Nat) : Bool := match l[i]? with
  | some b => isD b
  | none => false
end Fx
theorem isD_at {l : List UInt8} {i : Nat} (h : isDAt l i = true) : ∃ b, l[i]? = some b ∧ 48 ≤ b.toNat ∧ b.toNat ≤ 57 := by
  unfold isDAt at h
  split at h
  · rename_i b hb; exact ⟨b, hb, by simpa [isD] using h⟩
  · cases h
theorem digs_drop_yes {l : List UInt8} {i : Nat} (h : isDAt l i = true) : digs (l.drop i) = digs (l.drop (i + 1)) + 1 := by
  unfold isDAt at h
  split at h
  · rename_i b hb
    obtain ⟨hi, rfl⟩ := List.getElem?_eq_some_iff.1 hb
    unfold digs
    rw [List.drop_eq_getElem_cons hi, List.takeWhile_cons, if_pos h, List.length_cons]
  · cases h
theorem digs_drop_no {l : List UInt8} {i : Nat} (h : isDAt l i = false) : digs (l.drop i) = 0 := by
  unfold isDAt at h
  split at h
  · rename_i b hb
    obtain ⟨hi, rfl⟩ := List.getElem?_eq_some_iff.1 hb
    unfold digs
    rw [List.drop_eq_getElem_cons hi, List.takeWhile_cons, if_neg (by rw [h]; decide)]; rfl
  · rename_i hb
    rw [List.drop_eq_nil_of_le (List.getElem?_eq_none_iff.1 hb)]; rfl
set_option maxRecDepth 100000 in
theorem rfx_digit (l : List UInt8) (i : Nat) (w : World) (hl : l.length ≤ 9223372036854775807) :
    Calls Tryz.prog 135 #[.string (bytesOf l), .int .i64 i] w fun e w' => e = .returned (.bool (isDAt l i)) ∧ w = w' := by
  have hs := bytesOf_size l
  cases hD : l[i]? with
  | none =>
    have hge := List.getElem?_eq_none_iff.1 hD
    have Hv := Lib.hid (show isDAt l i = false by simp [isDAt, hD])
    clear hD
    go_enter Tryz.func135, Tryz.ntmps135
    go_wp2
    go_ret
    exact ⟨by rw [Hv.out]; rfl, rfl⟩
  | some b =>
    have hlt : i < l.length := (List.getElem?_eq_some_iff.1 hD).1
    have hix := str_at (P := Tryz.prog) (T := 9) Tryz.underlying9 l .i64 i b hD
    have hv : isDAt l i = decide (48 ≤ b.toNat ∧ b.toNat ≤ 57) := by simp [isDAt, hD, isD]
    clear hD
    by_cases h1 : 48 ≤ b.toNat
    · by_cases h2 : b.toNat ≤ 57
      · have Hv := Lib.hid (show isDAt l i = true by rw [hv]; simp [h1, h2])
        clear hv
        have d1 : decide ((48 : Int) ≤ b.toNat) = true := by simp; omega
        have d2 : decide ((b.toNat : Int) ≤ 57) = true := by simp; omega
        go_enter Tryz.func135, Tryz.ntmps135
        go_wp2
        go_ret
        exact ⟨by rw [Hv.out]; simp [d1, d2], rfl⟩
      · have Hv := Lib.hid (show isDAt l i = false by rw [hv]; simp [h1, h2])
        clear hv
        have d1 : decide ((48 : Int) ≤ b.toNat) = true := by simp; omega
        have d2 : decide ((b.toNat : Int) ≤ 57) = false := by simp; omega
        go_enter Tryz.func135, Tryz.ntmps135
        go_wp2
        go_ret
        exact ⟨by rw [Hv.out]; simp [d1, d2], rfl⟩
    · have Hv := Lib.hid (show isDAt l i = false by rw [hv]; simp [h1])
      clear hv
      have d1 : decide ((48 : Int) ≤ b.toNat) = false := by simp; omega
      go_enter Tryz.func135, Tryz.ntmps135
      go_wp2
      go_ret
      exact ⟨by rw [Hv.out]; rfl, rfl⟩
theorem sgn_cases (l : List UInt8) (j : Nat) : (l.length ≤ j ∧ sgn (l.drop j) = 0) ∨ (∃ b, l[j]? = some b ∧ ((b.toNat = 43 ∧ sgn (l.drop j) = 1) ∨ (b.toNat = 45 ∧ sgn (l.drop j) = 1) ∨ (¬ b.toNat = 43 ∧ ¬ b.toNat = 45 ∧ sgn (l.drop j) = 0))) := by
  by_cases hj : j < l.length
  · refine .inr ⟨l[j], List.getElem?_eq_getElem hj, ?_⟩
    rw [List.drop_eq_getElem_cons hj]
    by_cases h1 : l[j].toNat = 43
    · exact .inl ⟨h1, if_pos (.inl h1)⟩
    · by_cases h2 : l[j].toNat = 45
      · exact .inr (.inl ⟨h2, if_pos (.inr h2)⟩)
      · exact .inr (.inr ⟨h1, h2, if_neg (by omega)⟩)
  · exact .inl ⟨by omega, by rw [List.drop_eq_nil_of_le (by omega)]; rfl⟩
theorem isE_cases (l : List UInt8) (j : Nat) : (l.length ≤ j ∧ isE l[j]? = false) ∨ (∃ b, l[j]? = some b ∧ ((b.toNat = 101 ∧ isE l[j]? = true) ∨ (b.toNat = 69 ∧ isE l[j]? = true) ∨ (¬ b.toNat = 101 ∧ ¬ b.toNat = 69 ∧ isE l[j]? = false))) := by
  cases hb : l[j]? with
  | none => exact .inl ⟨List.getElem?_eq_none_iff.1 hb, rfl⟩
  | some b =>
    refine .inr ⟨b, rfl, ?_⟩
    by_cases h1 : b.toNat = 101
    · exact .inl ⟨h1, by simp [isE, h1]⟩
    · by_cases h2 : b.toNat = 69
      · exact .inr (.inl ⟨h2, by simp [isE, h2]⟩)
      · exact .inr (.inr ⟨h1, h2, by simp [isE, h1, h2]⟩)
theorem dot_cases (l : List UInt8) (j : Nat) : (l.length ≤ j ∧ ¬ l[j]? = some 46) ∨ (∃ b, l[j]? = some b ∧ ((b.toNat = 46 ∧ l[j]? = some 46) ∨ (¬ b.toNat = 46 ∧ ¬ l[j]? = some 46))) := by
  cases hb : l[j]? with
  | none => exact .inl ⟨List.getElem?_eq_none_iff.1 hb, by simp⟩
  | some b =>
    refine .inr ⟨b, rfl, ?_⟩
    by_cases h1 : b.toNat = 46
    · exact .inl ⟨h1, by congr 1; exact UInt8.toNat_inj.1 h1⟩
    · exact .inr ⟨h1, by intro h; injection h with h; subst h; exact h1 rfl⟩
theorem isDAt_digs (l : List UInt8) (j : Nat) : isDAt l j = decide (0 < digs (l.drop j)) := by
  cases h : isDAt l j with
  | true => have := digs_drop_yes h; simp; omega
  | false => have := digs_drop_no h; simp; omega
theorem lenP_none {l : List UInt8} (h : some_ l = false) : lenP l = 0 := by simp [lenP, h]
theorem lenP_tail {l : List UInt8} {A : Nat} (h : some_ l = true) (hA : bodyLen l = A) :
    (isE l[A]? = false → lenP l = A) ∧ (isE l[A]? = true → ∀ k m, sgn (l.drop (A + 1)) = k → digs (l.drop (A + 1 + k)) = m → lenP l = if 0 < m then A + 1 + k + m else A) := by
  subst hA
  constructor
  · intro he; simp [lenP, h, he]
  · rintro he k m rfl rfl
    have hx : expLen (l.drop (bodyLen l + 1)) = if 0 < digs (l.drop (bodyLen l + 1 + sgn (l.drop (bodyLen l + 1)))) then sgn (l.drop (bodyLen l + 1)) + digs (l.drop (bodyLen l + 1 + sgn (l.drop (bodyLen l + 1)))) else 0 := by
      simp only [expLen, List.drop_drop]
    simp only [lenP, h, he, hx]
    rw [if_neg (by simp)]
    by_cases h0 : 0 < digs (l.drop (bodyLen l + 1 + sgn (l.drop (bodyLen l + 1))))
    · rw [if_pos h0, if_pos ⟨trivial, by omega⟩, if_pos h0]; omega
    · rw [if_neg h0, if_neg (by simp), if_neg h0]
theorem bodyLen_le (l : List UInt8) : bodyLen l ≤ l.length := by
  have h1 := sgn_le l
  have h2 := digs_le (l.drop (sgn l))
  rw [List.length_drop] at h2
  unfold bodyLen
  simp only []
  split
  · rename_i h
    have h3 := digs_le (l.drop (sgn l + digs (l.drop (sgn l)) + 1))
    rw [List.length_drop] at h3
    have := (List.getElem?_eq_some_iff.1 h.1).1
    omega
  · omega
set_option maxRecDepth 100000 in
set_option maxHeartbeats 8000000 in
theorem rfx_length (l : List UInt8) (w : World) (hl : l.length ≤ 9223372036854775806) :
    Calls Tryz.prog 103 #[.string (bytesOf l)] w fun e w' => e = .returned (.int .i64 (lenP l : Nat)) ∧ w = w' := by
  have hs := bytesOf_size l
  have hsA := sgn_le l
  have hdA := digs_le (l.drop (sgn l))
  rw [List.length_drop] at hdA
  obtain ⟨a, ha⟩ : ∃ a, sgn l + digs (l.drop (sgn l)) = a := ⟨_, rfl⟩
  have Ha := Lib.hid ha
  have hsg := sgn_cases l 0
  rw [List.drop_zero] at hsg
  have Hsg := Lib.hid hsg
  have Hdot := Lib.hid (dot_cases l a)
  have hle : a ≤ l.length := by omega
  obtain ⟨A, hA⟩ : ∃ A, bodyLen l = A := ⟨_, rfl⟩
  have hAl := bodyLen_le l
  rw [hA] at hAl
  have HA := Lib.hid hA
  have hBody : bodyLen l = if l[a]? = some 46 ∧ 0 < digs (l.drop (a + 1)) then a + 1 + digs (l.drop (a + 1)) else a := by simp only [bodyLen, ha]
  have hSome : some_ l = decide (0 < digs (l.drop (sgn l)) ∨ (l[a]? = some 46 ∧ 0 < digs (l.drop (a + 1)))) := by simp only [some_, ha]
  rw [hA] at hBody
  have HBody := Lib.hid hBody
  have HSome := Lib.hid hSome
  clear hsg hA hBody hSome
  go_enter Tryz.func103, Tryz.ntmps103
  go_upto_region 2 with (fail)
  go_cut [18] (fun s wx => s = .bool (decide (0 < sgn l)) ∧ wx = w)
  case first =>
    rcases Hsg.out with ⟨hge, h⟩ | ⟨b, hb, ⟨hb1, h⟩ | ⟨hb1, h⟩ | ⟨hb1, hb2, h⟩⟩
    · go_wp2_with fail
      go_meet
      exact ⟨by rw [h]; rfl, rfl⟩
    · have hlt : 0 < l.length := (List.getElem?_eq_some_iff.1 hb).1
      have hix := str_at (P := Tryz.prog) (T := 9) Tryz.underlying9 l .i64 0 b hb
      rw [Int.ofNat_zero, hb1] at hix
      go_wp2_with fail
      go_meet
      exact ⟨by rw [h]; rfl, rfl⟩
    · have hlt : 0 < l.length := (List.getElem?_eq_some_iff.1 hb).1
      have hix := str_at (P := Tryz.prog) (T := 9) Tryz.underlying9 l .i64 0 b hb
      rw [Int.ofNat_zero, hb1] at hix
      go_wp2_with fail
      go_meet
      exact ⟨by rw [h]; rfl, rfl⟩
    · have hlt : 0 < l.length := (List.getElem?_eq_some_iff.1 hb).1
      have hix := str_at (P := Tryz.prog) (T := 9) Tryz.underlying9 l .i64 0 b hb
      rw [Int.ofNat_zero] at hix
      have hc1 : ((b.toNat : Int) == 43) = false := byte_ne hb1
      have hc2 : ((b.toNat : Int) == 45) = false := byte_ne hb2
      go_wp2_with fail
      go_meet
      exact ⟨by rw [h]; simp [hc1, hc2], rfl⟩
  case rest =>
    obtain ⟨rfl, rfl⟩ := hcut
    go_upto_if 18 with (fail)
    go_cut [3] (fun s wx => s = .int .i64 (sgn l : Nat) ∧ wx = wc)
    case first =>
      by_cases ha : 0 < sgn l
      · go_wp2_with fail
        go_meet
        exact ⟨by congr 1; omega, rfl⟩
      · go_wp2_with fail
        go_meet
        exact ⟨by congr 1; omega, rfl⟩
    case rest =>
      obtain ⟨rfl, rfl⟩ := hcut
      go_upto_block 0 with (fail)
      go_cut [3, 4] (fun s t wx => s = .int .i64 (a : Nat) ∧ t = .bool (decide (0 < digs (l.drop (sgn l)))) ∧ wx = wc)
      case first =>
        go_wp2_with fail
        go_loop [3, 4] (fun s t => ∃ i : Nat, sgn l ≤ i ∧ i + digs (l.drop i) = a ∧ s = .int .i64 (i : Nat) ∧ t = .bool (decide (sgn l < i))) (fun s _ => l.length - (intOf s).toNat)
        case atStart => exact ⟨sgn l, Nat.le_refl _, Ha.out, rfl, by simp⟩
        case round =>
          obtain ⟨i, hi1, hi2, rfl, rfl⟩ := hrel
          have hcall := rfx_digit l i wc (by omega)
          cases hd : isDAt l i with
          | true =>
            rw [hd] at hcall
            have hstep := digs_drop_yes hd
            have Hd := Lib.hid hd
            clear hd
            go_wp2_with fail
            refine hcall.mono ?_
            rintro e w' ⟨rfl, rfl⟩
            go_wp2
            exact ⟨⟨i + 1, by omega, by omega, rfl, by congr 1; simp; omega⟩, by simp [intOf]; omega⟩
          | false =>
            rw [hd] at hcall
            have hstep := digs_drop_no hd
            have Hd := Lib.hid hd
            clear hd
            go_wp2_with fail
            refine hcall.mono ?_
            rintro e w' ⟨rfl, rfl⟩
            go_wp2
            go_meet
            have e1 : i = a := by omega
            subst e1
            exact ⟨rfl, by congr 1; simp only [decide_eq_decide]; have := Ha.out; omega, rfl⟩
      case rest =>
        obtain ⟨rfl, rfl, rfl⟩ := hcut
        obtain ⟨D, hD⟩ : ∃ D, decide (l[a]? = some 46 ∧ 0 < digs (l.drop (a + 1))) = D := ⟨_, rfl⟩
        have HD := Lib.hid hD
        clear hD
        go_upto_region 8 with (fail)
        go_cut [39] (fun s wx => s = .bool D ∧ wx = wc)
        case first =>
          rcases Hdot.out with ⟨hge, h⟩ | ⟨b, hb, ⟨hb1, h⟩ | ⟨hb1, h⟩⟩
          · go_wp2_with fail
            go_meet
            exact ⟨by rw [← HD.out]; simp [h], rfl⟩
          · have hlt : a < l.length := (List.getElem?_eq_some_iff.1 hb).1
            have hix := str_at (P := Tryz.prog) (T := 9) Tryz.underlying9 l .i64 a b hb
            rw [hb1] at hix
            have hcall := rfx_digit l (a + 1) wc (by omega)
            rw [isDAt_digs] at hcall
            push_cast at hcall
            go_wp2_with fail
            refine hcall.mono ?_
            rintro e w' ⟨rfl, rfl⟩
            go_wp2_with fail
            go_meet
            exact ⟨by rw [← HD.out]; simp [h], rfl⟩
          · have hlt : a < l.length := (List.getElem?_eq_some_iff.1 hb).1
            have hix := str_at (P := Tryz.prog) (T := 9) Tryz.underlying9 l .i64 a b hb
            have hc1 : ((b.toNat : Int) == 46) = false := byte_ne hb1
            go_wp2_with fail
            go_meet
            exact ⟨by rw [← HD.out]; simp [h, hc1], rfl⟩
        case rest =>
          obtain ⟨rfl, rfl⟩ := hcut
          go_upto_if 39 with (fail)
          go_cut [3, 4] (fun s t wx => s = .int .i64 (A : Nat) ∧ t = .bool (some_ l) ∧ wx = wc)
          case first =>
            cases D with
            | true =>
              have hdot := of_decide_eq_true HD.out
              have hAv : A = a + 1 + digs (l.drop (a + 1)) := by rw [HBody.out, if_pos hdot]
              have hSv : some_ l = true := by rw [HSome.out]; simp [hdot]
              have hda := digs_le (l.drop (a + 1))
              rw [List.length_drop] at hda
              have hal := (List.getElem?_eq_some_iff.1 hdot.1).1
              have HSv := Lib.hid hSv
              clear hSv hdot
              go_wp2_with fail
              go_loop [3] (fun s => ∃ i : Nat, a < i ∧ i + digs (l.drop i) = A ∧ s = .int .i64 (i : Nat)) (fun s => l.length - (intOf s).toNat)
              case atStart => exact ⟨a + 1, by omega, by omega, rfl⟩
              case round =>
                obtain ⟨i, hi1, hi2, rfl⟩ := hrel
                have hcall := rfx_digit l i wc (by omega)
                have hdi := digs_le (l.drop i)
                rw [List.length_drop] at hdi
                cases hd : isDAt l i with
                | true =>
                  rw [hd] at hcall
                  have hstep := digs_drop_yes hd
                  have Hd := Lib.hid hd
                  clear hd
                  go_wp2_with fail
                  refine hcall.mono ?_
                  rintro e w' ⟨rfl, rfl⟩
                  go_wp2
                  exact ⟨⟨i + 1, by omega, by omega, rfl⟩, by simp [intOf]; omega⟩
                | false =>
                  rw [hd] at hcall
                  have hstep := digs_drop_no hd
                  have Hd := Lib.hid hd
                  clear hd
                  go_wp2_with fail
                  refine hcall.mono ?_
                  rintro e w' ⟨rfl, rfl⟩
                  go_wp2_with fail
                  go_meet
                  exact ⟨by congr 1; omega, by rw [HSv.out], rfl⟩
            | false =>
              have hdot := of_decide_eq_false HD.out
              have hAv : A = a := by rw [HBody.out, if_neg hdot]
              have hSv : some_ l = decide (0 < digs (l.drop (sgn l))) := by rw [HSome.out]; simp only [hdot, or_false]
              have HSv := Lib.hid hSv
              clear hSv hdot
              go_wp2_with fail
              go_meet
              exact ⟨by congr 1; omega, by rw [HSv.out], rfl⟩
          case rest =>
            obtain ⟨rfl, rfl, rfl⟩ := hcut
            cases hS : some_ l with
            | false =>
              have Hval := Lib.hid (lenP_none hS)
              clear hS
              go_wp2
              go_ret
              exact ⟨ret_int (by rw [Hval.out]; rfl), rfl⟩
            | true =>
              have htail := Lib.hid (lenP_tail hS HA.out)
              clear hS
              go_upto_region 15 with (fail)
              go_cut [64] (fun s wx => s = .bool (isE l[A]?) ∧ wx = wc)
              case first =>
                rcases isE_cases l A with ⟨hge, h⟩ | ⟨b, hb, ⟨hb1, h⟩ | ⟨hb1, h⟩ | ⟨hb1, hb2, h⟩⟩
                · go_wp2_with fail
                  go_meet
                  exact ⟨by rw [h], rfl⟩
                · have hlt : A < l.length := (List.getElem?_eq_some_iff.1 hb).1
                  have hix := str_at (P := Tryz.prog) (T := 9) Tryz.underlying9 l .i64 A b hb
                  rw [hb1] at hix
                  go_wp2_with fail
                  go_meet
                  exact ⟨by rw [h], rfl⟩
                · have hlt : A < l.length := (List.getElem?_eq_some_iff.1 hb).1
                  have hix := str_at (P := Tryz.prog) (T := 9) Tryz.underlying9 l .i64 A b hb
                  rw [hb1] at hix
                  go_wp2_with fail
                  go_meet
                  exact ⟨by rw [h], rfl⟩
                · have hlt : A < l.length := (List.getElem?_eq_some_iff.1 hb).1
                  have hix := str_at (P := Tryz.prog) (T := 9) Tryz.underlying9 l .i64 A b hb
                  have hc1 : ((b.toNat : Int) == 101) = false := byte_ne hb1
                  have hc2 : ((b.toNat : Int) == 69) = false := byte_ne hb2
                  go_wp2_with fail
                  go_meet
                  exact ⟨by first | rw [h]; done | (rw [h]; simp [hc1, hc2]), rfl⟩
              case rest =>
                obtain ⟨rfl, rfl⟩ := hcut
                cases hE : isE l[A]? with
                | false =>
                  have Hval := Lib.hid (htail.out.1 hE)
                  clear hE
                  go_wp2
                  go_ret
                  exact ⟨ret_int (by rw [Hval.out]), rfl⟩
                | true =>
                  have hAlt : A < l.length := by
                    rcases isE_cases l A with ⟨hge, h⟩ | ⟨b, hb, _⟩
                    · rw [hE] at h; cases h
                    · exact (List.getElem?_eq_some_iff.1 hb).1
                  obtain ⟨k, hk⟩ : ∃ k, sgn (l.drop (A + 1)) = k := ⟨_, rfl⟩
                  have hk1 := sgn_le (l.drop (A + 1))
                  rw [hk, List.length_drop] at hk1
                  obtain ⟨m, hm⟩ : ∃ m, digs (l.drop (A + 1 + k)) = m := ⟨_, rfl⟩
                  have Hval := Lib.hid (htail.out.2 hE k m hk hm)
                  have hsg2 := sgn_cases l (A + 1)
                  rw [hk] at hsg2
                  have Hsg2 := Lib.hid hsg2
                  have hmd := isDAt_digs l (A + 1 + k)
                  rw [hm] at hmd
                  have hm1 := digs_le (l.drop (A + 1 + k))
                  rw [hm, List.length_drop] at hm1
                  have Hm := Lib.hid hm
                  have hcall0 := rfx_digit l (A + 1 + k) wc (by omega)
                  rw [hmd] at hcall0
                  clear hE hk hsg2 hm hmd
                  go_upto_region 17 with (fail)
                  go_cut [82] (fun s wx => s = .bool (decide (0 < k)) ∧ wx = wc)
                  case first =>
                    rcases Hsg2.out with ⟨hge, h⟩ | ⟨b, hb, ⟨hb1, h⟩ | ⟨hb1, h⟩ | ⟨hb1, hb2, h⟩⟩
                    · go_wp2_with fail
                      go_meet
                      exact ⟨by rw [h]; rfl, rfl⟩
                    · have hlt : A + 1 < l.length := (List.getElem?_eq_some_iff.1 hb).1
                      have hix := str_at (P := Tryz.prog) (T := 9) Tryz.underlying9 l .i64 (A + 1) b hb
                      rw [hb1] at hix
                      push_cast at hix
                      go_wp2_with fail
                      go_meet
                      exact ⟨by rw [h]; rfl, rfl⟩
                    · have hlt : A + 1 < l.length := (List.getElem?_eq_some_iff.1 hb).1
                      have hix := str_at (P := Tryz.prog) (T := 9) Tryz.underlying9 l .i64 (A + 1) b hb
                      rw [hb1] at hix
                      push_cast at hix
                      go_wp2_with fail
                      go_meet
                      exact ⟨by rw [h]; rfl, rfl⟩
                    · have hlt : A + 1 < l.length := (List.getElem?_eq_some_iff.1 hb).1
                      have hix := str_at (P := Tryz.prog) (T := 9) Tryz.underlying9 l .i64 (A + 1) b hb
                      push_cast at hix
                      have hc1 : ((b.toNat : Int) == 43) = false := byte_ne hb1
                      have hc2 : ((b.toNat : Int) == 45) = false := byte_ne hb2
                      go_wp2_with fail
                      go_meet
                      exact ⟨by rw [h]; simp [hc1, hc2], rfl⟩

                  case rest =>
                    obtain ⟨rfl, rfl⟩ := hcut
                    go_upto_if 82 with (fail)
                    go_cut [5] (fun s wx => s = .int .i64 ((A + 1 + k : Nat) : Int) ∧ wx = wc)
                    case first =>
                      by_cases hk0 : 0 < k
                      · go_wp2_with fail
                        go_meet
                        exact ⟨by congr 1; omega, rfl⟩
                      · go_wp2_with fail
                        go_meet
                        exact ⟨by congr 1; omega, rfl⟩
                    case rest =>
                      obtain ⟨rfl, rfl⟩ := hcut
                      by_cases hm0 : 0 < m
                      · have hdm : decide (0 < m) = true := by simpa using hm0
                        rw [hdm] at hcall0
                        go_wp2_with fail
                        refine hcall0.mono ?_
                        rintro e w' ⟨rfl, rfl⟩
                        go_wp2_with fail
                        go_loop [5] (fun s => ∃ i : Nat, A < i ∧ i + digs (l.drop i) = A + 1 + k + m ∧ s = .int .i64 (i : Nat)) (fun s => l.length - (intOf s).toNat)
                        case atStart => exact ⟨A + 1 + k, by omega, by rw [Hm.out], rfl⟩
                        case round =>
                          obtain ⟨i, hi1, hi2, rfl⟩ := hrel
                          have hcall := rfx_digit l i wc (by omega)
                          have hdi := digs_le (l.drop i)
                          rw [List.length_drop] at hdi
                          cases hd : isDAt l i with
                          | true =>
                            rw [hd] at hcall
                            have hstep := digs_drop_yes hd
                            have Hd := Lib.hid hd
                            clear hd
                            go_wp2_with fail
                            refine hcall.mono ?_
                            rintro e w' ⟨rfl, rfl⟩
                            go_wp2
                            exact ⟨⟨i + 1, by omega, by omega, rfl⟩, by simp [intOf]; omega⟩
                          | false =>
                            rw [hd] at hcall
                            have hstep := digs_drop_no hd
                            have Hd := Lib.hid hd
                            clear hd
                            go_wp2_with fail
                            refine hcall.mono ?_
                            rintro e w' ⟨rfl, rfl⟩
                            go_wp2
                            go_ret
                            exact ⟨ret_int (by rw [Hval.out, if_pos hm0]; omega), rfl⟩
                      · have hdm : decide (0 < m) = false := by simpa using hm0
                        rw [hdm] at hcall0
                        go_wp2_with fail
                        refine hcall0.mono ?_
                        rintro e w' ⟨rfl, rfl⟩
                        go_wp2
                        go_ret
                        exact ⟨ret_int (by rw [Hval.out, if_neg hm0]), rfl⟩
end Go.Proofs.YtfhdihdafmahgaaGreatDoor
/- Layer 1: which number a decimal is, and what its loops reckon: plain laws. -/
set_option linter.unusedVariables false
set_option linter.unusedSimpArgs false
namespace Go.Proofs.YtfhdihdafmahgaaGreatDoor
open Go.RowKit Fx
namespace Fx
/-- a digit's number -/
def dv (b : UInt8) : Nat := b.toNat - 48
/-- the number of a row of digits -/
def val (l : List UInt8) : Nat := l.foldl (fun n b => 10 * n + dv b) 0
/-- the number of the first i digits of a row, noughts behind its end -/
def vA (d : List UInt8) : Nat → Nat
  | 0 => 0
  | i + 1 => 10 * vA d i + ((d[i]?).map dv).getD 0
def M : Nat := 1099511627776
def foldN (d : List UInt8) (p : Int) : Nat := min (vA d p.toNat) M
/-- an exponent's number -/
def powP (x : List UInt8) : Int :=
  if x = [] then 0 else
  let n : Nat := if x.length - sgn x ≤ 6 then val (x.drop (sgn x)) else 999999
  if x[0]? = some 45 then -(n : Int) else (n : Int)
/-- the digits ahead of the point, and those behind it -/
def intP (l : List UInt8) : List UInt8 := (l.drop (sgn l)).take (digs (l.drop (sgn l)))
def fracP (l : List UInt8) : List UInt8 :=
  let a := sgn l + digs (l.drop (sgn l))
  if l[a]? = some 46 ∧ 0 < digs (l.drop (a + 1)) then (l.drop (a + 1)).take (digs (l.drop (a + 1))) else []
/-- what stands behind the exponent's letter -/
def expP (l : List UInt8) : List UInt8 := if isE l[bodyLen l]? = true then l.drop (bodyLen l + 1) else []
def isP (l : List UInt8) : Bool := decide (l ≠ [] ∧ lenP l = l.length)
def numP (l : List UInt8) : Nat := foldN (intP l ++ fracP l) ((intP l).length + powP (expP l) + 3)
def parseP (l : List UInt8) : Int := if isP l = true then (if l[0]? = some 45 then -(numP l : Int) else (numP l : Int)) else 0
end Fx
theorem vA_succ (d : List UInt8) (i : Nat) : vA d (i + 1) = 10 * vA d i + ((d[i]?).map dv).getD 0 := rfl
theorem vA_mono (d : List UInt8) {i j : Nat} (h : i ≤ j) : vA d i ≤ vA d j := by
  obtain ⟨k, rfl⟩ := Nat.exists_eq_add_of_le h
  clear h
  induction k with
  | zero => exact Nat.le_refl _
  | succ k ih => rw [← Nat.add_assoc, vA_succ]; omega
theorem vA_past (d : List UInt8) {i : Nat} (h : d.length ≤ i) (k : Nat) : vA d (i + k) = 10 ^ k * vA d i := by
  induction k with
  | zero => simp
  | succ k ih =>
    rw [← Nat.add_assoc, vA_succ, List.getElem?_eq_none (by omega), ih, Nat.pow_succ]
    simp; rw [Nat.mul_comm (10 ^ k) 10, Nat.mul_assoc]
theorem vA_step (d : List UInt8) (i : Nat) : min (10 * min (vA d i) M + ((d[i]?).map dv).getD 0) M = min (vA d (i + 1)) M := by
  rw [vA_succ]; omega
theorem vA_full (d : List UInt8) {i j : Nat} (h : i ≤ j) (hm : M ≤ vA d i) : min (vA d j) M = M := by
  have := vA_mono d h; omega
theorem vA_nought (d : List UInt8) {i j : Nat} (h : i ≤ j) (hd : d.length ≤ i) (hm : vA d i = 0) : vA d j = 0 := by
  obtain ⟨k, rfl⟩ := Nat.exists_eq_add_of_le h
  rw [vA_past d hd, hm, Nat.mul_zero]
theorem vA_far (d : List UInt8) {i : Nat} (h : d.length + 60 ≤ i) (hm : vA d i ≠ 0) : M ≤ vA d i := by
  obtain ⟨k, rfl⟩ := Nat.exists_eq_add_of_le h
  rw [Nat.add_assoc, vA_past d (Nat.le_refl _)] at hm ⊢
  have h0 : 0 < vA d d.length := Nat.pos_of_ne_zero fun h => hm (by rw [h, Nat.mul_zero])
  calc M ≤ 10 ^ 60 := by decide
    _ ≤ 10 ^ (60 + k) := Nat.pow_le_pow_right (by omega) (by omega)
    _ ≤ 10 ^ (60 + k) * vA d d.length := Nat.le_mul_of_pos_right _ h0
theorem vA_lead0 (z t : List UInt8) (hz : ∀ b ∈ z, b = 48) : ∀ j, j ≤ z.length → vA (z ++ t) j = 0
  | 0, _ => rfl
  | j + 1, h => by
    have hj : (z ++ t)[j]? = some z[j] := by rw [List.getElem?_append_left (by omega), List.getElem?_eq_getElem (by omega)]
    rw [vA_succ, vA_lead0 z t hz j (by omega), hj]
    have := hz z[j] (List.getElem_mem _)
    simp [this, dv]
theorem vA_lead (z t : List UInt8) (hz : ∀ b ∈ z, b = 48) : ∀ j, vA (z ++ t) (z.length + j) = vA t j
  | 0 => by rw [Nat.add_zero, vA_lead0 z t hz _ (Nat.le_refl _)]; rfl
  | j + 1 => by
    rw [← Nat.add_assoc, vA_succ, vA_lead z t hz j, vA_succ, List.getElem?_append_right (by omega)]
    congr 4; omega
theorem vA_append_len (d t : List UInt8) (i : Nat) (h : i ≤ d.length) : vA (d ++ t) i = vA d i := by
  induction i with
  | zero => rfl
  | succ i ih => rw [vA_succ, vA_succ, ih (by omega), List.getElem?_append_left (by omega)]
/-- leading noughts do not count -/
theorem foldN_lead (z t : List UInt8) (hz : ∀ b ∈ z, b = 48) (p : Int) : foldN (z ++ t) p = foldN t (p - z.length) := by
  unfold foldN
  by_cases h : p ≤ z.length
  · have h1 : (p - z.length).toNat = 0 := by omega
    rw [h1, vA_lead0 z t hz _ (by omega)]; rfl
  · have h1 : p.toNat = z.length + (p - z.length).toNat := by omega
    rw [h1, vA_lead z t hz]
theorem trim_split (l : List UInt8) : ∃ z, l = z ++ l.dropWhile (· == 48) ∧ (∀ b ∈ z, b = 48) := by
  refine ⟨l.takeWhile (· == 48), (List.takeWhile_append_dropWhile).symm, ?_⟩
  intro b hb
  have := List.all_takeWhile (p := fun b : UInt8 => b == 48) (l := l)
  rw [List.all_eq_true] at this
  simpa using this b hb
theorem foldN_trim (l : List UInt8) (p : Int) : foldN l p = foldN (l.dropWhile (· == 48)) (p - (l.length - (l.dropWhile (· == 48)).length : Nat)) := by
  obtain ⟨z, h1, h2⟩ := trim_split l
  have hl : l.length - (l.dropWhile (· == 48)).length = z.length := by
    have := congrArg List.length h1
    rw [List.length_append] at this; omega
  conv => lhs; rw [h1]
  rw [foldN_lead z _ h2, hl]
theorem val_snoc (l : List UInt8) (b : UInt8) : val (l ++ [b]) = 10 * val l + dv b := by simp [val]
theorem val_vA (l : List UInt8) : ∀ i, i ≤ l.length → vA l i = val (l.take i)
  | 0, _ => by simp [vA, val]
  | i + 1, h => by
    rw [vA_succ, val_vA l i (by omega), List.take_add_one, List.getElem?_eq_getElem (by omega)]
    simp only [Option.map_some, Option.getD_some, Option.toList_some, val_snoc]
end Go.Proofs.YtfhdihdafmahgaaGreatDoor
/- Layer 3: what the scanner reads, as plain functions of what is left of the characters. -/
set_option linter.unusedVariables false
set_option linter.unusedSimpArgs false
namespace Go.Proofs.YtfhdihdafmahgaaGreatDoor
open Go.RowKit Rn
namespace Tk
/-- the character so far on; -1: there is none -/
def pk (r : List Int) (n : Nat) : Int := r[n]?.getD (-1)
/-- an escape? -/
def esc (r : List Int) : Bool := decide (pk r 0 = 92 ∧ 0 ≤ pk r 1 ∧ pk r 1 ≠ 10)
def may (r : List Int) : Bool := beginsB (pk r 0) || esc r
/-- does a name begin here? -/
def beg (r : List Int) : Bool := may r || (decide (pk r 0 = 45) && (may r.tail || decide (pk r 1 = 45)))
/-- so many hex digits at most: their number, and what is left -/
def hexes : Nat → Nat → List Int → Nat × List Int
  | 0, n, r => (n, r)
  | f + 1, n, r => if 0 ≤ hexI (pk r 0) then hexes f (16 * n + (hexI (pk r 0)).toNat) r.tail else (n, r)
def numC' (n : Nat) : Int := if n = 0 ∨ isB n = false then 65533 else n
/-- what is meant behind a backslash, and what is left -/
def meantT (r : List Int) : Int × List Int :=
  if hexI (pk r 0) < 0 then (pk r 0, r.tail) else
  let h := hexes 6 0 r
  (numC' h.1, if whiteB (pk h.2 0) = true then h.2.tail else h.2)
end Tk
open Tk
theorem pk_nil (n : Nat) : pk [] n = -1 := by simp [pk]
theorem pk_cons0 (c : Int) (r : List Int) : pk (c :: r) 0 = c := rfl
theorem pk_cons (c : Int) (r : List Int) (n : Nat) : pk (c :: r) (n + 1) = pk r n := by simp [pk]
theorem pk_tail (r : List Int) (n : Nat) : pk r.tail n = pk r (n + 1) := by cases r <;> simp [pk]
theorem pk_drop (l : List Int) (k n : Nat) : pk (l.drop k) n = pk l (k + n) := by simp [pk, List.getElem?_drop]
theorem hexes_len (f : Nat) : ∀ n r, (hexes f n r).2.length ≤ r.length := by
  induction f with
  | zero => intro n r; simp [hexes]
  | succ f ih =>
    intro n r
    unfold hexes
    split
    · have := ih (16 * n + (hexI (pk r 0)).toNat) r.tail
      rw [List.length_tail] at this; omega
    · exact Nat.le_refl _
theorem meant_len (r : List Int) : (meantT r).2.length ≤ r.length := by
  unfold meantT
  split
  · simp
  · have := hexes_len 6 0 r
    simp only []
    split
    · rw [List.length_tail]; omega
    · exact this
theorem esc_ne {r : List Int} (h : esc r = true) : r ≠ [] := by rintro rfl; simp [esc, pk] at h
theorem within_ne {r : List Int} (h : withinB (pk r 0) = true) : r ≠ [] := by rintro rfl; rw [pk_nil] at h; revert h; decide
theorem white_ne {r : List Int} (h : whiteB (pk r 0) = true) : r ≠ [] := by rintro rfl; rw [pk_nil] at h; revert h; decide
theorem tail_lt {r : List Int} (h : r ≠ []) : r.tail.length < r.length := by
  have := List.length_pos_iff.2 h
  rw [List.length_tail]; omega
theorem meant_lt {r : List Int} (h : r ≠ []) : (meantT r.tail).2.length < r.length := Nat.lt_of_le_of_lt (meant_len _) (tail_lt h)
namespace Tk
/-- a name, and what is left -/
def nameT (r : List Int) : List Int × List Int :=
  if h : esc r = true then ((meantT r.tail).1 :: (nameT (meantT r.tail).2).1, (nameT (meantT r.tail).2).2)
  else if h2 : withinB (pk r 0) = true then (pk r 0 :: (nameT r.tail).1, (nameT r.tail).2)
  else ([], r)
termination_by r.length
decreasing_by
  · exact meant_lt (esc_ne h)
  · exact tail_lt (within_ne h2)
/-- behind a comment's end -/
def skipC : List Int → List Int
  | [] => []
  | c :: r => if c = 42 ∧ pk r 0 = 47 then r.tail else skipC r
end Tk
theorem skipC_len (r : List Int) : (skipC r).length ≤ r.length := by
  induction r with
  | nil => simp [skipC]
  | cons c r ih =>
    unfold skipC
    split
    · rw [List.length_tail, List.length_cons]; omega
    · rw [List.length_cons]; omega
theorem name_len (r : List Int) : (nameT r).2.length ≤ r.length := by
  fun_induction nameT r with
  | case1 r h ih => exact Nat.le_trans ih (Nat.le_of_lt (meant_lt (esc_ne h)))
  | case2 r h h2 ih => exact Nat.le_trans ih (Nat.le_of_lt (tail_lt (within_ne h2)))
  | case3 r => exact Nat.le_refl _
namespace Tk
/-- white space and comments: is there any that is white? and what is left -/
def spacesT (r : List Int) : Bool × List Int :=
  if h : whiteB (pk r 0) = true then (true, (spacesT r.tail).2)
  else if h2 : pk r 0 = 47 ∧ pk r 1 = 42 then spacesT (skipC r.tail.tail)
  else (false, r)
termination_by r.length
decreasing_by
  · exact tail_lt (white_ne h)
  · have hne : r ≠ [] := by rintro rfl; rw [pk_nil] at h2; omega
    refine Nat.lt_of_le_of_lt (skipC_len _) ?_
    have := List.length_pos_iff.2 hne
    rw [List.length_tail, List.length_tail]; omega
/-- a text, behind its quote: its characters, whether it is bad, and what is left -/
def quoteT (e : Int) (r : List Int) : List Int × Bool × List Int :=
  match h0 : r with
  | [] => ([], false, [])
  | c :: t =>
    if c = 10 then ([], true, c :: t)
    else if c = e then ([], false, t)
    else if esc (c :: t) = true then ((meantT t).1 :: (quoteT e (meantT t).2).1, (quoteT e (meantT t).2).2)
    else if c = 92 then quoteT e t.tail
    else (c :: (quoteT e t).1, (quoteT e t).2)
termination_by r.length
decreasing_by
  · have := meant_len t; simp only [List.length_cons]; omega
  · simp only [List.length_cons, List.length_tail]; omega
  · simp
/-- a character of a decimal? -/
def numB (c : Int) : Bool := decide ((48 ≤ c ∧ c ≤ 57) ∨ c = 43 ∨ c = 45 ∨ c = 46 ∨ c = 101 ∨ c = 69)
def byteOf (c : Int) : UInt8 := UInt8.ofNat c.toNat
def numText (r : List Int) : List UInt8 := (r.takeWhile numB).map byteOf
/-- a token -/
structure Tok where
  kind : Nat
  text : List UInt8
  n : Int
deriving DecidableEq
def numberT (r : List Int) : Option (Tok × List Int) :=
  let x := numText r
  let n := Fx.lenP x
  if n = 0 then none else
  let v := Fx.parseP (x.take n)
  let s := r.drop n
  if beg s = true then some (⟨10, writeP (nameT s).1, v⟩, (nameT s).2)
  else if pk s 0 = 37 then some (⟨9, [], v⟩, s.tail)
  else some (⟨8, [], v⟩, s)
/-- a character's kind -/
def signK (c : Int) : Nat :=
  if c = 40 ∨ c = 91 ∨ c = 123 then 12 else if c = 41 ∨ c = 93 ∨ c = 125 then 13 else if c = 58 then 14 else if c = 59 then 15 else if c = 44 then 16 else 11
def signT (c : Int) : Tok := ⟨signK c, if signK c = 11 ∨ signK c = 12 ∨ signK c = 13 then writeP [c] else [], 0⟩
/-- the next token, no white space, and what is left -/
def nextT (r : List Int) : Tok × List Int :=
  let c := pk r 0
  if c = 34 ∨ c = 39 then (⟨if (quoteT c r.tail).2.1 = true then 7 else 6, writeP (quoteT c r.tail).1, 0⟩, (quoteT c r.tail).2.2)
  else if c = 35 ∧ (withinB (pk r 1) || esc r.tail) = true then (⟨5, writeP (nameT r.tail).1, 0⟩, (nameT r.tail).2)
  else match numberT r with
    | some x => x
    | none =>
      if c = 64 ∧ beg r.tail = true then (⟨4, writeP (nameT r.tail).1, 0⟩, (nameT r.tail).2)
      else if beg r = true then
        if pk (nameT r).2 0 = 40 then (⟨3, writeP (nameT r).1, 0⟩, (nameT r).2.tail) else (⟨2, writeP (nameT r).1, 0⟩, (nameT r).2)
      else (signT c, r.tail)
end Tk
theorem spaces_len (r : List Int) : (spacesT r).2.length ≤ r.length := by
  fun_induction spacesT r with
  | case1 r h ih => exact Nat.le_trans ih (Nat.le_of_lt (tail_lt (white_ne h)))
  | case2 r h h2 ih =>
    refine Nat.le_trans ih (Nat.le_trans (skipC_len _) ?_)
    rw [List.length_tail, List.length_tail]; omega
  | case3 r => exact Nat.le_refl _
theorem quoted_len (e : Int) (r : List Int) : (quoteT e r).2.2.length ≤ r.length := by
  fun_induction quoteT e r with
  | case1 => simp
  | case2 => simp
  | case3 t h => simp
  | case4 c t h h2 h3 ih => have := meant_len t; simp only [List.length_cons]; omega
  | case5 t h h2 h3 ih => simp only [List.length_cons, List.length_tail] at *; omega
  | case6 c t h h2 h3 h4 ih => simp only [List.length_cons]; omega
theorem name_some {r : List Int} (h : esc r = true ∨ withinB (pk r 0) = true) : (nameT r).2.length < r.length ∧ (nameT r).1 ≠ [] := by
  rw [nameT]
  split
  · rename_i h1
    refine ⟨Nat.lt_of_le_of_lt (name_len _) (meant_lt (esc_ne h1)), by simp⟩
  · rename_i h1
    have h2 := h.resolve_left h1
    rw [dif_pos h2]
    exact ⟨Nat.lt_of_le_of_lt (name_len _) (tail_lt (within_ne h2)), by simp⟩
theorem begins_within {c : Int} (h : beginsB c = true) : withinB c = true := by unfold withinB; rw [h]; rfl
theorem beg_first {r : List Int} (h : beg r = true) : esc r = true ∨ withinB (pk r 0) = true := by
  unfold beg may at h
  rcases hb : beginsB (pk r 0) with _ | _
  · rcases he : esc r with _ | _
    · rw [hb, he] at h
      simp at h
      right
      rw [h.1]; decide
    · exact .inl rfl
  · exact .inr (begins_within hb)
theorem next_lt {r : List Int} (h : r ≠ []) : (nextT r).2.length < r.length := by
  have ht := tail_lt h
  unfold nextT
  simp only []
  split
  · exact Nat.lt_of_le_of_lt (quoted_len _ _) ht
  · split
    · exact Nat.lt_of_le_of_lt (name_len _) ht
    · split
      · rename_i x hx
        unfold numberT at hx
        simp only [] at hx
        split at hx
        · cases hx
        · rename_i hn
          have hd : (r.drop (Fx.lenP (numText r))).length < r.length := by
            have := List.length_pos_iff.2 h
            rw [List.length_drop]; omega
          split at hx
          · cases hx
            exact Nat.lt_of_le_of_lt (name_len _) hd
          · split at hx
            · cases hx
              simp only [List.length_tail] at *; omega
            · cases hx; exact hd
      · split
        · exact Nat.lt_of_le_of_lt (name_len _) ht
        · split
          · rename_i hb
            have := (name_some (beg_first hb)).1
            split
            · simp only [List.length_tail]; omega
            · exact this
          · exact ht
namespace Tk
/-- all tokens -/
def scanT (r : List Int) : List Tok :=
  if h : (spacesT r).2 = [] then (if (spacesT r).1 = true then [⟨1, [], 0⟩] else [])
  else (if (spacesT r).1 = true then [⟨1, [], 0⟩] else []) ++ (nextT (spacesT r).2).1 :: scanT (nextT (spacesT r).2).2
termination_by r.length
decreasing_by exact Nat.lt_of_lt_of_le (next_lt h) (spaces_len r)
end Tk
end Go.Proofs.YtfhdihdafmahgaaGreatDoor
/- Layer 3: tokens as values: a token of any kind, its cells. -/
set_option linter.unusedVariables false
set_option linter.unusedSimpArgs false
namespace Go.Proofs.YtfhdihdafmahgaaGreatDoor
open Go.RowKit Rn Tk
/-- a token of any kind -/
structure GTok where
  kind : Int
  text : List UInt8
  n : Int
deriving DecidableEq
def Tk.Tok.g (t : Tok) : GTok := ⟨t.kind, t.text, t.n⟩
def cells1 (t : GTok) : List Value := [.int .i64 t.kind, .string (bytesOf t.text), .int .i64 t.n]
def cellsG (l : List GTok) : List Value := l.flatMap cells1
/-- the cells of the scanner's tokens -/
def toksV (l : List Tok) : List Value := cellsG (l.map Tok.g)
theorem toksV_snoc (l : List Tok) (t : Tok) : toksV (l ++ [t]) = toksV l ++ [.int .i64 (t.kind : Int), .string (bytesOf t.text), .int .i64 t.n] := by simp [toksV, cellsG, cells1, Tok.g]
theorem cells_new3 (w : World) (e : TypeId) (a b c : Value) : ∀ j u, [a, b, c][j]? = some u → (w.alloc (.cells #[a, b, c] e)).cell? ((⟨w.heap.size, 0, none⟩ : Addr).add j) = some u := by
  intro j u hu
  have h := ((RowAt.new w e #[a, b, c]).2 j u hu).1
  have ha : (⟨w.heap.size, 0, none⟩ : Addr).add j = ⟨w.heap.size, j, none⟩ := by unfold Addr.add; split <;> simp_all
  rw [ha]; exact h
end Go.Proofs.YtfhdihdafmahgaaGreatDoor
/- Layer 1: a decimal taken apart: plain laws. -/
set_option linter.unusedVariables false
set_option linter.unusedSimpArgs false
namespace Go.Proofs.YtfhdihdafmahgaaGreatDoor
open Go.RowKit Fx
theorem digs_all (l : List UInt8) : ∀ b ∈ l.take (digs l), isD b = true := by
  have h : l.take (digs l) = l.takeWhile isD := by
    unfold digs
    exact (List.prefix_iff_eq_take.1 (List.takeWhile_prefix isD)).symm
  rw [h]
  have := List.all_takeWhile (p := isD) (l := l)
  rwa [List.all_eq_true] at this
theorem isD_range {b : UInt8} (h : isD b = true) : 48 ≤ b.toNat ∧ b.toNat ≤ 57 := by simpa [isD] using h
/-- what a decimal is made of -/
structure Dec (l : List UInt8) (sg : List UInt8) (I : List UInt8) (P : List UInt8) (F : List UInt8) (E : List UInt8) (S2 : List UInt8) (X : List UInt8) : Prop where
  all : l = sg ++ (I ++ (P ++ F)) ++ (E ++ (S2 ++ X))
  hsg : sg = [] ∨ ∃ b, sg = [b] ∧ (b.toNat = 43 ∨ b.toNat = 45)
  hI : ∀ b ∈ I, isD b = true
  hF : ∀ b ∈ F, isD b = true
  hP : (P = [] ∧ F = []) ∨ (P = [46] ∧ F ≠ [])
  hE : (E = [] ∧ S2 = [] ∧ X = []) ∨ (∃ e, E = [e] ∧ (e.toNat = 101 ∨ e.toNat = 69) ∧ X ≠ [])
  hS : S2 = [] ∨ ∃ b, S2 = [b] ∧ (b.toNat = 43 ∨ b.toNat = 45)
  hX : ∀ b ∈ X, isD b = true
  lsg : sg = l.take (sgn l)
  lI : I = intP l
  lF : F = fracP l
  lA : bodyLen l = sg.length + I.length + P.length + F.length
  lE : S2 ++ X = expP l
  lS2 : S2 = (expP l).take (sgn (expP l))
  lX : X = (expP l).drop (sgn (expP l))
  some : I ≠ [] ∨ F ≠ []
theorem sgn_shape (l : List UInt8) : l.take (sgn l) = [] ∨ ∃ b, l.take (sgn l) = [b] ∧ (b.toNat = 43 ∨ b.toNat = 45) := by
  cases l with
  | nil => exact .inl rfl
  | cons b l =>
    unfold sgn
    simp only []
    split
    · rename_i h; exact .inr ⟨b, rfl, h⟩
    · exact .inl rfl
theorem take_full {α : Type} {l : List α} {n : Nat} (h : l.length = n) : l.take n = l := by subst h; exact List.take_length
theorem dec_of_isP {l : List UInt8} (h : isP l = true) : ∃ sg I P F E S2 X, Dec l sg I P F E S2 X := by
  have h' := of_decide_eq_true h
  obtain ⟨hne, hlen⟩ := h'
  have hpos : 0 < l.length := List.length_pos_iff.2 hne
  have hsome : some_ l = true := by
    cases hs : some_ l with
    | true => rfl
    | false => rw [lenP_none hs] at hlen; omega
  obtain ⟨A, hA⟩ : ∃ A, bodyLen l = A := ⟨_, rfl⟩
  have hAl := bodyLen_le l
  have ht := lenP_tail hsome hA
  have hk0 := sgn_le l
  have hn0 := digs_le (l.drop (sgn l))
  rw [List.length_drop] at hn0
  have hIlen : (intP l).length = digs (l.drop (sgn l)) := by
    unfold intP; rw [List.length_take, List.length_drop]; omega
  -- the body
  have hbody : ∃ P, l.take A = l.take (sgn l) ++ (intP l ++ (P ++ fracP l)) ∧ ((P = [] ∧ fracP l = []) ∨ (P = [46] ∧ fracP l ≠ [])) ∧ A = (l.take (sgn l)).length + (intP l).length + P.length + (fracP l).length := by
    have e1 : l.take (sgn l + digs (l.drop (sgn l))) = l.take (sgn l) ++ intP l := by
      rw [List.take_add]; rfl
    by_cases hd : l[sgn l + digs (l.drop (sgn l))]? = Option.some 46 ∧ 0 < digs (l.drop (sgn l + digs (l.drop (sgn l)) + 1))
    · have hF : fracP l = (l.drop (sgn l + digs (l.drop (sgn l)) + 1)).take (digs (l.drop (sgn l + digs (l.drop (sgn l)) + 1))) := by
        unfold fracP; simp only []; rw [if_pos hd]
      have hFl : (fracP l).length = digs (l.drop (sgn l + digs (l.drop (sgn l)) + 1)) := by
        have := digs_le (l.drop (sgn l + digs (l.drop (sgn l)) + 1))
        rw [hF, List.length_take]; omega
      have hA2 : A = sgn l + digs (l.drop (sgn l)) + 1 + digs (l.drop (sgn l + digs (l.drop (sgn l)) + 1)) := by
        rw [← hA]; unfold bodyLen; simp only []; rw [if_pos hd]
      refine ⟨[46], ?_, .inr ⟨rfl, ?_⟩, ?_⟩
      · rw [hA2, List.take_add, ← hF, take_snoc _ _ _ hd.1, e1]
        simp
      · intro h0; rw [h0] at hFl; simp at hFl; omega
      · rw [hFl, hIlen, List.length_take]; simp; omega
    · have hF : fracP l = [] := by unfold fracP; simp only []; rw [if_neg hd]
      have hA2 : A = sgn l + digs (l.drop (sgn l)) := by
        rw [← hA]; unfold bodyLen; simp only []; rw [if_neg hd]
      refine ⟨[], ?_, .inl ⟨rfl, hF⟩, ?_⟩
      · rw [hA2, e1, hF]; simp
      · rw [hF, hIlen, List.length_take]; simp; omega
  obtain ⟨P, hb1, hb2, hb3⟩ := hbody
  have hsplit : l = l.take A ++ l.drop A := (List.take_append_drop A l).symm
  have hItail : ∀ b ∈ intP l, isD b = true := by unfold intP; exact digs_all _
  have hFtail : ∀ b ∈ fracP l, isD b = true := by
    unfold fracP
    simp only []
    split
    · exact digs_all _
    · simp
  have hsm : intP l ≠ [] ∨ fracP l ≠ [] := by
    by_cases hd : 0 < digs (l.drop (sgn l))
    · left; intro h0; rw [h0] at hIlen; simp at hIlen; omega
    · right
      unfold some_ at hsome
      have hd2 := of_decide_eq_true hsome
      have hd3 := hd2.resolve_left hd
      intro h0
      have hF : fracP l = (l.drop (sgn l + digs (l.drop (sgn l)) + 1)).take (digs (l.drop (sgn l + digs (l.drop (sgn l)) + 1))) := by
        unfold fracP; simp only []; rw [if_pos hd3]
      have hFl : (fracP l).length = digs (l.drop (sgn l + digs (l.drop (sgn l)) + 1)) := by
        have := digs_le (l.drop (sgn l + digs (l.drop (sgn l)) + 1))
        rw [hF, List.length_take]; omega
      rw [h0] at hFl; simp at hFl; omega
  rcases isE_cases l A with ⟨hge, hE⟩ | ⟨e, he, hE3⟩
  · have hX : expP l = [] := by unfold expP; rw [hA, hE]; rfl
    refine ⟨l.take (sgn l), intP l, P, fracP l, [], [], [], ?_⟩
    exact { all := by rw [← hb1, take_full (by omega)]; simp, hsg := sgn_shape l, hI := hItail, hF := hFtail, hP := hb2, hE := .inl ⟨rfl, rfl, rfl⟩, hS := .inl rfl, hX := by simp, lsg := rfl, lI := rfl, lF := rfl, lA := by rw [hA, hb3], lE := by rw [hX]; rfl, lS2 := by rw [hX]; rfl, lX := by rw [hX]; rfl, some := hsm }
  · have hlt : A < l.length := (List.getElem?_eq_some_iff.1 he).1
    have hEt : isE l[A]? = true ∧ (e.toNat = 101 ∨ e.toNat = 69) := by
      rcases hE3 with ⟨h1, h2⟩ | ⟨h1, h2⟩ | ⟨h1, h2, h3⟩
      · exact ⟨h2, .inl h1⟩
      · exact ⟨h2, .inr h1⟩
      · have := ht.1 h3; omega
    have hL := ht.2 hEt.1 _ _ rfl rfl
    have hm2 : 0 < digs (l.drop (A + 1 + sgn (l.drop (A + 1)))) := by
      by_cases hm : 0 < digs (l.drop (A + 1 + sgn (l.drop (A + 1))))
      · exact hm
      · rw [if_neg hm] at hL; omega
    rw [if_pos hm2] at hL
    have hX : expP l = l.drop (A + 1) := by unfold expP; rw [hA, if_pos hEt.1]
    have hXd : (expP l).drop (sgn (expP l)) = l.drop (A + 1 + sgn (l.drop (A + 1))) := by rw [hX, List.drop_drop]
    refine ⟨l.take (sgn l), intP l, P, fracP l, [e], (expP l).take (sgn (expP l)), (expP l).drop (sgn (expP l)), ?_⟩
    have hda : l.drop A = [e] ++ ((expP l).take (sgn (expP l)) ++ (expP l).drop (sgn (expP l))) := by
      rw [List.take_append_drop, hX]
      obtain ⟨hi, rfl⟩ := List.getElem?_eq_some_iff.1 he
      exact List.drop_eq_getElem_cons hi
    have hXlen : (l.drop (A + 1 + sgn (l.drop (A + 1)))).length = digs (l.drop (A + 1 + sgn (l.drop (A + 1)))) := by
      rw [List.length_drop]; omega
    have hXall : ∀ b ∈ (expP l).drop (sgn (expP l)), isD b = true := by
      rw [hXd]
      have := digs_all (l.drop (A + 1 + sgn (l.drop (A + 1))))
      rwa [take_full hXlen] at this
    exact { all := by rw [← hb1, ← hda]; exact hsplit, hsg := sgn_shape l, hI := hItail, hF := hFtail, hP := hb2, hE := .inr ⟨e, rfl, hEt.2, by rw [hXd]; intro h0; have h1 := congrArg List.length h0; rw [hXlen, List.length_nil] at h1; omega⟩, hS := sgn_shape _, hX := hXall, lsg := rfl, lI := rfl, lF := rfl, lA := by rw [hA, hb3], lE := List.take_append_drop _ _, lS2 := rfl, lX := rfl, some := hsm }
end Go.Proofs.YtfhdihdafmahgaaGreatDoor
/- Layer 1: the program's Length is walked, cut where its ways meet. -/
set_option linter.unusedVariables false
set_option linter.unusedSimpArgs false
namespace Go.Proofs.YtfhdihdafmahgaaGreatDoor
open Go.RowKit Fx
set_option maxRecDepth 100000 in
set_option maxHeartbeats 8000000 in
theorem fx_length (l : List UInt8) (w : World) (hl : l.length ≤ 9223372036854775806) :
    Calls Tryz.prog 127 #[.string (bytesOf l)] w fun e w' => e = .returned (.int .i64 (lenP l : Nat)) ∧ Below w.heap.size w w' := by
  have hs := bytesOf_size l
  obtain ⟨a0, h0⟩ : ∃ a0, sgn l = a0 := ⟨_, rfl⟩
  obtain ⟨n0, hn⟩ : ∃ n0, digs (l.drop a0) = n0 := ⟨_, rfl⟩
  obtain ⟨m, hm⟩ : ∃ m, digs (l.drop (a0 + n0 + 1)) = m := ⟨_, rfl⟩
  have ha0 := sgn_le l
  have hn0 := digs_le (l.drop a0)
  rw [h0] at ha0
  rw [hn, List.length_drop] at hn0
  obtain ⟨A, hA⟩ : ∃ A, bodyLen l = A := ⟨_, rfl⟩
  have hAl := bodyLen_le l
  rw [hA] at hAl
  have HA := Lib.hid hA
  have hBody : bodyLen l = if l[a0 + n0]? = some 46 ∧ 0 < m then a0 + n0 + 1 + m else a0 + n0 := by simp only [bodyLen, h0, hn, hm]
  have hSome : some_ l = decide (0 < n0 ∨ (l[a0 + n0]? = some 46 ∧ 0 < m)) := by simp only [some_, h0, hn, hm]
  rw [hA] at hBody
  have HBody := Lib.hid hBody
  have HSome := Lib.hid hSome
  have Hdot := Lib.hid (dot_cases l (a0 + n0))
  have hf0 := str_from (P := Tryz.prog) (T := 9) Tryz.underlying9 l .i64 a0 (by omega)
  have H0 := Lib.hid h0
  have Hn := Lib.hid hn
  have Hm := Lib.hid hm
  clear hA hBody hSome h0 hn hm
  obtain ⟨D, hD⟩ : ∃ D, decide (l[a0 + n0]? = some 46) = D := ⟨_, rfl⟩
  have HD := Lib.hid hD
  clear hD
  go_enter Tryz.func127, Tryz.ntmps127
  go_wp2_with fail
  refine (fx_sign l w (by omega)).mono ?_
  rintro e w1 ⟨rfl, rfl⟩
  rw [H0.out]
  go_wp2_with fail
  refine (fx_digits (l.drop a0) w (by rw [List.length_drop]; omega)).mono ?_
  rintro e w1 ⟨rfl, hb1⟩
  rw [Hn.out]
  go_upto_region 4 with (fail)
  go_cut [26] (fun s wx => s = .bool D ∧ wx = w1)
  case first =>
    rcases Hdot.out with ⟨hge, h⟩ | ⟨b, hb, ⟨hb1, h⟩ | ⟨hb1, h⟩⟩
    · go_wp2_with fail
      go_meet
      exact ⟨by rw [← HD.out]; simp [h], rfl⟩
    · have hlt : a0 + n0 < l.length := (List.getElem?_eq_some_iff.1 hb).1
      have hix := str_at (P := Tryz.prog) (T := 9) Tryz.underlying9 l .i64 (a0 + n0) b hb
      rw [hb1] at hix
      push_cast at hix
      go_wp2_with fail
      go_meet
      exact ⟨by rw [← HD.out]; simp [h], rfl⟩
    · have hlt : a0 + n0 < l.length := (List.getElem?_eq_some_iff.1 hb).1
      have hix := str_at (P := Tryz.prog) (T := 9) Tryz.underlying9 l .i64 (a0 + n0) b hb
      push_cast at hix
      have hc1 : ((b.toNat : Int) == 46) = false := byte_ne hb1
      go_wp2_with fail
      go_meet
      exact ⟨by rw [← HD.out]; simp [h, hc1], rfl⟩
  case rest =>
    obtain ⟨rfl, rfl⟩ := hcut
    go_upto_if 26 with (fail)
    go_cut [3, 4] (fun s t wx => s = .int .i64 (A : Nat) ∧ (∃ N : Nat, t = .int .i64 (N : Nat) ∧ some_ l = decide (0 < N) ∧ N ≤ l.length) ∧ Below w.heap.size w wx)
    case first =>
      cases D with
      | true =>
        have hdot := of_decide_eq_true HD.out
        have hal := (List.getElem?_eq_some_iff.1 hdot).1
        have hf1 := str_from (P := Tryz.prog) (T := 9) Tryz.underlying9 l .i64 (a0 + n0 + 1) (by omega)
        push_cast at hf1
        have hm1 := digs_le (l.drop (a0 + n0 + 1))
        rw [Hm.out, List.length_drop] at hm1
        have Hdt := Lib.hid hdot
        clear hdot
        by_cases hm0 : 0 < m
        · have hdm : decide (0 < (m : Int)) = true := by simpa using hm0
          go_wp2_with fail
          refine (fx_digits (l.drop (a0 + n0 + 1)) _ (by rw [List.length_drop]; omega)).mono ?_
          rintro e w2 ⟨rfl, hb2⟩
          rw [Hm.out]
          go_wp2_with fail
          go_meet
          refine ⟨?_, ⟨n0 + m, by congr 1, ?_, by omega⟩, hb1.trans (hb2.mono hb1.size)⟩
          · congr 1
            rw [HBody.out, if_pos ⟨Hdt.out, hm0⟩]; omega
          · rw [HSome.out, decide_eq_decide]
            constructor
            · intro _; omega
            · intro _; exact .inr ⟨Hdt.out, hm0⟩
        · have hdm : decide (0 < (m : Int)) = false := by simpa using hm0
          go_wp2_with fail
          refine (fx_digits (l.drop (a0 + n0 + 1)) _ (by rw [List.length_drop]; omega)).mono ?_
          rintro e w2 ⟨rfl, hb2⟩
          rw [Hm.out]
          go_wp2_with fail
          go_meet
          refine ⟨?_, ⟨n0, rfl, ?_, by omega⟩, hb1.trans (hb2.mono hb1.size)⟩
          · congr 1
            rw [HBody.out, if_neg (by omega)]; omega
          · rw [HSome.out, decide_eq_decide]; omega
      | false =>
        have hdot := of_decide_eq_false HD.out
        have hN : some_ l = decide (0 < n0) := by rw [HSome.out]; simp only [hdot, false_and, or_false]
        have hAv : A = a0 + n0 := by rw [HBody.out, if_neg (by simp only [hdot, false_and, not_false_eq_true])]
        have HN := Lib.hid hN
        clear hN hdot
        go_wp2_with fail
        go_meet
        exact ⟨by congr 1; omega, ⟨n0, rfl, HN.out, by omega⟩, hb1⟩
    case rest =>
      obtain ⟨rfl, ⟨N, rfl, hS, hNl⟩, hb2⟩ := hcut
      cases hS1 : some_ l with
      | false =>
        obtain rfl : N = 0 := by rw [hS1] at hS; have := of_decide_eq_false hS.symm; omega
        have Hval := Lib.hid (lenP_none hS1)
        clear hS1 hS
        go_wp2
        go_ret
        exact ⟨ret_int (by rw [Hval.out]; rfl), hb2⟩
      | true =>
        have hN0 : 0 < N := by rw [hS1] at hS; exact of_decide_eq_true hS.symm
        have htail := Lib.hid (lenP_tail hS1 HA.out)
        have hz : ((N : Int) == 0) = false := by simp; omega
        clear hS1 hS
        go_upto_region 11 with (fail)
        go_cut [58] (fun s wx => s = .bool (isE l[A]?) ∧ wx = wc)
        case first =>
          rcases isE_cases l A with ⟨hge, h⟩ | ⟨b, hb, ⟨hb1, h⟩ | ⟨hb1, h⟩ | ⟨hb1, hb2, h⟩⟩
          · go_wp2_with fail
            go_meet
            exact ⟨by rw [h], rfl⟩
          · have hlt : A < l.length := (List.getElem?_eq_some_iff.1 hb).1
            have hix := str_at (P := Tryz.prog) (T := 9) Tryz.underlying9 l .i64 A b hb
            rw [hb1] at hix
            go_wp2_with fail
            go_meet
            exact ⟨by rw [h], rfl⟩
          · have hlt : A < l.length := (List.getElem?_eq_some_iff.1 hb).1
            have hix := str_at (P := Tryz.prog) (T := 9) Tryz.underlying9 l .i64 A b hb
            rw [hb1] at hix
            go_wp2_with fail
            go_meet
            exact ⟨by rw [h], rfl⟩
          · have hlt : A < l.length := (List.getElem?_eq_some_iff.1 hb).1
            have hix := str_at (P := Tryz.prog) (T := 9) Tryz.underlying9 l .i64 A b hb
            have hc1 : ((b.toNat : Int) == 101) = false := byte_ne hb1
            have hc2 : ((b.toNat : Int) == 69) = false := byte_ne hb2
            go_wp2_with fail
            go_meet
            exact ⟨by first | rw [h]; done | (rw [h]; simp [hc1, hc2]), rfl⟩
        case rest =>
          obtain ⟨rfl, rfl⟩ := hcut
          cases hE : isE l[A]? with
          | false =>
            have Hval := Lib.hid (htail.out.1 hE)
            clear hE
            go_wp2
            go_ret
            exact ⟨ret_int (by rw [Hval.out]), hb2⟩
          | true =>
            have hAlt : A < l.length := by
              rcases isE_cases l A with ⟨hge, h⟩ | ⟨b, hb, _⟩
              · rw [hE] at h; cases h
              · exact (List.getElem?_eq_some_iff.1 hb).1
            obtain ⟨k, hk⟩ : ∃ k, sgn (l.drop (A + 1)) = k := ⟨_, rfl⟩
            have hk1 := sgn_le (l.drop (A + 1))
            rw [hk, List.length_drop] at hk1
            obtain ⟨m2, hm2⟩ : ∃ m, digs (l.drop (A + 1 + k)) = m := ⟨_, rfl⟩
            have Hval := Lib.hid (htail.out.2 hE k m2 hk hm2)
            have hm1 := digs_le (l.drop (A + 1 + k))
            rw [hm2, List.length_drop] at hm1
            have hf2 := str_from (P := Tryz.prog) (T := 9) Tryz.underlying9 l .i64 (A + 1) (by omega)
            have hf3 := str_from (P := Tryz.prog) (T := 9) Tryz.underlying9 l .i64 (A + 1 + k) (by omega)
            push_cast at hf2 hf3
            have Hk := Lib.hid hk
            have Hm2 := Lib.hid hm2
            clear hE hk hm2
            by_cases hm0 : 0 < m2
            · have hdm : decide (0 < (m2 : Int)) = true := by simpa using hm0
              go_wp2_with fail
              refine (fx_sign (l.drop (A + 1)) _ (by rw [List.length_drop]; omega)).mono ?_
              rintro e w3 ⟨rfl, rfl⟩
              rw [Hk.out]
              go_wp2_with fail
              refine (fx_digits (l.drop (A + 1 + k)) _ (by rw [List.length_drop]; omega)).mono ?_
              rintro e w4 ⟨rfl, hb4⟩
              rw [Hm2.out]
              go_wp2
              go_ret
              exact ⟨ret_int (by rw [Hval.out, if_pos hm0] <;> omega), hb2.trans (hb4.mono hb2.size)⟩
            · have hdm : decide (0 < (m2 : Int)) = false := by simpa using hm0
              go_wp2_with fail
              refine (fx_sign (l.drop (A + 1)) _ (by rw [List.length_drop]; omega)).mono ?_
              rintro e w3 ⟨rfl, rfl⟩
              rw [Hk.out]
              go_wp2_with fail
              refine (fx_digits (l.drop (A + 1 + k)) _ (by rw [List.length_drop]; omega)).mono ?_
              rintro e w4 ⟨rfl, hb4⟩
              rw [Hm2.out]
              go_wp2
              go_ret
              exact ⟨ret_int (by rw [Hval.out, if_neg hm0] <;> omega), hb2.trans (hb4.mono hb2.size)⟩
end Go.Proofs.YtfhdihdafmahgaaGreatDoor
/- Layer 1: the exponent's number is walked. -/
set_option linter.unusedVariables false
set_option linter.unusedSimpArgs false
namespace Go.Proofs.YtfhdihdafmahgaaGreatDoor
open Go.RowKit Fx
theorem bytesOf_append (a b : List UInt8) : bytesOf a ++ bytesOf b = bytesOf (a ++ b) := by
  rw [← bytesOf_eta (bytesOf a ++ bytesOf b)]
  congr 1
theorem val_foldl (l : List UInt8) : ∀ n, l.foldl (fun n b => 10 * n + dv b) n = n * 10 ^ l.length + val l := by
  induction l with
  | nil => intro n; simp [val]
  | cons b l ih =>
    intro n
    unfold val
    simp only [List.foldl_cons, List.length_cons]
    rw [ih, ih (10 * 0 + dv b), Nat.pow_succ]
    rw [Nat.add_mul]
    have : 10 * n * 10 ^ l.length = n * (10 ^ l.length * 10) := by
      rw [Nat.mul_comm 10 n, Nat.mul_assoc, Nat.mul_comm 10]
    rw [this, Nat.mul_zero, Nat.zero_add]
    omega
theorem val_cons (b : UInt8) (l : List UInt8) : val (b :: l) = dv b * 10 ^ l.length + val l := by
  show List.foldl _ (10 * 0 + dv b) l = _
  rw [val_foldl]; simp
theorem decFrom_val (l : List UInt8) (h : ∀ b ∈ l, isD b = true) : ∀ n, Lib.decFrom n l = some (l.foldl (fun n b => 10 * n + dv b) n) := by
  induction l with
  | nil => intro n; rfl
  | cons b l ih =>
    intro n
    have hb := isD_range (h b (by simp))
    have hd : Lib.digitVal b = some (dv b) := by unfold Lib.digitVal; rw [if_pos hb]; rfl
    simp only [Lib.decFrom, hd, List.foldl_cons]
    rw [ih (fun c hc => h c (by simp [hc])), Nat.mul_comm]
theorem val_trim (l : List UInt8) : val (l.dropWhile (· == 48)) = val l := by
  induction l with
  | nil => rfl
  | cons b l ih =>
    by_cases hb : b = 48
    · subst hb; rw [List.dropWhile_cons, if_pos (by rfl), ih, val_cons]; simp [dv]
    · rw [List.dropWhile_cons, if_neg (by simpa using hb)]
theorem atoi_nought (d : List UInt8) (h : ∀ b ∈ d, isD b = true) : Lib.atoi (48 :: d) = some (val d : Int) := by
  have h2 : ∀ b ∈ (48 :: d : List UInt8), isD b = true := by
    intro b hb
    rcases List.mem_cons.1 hb with rfl | hb
    · rfl
    · exact h b hb
  have : Lib.decNat (48 :: d) = some (val d) := by
    unfold Lib.decNat
    rw [if_neg (by simp), decFrom_val _ h2]
    show some (val (48 :: d)) = _
    rw [val_cons]; simp [dv]
  unfold Lib.atoi
  simp only []
  rw [if_neg (by decide), if_neg (by decide), this]
  rfl
theorem val_lt (l : List UInt8) (h : ∀ b ∈ l, isD b = true) : val l < 10 ^ l.length := by
  induction l with
  | nil => decide
  | cons b l ih =>
    have hb := isD_range (h b (by simp))
    have := ih fun c hc => h c (by simp [hc])
    have hd : dv b ≤ 9 := by unfold dv; omega
    rw [val_cons, List.length_cons, Nat.pow_succ]
    have : dv b * 10 ^ l.length ≤ 9 * 10 ^ l.length := Nat.mul_le_mul_right _ hd
    omega
theorem dropWhile_all {p q : UInt8 → Bool} {l : List UInt8} (h : ∀ b ∈ l, q b = true) : ∀ b ∈ l.dropWhile p, q b = true :=
  fun b hb => h b ((List.dropWhile_suffix p).subset hb)
set_option maxRecDepth 100000 in
set_option maxHeartbeats 2000000 in
theorem fx_power (x : List UInt8) (w : World) (hl : x.length ≤ 1000000) (hd : ∀ b ∈ x.drop (sgn x), isD b = true) :
    Calls Tryz.prog 157 #[.string (bytesOf x)] w fun e w' => e = .returned (.int .i64 (powP x)) ∧ Below w.heap.size w w' := by
  have hs := bytesOf_size x
  by_cases hx : x = []
  · subst hx
    obtain ⟨e1, e2⟩ := str_none
    go_enter Tryz.func157, Tryz.ntmps157
    go_wp2
    go_ret
    exact ⟨rfl, Below.refl _ _⟩
  · obtain ⟨e1, e2⟩ := str_some hx
    have hpos : 0 < x.length := List.length_pos_iff.2 hx
    obtain ⟨b, hb⟩ : ∃ b, x[0]? = some b := ⟨_, List.getElem?_eq_getElem hpos⟩
    have hix := str_at (P := Tryz.prog) (T := 9) Tryz.underlying9 x .i64 0 b hb
    rw [Int.ofNat_zero] at hix
    obtain ⟨k, hk⟩ : ∃ k, sgn x = k := ⟨_, rfl⟩
    have hk1 := sgn_le x
    rw [hk] at hk1 hd
    have hf := str_from (P := Tryz.prog) (T := 9) Tryz.underlying9 x .i64 k (by omega)
    have hat := atoi_nought _ (dropWhile_all (p := (· == 48)) hd)
    rw [val_trim] at hat
    have hvl := val_lt _ hd
    have hdl : ((x.drop k).dropWhile (· == 48)).length ≤ x.length - k := by
      have := (List.dropWhile_suffix (· == (48 : UInt8)) (l := x.drop k)).length_le
      rwa [List.length_drop] at this
    rw [List.length_drop] at hvl
    obtain ⟨V, hV⟩ : ∃ V, val (x.drop k) = V := ⟨_, rfl⟩
    rw [hV] at hat hvl
    have hpv : powP x = if x[0]? = some 45 then -((if x.length - k ≤ 6 then V else 999999 : Nat) : Int) else ((if x.length - k ≤ 6 then V else 999999 : Nat) : Int) := by
      unfold powP; rw [if_neg hx, hk, hV]
    have Hk := Lib.hid hk
    have Hpv := Lib.hid hpv
    have Hb := Lib.hid hb
    have HV := Lib.hid hV
    have Hat := Lib.hid hat
    clear hk hpv hb hV hat
    by_cases h6 : x.length - k ≤ 6
    · have hV6 : V < 1000000 := Nat.lt_of_lt_of_le hvl (Nat.pow_le_pow_right (n := 10) (by omega) h6)
      go_enter Tryz.func157, Tryz.ntmps157
      go_wp2_with fail
      refine (fx_sign x w (by omega)).mono ?_
      rintro e w1 ⟨rfl, rfl⟩
      rw [Hk.out]
      go_wp2_with fail
      refine (Tryz.strings_TrimLeft_one _ 48 (by decide) _).mono ?_
      rintro e w1 ⟨rfl, rfl⟩
      rw [bytesOf_list]
      rw [show (⟨(Lib.trimLeftB (x.drop k) 48).toArray⟩ : ByteArray) = bytesOf ((x.drop k).dropWhile (· == 48)) from rfl]
      have hsd := bytesOf_size ((x.drop k).dropWhile (· == 48))
      go_wp2_with fail
      rw [show (⟨#[48]⟩ : ByteArray) = bytesOf [48] from rfl, bytesOf_append]
      refine (Tryz.strconv_Atoi _ (V : Int) (by rw [bytesOf_size]; simp; omega) (by rw [bytesOf_list]; exact Hat.out) _).mono ?_
      rintro e w2 ⟨rfl, t, rfl⟩
      have hbw := Lib.bytesWorld_below w1 5 t
      by_cases hm : b.toNat = 45
      · have hv : powP x = -(V : Int) := by
          rw [Hpv.out, if_pos h6, if_pos]
          rw [Hb.out]; congr 1; exact UInt8.toNat_inj.1 hm
        have Hv := Lib.hid hv
        clear hv
        rw [hm] at hix
        go_wp2
        go_ret
        exact ⟨ret_int (by rw [Hv.out]), hbw⟩
      · have hv : powP x = (V : Int) := by
          rw [Hpv.out, if_pos h6, if_neg]
          rw [Hb.out]; intro h; injection h with h; subst h; exact hm rfl
        have Hv := Lib.hid hv
        have hc := byte_ne hm
        clear hv
        go_wp2
        go_ret
        exact ⟨ret_int (by rw [Hv.out]), hbw⟩
    · go_enter Tryz.func157, Tryz.ntmps157
      go_wp2_with fail
      refine (fx_sign x w (by omega)).mono ?_
      rintro e w1 ⟨rfl, rfl⟩
      rw [Hk.out]
      go_wp2_with fail
      refine (Tryz.strings_TrimLeft_one _ 48 (by decide) _).mono ?_
      rintro e w1 ⟨rfl, rfl⟩
      rw [bytesOf_list]
      rw [show (⟨(Lib.trimLeftB (x.drop k) 48).toArray⟩ : ByteArray) = bytesOf ((x.drop k).dropWhile (· == 48)) from rfl]
      by_cases hm : b.toNat = 45
      · have hv : powP x = -(999999 : Int) := by
          rw [Hpv.out, if_neg h6, if_pos]
          · rfl
          rw [Hb.out]; congr 1; exact UInt8.toNat_inj.1 hm
        have Hv := Lib.hid hv
        clear hv
        rw [hm] at hix
        go_wp2
        go_ret
        exact ⟨ret_int (by rw [Hv.out]), Below.refl _ _⟩
      · have hv : powP x = (999999 : Int) := by
          rw [Hpv.out, if_neg h6, if_neg]
          · rfl
          rw [Hb.out]; intro h; injection h with h; subst h; exact hm rfl
        have Hv := Lib.hid hv
        have hc := byte_ne hm
        clear hv
        go_wp2
        go_ret
        exact ⟨ret_int (by rw [Hv.out]), Below.refl _ _⟩
end Go.Proofs.YtfhdihdafmahgaaGreatDoor
/- Layer 1: Parse is walked. -/
set_option linter.unusedVariables false
set_option linter.unusedSimpArgs false
namespace Go.Proofs.YtfhdihdafmahgaaGreatDoor
open Go.RowKit Fx
section
variable {l sg I P F E S2 X : List UInt8} (D : Dec l sg I P F E S2 X)
include D
theorem dec_sgn : sgn l = sg.length := by
  have h := sgn_le l
  have := congrArg List.length D.lsg
  rw [List.length_take] at this; omega
theorem dec_drop : l.drop (sgn l) = (I ++ (P ++ F)) ++ (E ++ (S2 ++ X)) := by
  rw [dec_sgn D]
  conv => lhs; rw [D.all]
  rw [List.append_assoc, List.drop_left]
theorem dec_P : ∀ b ∈ P, b = 46 := by
  intro b hb
  rcases D.hP with ⟨h, _⟩ | ⟨h, _⟩ <;> rw [h] at hb <;> simp_all
theorem dec_body_low : ∀ b ∈ I ++ (P ++ F), b.toNat ≤ 57 := by
  intro b hb
  rw [List.mem_append, List.mem_append] at hb
  rcases hb with hb | hb | hb
  · exact (isD_range (D.hI b hb)).2
  · rw [dec_P D b hb]; decide
  · exact (isD_range (D.hF b hb)).2
theorem dec_index : Lib.indexAny (l.drop (sgn l)) [101, 69] = if E = [] then -1 else (((I ++ (P ++ F)).length : Nat) : Int) := by
  rw [dec_drop D]
  have hno : ∀ b ∈ I ++ (P ++ F), ([101, 69] : List UInt8).contains b = false := by
    intro b hb
    have := dec_body_low D b hb
    simp only [List.contains_eq_mem, decide_eq_false_iff_not, List.mem_cons, List.not_mem_nil, or_false]
    rintro (rfl | rfl) <;> revert this <;> decide
  rcases D.hE with ⟨h1, h2, h3⟩ | ⟨e, h1, h2, h3⟩
  · rw [if_pos h1, h1, h2, h3]
    refine Lib.indexAny_none ?_
    intro j b hj hb
    simp only [List.append_nil] at hb hj
    exact hno b (List.mem_of_getElem? hb)
  · rw [if_neg (by rw [h1]; simp)]
    refine Lib.indexAny_hit (x := e) ?_ ?_ ?_
    · intro j b hj hb
      rw [List.getElem?_append_left hj] at hb
      exact hno b (List.mem_of_getElem? hb)
    · rw [List.getElem?_append_right (Nat.le_refl _), Nat.sub_self, h1]; rfl
    · have : e = 101 ∨ e = 69 := by
        rcases h2 with h2 | h2
        · exact .inl (UInt8.toNat_inj.1 h2)
        · exact .inr (UInt8.toNat_inj.1 h2)
      rcases this with rfl | rfl <;> decide
theorem dec_ascii : ∀ b ∈ l.drop (sgn l), b.toNat < 128 := by
  intro b hb
  rw [dec_drop D, List.mem_append] at hb
  rcases hb with hb | hb
  · have := dec_body_low D b hb; omega
  rw [List.mem_append, List.mem_append] at hb
  rcases hb with hb | hb | hb
  · rcases D.hE with ⟨h1, _⟩ | ⟨e, h1, h2, _⟩
    · rw [h1] at hb; simp at hb
    · rw [h1] at hb; simp at hb; subst hb; omega
  · rcases D.hS with h1 | ⟨s, h1, h2⟩
    · rw [h1] at hb; simp at hb
    · rw [h1] at hb; simp at hb; subst hb; omega
  · have := isD_range (D.hX b hb); omega
theorem dec_cut : (Lib.cut (I ++ (P ++ F)) [46]).1 = I ∧ (Lib.cut (I ++ (P ++ F)) [46]).2.1 = F := by
  have hocc : ∀ (s : List UInt8) (j : Nat), Lib.occAt s [46] j = decide (s[j]? = some 46) := by
    intro s j
    unfold Lib.occAt
    by_cases hj : j < s.length
    · rw [List.drop_eq_getElem_cons hj, List.getElem?_eq_getElem hj]
      simp only [List.isPrefixOf, Bool.and_true, Option.some.injEq]
      exact Bool.eq_iff_iff.2 ⟨fun h => decide_eq_true (beq_iff_eq.1 h).symm, fun h => beq_iff_eq.2 (of_decide_eq_true h).symm⟩
    · rw [List.drop_eq_nil_of_le (by omega), List.getElem?_eq_none (by omega)]; rfl
  have hI : ∀ j : Nat, j < I.length → ¬ I[j]? = some 46 := by
    intro j hj h
    have := isD_range (D.hI 46 (List.mem_of_getElem? h))
    revert this; decide
  rcases D.hP with ⟨h1, h2⟩ | ⟨h1, h2⟩
  · have hn : Lib.index (I ++ (P ++ F)) [46] = -1 := by
      rw [h1, h2]
      refine Lib.index_none ?_
      intro j _
      rw [hocc, decide_eq_false_iff_not]
      simp only [List.append_nil]
      intro h
      exact hI j (List.getElem?_eq_some_iff.1 h).1 h
    unfold Lib.cut
    rw [hn, if_neg (by decide), h1, h2]
    simp
  · have hn : Lib.index (I ++ (P ++ F)) [46] = (I.length : Int) := by
      refine Lib.index_first (i := I.length) (by simp) ?_ ?_
      · rw [hocc, h1, List.getElem?_append_right (Nat.le_refl _), Nat.sub_self]; rfl
      · intro j hj
        rw [hocc, decide_eq_false_iff_not, List.getElem?_append_left hj]
        exact hI j hj
    unfold Lib.cut
    rw [hn, if_pos (by omega)]
    refine ⟨?_, ?_⟩
    · show List.take (Int.toNat (I.length : Int)) _ = _
      rw [Int.toNat_natCast, List.take_left]
    · show List.drop (Int.toNat (I.length : Int) + 1) _ = _
      rw [Int.toNat_natCast, ← List.drop_drop, List.drop_left, h1]; rfl
theorem dec_exp_digits : ∀ b ∈ (expP l).drop (sgn (expP l)), isD b = true := by rw [← D.lX]; exact D.hX
theorem dec_expP : (E = [] ∧ expP l = []) ∨ (E ≠ [] ∧ expP l = (l.drop (sgn l)).drop ((I ++ (P ++ F)).length + 1)) := by
  rcases D.hE with ⟨h1, h2, h3⟩ | ⟨e, h1, h2, h3⟩
  · exact .inl ⟨h1, by rw [← D.lE, h2, h3]; rfl⟩
  · refine .inr ⟨by rw [h1]; simp, ?_⟩
    rw [dec_drop D, ← List.drop_drop, List.drop_left, h1, ← D.lE]; rfl
theorem dec_len : l.length = sg.length + (I.length + (P.length + F.length)) + (E.length + (S2.length + X.length)) := by
  have := congrArg List.length D.all
  simp only [List.length_append] at this
  omega
end
end Go.Proofs.YtfhdihdafmahgaaGreatDoor
/- Layer 1: Parse is walked. -/
set_option linter.unusedVariables false
set_option linter.unusedSimpArgs false
namespace Go.Proofs.YtfhdihdafmahgaaGreatDoor
open Go.RowKit Fx
/-- what the library's functions ask of the world -/
structure Env (w : World) : Prop where
  max : ∃ m, w.cell? ⟨3, 0, none⟩ = some (.int .i64 m)
  pow : Lib.TabIs Tryz.prog w "internal/strconv.uint64pow10" .u64 Lib.pow10Tab
theorem cell_lt {w : World} {b : Nat} {v : Value} (h : w.cell? ⟨b, 0, none⟩ = some v) : b < w.heap.size := by
  by_cases hb : b < w.heap.size
  · exact hb
  · exfalso
    have : w.heap[b]? = none := Array.getElem?_eq_none (by omega)
    simp [World.cell?, this] at h
theorem Env.below {w w' : World} (h : Env w) (hb : Below w.heap.size w w') : Env w' := by
  obtain ⟨⟨m, hm⟩, hp⟩ := h
  refine ⟨⟨m, ?_⟩, Joins.tab_stays (g := 4) (by kernel_rfl) hp hb (Nat.le_refl _)⟩
  have hlt := cell_lt hm
  have := hb.block 3 hlt
  simp only [World.cell?] at hm ⊢
  rw [this]; exact hm
set_option maxRecDepth 100000 in
theorem fx_digit (t : List UInt8) (i B : Nat) (w : World) (hv : w.cell? ⟨B, 0, none⟩ = some (.string (bytesOf t))) (hd : ∀ b ∈ t, isD b = true) (hl : t.length ≤ 100000000) :
    Calls Tryz.prog 159 #[.int .i64 i, .pointer (some ⟨B, 0, none⟩)] w fun e w' => e = .returned (.int .i64 (((t[i]?.map dv).getD 0 : Nat) : Int)) ∧ w = w' := by
  have hs := bytesOf_size t
  by_cases hi : i < t.length
  · have hb : t[i]? = some t[i] := List.getElem?_eq_getElem hi
    have hr := isD_range (hd _ (List.mem_of_getElem? hb))
    have hix := str_at (P := Tryz.prog) (T := 9) Tryz.underlying9 t .i64 i _ hb
    generalize t[i] = b at *
    have Hb := Lib.hid hb
    clear hb hd
    go_enter Tryz.func159, Tryz.ntmps159
    go_wp2
    go_ret
    exact ⟨ret_int (by rw [Hb.out]; simp [dv]; omega), rfl⟩
  · have Hb := Lib.hid (show t[i]? = none from List.getElem?_eq_none (by omega))
    clear hd
    go_enter Tryz.func159, Tryz.ntmps159
    go_wp2
    go_ret
    exact ⟨ret_int (by rw [Hb.out]; rfl), rfl⟩
theorem retIB {a b : Int} {c d : Bool} (h1 : a = b) (h2 : c = d) : Ending.returned (.tuple #[.int .i64 a, .bool c]) = Ending.returned (.tuple #[.int .i64 b, .bool d]) := by rw [h1, h2]
theorem powP_range (x : List UInt8) (h : ∀ b ∈ x.drop (sgn x), isD b = true) : -999999 ≤ powP x ∧ powP x ≤ 999999 := by
  have hn : (if x.length - sgn x ≤ 6 then val (x.drop (sgn x)) else 999999 : Nat) ≤ 999999 := by
    split
    · rename_i h6
      have := val_lt _ h
      rw [List.length_drop] at this
      have h2 : 10 ^ (x.length - sgn x) ≤ 10 ^ 6 := Nat.pow_le_pow_right (by omega) h6
      omega
    · omega
  unfold powP
  simp only []
  split
  · omega
  · split <;> omega
theorem bytes_ascii {l : List UInt8} (h : ∀ b ∈ l, b.toNat < 128) : ∀ (j : Nat) b, (bytesOf l).data.toList[j]? = some b → b.toNat < 128 := by
  intro j b hb
  rw [bytesOf_list] at hb
  exact h b (List.mem_of_getElem? hb)
theorem eE_ascii : ∀ (j : Nat) b, (⟨#[101, 69]⟩ : ByteArray).data.toList[j]? = some b → b.toNat < 128 := by
  intro j b hb
  have h := List.mem_of_getElem? hb
  simp at h
  rcases h with rfl | rfl <;> decide
set_option maxRecDepth 100000 in
set_option maxHeartbeats 900000 in
theorem fx_parse (l : List UInt8) (w : World) (hl : l.length ≤ 1000000) (hw : Env w) :
    Calls Tryz.prog 128 #[.string (bytesOf l)] w fun e w' => e = .returned (.tuple #[.int .i64 (parseP l), .bool (isP l)]) ∧ Below w.heap.size w w' := by
  have hs := bytesOf_size l
  by_cases hne : l = []
  · subst hne
    obtain ⟨e1, e2⟩ := str_none
    go_enter Tryz.func128, Tryz.ntmps128
    go_wp2
    go_ret2
    exact ⟨retIB rfl rfl, Below.refl _ _⟩
  · obtain ⟨e1, e2⟩ := str_some hne
    by_cases hlen : lenP l = l.length
    · have hisP : isP l = true := decide_eq_true ⟨hne, hlen⟩
      obtain ⟨sg, I, P, F, E, S2, X, D⟩ := dec_of_isP hisP
      have hdl := dec_len D
      have hsgl : sg.length ≤ l.length := by omega
      have hdl0 := Lib.hid hdl
      have hsg := dec_sgn D
      have Hlen := Lib.hid hlen
      have HD := Lib.hid D
      have Hsg := Lib.hid hsg
      have hf := str_from (P := Tryz.prog) (T := 9) Tryz.underlying9 l .i64 sg.length (by omega)
      have hia : Hid (Lib.indexAny (l.drop sg.length) [101, 69] = if E = [] then -1 else (((I ++ (P ++ F)).length : Nat) : Int)) := by
        show _ = _
        rw [← hsg]; exact dec_index D
      clear hlen D hsg hdl
      go_enter Tryz.func128, Tryz.ntmps128
      go_wp2_with fail
      refine (fx_length l w (by omega)).mono ?_
      rintro e w1 ⟨rfl, hb1⟩
      rw [Hlen.out]
      go_wp2_with fail
      refine (fx_sign l _ (by omega)).mono ?_
      rintro e w2 ⟨rfl, rfl⟩
      rw [Hsg.out]
      go_wp2_with fail
      refine (Tryz.strings_IndexAny_laid (bytesOf (l.drop sg.length)) ⟨#[101, 69]⟩ w1 (by rw [bytesOf_size, List.length_drop]; omega) (by decide) (bytes_ascii (by rw [← Hsg.out]; exact dec_ascii HD.out)) eE_ascii).mono ?_
      rintro e w2 ⟨rfl, hb2⟩
      rw [bytesOf_list, show (⟨#[101, 69]⟩ : ByteArray).data.toList = [101, 69] from rfl, hia.out]
      replace hb2 := hb1.trans (hb2.mono hb1.size)
      clear hb1
      obtain ⟨r, hr⟩ : ∃ r, (if E = [] then -1 else (((I ++ (P ++ F)).length : Nat) : Int)) = r := ⟨_, rfl⟩
      rw [hr]
      have Hr := Lib.hid hr
      clear hr
      go_upto_if 34 with (fail)
      go_cut [5, 6] (fun s t wx => s = .string (bytesOf (I ++ (P ++ F))) ∧ t = .string (bytesOf (expP l)) ∧ Below w.heap.size w wx)
      case first =>
        have hdr := dec_drop HD.out
        rw [Hsg.out] at hdr
        by_cases hE : E = []
        · have hr := Hr.out
          rw [if_pos hE] at hr
          subst hr
          have hx := dec_expP HD.out
          have hx1 : expP l = [] := by rcases hx with ⟨_, h⟩ | ⟨h, _⟩; exact h; exact absurd hE h
          have hx2 : l.drop sg.length = I ++ (P ++ F) := by
            rcases HD.out.hE with ⟨_, h2, h3⟩ | ⟨e, h1, _⟩
            · rw [hdr, hE, h2, h3]; simp
            · rw [hE] at h1; cases h1
          rw [hx2]
          go_wp2_with fail
          go_meet
          exact ⟨rfl, by rw [hx1]; rfl, hb2⟩
        · have hr := Hr.out
          rw [if_neg hE] at hr
          have hx := dec_expP HD.out
          have hx1 : expP l = (l.drop sg.length).drop ((I ++ (P ++ F)).length + 1) := by rcases hx with ⟨h, _⟩ | ⟨_, h⟩; exact absurd h hE; rw [Hsg.out] at h; exact h
          have hx2 : (l.drop sg.length).take (I ++ (P ++ F)).length = I ++ (P ++ F) := by rw [hdr, List.take_left]
          have hEp : 0 < E.length := List.length_pos_iff.2 hE
          have hlb : (I ++ (P ++ F)).length + 1 ≤ (l.drop sg.length).length := by
            have h9 := congrArg List.length hdr
            simp only [List.length_append] at h9 ⊢
            omega
          have h1 := str_to (P := Tryz.prog) (T := 9) Tryz.underlying9 (l.drop sg.length) .i64 (I ++ (P ++ F)).length (by omega)
          have h2 := str_from (P := Tryz.prog) (T := 9) Tryz.underlying9 (l.drop sg.length) .i64 ((I ++ (P ++ F)).length + 1) hlb
          rw [hx2] at h1
          rw [← hx1] at h2
          have hlb2 : (I ++ (P ++ F)).length ≤ 1000000 := by rw [List.length_drop] at hlb; omega
          generalize (I ++ (P ++ F)).length = N at *
          generalize I ++ (P ++ F) = body at *
          generalize l.drop sg.length = rest at *
          generalize expP l = ex at *
          subst hr
          push_cast at h2
          clear hx1 hx2 hdr hx
          go_wp2_with fail
          go_region
          all_goals (go_wp2_with fail; go_meet; exact ⟨rfl, rfl, hb2.drew⟩)
      case rest =>
        clear hb2
        obtain ⟨rfl, rfl, hb2⟩ := hcut
        have hIl : I.length ≤ 1000000 := by have := hdl0.out; omega
        have hFl : F.length ≤ 1000000 := by have := hdl0.out; omega
        have hIPF : (I ++ (P ++ F)).length ≤ 1000000 := by have := hdl0.out; simp only [List.length_append]; omega
        obtain ⟨m, hm⟩ := (hw.below hb2).max
        go_wp2_with fail
        refine (Tryz.strings_Cut (bytesOf (I ++ (P ++ F))) ⟨#[46]⟩ m _ (by rw [bytesOf_size]; omega) hm).mono ?_
        rintro e w3 ⟨rfl, n, rfl⟩
        rw [bytesOf_list, show (⟨#[46]⟩ : ByteArray).data.toList = [46] from rfl, (dec_cut HD.out).1, (dec_cut HD.out).2]
        rw [show (⟨I.toArray⟩ : ByteArray) = bytesOf I from rfl, show (⟨F.toArray⟩ : ByteArray) = bytesOf F from rfl]
        have hsI := bytesOf_size I
        have hsF := bytesOf_size F
        have hb3 := below_drewN hb2 n
        have hIF : ∀ b ∈ I ++ F, isD b = true := by
          intro b hb
          rcases List.mem_append.1 hb with h | h
          · exact HD.out.hI b h
          · exact HD.out.hF b h
        have HIF := Lib.hid hIF
        clear hIF
        have hel : (expP l).length ≤ l.length := by unfold expP; split <;> simp
        have hIF1 := bytesOf_size (I ++ F)
        rw [List.length_append] at hIF1
        obtain ⟨T, hT⟩ : ∃ T, (I ++ F).dropWhile (· == 48) = T := ⟨_, rfl⟩
        have hTl : T.length ≤ I.length + F.length := by
          rw [← hT]
          have := (List.dropWhile_suffix (· == (48 : UInt8)) (l := I ++ F)).length_le
          rwa [List.length_append] at this
        have hTD : ∀ b ∈ T, isD b = true := by rw [← hT]; exact dropWhile_all HIF.out
        have hsT := bytesOf_size T
        have hnum : numP l = foldN T ((I.length : Int) + powP (expP l) + 3 - ((I.length + F.length - T.length : Nat) : Int)) := by
          unfold numP
          rw [← HD.out.lI, ← HD.out.lF, foldN_trim, hT, List.length_append]
        have HT := Lib.hid hT
        have HTD := Lib.hid hTD
        have Hnum := Lib.hid hnum
        clear hT hTD hnum
        obtain ⟨pw, hpw⟩ : ∃ pw, powP (expP l) = pw := ⟨_, rfl⟩
        have hpwb : -999999 ≤ pw ∧ pw ≤ 999999 := by rw [← hpw]; exact powP_range _ (dec_exp_digits HD.out)
        have Hpw := Lib.hid hpw
        clear hpw
        go_wp2_with fail
        refine (fx_power (expP l) _ (by omega) (dec_exp_digits HD.out)).mono ?_
        rintro e w4 ⟨rfl, hb4⟩
        replace hb4 := hb3.trans (hb4.mono hb3.size)
        rw [Hpw.out]
        clear hb3 hb2
        rw [bytesOf_append]
        go_wp2_with fail
        refine (Tryz.strings_TrimLeft_one _ 48 (by decide) _).mono ?_
        rintro e w5 ⟨rfl, rfl⟩
        rw [bytesOf_list, show Lib.trimLeftB (I ++ F) 48 = T from HT.out, show (⟨T.toArray⟩ : ByteArray) = bytesOf T from rfl]
        have hTl2 : T.length ≤ 2000000 := by omega
        go_upto_block 0 with (fail)
        have hcell : (w5.alloc (.cells #[.string (bytesOf T)] 9)).cell? ⟨w5.heap.size, 0, none⟩ = some (.string (bytesOf T)) := by simp [World.cell?_alloc_new]
        have hb6 : Below w.heap.size w (w5.alloc (.cells #[.string (bytesOf T)] 9)) := hb4.alloc hb4.size _
        generalize w5.alloc (.cells #[.string (bytesOf T)] 9) = W6 at *
        generalize w5.heap.size = B at *
        obtain ⟨p, hp⟩ : ∃ p : Int, (I.length : Int) + pw + 3 - ((I.length : Int) + F.length - T.length) = p := ⟨_, rfl⟩
        have hpb : -4000000 ≤ p ∧ p ≤ 4000000 := by omega
        have hnum2 : numP l = foldN T p := by
          rw [Hnum.out, Hpw.out]; congr 1; omega
        have Hnum2 := Lib.hid hnum2
        rw [hp]
        clear hp hnum2 hpwb hTl hIF1 hsI hsF hel hb4
        go_cut [14] (fun s wx => s = .int .i64 (numP l : Nat) ∧ wx = W6)
        case first =>
          go_wp2_with fail
          go_loop [14, 16] (fun n k => ∃ i N : Nat, i ≤ p.toNat ∧ N = min (vA T i) M ∧ n = .int .i64 (N : Int) ∧ k = .int .i64 (i : Int)) (fun _ k => p.toNat - (intOf k).toNat)
          case atStart => exact ⟨0, 0, by omega, by simp [vA], rfl, rfl⟩
          case round =>
            obtain ⟨i, N, hi, hN, rfl, rfl⟩ := hrel
            have hNM : N ≤ 1099511627776 := by rw [hN]; exact Nat.min_le_right _ _
            have HN := Lib.hid hN
            clear hN
            have fin : ∀ (h : N = foldN T p), ((N : Nat) : Int) = (numP l : Nat) := by
              intro h; rw [Hnum2.out, ← h]
            have Hfin := Lib.hid fin
            clear fin
            by_cases c1 : (i : Int) < p
            · have d1 : decide ((i : Int) < p) = true := by simpa using c1
              by_cases c2 : N < 1099511627776
              · have d2 : decide ((N : Int) < 1099511627776) = true := by simp; omega
                by_cases c3 : i < T.length ∨ 0 < N
                · by_cases c4 : i < T.length + 60
                  · have d4 : decide ((i : Int) < (T.length : Int) + 60) = true := by simp; omega
                    obtain ⟨x, hx⟩ : ∃ x, ((T[i]?).map dv).getD 0 = x := ⟨_, rfl⟩
                    have hcall := fx_digit T i B W6 hcell HTD.out (by omega)
                    rw [hx] at hcall
                    have hx9 : x ≤ 9 := by
                      rw [← hx]
                      by_cases hi2 : i < T.length
                      · rw [List.getElem?_eq_getElem hi2]
                        have := isD_range (HTD.out _ (List.getElem_mem hi2))
                        simp [dv]; omega
                      · rw [List.getElem?_eq_none (by omega)]; simp
                    have hstep : min (10 * N + x) M = min (vA T (i + 1)) M := by rw [HN.out, ← hx]; exact vA_step T i
                    have Hstep := Lib.hid hstep
                    clear hx hstep
                    have hmin : min (10 * (N : Int) + x) 1099511627776 = ((min (10 * N + x) M : Nat) : Int) := by unfold M; omega
                    by_cases c5 : i < T.length
                    · have d5 : decide ((i : Int) < T.length) = true := by simp; omega
                      go_wp2_with fail
                      refine hcall.mono ?_
                      rintro e w7 ⟨rfl, rfl⟩
                      go_wp2
                      exact ⟨⟨i + 1, _, by omega, Hstep.out, rfl, rfl⟩, by simp [intOf]; omega⟩
                    · have d5 : decide ((i : Int) < T.length) = false := by simp; omega
                      have hN1 : 1 ≤ N := by omega
                      have hN2 : 0 < N := by omega
                      have d6 : decide ((0 : Int) < N) = true := by simp; omega
                      have d7 : decide (0 < N) = true := by simp; omega
                      have hNI : (N : Int) ≤ 1099511627776 := by omega
                      clear c3 c2 hNM hN1
                      go_wp2_with fail
                      refine hcall.mono ?_
                      rintro e w7 ⟨rfl, rfl⟩
                      go_wp2
                      exact ⟨⟨i + 1, _, by omega, Hstep.out, rfl, rfl⟩, by simp [intOf]; omega⟩
                  · have d4 : decide ((i : Int) < (T.length : Int) + 60) = false := by simp; omega
                    have d5 : decide ((i : Int) < T.length) = false := by simp; omega
                    exfalso
                    have hv : vA T i ≠ 0 := by intro h; have := HN.out; rw [h] at this; simp at this; omega
                    have := vA_far T (by omega) hv
                    have := HN.out
                    unfold M at *
                    omega
                · have d5 : decide ((i : Int) < T.length) = false := by simp; omega
                  have hN0 : N = 0 := by omega
                  have hv : vA T i = 0 := by have := HN.out; unfold M at this; omega
                  have hf : N = foldN T p := by
                    unfold foldN; rw [vA_nought T (by omega : i ≤ p.toNat) (by omega) hv, hN0]; rfl
                  have d6 : decide ((0 : Int) < N) = false := by simp; omega
                  have Hn := Lib.hid (Hfin.out hf)
                  have hz0 : (N : Int) ≤ 0 := by omega
                  have hTi : T.length ≤ i := by omega
                  clear c3 c2 hNM hN0 Hfin HN hf
                  generalize (N : Int) = z at *
                  go_wp2_with fail
                  go_meet
                  exact ⟨by rw [← Hn.out], rfl⟩
              · have d2 : decide ((N : Int) < 1099511627776) = false := by simp; omega
                have hf : N = foldN T p := by
                  have := HN.out
                  unfold foldN
                  rw [vA_full T (by omega : i ≤ p.toNat) (by unfold M at *; omega)]
                  unfold M; omega
                have Hn := Lib.hid (Hfin.out hf)
                clear c2 hNM Hfin HN hf
                generalize (N : Int) = z at *
                go_wp2_with fail
                go_meet
                exact ⟨by rw [← Hn.out], rfl⟩
            · have d1 : decide ((i : Int) < p) = false := by simpa using c1
              have hf : N = foldN T p := by
                unfold foldN
                have : i = p.toNat := by omega
                rw [HN.out, this]
              have Hn := Lib.hid (Hfin.out hf)
              clear hf
              go_wp2_with fail
              go_meet
              exact ⟨by rw [← Hn.out], rfl⟩
        case rest =>
          obtain ⟨rfl, rfl⟩ := hcut
          have hpos : 0 < l.length := List.length_pos_iff.2 hne
          obtain ⟨b, hb⟩ : ∃ b, l[0]? = some b := ⟨_, List.getElem?_eq_getElem hpos⟩
          have hix := str_at (P := Tryz.prog) (T := 9) Tryz.underlying9 l .i64 0 b hb
          rw [Int.ofNat_zero] at hix
          have hnb : numP l ≤ 1099511627776 := by rw [Hnum2.out]; exact Nat.min_le_right _ _
          have hpp : parseP l = if l[0]? = some 45 then -(numP l : Int) else (numP l : Int) := by unfold parseP; rw [if_pos hisP]
          have Hpp := Lib.hid hpp
          have Hb := Lib.hid hb
          have HisP := Lib.hid hisP
          clear hpp hb hisP
          generalize numP l = N at *
          by_cases hm : b.toNat = 45
          · have hv : parseP l = -(N : Int) := by
              rw [Hpp.out, if_pos]
              rw [Hb.out]; congr 1; exact UInt8.toNat_inj.1 hm
            have Hv := Lib.hid hv
            clear hv
            rw [hm] at hix
            go_wp2
            go_ret2
            exact ⟨retIB (by rw [Hv.out]) (by rw [HisP.out]), hb6⟩
          · have hv : parseP l = (N : Int) := by
              rw [Hpp.out, if_neg]
              rw [Hb.out]; intro h; injection h with h; subst h; exact hm rfl
            have Hv := Lib.hid hv
            have hc := byte_ne hm
            clear hv
            go_wp2
            go_ret2
            exact ⟨retIB (by rw [Hv.out]) (by rw [HisP.out]), hb6⟩
    · have hisP : isP l = false := decide_eq_false (by simp [hlen])
      have hp0 : parseP l = 0 := by unfold parseP; rw [hisP]; rfl
      have hc : ((lenP l : Int) == (l.length : Int)) = false := by simp; omega
      have H1 := Lib.hid hisP
      have H2 := Lib.hid hp0
      clear hisP hp0 hlen
      go_enter Tryz.func128, Tryz.ntmps128
      go_wp2_with fail
      refine (fx_length l w (by omega)).mono ?_
      rintro e w1 ⟨rfl, hb1⟩
      go_wp2
      go_ret2
      exact ⟨retIB (by rw [H2.out]) (by rw [H1.out]), hb1⟩
end Go.Proofs.YtfhdihdafmahgaaGreatDoor
/- Layer 1's Stop and Add, of the program and of the reference, are walked. -/
set_option linter.unusedVariables false
set_option linter.unusedSimpArgs false
namespace Go.Proofs.YtfhdihdafmahgaaGreatDoor
open Go.RowKit
namespace Fx
/-- a number, stopped -/
def stopZ (n : Int) : Int := if 1099511627776 < n then 1099511627776 else if n < -1099511627776 then -1099511627776 else n
def addZ (a b : Int) : Int := stopZ (stopZ a + stopZ b)
/-- what a product of two numbers not below nothing is, stopped -/
def mulN (x y : Nat) : Nat := min (x * y / 1000) 1099511627776
def mulZ (a b : Int) : Int := if (stopZ a < 0) = (stopZ b < 0) then mulN (stopZ a).natAbs (stopZ b).natAbs else -(mulN (stopZ a).natAbs (stopZ b).natAbs : Int)
end Fx
open Fx
theorem stopZ_range (n : Int) : -1099511627776 ≤ stopZ n ∧ stopZ n ≤ 1099511627776 := by unfold stopZ; (repeat' split) <;> omega
theorem stopZ_of {n : Int} (h1 : -1099511627776 ≤ n) (h2 : n ≤ 1099511627776) : stopZ n = n := by unfold stopZ; rw [if_neg (by omega), if_neg (by omega)]
theorem stopZ_eq (n : Int) : stopZ n = min (max n (-1099511627776)) 1099511627776 := by unfold stopZ; (repeat' split) <;> omega

theorem fx_stop (n : Int) (w : World) (h1 : -9223372036854775808 ≤ n) (h2 : n ≤ 9223372036854775807) :
    Calls Tryz.prog 116 #[.int .i64 n] w fun e w' => e = .returned (.int .i64 (stopZ n)) ∧ w = w' := by
  by_cases c1 : 1099511627776 < n
  · go_enter Tryz.func116, Tryz.ntmps116
    go_wp2
    all_goals (go_ret; refine ⟨ret_int ?_, rfl⟩; unfold stopZ; (repeat' split) <;> omega)
  · by_cases c2 : n < -1099511627776
    · go_enter Tryz.func116, Tryz.ntmps116
      go_wp2
      all_goals (go_ret; refine ⟨ret_int ?_, rfl⟩; unfold stopZ; (repeat' split) <;> omega)
    · go_enter Tryz.func116, Tryz.ntmps116
      go_wp2
      all_goals (go_ret; refine ⟨ret_int ?_, rfl⟩; unfold stopZ; (repeat' split) <;> omega)
theorem abs_form (a : Int) : ∃ (s : Bool) (x : Nat), x ≤ 1099511627776 ∧ (s = true → 0 < x) ∧ stopZ a = (if s then -(x : Int) else x) ∧ x = (stopZ a).natAbs ∧ (s = true ↔ stopZ a < 0) := by
  have h := stopZ_range a
  by_cases hn : stopZ a < 0
  · exact ⟨true, (stopZ a).natAbs, by omega, fun _ => by omega, by simp; omega, rfl, by simp [hn]⟩
  · exact ⟨false, (stopZ a).natAbs, by omega, (fun h => by cases h), by simp; omega, rfl, by simp [hn]⟩
theorem mulZ_form {a b : Int} {sx sy : Bool} {x y : Nat} (hx : x = (stopZ a).natAbs) (hy : y = (stopZ b).natAbs) (h1 : sx = true ↔ stopZ a < 0) (h2 : sy = true ↔ stopZ b < 0) :
    (if sx = sy then (mulN x y : Int) else -(mulN x y : Int)) = mulZ a b := by
  unfold mulZ
  rw [← hx, ← hy]
  have : (sx = sy) = ((stopZ a < 0) = (stopZ b < 0)) := by
    rw [← h1, ← h2]
    cases sx <;> cases sy <;> simp
  simp only [this]
end Go.Proofs.YtfhdihdafmahgaaGreatDoor
set_option linter.unusedVariables false
set_option linter.unusedSimpArgs false
namespace Go.Proofs.YtfhdihdafmahgaaGreatDoor
open Go.RowKit Fx

theorem lz1000 : 64 - (Lib.bitLen (1000 : Int).toNat : Int) = 54 := by decide +kernel
theorem and_zero : bits .and .u64 18014398509481984000 4294967295 = 0 := by decide +kernel
theorem or_parts (hi lo : Nat) (hhi : hi < 1000) (hlo : lo < 18446744073709551616) :
    bits .or .u64 ((hi : Int) * 18014398509481984) ((lo : Int) / 1024) = ((hi * 18014398509481984 + lo / 1024 : Nat) : Int) := by
  have h1 : (hi : Int) * 18014398509481984 = ((hi * 18014398509481984 : Nat) : Int) := by rw [Int.natCast_mul]; rfl
  have h2 : (lo : Int) / 1024 = ((lo / 1024 : Nat) : Int) := by rw [Int.natCast_ediv]; rfl
  rw [h1, h2, u64_or_nat _ _ (by omega) (by omega)]
  congr 1
  have := Nat.two_pow_add_eq_or_of_lt (b := lo / 1024) (i := 54) (by omega) hi
  rw [show (2 : Nat) ^ 54 = 18014398509481984 from by decide] at this
  rw [Nat.mul_comm hi, this]
theorem wrap_low (lo : Nat) : IntKind.u64.wrap ((lo : Int) * 18014398509481984) = ((lo * 18014398509481984 % 18446744073709551616 : Nat) : Int) := by
  rw [IntKind.wrap_u64]
  omega
theorem and_low (V : Nat) (hV : V < 18446744073709551616) (h0 : V % 4294967296 = 0) : bits .and .u64 (V : Int) 4294967295 = 0 := by
  have := u64_and_nat V 4294967295 hV (by omega)
  rw [show ((4294967295 : Nat) : Int) = 4294967295 from rfl] at this
  rw [this]
  have h2 := Nat.and_two_pow_sub_one_eq_mod V 32
  rw [show (2 : Nat) ^ 32 - 1 = 4294967295 from by decide, show (2 : Nat) ^ 32 = 4294967296 from by decide] at h2
  rw [h2, h0]; rfl

theorem wraps_core (U t r X q : Nat) (hr : r < 4194304000) (ht : t < 4294967296) (hX : U * 4294967296 = X + r * 4294967296) (hq : (q : Int) * 18014398509481984000 = (X : Int)) :
    IntKind.u64.wrap ((U : Int) * 4294967296) = ((U * 4294967296 % 18446744073709551616 : Nat) : Int) ∧
    IntKind.u64.wrap (((U * 4294967296 % 18446744073709551616 : Nat) : Int) + (t : Int)) = (((U * 4294967296 % 18446744073709551616 + t) % 18446744073709551616 : Nat) : Int) ∧
    IntKind.u64.wrap ((q : Int) * 18014398509481984000) = ((X % 18446744073709551616 : Nat) : Int) ∧
    IntKind.u64.wrap ((((U * 4294967296 % 18446744073709551616 + t) % 18446744073709551616 : Nat) : Int) - ((X % 18446744073709551616 : Nat) : Int)) = ((r * 4294967296 + t : Nat) : Int) := by
  rw [hq]
  simp only [IntKind.wrap_u64]
  refine ⟨by omega, by omega, by omega, ?_⟩
  rw [hX]
  omega
theorem wraps (q r t U : Nat) (hu : U = 4194304000 * q + r) (hr : r < 4194304000) (ht : t < 4294967296) :
    IntKind.u64.wrap ((U : Int) * 4294967296) = ((U * 4294967296 % 18446744073709551616 : Nat) : Int) ∧
    IntKind.u64.wrap (((U * 4294967296 % 18446744073709551616 : Nat) : Int) + (t : Int)) = (((U * 4294967296 % 18446744073709551616 + t) % 18446744073709551616 : Nat) : Int) ∧
    IntKind.u64.wrap ((q : Int) * 18014398509481984000) = ((q * 18014398509481984000 % 18446744073709551616 : Nat) : Int) ∧
    IntKind.u64.wrap ((((U * 4294967296 % 18446744073709551616 + t) % 18446744073709551616 : Nat) : Int) - ((q * 18014398509481984000 % 18446744073709551616 : Nat) : Int)) = ((r * 4294967296 + t : Nat) : Int) := by
  exact wraps_core U t r (q * 18014398509481984000) q hr ht (by omega) (by rw [Int.natCast_mul]; rfl)
end Go.Proofs.YtfhdihdafmahgaaGreatDoor
