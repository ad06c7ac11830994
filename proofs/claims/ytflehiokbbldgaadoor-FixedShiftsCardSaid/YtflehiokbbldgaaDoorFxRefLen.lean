/- Layer 1: the document's digit and Length are walked. -/
import Derived.Test.YtflehiokbbldgaaDoorFxLen
import Derived.Deep.DeepCutAuto
import Derived.Deep.CutBlock
set_option linter.unusedVariables false
set_option linter.unusedSimpArgs false
namespace Go.Proofs.YtflehiokbbldgaaDoor
open Go.RowKit Fx
namespace Fx
def isDAt (l : List UInt8) (i : Nat) : Bool := match l[i]? with
  | some b => isD b
  | none => false
end Fx
theorem isD_at {l : List UInt8} {i : Nat} (h : isDAt l i = true) : ∃ b, l[i]? = some b ∧ 48 ≤ b.toNat ∧ b.toNat ≤ 57 := by
  unfold isDAt at h
  split at h
  · rename_i b hb; exact ⟨b, hb, by simpa [isD] using h⟩
  · cases h
theorem digs_drop_yes {l : List UInt8} {i : Nat} (h : isDAt l i = true) : digs (l.drop i) = digs (l.drop (i + 1)) + 1 := by
  unfold isDAt at h
  split at h
  · rename_i b hb
    obtain ⟨hi, rfl⟩ := List.getElem?_eq_some_iff.1 hb
    unfold digs
    rw [List.drop_eq_getElem_cons hi, List.takeWhile_cons, if_pos h, List.length_cons]
  · cases h
theorem digs_drop_no {l : List UInt8} {i : Nat} (h : isDAt l i = false) : digs (l.drop i) = 0 := by
  unfold isDAt at h
  split at h
  · rename_i b hb
    obtain ⟨hi, rfl⟩ := List.getElem?_eq_some_iff.1 hb
    unfold digs
    rw [List.drop_eq_getElem_cons hi, List.takeWhile_cons, if_neg (by rw [h]; decide)]; rfl
  · rename_i hb
    rw [List.drop_eq_nil_of_le (List.getElem?_eq_none_iff.1 hb)]; rfl
set_option maxRecDepth 100000 in
theorem rfx_digit (l : List UInt8) (i : Nat) (w : World) (hl : l.length ≤ 9223372036854775807) :
    Calls Tryd.prog 30 #[.string (bytesOf l), .int .i64 i] w fun e w' => e = .returned (.bool (isDAt l i)) ∧ w = w' := by
  have hs := bytesOf_size l
  cases hD : l[i]? with
  | none =>
    have hge := List.getElem?_eq_none_iff.1 hD
    have Hv := Lib.hid (show isDAt l i = false by simp [isDAt, hD])
    clear hD
    go_enter Tryd.func30, Tryd.ntmps30
    go_wp2
    go_ret
    exact ⟨by rw [Hv.out]; rfl, rfl⟩
  | some b =>
    have hlt : i < l.length := (List.getElem?_eq_some_iff.1 hD).1
    have hix := str_at (P := Tryd.prog) (T := 9) Tryd.underlying9 l .i64 i b hD
    have hv : isDAt l i = decide (48 ≤ b.toNat ∧ b.toNat ≤ 57) := by simp [isDAt, hD, isD]
    clear hD
    by_cases h1 : 48 ≤ b.toNat
    · by_cases h2 : b.toNat ≤ 57
      · have Hv := Lib.hid (show isDAt l i = true by rw [hv]; simp [h1, h2])
        clear hv
        have d1 : decide ((48 : Int) ≤ b.toNat) = true := by simp; omega
        have d2 : decide ((b.toNat : Int) ≤ 57) = true := by simp; omega
        go_enter Tryd.func30, Tryd.ntmps30
        go_wp2
        go_ret
        exact ⟨by rw [Hv.out]; simp [d1, d2], rfl⟩
      · have Hv := Lib.hid (show isDAt l i = false by rw [hv]; simp [h1, h2])
        clear hv
        have d1 : decide ((48 : Int) ≤ b.toNat) = true := by simp; omega
        have d2 : decide ((b.toNat : Int) ≤ 57) = false := by simp; omega
        go_enter Tryd.func30, Tryd.ntmps30
        go_wp2
        go_ret
        exact ⟨by rw [Hv.out]; simp [d1, d2], rfl⟩
    · have Hv := Lib.hid (show isDAt l i = false by rw [hv]; simp [h1])
      clear hv
      have d1 : decide ((48 : Int) ≤ b.toNat) = false := by simp; omega
      go_enter Tryd.func30, Tryd.ntmps30
      go_wp2
      go_ret
      exact ⟨by rw [Hv.out]; rfl, rfl⟩
theorem sgn_cases (l : List UInt8) (j : Nat) : (l.length ≤ j ∧ sgn (l.drop j) = 0) ∨ (∃ b, l[j]? = some b ∧ ((b.toNat = 43 ∧ sgn (l.drop j) = 1) ∨ (b.toNat = 45 ∧ sgn (l.drop j) = 1) ∨ (¬ b.toNat = 43 ∧ ¬ b.toNat = 45 ∧ sgn (l.drop j) = 0))) := by
  by_cases hj : j < l.length
  · refine .inr ⟨l[j], List.getElem?_eq_getElem hj, ?_⟩
    rw [List.drop_eq_getElem_cons hj]
    by_cases h1 : l[j].toNat = 43
    · exact .inl ⟨h1, if_pos (.inl h1)⟩
    · by_cases h2 : l[j].toNat = 45
      · exact .inr (.inl ⟨h2, if_pos (.inr h2)⟩)
      · exact .inr (.inr ⟨h1, h2, if_neg (by omega)⟩)
  · exact .inl ⟨by omega, by rw [List.drop_eq_nil_of_le (by omega)]; rfl⟩
theorem isE_cases (l : List UInt8) (j : Nat) : (l.length ≤ j ∧ isE l[j]? = false) ∨ (∃ b, l[j]? = some b ∧ ((b.toNat = 101 ∧ isE l[j]? = true) ∨ (b.toNat = 69 ∧ isE l[j]? = true) ∨ (¬ b.toNat = 101 ∧ ¬ b.toNat = 69 ∧ isE l[j]? = false))) := by
  cases hb : l[j]? with
  | none => exact .inl ⟨List.getElem?_eq_none_iff.1 hb, rfl⟩
  | some b =>
    refine .inr ⟨b, rfl, ?_⟩
    by_cases h1 : b.toNat = 101
    · exact .inl ⟨h1, by simp [isE, h1]⟩
    · by_cases h2 : b.toNat = 69
      · exact .inr (.inl ⟨h2, by simp [isE, h2]⟩)
      · exact .inr (.inr ⟨h1, h2, by simp [isE, h1, h2]⟩)
theorem dot_cases (l : List UInt8) (j : Nat) : (l.length ≤ j ∧ ¬ l[j]? = some 46) ∨ (∃ b, l[j]? = some b ∧ ((b.toNat = 46 ∧ l[j]? = some 46) ∨ (¬ b.toNat = 46 ∧ ¬ l[j]? = some 46))) := by
  cases hb : l[j]? with
  | none => exact .inl ⟨List.getElem?_eq_none_iff.1 hb, by simp⟩
  | some b =>
    refine .inr ⟨b, rfl, ?_⟩
    by_cases h1 : b.toNat = 46
    · exact .inl ⟨h1, by congr 1; exact UInt8.toNat_inj.1 h1⟩
    · exact .inr ⟨h1, by intro h; injection h with h; subst h; exact h1 rfl⟩
theorem isDAt_digs (l : List UInt8) (j : Nat) : isDAt l j = decide (0 < digs (l.drop j)) := by
  cases h : isDAt l j with
  | true => have := digs_drop_yes h; simp; omega
  | false => have := digs_drop_no h; simp; omega
theorem lenP_none {l : List UInt8} (h : some_ l = false) : lenP l = 0 := by simp [lenP, h]
theorem lenP_tail {l : List UInt8} {A : Nat} (h : some_ l = true) (hA : bodyLen l = A) :
    (isE l[A]? = false → lenP l = A) ∧ (isE l[A]? = true → ∀ k m, sgn (l.drop (A + 1)) = k → digs (l.drop (A + 1 + k)) = m → lenP l = if 0 < m then A + 1 + k + m else A) := by
  subst hA
  constructor
  · intro he; simp [lenP, h, he]
  · rintro he k m rfl rfl
    have hx : expLen (l.drop (bodyLen l + 1)) = if 0 < digs (l.drop (bodyLen l + 1 + sgn (l.drop (bodyLen l + 1)))) then sgn (l.drop (bodyLen l + 1)) + digs (l.drop (bodyLen l + 1 + sgn (l.drop (bodyLen l + 1)))) else 0 := by
      simp only [expLen, List.drop_drop]
    simp only [lenP, h, he, hx]
    rw [if_neg (by simp)]
    by_cases h0 : 0 < digs (l.drop (bodyLen l + 1 + sgn (l.drop (bodyLen l + 1))))
    · rw [if_pos h0, if_pos ⟨trivial, by omega⟩, if_pos h0]; omega
    · rw [if_neg h0, if_neg (by simp), if_neg h0]
theorem bodyLen_le (l : List UInt8) : bodyLen l ≤ l.length := by
  have h1 := sgn_le l
  have h2 := digs_le (l.drop (sgn l))
  rw [List.length_drop] at h2
  unfold bodyLen
  simp only []
  split
  · rename_i h
    have h3 := digs_le (l.drop (sgn l + digs (l.drop (sgn l)) + 1))
    rw [List.length_drop] at h3
    have := (List.getElem?_eq_some_iff.1 h.1).1
    omega
  · omega
set_option maxRecDepth 100000 in
set_option maxHeartbeats 8000000 in
theorem rfx_length (l : List UInt8) (w : World) (hl : l.length ≤ 9223372036854775806) :
    Calls Tryd.prog 14 #[.string (bytesOf l)] w fun e w' => e = .returned (.int .i64 (lenP l : Nat)) ∧ w = w' := by
  have hs := bytesOf_size l
  have hsA := sgn_le l
  have hdA := digs_le (l.drop (sgn l))
  rw [List.length_drop] at hdA
  obtain ⟨a, ha⟩ : ∃ a, sgn l + digs (l.drop (sgn l)) = a := ⟨_, rfl⟩
  have Ha := Lib.hid ha
  have hsg := sgn_cases l 0
  rw [List.drop_zero] at hsg
  have Hsg := Lib.hid hsg
  have Hdot := Lib.hid (dot_cases l a)
  have hle : a ≤ l.length := by omega
  obtain ⟨A, hA⟩ : ∃ A, bodyLen l = A := ⟨_, rfl⟩
  have hAl := bodyLen_le l
  rw [hA] at hAl
  have HA := Lib.hid hA
  have hBody : bodyLen l = if l[a]? = some 46 ∧ 0 < digs (l.drop (a + 1)) then a + 1 + digs (l.drop (a + 1)) else a := by simp only [bodyLen, ha]
  have hSome : some_ l = decide (0 < digs (l.drop (sgn l)) ∨ (l[a]? = some 46 ∧ 0 < digs (l.drop (a + 1)))) := by simp only [some_, ha]
  rw [hA] at hBody
  have HBody := Lib.hid hBody
  have HSome := Lib.hid hSome
  clear hsg hA hBody hSome
  go_enter Tryd.func14, Tryd.ntmps14
  go_upto_region 2 with (fail)
  go_cut [18] (fun s wx => s = .bool (decide (0 < sgn l)) ∧ wx = w)
  case first =>
    rcases Hsg.out with ⟨hge, h⟩ | ⟨b, hb, ⟨hb1, h⟩ | ⟨hb1, h⟩ | ⟨hb1, hb2, h⟩⟩
    · go_wp2_with fail
      go_meet
      exact ⟨by rw [h]; rfl, rfl⟩
    · have hlt : 0 < l.length := (List.getElem?_eq_some_iff.1 hb).1
      have hix := str_at (P := Tryd.prog) (T := 9) Tryd.underlying9 l .i64 0 b hb
      rw [Int.ofNat_zero, hb1] at hix
      go_wp2_with fail
      go_meet
      exact ⟨by rw [h]; rfl, rfl⟩
    · have hlt : 0 < l.length := (List.getElem?_eq_some_iff.1 hb).1
      have hix := str_at (P := Tryd.prog) (T := 9) Tryd.underlying9 l .i64 0 b hb
      rw [Int.ofNat_zero, hb1] at hix
      go_wp2_with fail
      go_meet
      exact ⟨by rw [h]; rfl, rfl⟩
    · have hlt : 0 < l.length := (List.getElem?_eq_some_iff.1 hb).1
      have hix := str_at (P := Tryd.prog) (T := 9) Tryd.underlying9 l .i64 0 b hb
      rw [Int.ofNat_zero] at hix
      have hc1 : ((b.toNat : Int) == 43) = false := byte_ne hb1
      have hc2 : ((b.toNat : Int) == 45) = false := byte_ne hb2
      go_wp2_with fail
      go_meet
      exact ⟨by rw [h]; simp [hc1, hc2], rfl⟩
  case rest =>
    obtain ⟨rfl, rfl⟩ := hcut
    go_upto_if 18 with (fail)
    go_cut [3] (fun s wx => s = .int .i64 (sgn l : Nat) ∧ wx = wc)
    case first =>
      by_cases ha : 0 < sgn l
      · go_wp2_with fail
        go_meet
        exact ⟨by congr 1; omega, rfl⟩
      · go_wp2_with fail
        go_meet
        exact ⟨by congr 1; omega, rfl⟩
    case rest =>
      obtain ⟨rfl, rfl⟩ := hcut
      go_upto_block 0 with (fail)
      go_cut [3, 4] (fun s t wx => s = .int .i64 (a : Nat) ∧ t = .bool (decide (0 < digs (l.drop (sgn l)))) ∧ wx = wc)
      case first =>
        go_wp2_with fail
        go_loop [3, 4] (fun s t => ∃ i : Nat, sgn l ≤ i ∧ i + digs (l.drop i) = a ∧ s = .int .i64 (i : Nat) ∧ t = .bool (decide (sgn l < i))) (fun s _ => l.length - (intOf s).toNat)
        case atStart => exact ⟨sgn l, Nat.le_refl _, Ha.out, rfl, by simp⟩
        case round =>
          obtain ⟨i, hi1, hi2, rfl, rfl⟩ := hrel
          have hcall := rfx_digit l i wc (by omega)
          cases hd : isDAt l i with
          | true =>
            rw [hd] at hcall
            have hstep := digs_drop_yes hd
            have Hd := Lib.hid hd
            clear hd
            go_wp2_with fail
            refine hcall.mono ?_
            rintro e w' ⟨rfl, rfl⟩
            go_wp2
            exact ⟨⟨i + 1, by omega, by omega, rfl, by congr 1; simp; omega⟩, by simp [intOf]; omega⟩
          | false =>
            rw [hd] at hcall
            have hstep := digs_drop_no hd
            have Hd := Lib.hid hd
            clear hd
            go_wp2_with fail
            refine hcall.mono ?_
            rintro e w' ⟨rfl, rfl⟩
            go_wp2
            go_meet
            have e1 : i = a := by omega
            subst e1
            exact ⟨rfl, by congr 1; simp only [decide_eq_decide]; have := Ha.out; omega, rfl⟩
      case rest =>
        obtain ⟨rfl, rfl, rfl⟩ := hcut
        obtain ⟨D, hD⟩ : ∃ D, decide (l[a]? = some 46 ∧ 0 < digs (l.drop (a + 1))) = D := ⟨_, rfl⟩
        have HD := Lib.hid hD
        clear hD
        go_upto_region 8 with (fail)
        go_cut [39] (fun s wx => s = .bool D ∧ wx = wc)
        case first =>
          rcases Hdot.out with ⟨hge, h⟩ | ⟨b, hb, ⟨hb1, h⟩ | ⟨hb1, h⟩⟩
          · go_wp2_with fail
            go_meet
            exact ⟨by rw [← HD.out]; simp [h], rfl⟩
          · have hlt : a < l.length := (List.getElem?_eq_some_iff.1 hb).1
            have hix := str_at (P := Tryd.prog) (T := 9) Tryd.underlying9 l .i64 a b hb
            rw [hb1] at hix
            have hcall := rfx_digit l (a + 1) wc (by omega)
            rw [isDAt_digs] at hcall
            push_cast at hcall
            go_wp2_with fail
            refine hcall.mono ?_
            rintro e w' ⟨rfl, rfl⟩
            go_wp2_with fail
            go_meet
            exact ⟨by rw [← HD.out]; simp [h], rfl⟩
          · have hlt : a < l.length := (List.getElem?_eq_some_iff.1 hb).1
            have hix := str_at (P := Tryd.prog) (T := 9) Tryd.underlying9 l .i64 a b hb
            have hc1 : ((b.toNat : Int) == 46) = false := byte_ne hb1
            go_wp2_with fail
            go_meet
            exact ⟨by rw [← HD.out]; simp [h, hc1], rfl⟩
        case rest =>
          obtain ⟨rfl, rfl⟩ := hcut
          go_upto_if 39 with (fail)
          go_cut [3, 4] (fun s t wx => s = .int .i64 (A : Nat) ∧ t = .bool (some_ l) ∧ wx = wc)
          case first =>
            cases D with
            | true =>
              have hdot := of_decide_eq_true HD.out
              have hAv : A = a + 1 + digs (l.drop (a + 1)) := by rw [HBody.out, if_pos hdot]
              have hSv : some_ l = true := by rw [HSome.out]; simp [hdot]
              have hda := digs_le (l.drop (a + 1))
              rw [List.length_drop] at hda
              have hal := (List.getElem?_eq_some_iff.1 hdot.1).1
              have HSv := Lib.hid hSv
              clear hSv hdot
              go_wp2_with fail
              go_loop [3] (fun s => ∃ i : Nat, a < i ∧ i + digs (l.drop i) = A ∧ s = .int .i64 (i : Nat)) (fun s => l.length - (intOf s).toNat)
              case atStart => exact ⟨a + 1, by omega, by omega, rfl⟩
              case round =>
                obtain ⟨i, hi1, hi2, rfl⟩ := hrel
                have hcall := rfx_digit l i wc (by omega)
                have hdi := digs_le (l.drop i)
                rw [List.length_drop] at hdi
                cases hd : isDAt l i with
                | true =>
                  rw [hd] at hcall
                  have hstep := digs_drop_yes hd
                  have Hd := Lib.hid hd
                  clear hd
                  go_wp2_with fail
                  refine hcall.mono ?_
                  rintro e w' ⟨rfl, rfl⟩
                  go_wp2
                  exact ⟨⟨i + 1, by omega, by omega, rfl⟩, by simp [intOf]; omega⟩
                | false =>
                  rw [hd] at hcall
                  have hstep := digs_drop_no hd
                  have Hd := Lib.hid hd
                  clear hd
                  go_wp2_with fail
                  refine hcall.mono ?_
                  rintro e w' ⟨rfl, rfl⟩
                  go_wp2_with fail
                  go_meet
                  exact ⟨by congr 1; omega, by rw [HSv.out], rfl⟩
            | false =>
              have hdot := of_decide_eq_false HD.out
              have hAv : A = a := by rw [HBody.out, if_neg hdot]
              have hSv : some_ l = decide (0 < digs (l.drop (sgn l))) := by rw [HSome.out]; simp only [hdot, or_false]
              have HSv := Lib.hid hSv
              clear hSv hdot
              go_wp2_with fail
              go_meet
              exact ⟨by congr 1; omega, by rw [HSv.out], rfl⟩
          case rest =>
            obtain ⟨rfl, rfl, rfl⟩ := hcut
            cases hS : some_ l with
            | false =>
              have Hval := Lib.hid (lenP_none hS)
              clear hS
              go_wp2
              go_ret
              exact ⟨ret_int (by rw [Hval.out]; rfl), rfl⟩
            | true =>
              have htail := Lib.hid (lenP_tail hS HA.out)
              clear hS
              go_upto_region 15 with (fail)
              go_cut [64] (fun s wx => s = .bool (isE l[A]?) ∧ wx = wc)
              case first =>
                rcases isE_cases l A with ⟨hge, h⟩ | ⟨b, hb, ⟨hb1, h⟩ | ⟨hb1, h⟩ | ⟨hb1, hb2, h⟩⟩
                · go_wp2_with fail
                  go_meet
                  exact ⟨by rw [h], rfl⟩
                · have hlt : A < l.length := (List.getElem?_eq_some_iff.1 hb).1
                  have hix := str_at (P := Tryd.prog) (T := 9) Tryd.underlying9 l .i64 A b hb
                  rw [hb1] at hix
                  go_wp2_with fail
                  go_meet
                  exact ⟨by rw [h], rfl⟩
                · have hlt : A < l.length := (List.getElem?_eq_some_iff.1 hb).1
                  have hix := str_at (P := Tryd.prog) (T := 9) Tryd.underlying9 l .i64 A b hb
                  rw [hb1] at hix
                  go_wp2_with fail
                  go_meet
                  exact ⟨by rw [h], rfl⟩
                · have hlt : A < l.length := (List.getElem?_eq_some_iff.1 hb).1
                  have hix := str_at (P := Tryd.prog) (T := 9) Tryd.underlying9 l .i64 A b hb
                  have hc1 : ((b.toNat : Int) == 101) = false := byte_ne hb1
                  have hc2 : ((b.toNat : Int) == 69) = false := byte_ne hb2
                  go_wp2_with fail
                  go_meet
                  exact ⟨by first | rw [h]; done | (rw [h]; simp [hc1, hc2]), rfl⟩
              case rest =>
                obtain ⟨rfl, rfl⟩ := hcut
                cases hE : isE l[A]? with
                | false =>
                  have Hval := Lib.hid (htail.out.1 hE)
                  clear hE
                  go_wp2
                  go_ret
                  exact ⟨ret_int (by rw [Hval.out]), rfl⟩
                | true =>
                  have hAlt : A < l.length := by
                    rcases isE_cases l A with ⟨hge, h⟩ | ⟨b, hb, _⟩
                    · rw [hE] at h; cases h
                    · exact (List.getElem?_eq_some_iff.1 hb).1
                  obtain ⟨k, hk⟩ : ∃ k, sgn (l.drop (A + 1)) = k := ⟨_, rfl⟩
                  have hk1 := sgn_le (l.drop (A + 1))
                  rw [hk, List.length_drop] at hk1
                  obtain ⟨m, hm⟩ : ∃ m, digs (l.drop (A + 1 + k)) = m := ⟨_, rfl⟩
                  have Hval := Lib.hid (htail.out.2 hE k m hk hm)
                  have hsg2 := sgn_cases l (A + 1)
                  rw [hk] at hsg2
                  have Hsg2 := Lib.hid hsg2
                  have hmd := isDAt_digs l (A + 1 + k)
                  rw [hm] at hmd
                  have hm1 := digs_le (l.drop (A + 1 + k))
                  rw [hm, List.length_drop] at hm1
                  have Hm := Lib.hid hm
                  have hcall0 := rfx_digit l (A + 1 + k) wc (by omega)
                  rw [hmd] at hcall0
                  clear hE hk hsg2 hm hmd
                  go_upto_region 17 with (fail)
                  go_cut [82] (fun s wx => s = .bool (decide (0 < k)) ∧ wx = wc)
                  case first =>
                    rcases Hsg2.out with ⟨hge, h⟩ | ⟨b, hb, ⟨hb1, h⟩ | ⟨hb1, h⟩ | ⟨hb1, hb2, h⟩⟩
                    · go_wp2_with fail
                      go_meet
                      exact ⟨by rw [h]; rfl, rfl⟩
                    · have hlt : A + 1 < l.length := (List.getElem?_eq_some_iff.1 hb).1
                      have hix := str_at (P := Tryd.prog) (T := 9) Tryd.underlying9 l .i64 (A + 1) b hb
                      rw [hb1] at hix
                      push_cast at hix
                      go_wp2_with fail
                      go_meet
                      exact ⟨by rw [h]; rfl, rfl⟩
                    · have hlt : A + 1 < l.length := (List.getElem?_eq_some_iff.1 hb).1
                      have hix := str_at (P := Tryd.prog) (T := 9) Tryd.underlying9 l .i64 (A + 1) b hb
                      rw [hb1] at hix
                      push_cast at hix
                      go_wp2_with fail
                      go_meet
                      exact ⟨by rw [h]; rfl, rfl⟩
                    · have hlt : A + 1 < l.length := (List.getElem?_eq_some_iff.1 hb).1
                      have hix := str_at (P := Tryd.prog) (T := 9) Tryd.underlying9 l .i64 (A + 1) b hb
                      push_cast at hix
                      have hc1 : ((b.toNat : Int) == 43) = false := byte_ne hb1
                      have hc2 : ((b.toNat : Int) == 45) = false := byte_ne hb2
                      go_wp2_with fail
                      go_meet
                      exact ⟨by rw [h]; simp [hc1, hc2], rfl⟩

                  case rest =>
                    obtain ⟨rfl, rfl⟩ := hcut
                    go_upto_if 82 with (fail)
                    go_cut [5] (fun s wx => s = .int .i64 ((A + 1 + k : Nat) : Int) ∧ wx = wc)
                    case first =>
                      by_cases hk0 : 0 < k
                      · go_wp2_with fail
                        go_meet
                        exact ⟨by congr 1; omega, rfl⟩
                      · go_wp2_with fail
                        go_meet
                        exact ⟨by congr 1; omega, rfl⟩
                    case rest =>
                      obtain ⟨rfl, rfl⟩ := hcut
                      by_cases hm0 : 0 < m
                      · have hdm : decide (0 < m) = true := by simpa using hm0
                        rw [hdm] at hcall0
                        go_wp2_with fail
                        refine hcall0.mono ?_
                        rintro e w' ⟨rfl, rfl⟩
                        go_wp2_with fail
                        go_loop [5] (fun s => ∃ i : Nat, A < i ∧ i + digs (l.drop i) = A + 1 + k + m ∧ s = .int .i64 (i : Nat)) (fun s => l.length - (intOf s).toNat)
                        case atStart => exact ⟨A + 1 + k, by omega, by rw [Hm.out], rfl⟩
                        case round =>
                          obtain ⟨i, hi1, hi2, rfl⟩ := hrel
                          have hcall := rfx_digit l i wc (by omega)
                          have hdi := digs_le (l.drop i)
                          rw [List.length_drop] at hdi
                          cases hd : isDAt l i with
                          | true =>
                            rw [hd] at hcall
                            have hstep := digs_drop_yes hd
                            have Hd := Lib.hid hd
                            clear hd
                            go_wp2_with fail
                            refine hcall.mono ?_
                            rintro e w' ⟨rfl, rfl⟩
                            go_wp2
                            exact ⟨⟨i + 1, by omega, by omega, rfl⟩, by simp [intOf]; omega⟩
                          | false =>
                            rw [hd] at hcall
                            have hstep := digs_drop_no hd
                            have Hd := Lib.hid hd
                            clear hd
                            go_wp2_with fail
                            refine hcall.mono ?_
                            rintro e w' ⟨rfl, rfl⟩
                            go_wp2
                            go_ret
                            exact ⟨ret_int (by rw [Hval.out, if_pos hm0]; omega), rfl⟩
                      · have hdm : decide (0 < m) = false := by simpa using hm0
                        rw [hdm] at hcall0
                        go_wp2_with fail
                        refine hcall0.mono ?_
                        rintro e w' ⟨rfl, rfl⟩
                        go_wp2
                        go_ret
                        exact ⟨ret_int (by rw [Hval.out, if_neg hm0]), rfl⟩
end Go.Proofs.YtflehiokbbldgaaDoor
