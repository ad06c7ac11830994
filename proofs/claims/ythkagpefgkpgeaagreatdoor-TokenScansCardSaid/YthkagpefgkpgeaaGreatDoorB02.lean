/- Layer 3: the scanner in memory: where its place lies, and what a step leaves as it was. -/
import Derived.Test.YthkagpefgkpgeaaGreatDoorB01
import Derived.Deep.DeepCutAuto
import Derived.Deep.CutBlock
import Derived.Maps.AppendAt
import Derived.Maps.RangeWalk
/- Layer 1: the document's digit and Length are walked. -/
set_option linter.unusedVariables false
set_option linter.unusedSimpArgs false
namespace Go.Proofs.YthkagpefgkpgeaaGreatDoor
open Go.RowKit Fx
namespace Fx
def isDAt (l : List UInt8) (i : Nat) : Bool := match l[i]? with
  | some b => isD b
  | none => false
end Fx
theorem isD_at {l : List UInt8} {i : Nat} (h : isDAt l i = true) : ∃ b, l[i]? = some b ∧ 48 ≤ b.toNat ∧ b.toNat ≤ 57 := by
  unfold isDAt at h
  split at h
  · rename_i b hb; exact ⟨b, hb, by simpa [isD] using h⟩
  · cases h
theorem digs_drop_yes {l : List UInt8} {i : Nat} (h : isDAt l i = true) : digs (l.drop i) = digs (l.drop (i + 1)) + 1 := by
  unfold isDAt at h
  split at h
  · rename_i b hb
    obtain ⟨hi, rfl⟩ := List.getElem?_eq_some_iff.1 hb
    unfold digs
    rw [List.drop_eq_getElem_cons hi, List.takeWhile_cons, if_pos h, List.length_cons]
  · cases h
theorem digs_drop_no {l : List UInt8} {i : Nat} (h : isDAt l i = false) : digs (l.drop i) = 0 := by
  unfold isDAt at h
  split at h
  · rename_i b hb
    obtain ⟨hi, rfl⟩ := List.getElem?_eq_some_iff.1 hb
    unfold digs
    rw [List.drop_eq_getElem_cons hi, List.takeWhile_cons, if_neg (by rw [h]; decide)]; rfl
  · rename_i hb
    rw [List.drop_eq_nil_of_le (List.getElem?_eq_none_iff.1 hb)]; rfl
set_option maxRecDepth 100000 in
theorem rfx_digit (l : List UInt8) (i : Nat) (w : World) (hl : l.length ≤ 9223372036854775807) :
    Calls Tryz.prog 51 #[.string (bytesOf l), .int .i64 i] w fun e w' => e = .returned (.bool (isDAt l i)) ∧ w = w' := by
  have hs := bytesOf_size l
  cases hD : l[i]? with
  | none =>
    have hge := List.getElem?_eq_none_iff.1 hD
    have Hv := Lib.hid (show isDAt l i = false by simp [isDAt, hD])
    clear hD
    go_enter Tryz.func51, Tryz.ntmps51
    go_wp2
    go_ret
    exact ⟨by rw [Hv.out]; rfl, rfl⟩
  | some b =>
    have hlt : i < l.length := (List.getElem?_eq_some_iff.1 hD).1
    have hix := str_at (P := Tryz.prog) (T := 9) Tryz.underlying9 l .i64 i b hD
    have hv : isDAt l i = decide (48 ≤ b.toNat ∧ b.toNat ≤ 57) := by simp [isDAt, hD, isD]
    clear hD
    by_cases h1 : 48 ≤ b.toNat
    · by_cases h2 : b.toNat ≤ 57
      · have Hv := Lib.hid (show isDAt l i = true by rw [hv]; simp [h1, h2])
        clear hv
        have d1 : decide ((48 : Int) ≤ b.toNat) = true := by simp; omega
        have d2 : decide ((b.toNat : Int) ≤ 57) = true := by simp; omega
        go_enter Tryz.func51, Tryz.ntmps51
        go_wp2
        go_ret
        exact ⟨by rw [Hv.out]; simp [d1, d2], rfl⟩
      · have Hv := Lib.hid (show isDAt l i = false by rw [hv]; simp [h1, h2])
        clear hv
        have d1 : decide ((48 : Int) ≤ b.toNat) = true := by simp; omega
        have d2 : decide ((b.toNat : Int) ≤ 57) = false := by simp; omega
        go_enter Tryz.func51, Tryz.ntmps51
        go_wp2
        go_ret
        exact ⟨by rw [Hv.out]; simp [d1, d2], rfl⟩
    · have Hv := Lib.hid (show isDAt l i = false by rw [hv]; simp [h1])
      clear hv
      have d1 : decide ((48 : Int) ≤ b.toNat) = false := by simp; omega
      go_enter Tryz.func51, Tryz.ntmps51
      go_wp2
      go_ret
      exact ⟨by rw [Hv.out]; rfl, rfl⟩
theorem sgn_cases (l : List UInt8) (j : Nat) : (l.length ≤ j ∧ sgn (l.drop j) = 0) ∨ (∃ b, l[j]? = some b ∧ ((b.toNat = 43 ∧ sgn (l.drop j) = 1) ∨ (b.toNat = 45 ∧ sgn (l.drop j) = 1) ∨ (¬ b.toNat = 43 ∧ ¬ b.toNat = 45 ∧ sgn (l.drop j) = 0))) := by
  by_cases hj : j < l.length
  · refine .inr ⟨l[j], List.getElem?_eq_getElem hj, ?_⟩
    rw [List.drop_eq_getElem_cons hj]
    by_cases h1 : l[j].toNat = 43
    · exact .inl ⟨h1, if_pos (.inl h1)⟩
    · by_cases h2 : l[j].toNat = 45
      · exact .inr (.inl ⟨h2, if_pos (.inr h2)⟩)
      · exact .inr (.inr ⟨h1, h2, if_neg (by omega)⟩)
  · exact .inl ⟨by omega, by rw [List.drop_eq_nil_of_le (by omega)]; rfl⟩
theorem isE_cases (l : List UInt8) (j : Nat) : (l.length ≤ j ∧ isE l[j]? = false) ∨ (∃ b, l[j]? = some b ∧ ((b.toNat = 101 ∧ isE l[j]? = true) ∨ (b.toNat = 69 ∧ isE l[j]? = true) ∨ (¬ b.toNat = 101 ∧ ¬ b.toNat = 69 ∧ isE l[j]? = false))) := by
  cases hb : l[j]? with
  | none => exact .inl ⟨List.getElem?_eq_none_iff.1 hb, rfl⟩
  | some b =>
    refine .inr ⟨b, rfl, ?_⟩
    by_cases h1 : b.toNat = 101
    · exact .inl ⟨h1, by simp [isE, h1]⟩
    · by_cases h2 : b.toNat = 69
      · exact .inr (.inl ⟨h2, by simp [isE, h2]⟩)
      · exact .inr (.inr ⟨h1, h2, by simp [isE, h1, h2]⟩)
theorem dot_cases (l : List UInt8) (j : Nat) : (l.length ≤ j ∧ ¬ l[j]? = some 46) ∨ (∃ b, l[j]? = some b ∧ ((b.toNat = 46 ∧ l[j]? = some 46) ∨ (¬ b.toNat = 46 ∧ ¬ l[j]? = some 46))) := by
  cases hb : l[j]? with
  | none => exact .inl ⟨List.getElem?_eq_none_iff.1 hb, by simp⟩
  | some b =>
    refine .inr ⟨b, rfl, ?_⟩
    by_cases h1 : b.toNat = 46
    · exact .inl ⟨h1, by congr 1; exact UInt8.toNat_inj.1 h1⟩
    · exact .inr ⟨h1, by intro h; injection h with h; subst h; exact h1 rfl⟩
theorem isDAt_digs (l : List UInt8) (j : Nat) : isDAt l j = decide (0 < digs (l.drop j)) := by
  cases h : isDAt l j with
  | true => have := digs_drop_yes h; simp; omega
  | false => have := digs_drop_no h; simp; omega
theorem lenP_none {l : List UInt8} (h : some_ l = false) : lenP l = 0 := by simp [lenP, h]
theorem lenP_tail {l : List UInt8} {A : Nat} (h : some_ l = true) (hA : bodyLen l = A) :
    (isE l[A]? = false → lenP l = A) ∧ (isE l[A]? = true → ∀ k m, sgn (l.drop (A + 1)) = k → digs (l.drop (A + 1 + k)) = m → lenP l = if 0 < m then A + 1 + k + m else A) := by
  subst hA
  constructor
  · intro he; simp [lenP, h, he]
  · rintro he k m rfl rfl
    have hx : expLen (l.drop (bodyLen l + 1)) = if 0 < digs (l.drop (bodyLen l + 1 + sgn (l.drop (bodyLen l + 1)))) then sgn (l.drop (bodyLen l + 1)) + digs (l.drop (bodyLen l + 1 + sgn (l.drop (bodyLen l + 1)))) else 0 := by
      simp only [expLen, List.drop_drop]
    simp only [lenP, h, he, hx]
    rw [if_neg (by simp)]
    by_cases h0 : 0 < digs (l.drop (bodyLen l + 1 + sgn (l.drop (bodyLen l + 1))))
    · rw [if_pos h0, if_pos ⟨trivial, by omega⟩, if_pos h0]; omega
    · rw [if_neg h0, if_neg (by simp), if_neg h0]
theorem bodyLen_le (l : List UInt8) : bodyLen l ≤ l.length := by
  have h1 := sgn_le l
  have h2 := digs_le (l.drop (sgn l))
  rw [List.length_drop] at h2
  unfold bodyLen
  simp only []
  split
  · rename_i h
    have h3 := digs_le (l.drop (sgn l + digs (l.drop (sgn l)) + 1))
    rw [List.length_drop] at h3
    have := (List.getElem?_eq_some_iff.1 h.1).1
    omega
  · omega
set_option maxRecDepth 100000 in
set_option maxHeartbeats 8000000 in
theorem rfx_length (l : List UInt8) (w : World) (hl : l.length ≤ 9223372036854775806) :
    Calls Tryz.prog 32 #[.string (bytesOf l)] w fun e w' => e = .returned (.int .i64 (lenP l : Nat)) ∧ w = w' := by
  have hs := bytesOf_size l
  have hsA := sgn_le l
  have hdA := digs_le (l.drop (sgn l))
  rw [List.length_drop] at hdA
  obtain ⟨a, ha⟩ : ∃ a, sgn l + digs (l.drop (sgn l)) = a := ⟨_, rfl⟩
  have Ha := Lib.hid ha
  have hsg := sgn_cases l 0
  rw [List.drop_zero] at hsg
  have Hsg := Lib.hid hsg
  have Hdot := Lib.hid (dot_cases l a)
  have hle : a ≤ l.length := by omega
  obtain ⟨A, hA⟩ : ∃ A, bodyLen l = A := ⟨_, rfl⟩
  have hAl := bodyLen_le l
  rw [hA] at hAl
  have HA := Lib.hid hA
  have hBody : bodyLen l = if l[a]? = some 46 ∧ 0 < digs (l.drop (a + 1)) then a + 1 + digs (l.drop (a + 1)) else a := by simp only [bodyLen, ha]
  have hSome : some_ l = decide (0 < digs (l.drop (sgn l)) ∨ (l[a]? = some 46 ∧ 0 < digs (l.drop (a + 1)))) := by simp only [some_, ha]
  rw [hA] at hBody
  have HBody := Lib.hid hBody
  have HSome := Lib.hid hSome
  clear hsg hA hBody hSome
  go_enter Tryz.func32, Tryz.ntmps32
  go_upto_region 2 with (fail)
  go_cut [18] (fun s wx => s = .bool (decide (0 < sgn l)) ∧ wx = w)
  case first =>
    rcases Hsg.out with ⟨hge, h⟩ | ⟨b, hb, ⟨hb1, h⟩ | ⟨hb1, h⟩ | ⟨hb1, hb2, h⟩⟩
    · go_wp2_with fail
      go_meet
      exact ⟨by rw [h]; rfl, rfl⟩
    · have hlt : 0 < l.length := (List.getElem?_eq_some_iff.1 hb).1
      have hix := str_at (P := Tryz.prog) (T := 9) Tryz.underlying9 l .i64 0 b hb
      rw [Int.ofNat_zero, hb1] at hix
      go_wp2_with fail
      go_meet
      exact ⟨by rw [h]; rfl, rfl⟩
    · have hlt : 0 < l.length := (List.getElem?_eq_some_iff.1 hb).1
      have hix := str_at (P := Tryz.prog) (T := 9) Tryz.underlying9 l .i64 0 b hb
      rw [Int.ofNat_zero, hb1] at hix
      go_wp2_with fail
      go_meet
      exact ⟨by rw [h]; rfl, rfl⟩
    · have hlt : 0 < l.length := (List.getElem?_eq_some_iff.1 hb).1
      have hix := str_at (P := Tryz.prog) (T := 9) Tryz.underlying9 l .i64 0 b hb
      rw [Int.ofNat_zero] at hix
      have hc1 : ((b.toNat : Int) == 43) = false := byte_ne hb1
      have hc2 : ((b.toNat : Int) == 45) = false := byte_ne hb2
      go_wp2_with fail
      go_meet
      exact ⟨by rw [h]; simp [hc1, hc2], rfl⟩
  case rest =>
    obtain ⟨rfl, rfl⟩ := hcut
    go_upto_if 18 with (fail)
    go_cut [3] (fun s wx => s = .int .i64 (sgn l : Nat) ∧ wx = wc)
    case first =>
      by_cases ha : 0 < sgn l
      · go_wp2_with fail
        go_meet
        exact ⟨by congr 1; omega, rfl⟩
      · go_wp2_with fail
        go_meet
        exact ⟨by congr 1; omega, rfl⟩
    case rest =>
      obtain ⟨rfl, rfl⟩ := hcut
      go_upto_block 0 with (fail)
      go_cut [3, 4] (fun s t wx => s = .int .i64 (a : Nat) ∧ t = .bool (decide (0 < digs (l.drop (sgn l)))) ∧ wx = wc)
      case first =>
        go_wp2_with fail
        go_loop [3, 4] (fun s t => ∃ i : Nat, sgn l ≤ i ∧ i + digs (l.drop i) = a ∧ s = .int .i64 (i : Nat) ∧ t = .bool (decide (sgn l < i))) (fun s _ => l.length - (intOf s).toNat)
        case atStart => exact ⟨sgn l, Nat.le_refl _, Ha.out, rfl, by simp⟩
        case round =>
          obtain ⟨i, hi1, hi2, rfl, rfl⟩ := hrel
          have hcall := rfx_digit l i wc (by omega)
          cases hd : isDAt l i with
          | true =>
            rw [hd] at hcall
            have hstep := digs_drop_yes hd
            have Hd := Lib.hid hd
            clear hd
            go_wp2_with fail
            refine hcall.mono ?_
            rintro e w' ⟨rfl, rfl⟩
            go_wp2
            exact ⟨⟨i + 1, by omega, by omega, rfl, by congr 1; simp; omega⟩, by simp [intOf]; omega⟩
          | false =>
            rw [hd] at hcall
            have hstep := digs_drop_no hd
            have Hd := Lib.hid hd
            clear hd
            go_wp2_with fail
            refine hcall.mono ?_
            rintro e w' ⟨rfl, rfl⟩
            go_wp2
            go_meet
            have e1 : i = a := by omega
            subst e1
            exact ⟨rfl, by congr 1; simp only [decide_eq_decide]; have := Ha.out; omega, rfl⟩
      case rest =>
        obtain ⟨rfl, rfl, rfl⟩ := hcut
        obtain ⟨D, hD⟩ : ∃ D, decide (l[a]? = some 46 ∧ 0 < digs (l.drop (a + 1))) = D := ⟨_, rfl⟩
        have HD := Lib.hid hD
        clear hD
        go_upto_region 8 with (fail)
        go_cut [39] (fun s wx => s = .bool D ∧ wx = wc)
        case first =>
          rcases Hdot.out with ⟨hge, h⟩ | ⟨b, hb, ⟨hb1, h⟩ | ⟨hb1, h⟩⟩
          · go_wp2_with fail
            go_meet
            exact ⟨by rw [← HD.out]; simp [h], rfl⟩
          · have hlt : a < l.length := (List.getElem?_eq_some_iff.1 hb).1
            have hix := str_at (P := Tryz.prog) (T := 9) Tryz.underlying9 l .i64 a b hb
            rw [hb1] at hix
            have hcall := rfx_digit l (a + 1) wc (by omega)
            rw [isDAt_digs] at hcall
            push_cast at hcall
            go_wp2_with fail
            refine hcall.mono ?_
            rintro e w' ⟨rfl, rfl⟩
            go_wp2_with fail
            go_meet
            exact ⟨by rw [← HD.out]; simp [h], rfl⟩
          · have hlt : a < l.length := (List.getElem?_eq_some_iff.1 hb).1
            have hix := str_at (P := Tryz.prog) (T := 9) Tryz.underlying9 l .i64 a b hb
            have hc1 : ((b.toNat : Int) == 46) = false := byte_ne hb1
            go_wp2_with fail
            go_meet
            exact ⟨by rw [← HD.out]; simp [h, hc1], rfl⟩
        case rest =>
          obtain ⟨rfl, rfl⟩ := hcut
          go_upto_if 39 with (fail)
          go_cut [3, 4] (fun s t wx => s = .int .i64 (A : Nat) ∧ t = .bool (some_ l) ∧ wx = wc)
          case first =>
            cases D with
            | true =>
              have hdot := of_decide_eq_true HD.out
              have hAv : A = a + 1 + digs (l.drop (a + 1)) := by rw [HBody.out, if_pos hdot]
              have hSv : some_ l = true := by rw [HSome.out]; simp [hdot]
              have hda := digs_le (l.drop (a + 1))
              rw [List.length_drop] at hda
              have hal := (List.getElem?_eq_some_iff.1 hdot.1).1
              have HSv := Lib.hid hSv
              clear hSv hdot
              go_wp2_with fail
              go_loop [3] (fun s => ∃ i : Nat, a < i ∧ i + digs (l.drop i) = A ∧ s = .int .i64 (i : Nat)) (fun s => l.length - (intOf s).toNat)
              case atStart => exact ⟨a + 1, by omega, by omega, rfl⟩
              case round =>
                obtain ⟨i, hi1, hi2, rfl⟩ := hrel
                have hcall := rfx_digit l i wc (by omega)
                have hdi := digs_le (l.drop i)
                rw [List.length_drop] at hdi
                cases hd : isDAt l i with
                | true =>
                  rw [hd] at hcall
                  have hstep := digs_drop_yes hd
                  have Hd := Lib.hid hd
                  clear hd
                  go_wp2_with fail
                  refine hcall.mono ?_
                  rintro e w' ⟨rfl, rfl⟩
                  go_wp2
                  exact ⟨⟨i + 1, by omega, by omega, rfl⟩, by simp [intOf]; omega⟩
                | false =>
                  rw [hd] at hcall
                  have hstep := digs_drop_no hd
                  have Hd := Lib.hid hd
                  clear hd
                  go_wp2_with fail
                  refine hcall.mono ?_
                  rintro e w' ⟨rfl, rfl⟩
                  go_wp2_with fail
                  go_meet
                  exact ⟨by congr 1; omega, by rw [HSv.out], rfl⟩
            | false =>
              have hdot := of_decide_eq_false HD.out
              have hAv : A = a := by rw [HBody.out, if_neg hdot]
              have hSv : some_ l = decide (0 < digs (l.drop (sgn l))) := by rw [HSome.out]; simp only [hdot, or_false]
              have HSv := Lib.hid hSv
              clear hSv hdot
              go_wp2_with fail
              go_meet
              exact ⟨by congr 1; omega, by rw [HSv.out], rfl⟩
          case rest =>
            obtain ⟨rfl, rfl, rfl⟩ := hcut
            cases hS : some_ l with
            | false =>
              have Hval := Lib.hid (lenP_none hS)
              clear hS
              go_wp2
              go_ret
              exact ⟨ret_int (by rw [Hval.out]; rfl), rfl⟩
            | true =>
              have htail := Lib.hid (lenP_tail hS HA.out)
              clear hS
              go_upto_region 15 with (fail)
              go_cut [64] (fun s wx => s = .bool (isE l[A]?) ∧ wx = wc)
              case first =>
                rcases isE_cases l A with ⟨hge, h⟩ | ⟨b, hb, ⟨hb1, h⟩ | ⟨hb1, h⟩ | ⟨hb1, hb2, h⟩⟩
                · go_wp2_with fail
                  go_meet
                  exact ⟨by rw [h], rfl⟩
                · have hlt : A < l.length := (List.getElem?_eq_some_iff.1 hb).1
                  have hix := str_at (P := Tryz.prog) (T := 9) Tryz.underlying9 l .i64 A b hb
                  rw [hb1] at hix
                  go_wp2_with fail
                  go_meet
                  exact ⟨by rw [h], rfl⟩
                · have hlt : A < l.length := (List.getElem?_eq_some_iff.1 hb).1
                  have hix := str_at (P := Tryz.prog) (T := 9) Tryz.underlying9 l .i64 A b hb
                  rw [hb1] at hix
                  go_wp2_with fail
                  go_meet
                  exact ⟨by rw [h], rfl⟩
                · have hlt : A < l.length := (List.getElem?_eq_some_iff.1 hb).1
                  have hix := str_at (P := Tryz.prog) (T := 9) Tryz.underlying9 l .i64 A b hb
                  have hc1 : ((b.toNat : Int) == 101) = false := byte_ne hb1
                  have hc2 : ((b.toNat : Int) == 69) = false := byte_ne hb2
                  go_wp2_with fail
                  go_meet
                  exact ⟨by first | rw [h]; done | (rw [h]; simp [hc1, hc2]), rfl⟩
              case rest =>
                obtain ⟨rfl, rfl⟩ := hcut
                cases hE : isE l[A]? with
                | false =>
                  have Hval := Lib.hid (htail.out.1 hE)
                  clear hE
                  go_wp2
                  go_ret
                  exact ⟨ret_int (by rw [Hval.out]), rfl⟩
                | true =>
                  have hAlt : A < l.length := by
                    rcases isE_cases l A with ⟨hge, h⟩ | ⟨b, hb, _⟩
                    · rw [hE] at h; cases h
                    · exact (List.getElem?_eq_some_iff.1 hb).1
                  obtain ⟨k, hk⟩ : ∃ k, sgn (l.drop (A + 1)) = k := ⟨_, rfl⟩
                  have hk1 := sgn_le (l.drop (A + 1))
                  rw [hk, List.length_drop] at hk1
                  obtain ⟨m, hm⟩ : ∃ m, digs (l.drop (A + 1 + k)) = m := ⟨_, rfl⟩
                  have Hval := Lib.hid (htail.out.2 hE k m hk hm)
                  have hsg2 := sgn_cases l (A + 1)
                  rw [hk] at hsg2
                  have Hsg2 := Lib.hid hsg2
                  have hmd := isDAt_digs l (A + 1 + k)
                  rw [hm] at hmd
                  have hm1 := digs_le (l.drop (A + 1 + k))
                  rw [hm, List.length_drop] at hm1
                  have Hm := Lib.hid hm
                  have hcall0 := rfx_digit l (A + 1 + k) wc (by omega)
                  rw [hmd] at hcall0
                  clear hE hk hsg2 hm hmd
                  go_upto_region 17 with (fail)
                  go_cut [82] (fun s wx => s = .bool (decide (0 < k)) ∧ wx = wc)
                  case first =>
                    rcases Hsg2.out with ⟨hge, h⟩ | ⟨b, hb, ⟨hb1, h⟩ | ⟨hb1, h⟩ | ⟨hb1, hb2, h⟩⟩
                    · go_wp2_with fail
                      go_meet
                      exact ⟨by rw [h]; rfl, rfl⟩
                    · have hlt : A + 1 < l.length := (List.getElem?_eq_some_iff.1 hb).1
                      have hix := str_at (P := Tryz.prog) (T := 9) Tryz.underlying9 l .i64 (A + 1) b hb
                      rw [hb1] at hix
                      push_cast at hix
                      go_wp2_with fail
                      go_meet
                      exact ⟨by rw [h]; rfl, rfl⟩
                    · have hlt : A + 1 < l.length := (List.getElem?_eq_some_iff.1 hb).1
                      have hix := str_at (P := Tryz.prog) (T := 9) Tryz.underlying9 l .i64 (A + 1) b hb
                      rw [hb1] at hix
                      push_cast at hix
                      go_wp2_with fail
                      go_meet
                      exact ⟨by rw [h]; rfl, rfl⟩
                    · have hlt : A + 1 < l.length := (List.getElem?_eq_some_iff.1 hb).1
                      have hix := str_at (P := Tryz.prog) (T := 9) Tryz.underlying9 l .i64 (A + 1) b hb
                      push_cast at hix
                      have hc1 : ((b.toNat : Int) == 43) = false := byte_ne hb1
                      have hc2 : ((b.toNat : Int) == 45) = false := byte_ne hb2
                      go_wp2_with fail
                      go_meet
                      exact ⟨by rw [h]; simp [hc1, hc2], rfl⟩

                  case rest =>
                    obtain ⟨rfl, rfl⟩ := hcut
                    go_upto_if 82 with (fail)
                    go_cut [5] (fun s wx => s = .int .i64 ((A + 1 + k : Nat) : Int) ∧ wx = wc)
                    case first =>
                      by_cases hk0 : 0 < k
                      · go_wp2_with fail
                        go_meet
                        exact ⟨by congr 1; omega, rfl⟩
                      · go_wp2_with fail
                        go_meet
                        exact ⟨by congr 1; omega, rfl⟩
                    case rest =>
                      obtain ⟨rfl, rfl⟩ := hcut
                      by_cases hm0 : 0 < m
                      · have hdm : decide (0 < m) = true := by simpa using hm0
                        rw [hdm] at hcall0
                        go_wp2_with fail
                        refine hcall0.mono ?_
                        rintro e w' ⟨rfl, rfl⟩
                        go_wp2_with fail
                        go_loop [5] (fun s => ∃ i : Nat, A < i ∧ i + digs (l.drop i) = A + 1 + k + m ∧ s = .int .i64 (i : Nat)) (fun s => l.length - (intOf s).toNat)
                        case atStart => exact ⟨A + 1 + k, by omega, by rw [Hm.out], rfl⟩
                        case round =>
                          obtain ⟨i, hi1, hi2, rfl⟩ := hrel
                          have hcall := rfx_digit l i wc (by omega)
                          have hdi := digs_le (l.drop i)
                          rw [List.length_drop] at hdi
                          cases hd : isDAt l i with
                          | true =>
                            rw [hd] at hcall
                            have hstep := digs_drop_yes hd
                            have Hd := Lib.hid hd
                            clear hd
                            go_wp2_with fail
                            refine hcall.mono ?_
                            rintro e w' ⟨rfl, rfl⟩
                            go_wp2
                            exact ⟨⟨i + 1, by omega, by omega, rfl⟩, by simp [intOf]; omega⟩
                          | false =>
                            rw [hd] at hcall
                            have hstep := digs_drop_no hd
                            have Hd := Lib.hid hd
                            clear hd
                            go_wp2_with fail
                            refine hcall.mono ?_
                            rintro e w' ⟨rfl, rfl⟩
                            go_wp2
                            go_ret
                            exact ⟨ret_int (by rw [Hval.out, if_pos hm0]; omega), rfl⟩
                      · have hdm : decide (0 < m) = false := by simpa using hm0
                        rw [hdm] at hcall0
                        go_wp2_with fail
                        refine hcall0.mono ?_
                        rintro e w' ⟨rfl, rfl⟩
                        go_wp2
                        go_ret
                        exact ⟨ret_int (by rw [Hval.out, if_neg hm0]), rfl⟩
end Go.Proofs.YthkagpefgkpgeaaGreatDoor
/- Layer 1: which number a decimal is, and what its loops reckon: plain laws. -/
set_option linter.unusedVariables false
set_option linter.unusedSimpArgs false
namespace Go.Proofs.YthkagpefgkpgeaaGreatDoor
open Go.RowKit Fx
namespace Fx
/-- a digit's number -/
def dv (b : UInt8) : Nat := b.toNat - 48
/-- the number of a row of digits -/
def val (l : List UInt8) : Nat := l.foldl (fun n b => 10 * n + dv b) 0
/-- the number of the first i digits of a row, noughts behind its end -/
def vA (d : List UInt8) : Nat → Nat
  | 0 => 0
  | i + 1 => 10 * vA d i + ((d[i]?).map dv).getD 0
def M : Nat := 1099511627776
def foldN (d : List UInt8) (p : Int) : Nat := min (vA d p.toNat) M
/-- an exponent's number -/
def powP (x : List UInt8) : Int :=
  if x = [] then 0 else
  let n : Nat := if x.length - sgn x ≤ 6 then val (x.drop (sgn x)) else 999999
  if x[0]? = some 45 then -(n : Int) else (n : Int)
/-- the digits ahead of the point, and those behind it -/
def intP (l : List UInt8) : List UInt8 := (l.drop (sgn l)).take (digs (l.drop (sgn l)))
def fracP (l : List UInt8) : List UInt8 :=
  let a := sgn l + digs (l.drop (sgn l))
  if l[a]? = some 46 ∧ 0 < digs (l.drop (a + 1)) then (l.drop (a + 1)).take (digs (l.drop (a + 1))) else []
/-- what stands behind the exponent's letter -/
def expP (l : List UInt8) : List UInt8 := if isE l[bodyLen l]? = true then l.drop (bodyLen l + 1) else []
def isP (l : List UInt8) : Bool := decide (l ≠ [] ∧ lenP l = l.length)
def numP (l : List UInt8) : Nat := foldN (intP l ++ fracP l) ((intP l).length + powP (expP l) + 3)
def parseP (l : List UInt8) : Int := if isP l = true then (if l[0]? = some 45 then -(numP l : Int) else (numP l : Int)) else 0
end Fx
theorem vA_succ (d : List UInt8) (i : Nat) : vA d (i + 1) = 10 * vA d i + ((d[i]?).map dv).getD 0 := rfl
theorem vA_mono (d : List UInt8) {i j : Nat} (h : i ≤ j) : vA d i ≤ vA d j := by
  obtain ⟨k, rfl⟩ := Nat.exists_eq_add_of_le h
  clear h
  induction k with
  | zero => exact Nat.le_refl _
  | succ k ih => rw [← Nat.add_assoc, vA_succ]; omega
theorem vA_past (d : List UInt8) {i : Nat} (h : d.length ≤ i) (k : Nat) : vA d (i + k) = 10 ^ k * vA d i := by
  induction k with
  | zero => simp
  | succ k ih =>
    rw [← Nat.add_assoc, vA_succ, List.getElem?_eq_none (by omega), ih, Nat.pow_succ]
    simp; rw [Nat.mul_comm (10 ^ k) 10, Nat.mul_assoc]
theorem vA_step (d : List UInt8) (i : Nat) : min (10 * min (vA d i) M + ((d[i]?).map dv).getD 0) M = min (vA d (i + 1)) M := by
  rw [vA_succ]; omega
theorem vA_full (d : List UInt8) {i j : Nat} (h : i ≤ j) (hm : M ≤ vA d i) : min (vA d j) M = M := by
  have := vA_mono d h; omega
theorem vA_nought (d : List UInt8) {i j : Nat} (h : i ≤ j) (hd : d.length ≤ i) (hm : vA d i = 0) : vA d j = 0 := by
  obtain ⟨k, rfl⟩ := Nat.exists_eq_add_of_le h
  rw [vA_past d hd, hm, Nat.mul_zero]
theorem vA_far (d : List UInt8) {i : Nat} (h : d.length + 60 ≤ i) (hm : vA d i ≠ 0) : M ≤ vA d i := by
  obtain ⟨k, rfl⟩ := Nat.exists_eq_add_of_le h
  rw [Nat.add_assoc, vA_past d (Nat.le_refl _)] at hm ⊢
  have h0 : 0 < vA d d.length := Nat.pos_of_ne_zero fun h => hm (by rw [h, Nat.mul_zero])
  calc M ≤ 10 ^ 60 := by decide
    _ ≤ 10 ^ (60 + k) := Nat.pow_le_pow_right (by omega) (by omega)
    _ ≤ 10 ^ (60 + k) * vA d d.length := Nat.le_mul_of_pos_right _ h0
theorem vA_lead0 (z t : List UInt8) (hz : ∀ b ∈ z, b = 48) : ∀ j, j ≤ z.length → vA (z ++ t) j = 0
  | 0, _ => rfl
  | j + 1, h => by
    have hj : (z ++ t)[j]? = some z[j] := by rw [List.getElem?_append_left (by omega), List.getElem?_eq_getElem (by omega)]
    rw [vA_succ, vA_lead0 z t hz j (by omega), hj]
    have := hz z[j] (List.getElem_mem _)
    simp [this, dv]
theorem vA_lead (z t : List UInt8) (hz : ∀ b ∈ z, b = 48) : ∀ j, vA (z ++ t) (z.length + j) = vA t j
  | 0 => by rw [Nat.add_zero, vA_lead0 z t hz _ (Nat.le_refl _)]; rfl
  | j + 1 => by
    rw [← Nat.add_assoc, vA_succ, vA_lead z t hz j, vA_succ, List.getElem?_append_right (by omega)]
    congr 4; omega
theorem vA_append_len (d t : List UInt8) (i : Nat) (h : i ≤ d.length) : vA (d ++ t) i = vA d i := by
  induction i with
  | zero => rfl
  | succ i ih => rw [vA_succ, vA_succ, ih (by omega), List.getElem?_append_left (by omega)]
/-- leading noughts do not count -/
theorem foldN_lead (z t : List UInt8) (hz : ∀ b ∈ z, b = 48) (p : Int) : foldN (z ++ t) p = foldN t (p - z.length) := by
  unfold foldN
  by_cases h : p ≤ z.length
  · have h1 : (p - z.length).toNat = 0 := by omega
    rw [h1, vA_lead0 z t hz _ (by omega)]; rfl
  · have h1 : p.toNat = z.length + (p - z.length).toNat := by omega
    rw [h1, vA_lead z t hz]
theorem trim_split (l : List UInt8) : ∃ z, l = z ++ l.dropWhile (· == 48) ∧ (∀ b ∈ z, b = 48) := by
  refine ⟨l.takeWhile (· == 48), (List.takeWhile_append_dropWhile).symm, ?_⟩
  intro b hb
  have := List.all_takeWhile (p := fun b : UInt8 => b == 48) (l := l)
  rw [List.all_eq_true] at this
  simpa using this b hb
theorem foldN_trim (l : List UInt8) (p : Int) : foldN l p = foldN (l.dropWhile (· == 48)) (p - (l.length - (l.dropWhile (· == 48)).length : Nat)) := by
  obtain ⟨z, h1, h2⟩ := trim_split l
  have hl : l.length - (l.dropWhile (· == 48)).length = z.length := by
    have := congrArg List.length h1
    rw [List.length_append] at this; omega
  conv => lhs; rw [h1]
  rw [foldN_lead z _ h2, hl]
theorem val_snoc (l : List UInt8) (b : UInt8) : val (l ++ [b]) = 10 * val l + dv b := by simp [val]
theorem val_vA (l : List UInt8) : ∀ i, i ≤ l.length → vA l i = val (l.take i)
  | 0, _ => by simp [vA, val]
  | i + 1, h => by
    rw [vA_succ, val_vA l i (by omega), List.take_add_one, List.getElem?_eq_getElem (by omega)]
    simp only [Option.map_some, Option.getD_some, Option.toList_some, val_snoc]
end Go.Proofs.YthkagpefgkpgeaaGreatDoor
/- Layer 3: what the scanner reads, as plain functions of what is left of the characters. -/
set_option linter.unusedVariables false
set_option linter.unusedSimpArgs false
namespace Go.Proofs.YthkagpefgkpgeaaGreatDoor
open Go.RowKit Rn
namespace Tk
/-- the character so far on; -1: there is none -/
def pk (r : List Int) (n : Nat) : Int := r[n]?.getD (-1)
/-- an escape? -/
def esc (r : List Int) : Bool := decide (pk r 0 = 92 ∧ 0 ≤ pk r 1 ∧ pk r 1 ≠ 10)
def may (r : List Int) : Bool := beginsB (pk r 0) || esc r
/-- does a name begin here? -/
def beg (r : List Int) : Bool := may r || (decide (pk r 0 = 45) && (may r.tail || decide (pk r 1 = 45)))
/-- so many hex digits at most: their number, and what is left -/
def hexes : Nat → Nat → List Int → Nat × List Int
  | 0, n, r => (n, r)
  | f + 1, n, r => if 0 ≤ hexI (pk r 0) then hexes f (16 * n + (hexI (pk r 0)).toNat) r.tail else (n, r)
def numC' (n : Nat) : Int := if n = 0 ∨ isB n = false then 65533 else n
/-- what is meant behind a backslash, and what is left -/
def meantT (r : List Int) : Int × List Int :=
  if hexI (pk r 0) < 0 then (pk r 0, r.tail) else
  let h := hexes 6 0 r
  (numC' h.1, if whiteB (pk h.2 0) = true then h.2.tail else h.2)
end Tk
open Tk
theorem pk_nil (n : Nat) : pk [] n = -1 := by simp [pk]
theorem pk_cons0 (c : Int) (r : List Int) : pk (c :: r) 0 = c := rfl
theorem pk_cons (c : Int) (r : List Int) (n : Nat) : pk (c :: r) (n + 1) = pk r n := by simp [pk]
theorem pk_tail (r : List Int) (n : Nat) : pk r.tail n = pk r (n + 1) := by cases r <;> simp [pk]
theorem pk_drop (l : List Int) (k n : Nat) : pk (l.drop k) n = pk l (k + n) := by simp [pk, List.getElem?_drop]
theorem hexes_len (f : Nat) : ∀ n r, (hexes f n r).2.length ≤ r.length := by
  induction f with
  | zero => intro n r; simp [hexes]
  | succ f ih =>
    intro n r
    unfold hexes
    split
    · have := ih (16 * n + (hexI (pk r 0)).toNat) r.tail
      rw [List.length_tail] at this; omega
    · exact Nat.le_refl _
theorem meant_len (r : List Int) : (meantT r).2.length ≤ r.length := by
  unfold meantT
  split
  · simp
  · have := hexes_len 6 0 r
    simp only []
    split
    · rw [List.length_tail]; omega
    · exact this
theorem esc_ne {r : List Int} (h : esc r = true) : r ≠ [] := by rintro rfl; simp [esc, pk] at h
theorem within_ne {r : List Int} (h : withinB (pk r 0) = true) : r ≠ [] := by rintro rfl; rw [pk_nil] at h; revert h; decide
theorem white_ne {r : List Int} (h : whiteB (pk r 0) = true) : r ≠ [] := by rintro rfl; rw [pk_nil] at h; revert h; decide
theorem tail_lt {r : List Int} (h : r ≠ []) : r.tail.length < r.length := by
  have := List.length_pos_iff.2 h
  rw [List.length_tail]; omega
theorem meant_lt {r : List Int} (h : r ≠ []) : (meantT r.tail).2.length < r.length := Nat.lt_of_le_of_lt (meant_len _) (tail_lt h)
namespace Tk
/-- a name, and what is left -/
def nameT (r : List Int) : List Int × List Int :=
  if h : esc r = true then ((meantT r.tail).1 :: (nameT (meantT r.tail).2).1, (nameT (meantT r.tail).2).2)
  else if h2 : withinB (pk r 0) = true then (pk r 0 :: (nameT r.tail).1, (nameT r.tail).2)
  else ([], r)
termination_by r.length
decreasing_by
  · exact meant_lt (esc_ne h)
  · exact tail_lt (within_ne h2)
/-- behind a comment's end -/
def skipC : List Int → List Int
  | [] => []
  | c :: r => if c = 42 ∧ pk r 0 = 47 then r.tail else skipC r
end Tk
theorem skipC_len (r : List Int) : (skipC r).length ≤ r.length := by
  induction r with
  | nil => simp [skipC]
  | cons c r ih =>
    unfold skipC
    split
    · rw [List.length_tail, List.length_cons]; omega
    · rw [List.length_cons]; omega
theorem name_len (r : List Int) : (nameT r).2.length ≤ r.length := by
  fun_induction nameT r with
  | case1 r h ih => exact Nat.le_trans ih (Nat.le_of_lt (meant_lt (esc_ne h)))
  | case2 r h h2 ih => exact Nat.le_trans ih (Nat.le_of_lt (tail_lt (within_ne h2)))
  | case3 r => exact Nat.le_refl _
namespace Tk
/-- white space and comments: is there any that is white? and what is left -/
def spacesT (r : List Int) : Bool × List Int :=
  if h : whiteB (pk r 0) = true then (true, (spacesT r.tail).2)
  else if h2 : pk r 0 = 47 ∧ pk r 1 = 42 then spacesT (skipC r.tail.tail)
  else (false, r)
termination_by r.length
decreasing_by
  · exact tail_lt (white_ne h)
  · have hne : r ≠ [] := by rintro rfl; rw [pk_nil] at h2; omega
    refine Nat.lt_of_le_of_lt (skipC_len _) ?_
    have := List.length_pos_iff.2 hne
    rw [List.length_tail, List.length_tail]; omega
/-- a text, behind its quote: its characters, whether it is bad, and what is left -/
def quoteT (e : Int) (r : List Int) : List Int × Bool × List Int :=
  match h0 : r with
  | [] => ([], false, [])
  | c :: t =>
    if c = 10 then ([], true, c :: t)
    else if c = e then ([], false, t)
    else if esc (c :: t) = true then ((meantT t).1 :: (quoteT e (meantT t).2).1, (quoteT e (meantT t).2).2)
    else if c = 92 then quoteT e t.tail
    else (c :: (quoteT e t).1, (quoteT e t).2)
termination_by r.length
decreasing_by
  · have := meant_len t; simp only [List.length_cons]; omega
  · simp only [List.length_cons, List.length_tail]; omega
  · simp
/-- a character of a decimal? -/
def numB (c : Int) : Bool := decide ((48 ≤ c ∧ c ≤ 57) ∨ c = 43 ∨ c = 45 ∨ c = 46 ∨ c = 101 ∨ c = 69)
def byteOf (c : Int) : UInt8 := UInt8.ofNat c.toNat
def numText (r : List Int) : List UInt8 := (r.takeWhile numB).map byteOf
/-- a token -/
structure Tok where
  kind : Nat
  text : List UInt8
  n : Int
deriving DecidableEq
def numberT (r : List Int) : Option (Tok × List Int) :=
  let x := numText r
  let n := Fx.lenP x
  if n = 0 then none else
  let v := Fx.parseP (x.take n)
  let s := r.drop n
  if beg s = true then some (⟨10, writeP (nameT s).1, v⟩, (nameT s).2)
  else if pk s 0 = 37 then some (⟨9, [], v⟩, s.tail)
  else some (⟨8, [], v⟩, s)
/-- a character's kind -/
def signK (c : Int) : Nat :=
  if c = 40 ∨ c = 91 ∨ c = 123 then 12 else if c = 41 ∨ c = 93 ∨ c = 125 then 13 else if c = 58 then 14 else if c = 59 then 15 else if c = 44 then 16 else 11
def signT (c : Int) : Tok := ⟨signK c, if signK c = 11 ∨ signK c = 12 ∨ signK c = 13 then writeP [c] else [], 0⟩
/-- the next token, no white space, and what is left -/
def nextT (r : List Int) : Tok × List Int :=
  let c := pk r 0
  if c = 34 ∨ c = 39 then (⟨if (quoteT c r.tail).2.1 = true then 7 else 6, writeP (quoteT c r.tail).1, 0⟩, (quoteT c r.tail).2.2)
  else if c = 35 ∧ (withinB (pk r 1) || esc r.tail) = true then (⟨5, writeP (nameT r.tail).1, 0⟩, (nameT r.tail).2)
  else match numberT r with
    | some x => x
    | none =>
      if c = 64 ∧ beg r.tail = true then (⟨4, writeP (nameT r.tail).1, 0⟩, (nameT r.tail).2)
      else if beg r = true then
        if pk (nameT r).2 0 = 40 then (⟨3, writeP (nameT r).1, 0⟩, (nameT r).2.tail) else (⟨2, writeP (nameT r).1, 0⟩, (nameT r).2)
      else (signT c, r.tail)
end Tk
theorem spaces_len (r : List Int) : (spacesT r).2.length ≤ r.length := by
  fun_induction spacesT r with
  | case1 r h ih => exact Nat.le_trans ih (Nat.le_of_lt (tail_lt (white_ne h)))
  | case2 r h h2 ih =>
    refine Nat.le_trans ih (Nat.le_trans (skipC_len _) ?_)
    rw [List.length_tail, List.length_tail]; omega
  | case3 r => exact Nat.le_refl _
theorem quoted_len (e : Int) (r : List Int) : (quoteT e r).2.2.length ≤ r.length := by
  fun_induction quoteT e r with
  | case1 => simp
  | case2 => simp
  | case3 t h => simp
  | case4 c t h h2 h3 ih => have := meant_len t; simp only [List.length_cons]; omega
  | case5 t h h2 h3 ih => simp only [List.length_cons, List.length_tail] at *; omega
  | case6 c t h h2 h3 h4 ih => simp only [List.length_cons]; omega
theorem name_some {r : List Int} (h : esc r = true ∨ withinB (pk r 0) = true) : (nameT r).2.length < r.length ∧ (nameT r).1 ≠ [] := by
  rw [nameT]
  split
  · rename_i h1
    refine ⟨Nat.lt_of_le_of_lt (name_len _) (meant_lt (esc_ne h1)), by simp⟩
  · rename_i h1
    have h2 := h.resolve_left h1
    rw [dif_pos h2]
    exact ⟨Nat.lt_of_le_of_lt (name_len _) (tail_lt (within_ne h2)), by simp⟩
theorem begins_within {c : Int} (h : beginsB c = true) : withinB c = true := by unfold withinB; rw [h]; rfl
theorem beg_first {r : List Int} (h : beg r = true) : esc r = true ∨ withinB (pk r 0) = true := by
  unfold beg may at h
  rcases hb : beginsB (pk r 0) with _ | _
  · rcases he : esc r with _ | _
    · rw [hb, he] at h
      simp at h
      right
      rw [h.1]; decide
    · exact .inl rfl
  · exact .inr (begins_within hb)
theorem next_lt {r : List Int} (h : r ≠ []) : (nextT r).2.length < r.length := by
  have ht := tail_lt h
  unfold nextT
  simp only []
  split
  · exact Nat.lt_of_le_of_lt (quoted_len _ _) ht
  · split
    · exact Nat.lt_of_le_of_lt (name_len _) ht
    · split
      · rename_i x hx
        unfold numberT at hx
        simp only [] at hx
        split at hx
        · cases hx
        · rename_i hn
          have hd : (r.drop (Fx.lenP (numText r))).length < r.length := by
            have := List.length_pos_iff.2 h
            rw [List.length_drop]; omega
          split at hx
          · cases hx
            exact Nat.lt_of_le_of_lt (name_len _) hd
          · split at hx
            · cases hx
              simp only [List.length_tail] at *; omega
            · cases hx; exact hd
      · split
        · exact Nat.lt_of_le_of_lt (name_len _) ht
        · split
          · rename_i hb
            have := (name_some (beg_first hb)).1
            split
            · simp only [List.length_tail]; omega
            · exact this
          · exact ht
namespace Tk
/-- all tokens -/
def scanT (r : List Int) : List Tok :=
  if h : (spacesT r).2 = [] then (if (spacesT r).1 = true then [⟨1, [], 0⟩] else [])
  else (if (spacesT r).1 = true then [⟨1, [], 0⟩] else []) ++ (nextT (spacesT r).2).1 :: scanT (nextT (spacesT r).2).2
termination_by r.length
decreasing_by exact Nat.lt_of_lt_of_le (next_lt h) (spaces_len r)
end Tk
end Go.Proofs.YthkagpefgkpgeaaGreatDoor
/- runes.Lower and runes.Hex are walked. -/
set_option linter.unusedVariables false
set_option linter.unusedSimpArgs false
namespace Go.Proofs.YthkagpefgkpgeaaGreatDoor
open Go.RowKit Rn
namespace Rn
def low8 (b : UInt8) : UInt8 := if 65 ≤ b.toNat ∧ b.toNat ≤ 90 then b + 32 else b
def lowerP (bs : List UInt8) : List UInt8 := bs.map low8
end Rn
/-- []byte(s): a new block. -/
theorem conv_bytes {P : Program} {src dst e : TypeId} (hs : P.underlying src = some .string) (hd : P.underlying dst = some (.slice e)) (he : P.underlying e = some (.int .u8)) (w : World) (s : ByteArray) :
    ∃ c W1, (convert src dst (.string s)).run P w = .ok (.slice (some ⟨w.heap.size, 0, none⟩) s.size c) W1 ∧ s.size ≤ c ∧ Below w.heap.size w W1 ∧ RowAt W1 w.heap.size (s.data.toList.map b8) := by
  refine ⟨_, _, run_bytes_of_string w src dst e s hs hd he, grownCap_ge _ _ _ _, ((Below.refl _ _).drew).alloc (Nat.le_refl _) _, by simp, fun j u hu => ?_⟩
  have hj : j < s.data.toList.length := by
    have := (List.getElem?_eq_some_iff.1 hu).1
    simpa using this
  have hu' : u = b8 s.data.toList[j] := by
    rw [List.getElem?_map, List.getElem?_eq_getElem hj] at hu
    simpa using hu.symm
  subst hu'
  have hj2 : j < s.data.size := by simpa using hj
  have hj3 : j < s.size := hj2
  refine ⟨?_, ?_⟩
  · simp only [World.cell?, World.drew, World.alloc]
    simp [bytesRow, Array.getElem?_append, b8]
    rw [if_pos hj3, Array.getElem?_eq_getElem hj2]
    rfl
  · simp only [World.frozen?, World.drew, World.alloc]
    simp [bytesRow]
    omega

def LowRel (s : List UInt8) (g B : Nat) (w : World) (i : Value) (wr : World) : Prop := ∃ k : Nat, k ≤ s.length ∧ i = .int .i64 k ∧ RowAt wr g ((lowerP (s.take k) ++ s.drop k).map b8) ∧ Below B w wr
set_option maxRecDepth 100000 in
set_option maxHeartbeats 1000000 in
theorem rn_lower (s : ByteArray) (w : World) (hs : s.size ≤ 1000000) :
    Calls Tryz.prog 73 #[.string s] w fun e w' => e = .returned (.string (bytesOf (lowerP s.data.toList))) ∧ Below w.heap.size w w' := by
  obtain ⟨c, W1, hconv, hc, hb1, hrow⟩ := conv_bytes (P := Tryz.prog) Tryz.underlying9 Tryz.underlying22 Tryz.underlying5 w s
  have hlen : s.data.toList.length = s.size := Array.length_toList
  have Hlen := Lib.hid hlen
  have Hrow := Lib.hid hrow
  clear hlen hrow
  go_enter Tryz.func73, Tryz.ntmps73
  go_wp2
  clear hconv
  go_loopw [10] (fun i wr => LowRel s.data.toList w.heap.size w.heap.size w i wr) (fun i _ => s.size - (intOf i).toNat)
  case atStart => exact ⟨0, by omega, rfl, by simpa [lowerP] using Hrow.out, hb1⟩
  case round =>
    obtain ⟨k, hk, rfl, hrow, hb⟩ := hrel
    rw [Hlen.out] at hk
    by_cases hlt : k < s.size
    · obtain ⟨x, hx⟩ : ∃ x, s.data.toList[k]? = some x := ⟨_, List.getElem?_eq_getElem (by rw [Hlen.out]; exact hlt)⟩
      have hkl : (lowerP (s.data.toList.take k)).length = k := by rw [lowerP, List.length_map, List.length_take, Hlen.out]; omega
      have hat : ((lowerP (s.data.toList.take k) ++ s.data.toList.drop k).map b8)[k]? = some (b8 x) := by
        rw [List.getElem?_map, List.getElem?_append_right (by omega), hkl, Nat.sub_self, List.getElem?_drop, Nat.add_zero, hx]; rfl
      obtain ⟨hcell, hfr⟩ := hrow.2 k _ hat
      have hnew : ∀ y, y = low8 x → RowAt (wr.setCell ⟨w.heap.size, k, none⟩ (b8 y)) w.heap.size ((lowerP (s.data.toList.take (k + 1)) ++ s.data.toList.drop (k + 1)).map b8) := by
        intro y hy
        have h1 := hrow.store k (b8 y)
        rw [← List.map_set, List.set_append_right _ _ (by omega), hkl, Nat.sub_self] at h1
        have hd : s.data.toList.drop k = x :: s.data.toList.drop (k + 1) := by
          rw [List.drop_eq_getElem_cons (by rw [Hlen.out]; exact hlt)]
          rw [List.getElem?_eq_getElem (by rw [Hlen.out]; exact hlt)] at hx
          injection hx with hx; rw [hx]
        rw [hd, List.set_cons_zero] at h1
        rw [take_snoc _ k x hx, lowerP, List.map_append, hy] at *
        simpa [lowerP] using h1
      have hsame : low8 x = x → RowAt wr w.heap.size ((lowerP (s.data.toList.take (k + 1)) ++ s.data.toList.drop (k + 1)).map b8) := by
        intro hy
        have hd : s.data.toList.drop k = x :: s.data.toList.drop (k + 1) := by
          rw [List.drop_eq_getElem_cons (by rw [Hlen.out]; exact hlt)]
          rw [List.getElem?_eq_getElem (by rw [Hlen.out]; exact hlt)] at hx
          injection hx with hx; rw [hx]
        rw [hd] at hrow
        rw [take_snoc _ k x hx, lowerP, List.map_append]
        simpa [lowerP, hy] using hrow
      unfold b8 at hcell
      have hx256 : x.toNat < 256 := x.toNat_lt
      have Hnew := Lib.hid hnew
      have Hsame := Lib.hid hsame
      clear hnew hsame hat hkl hrow hx
      by_cases hup : 65 ≤ x.toNat ∧ x.toNat ≤ 90
      · obtain ⟨u1, u2⟩ := hup
        have hy : (b8 (x + 32)) = .int .u8 ((x.toNat : Int) + 32) := by
          unfold b8; congr 1
          have : (x + 32).toNat = x.toNat + 32 := by rw [UInt8.toNat_add]; simp; omega
          rw [this]; rfl
        have hfin := Hnew.out (x + 32) (by simp [low8, u1, u2])
        rw [hy] at hfin
        have Hfin := Lib.hid hfin
        clear hy hfin Hnew Hsame
        have hbn : Below w.heap.size w (wr.setCell ⟨w.heap.size, k, none⟩ (.int .u8 ((x.toNat : Int) + 32))) := hb.setCell (Nat.le_refl _) _
        go_wp2
        go_roundw
        case rel => exact ⟨k + 1, by rw [Hlen.out]; omega, by go_num, Hfin.out, hbn⟩
        case measure => simp [intOf]; omega
      · have hfin := Hsame.out (by simp [low8]; omega)
        have Hfin := Lib.hid hfin
        clear hfin Hnew Hsame
        by_cases u1 : 65 ≤ x.toNat
        all_goals
          go_wp2
          go_roundw
          case rel => exact ⟨k + 1, by rw [Hlen.out]; omega, by go_num, Hfin.out, hb⟩
          case measure => simp [intOf]; omega
    · obtain rfl : k = s.size := by omega
      have hfull : RowAt wr w.heap.size ((lowerP s.data.toList).map b8) := by
        rw [List.take_of_length_le (by rw [Hlen.out]; omega), List.drop_of_length_le (by rw [Hlen.out]; omega), List.append_nil] at hrow
        exact hrow
      have hrd := hfull.reads (B := w.heap.size + 1) (by omega)
      rw [List.length_map, show (lowerP s.data.toList).length = s.size from by rw [lowerP, List.length_map]; exact Hlen.out] at hrd
      have hback := run_str (P := Tryz.prog) (src := 22) (dst := 9) Tryz.underlying22 Tryz.underlying5 Tryz.underlying9 c hrd
      clear hrow hfull hrd
      go_wp2
      go_ret
      exact ⟨rfl, hb⟩
end Go.Proofs.YthkagpefgkpgeaaGreatDoor
/- runes.Hex is walked. -/
set_option linter.unusedVariables false
set_option linter.unusedSimpArgs false
namespace Go.Proofs.YthkagpefgkpgeaaGreatDoor
open Go.RowKit Rn
def hexText : ByteArray := ⟨#[48, 49, 50, 51, 52, 53, 54, 55, 56, 57, 97, 98, 99, 100, 101, 102]⟩
theorem hex_ascii : ∀ c : Fin 128, Lib.indexByte hexText.data.toList (low8 (UInt8.ofNat c.val)) = hexI (c.val : Int) := by decide +kernel
theorem hex_high : ∀ c : Fin 256, 128 ≤ c.val → Lib.indexByte hexText.data.toList (low8 (UInt8.ofNat c.val)) = -1 := by decide +kernel
theorem hex_first (c : Int) (hc : -2147483648 ≤ c ∧ c ≤ 2147483647) : ∃ b0, (lowerP (writeP [c]))[0]? = some b0 ∧ Lib.indexByte hexText.data.toList b0 = hexI c := by
  have hw : writeP [c] = Lib.encodeRune c := by simp [writeP]
  rw [hw]
  by_cases ha : 0 ≤ c ∧ c ≤ 127
  · refine ⟨low8 (UInt8.ofNat c.toNat), ?_, ?_⟩
    · simp only [Lib.encodeRune, Lib.encodeRuneZ_one ha.1 ha.2, lowerP, List.map_cons, List.map_nil, List.getElem?_cons_zero]
    · have := hex_ascii ⟨c.toNat, by omega⟩
      rw [this]
      have e : ((c.toNat : Nat) : Int) = c := by omega
      show hexI ((c.toNat : Nat) : Int) = hexI c
      rw [e]
  · have hx : hexI c = -1 := by unfold hexI; (repeat' split) <;> omega
    have : ∃ z : Int, 128 ≤ z ∧ z < 256 ∧ (Lib.encodeRune c)[0]? = some (UInt8.ofNat z.toNat) := by
      unfold Lib.encodeRune
      by_cases h2 : 128 ≤ c ∧ c ≤ 2047
      · rw [Lib.encodeRuneZ_two h2.1 h2.2]; exact ⟨192 + c / 64, by omega, by omega, rfl⟩
      · by_cases h3 : (2048 ≤ c ∧ c < 55296) ∨ (57343 < c ∧ c ≤ 65535)
        · rw [Lib.encodeRuneZ_three h3]; exact ⟨224 + c / 4096, by omega, by omega, rfl⟩
        · by_cases h4 : 65536 ≤ c ∧ c ≤ 1114111
          · rw [Lib.encodeRuneZ_four h4.1 h4.2]; exact ⟨240 + c / 262144, by omega, by omega, rfl⟩
          · rw [Lib.encodeRuneZ_bad (by omega)]; exact ⟨239, by omega, by omega, rfl⟩
    obtain ⟨z, z1, z2, hz⟩ := this
    refine ⟨low8 (UInt8.ofNat z.toNat), by rw [lowerP, List.getElem?_map, hz]; rfl, ?_⟩
    rw [hx]
    exact hex_high ⟨z.toNat, by omega⟩ (by simp; omega)

set_option maxRecDepth 100000 in
set_option maxHeartbeats 1000000 in
theorem rn_hex (c : Int) (w : World) (hc : -2147483648 ≤ c ∧ c ≤ 2147483647) :
    Calls Tryz.prog 58 #[.int .i32 c] w fun e w' => e = .returned (.int .i64 (hexI c)) ∧ Below w.heap.size w w' := by
  obtain ⟨b0, hb0, hx⟩ := hex_first c hc
  have Hb0 := Lib.hid hb0
  have Hx := Lib.hid hx
  clear hb0 hx
  go_enter Tryz.func58, Tryz.ntmps58
  go_wp2_with fail
  have hrow : RowAt (w.alloc (.cells #[.int .i32 c] 21)) w.heap.size ([c].map r32) := RowAt.new _ _ _
  have hr := (hrow.reads (B := w.heap.size + 1) (by omega))
  have hsz : (w.alloc (.cells #[.int .i32 c] 21)).heap.size = w.heap.size + 1 := by simp
  refine (rn_write [c] _ 1 1 _ (by rw [hsz]; exact hr) (by intro d hd; simp at hd; subst hd; exact hc) (by omega)).mono ?_
  rintro e w1 ⟨v, rfl, hown, hb1⟩
  obtain ⟨A, cp, rfl, _, _⟩ := own_form hown
  have hrd := Reads.of_own hown
  have hstr := run_str (P := Tryz.prog) (src := 22) (dst := 9) Tryz.underlying22 Tryz.underlying5 Tryz.underlying9 cp hrd
  have hbw : Below w.heap.size w w1 := ((Below.refl _ _).alloc (Nat.le_refl _) _).trans (hb1.mono (by rw [hsz]; omega))
  have hlen := writeP_len [c]
  clear hrd hown hrow hr hb1
  go_wp2_with fail
  refine (rn_lower (bytesOf (writeP [c])) _ (by rw [bytesOf_size]; simp at hlen; omega)).mono ?_
  rintro e w2 ⟨rfl, hb2⟩
  have hfin : Below w.heap.size w w2 := hbw.trans (hb2.mono hbw.size)
  have hS : (bytesOf (lowerP (bytesOf (writeP [c])).data.toList)).data.toList[0]? = some b0 := by simpa [bytesOf] using Hb0.out
  generalize bytesOf (lowerP (bytesOf (writeP [c])).data.toList) = S at *
  have hS0 : 0 < S.size := by
    rcases Nat.eq_zero_or_pos S.size with h | h
    · have : S.data.toList = [] := List.eq_nil_of_length_eq_zero (by rw [Array.length_toList]; exact h)
      rw [this] at hS; cases hS
    · exact h
  have hS1 : S[0]'hS0 = b0 := by
    have : S.data.toList[0]? = some (S[0]'hS0) := by
      rw [List.getElem?_eq_getElem (by rw [Array.length_toList]; exact hS0)]; rfl
    rw [this] at hS; injection hS
  have HS1 := Lib.hid hS1
  clear hS hS1 hstr hbw hb2 hlen
  go_wp2_with fail
  refine (Tryz.strings_IndexByte _ _ _).mono ?_
  rintro e w3 ⟨rfl, rfl⟩
  go_wp2
  go_ret
  refine ⟨ret_int ?_, hfin⟩
  rw [HS1.out]
  exact Hx.out
end Go.Proofs.YthkagpefgkpgeaaGreatDoor
set_option linter.unusedVariables false
set_option linter.unusedSimpArgs false
namespace Go.Proofs.YthkagpefgkpgeaaGreatDoor
open Go.RowKit Rn Tk
/-- The scanner at block S stands at character k of l; its place lies at block P; the characters below B. -/
structure At (w : World) (B S P : Nat) (A : Option Addr) (n cap : Nat) (l : List Int) (k : Nat) : Prop where
  s0 : w.cell? ⟨S, 0, none⟩ = some (.pointer (some ⟨P, 0, none⟩))
  p0 : w.cell? ⟨P, 0, none⟩ = some (.slice A n cap)
  p1 : w.cell? ⟨P, 1, none⟩ = some (.int .i64 (k : Int))
  fz : w.frozen? ⟨P, 1, none⟩ = false
  rd : Reads w B 1 A n (l.map r32)
  hB : B ≤ P
  hPS : P < S
  hS : S < w.heap.size
  hk : k ≤ n
  hn : n ≤ 1000000
  hc : n ≤ cap
  hm : cap ≤ maxLen
/-- What a step that moves the place may turn: block P alone. -/
abbrev Mv (P : Nat) (w w' : World) : Prop := w.grownBy w' (some P)
section
variable {w w' : World} {B S P n cap k : Nat} {A : Option Addr} {l : List Int}
theorem At.len (h : At w B S P A n cap l k) : l.length = n := by simpa using h.rd.len
theorem At.mv (h : At w B S P A n cap l k) (hb : w.grownBy w' none) : At w' B S P A n cap l k := by
  have hS := h.hS
  have hP := h.hPS
  have key : ∀ p : Addr, p.block < w.heap.size → w'.cell? p = w.cell? p := fun p hp => hb.cell_far p hp (by simp)
  exact { s0 := (key _ hS).trans h.s0, p0 := (key _ (Nat.lt_trans hP hS)).trans h.p0, p1 := (key _ (Nat.lt_trans hP hS)).trans h.p1, fz := (hb.frozen_far _ (Nat.lt_trans hP hS) (by simp)).trans h.fz, rd := h.rd.keep fun p hp => key p (Nat.lt_of_lt_of_le hp (by have := h.hB; omega)), hB := h.hB, hPS := h.hPS, hS := Nat.lt_of_lt_of_le hS hb.size, hk := h.hk, hn := h.hn, hc := h.hc, hm := h.hm }
theorem At.store (h : At w B S P A n cap l k) {k' : Nat} (hk : k' ≤ n) : At (w.setCell ⟨P, 1, none⟩ (.int .i64 (k' : Int))) B S P A n cap l k' := by
  have hS := h.hS
  have hP := h.hPS
  have hB := h.hB
  have other : ∀ p : Addr, p ≠ ⟨P, 1, none⟩ → (w.setCell ⟨P, 1, none⟩ (.int .i64 (k' : Int))).cell? p = w.cell? p := fun p hp => World.cell?_setCell_other w _ _ _ (Ne.symm hp)
  exact { s0 := (other _ (by intro e; injection e; omega)).trans h.s0, p0 := (other _ (by intro e; injection e; omega)).trans h.p0, p1 := World.cell?_setCell_same _ _ _ h.p1, fz := (World.frozen?_setCell _ _ _ _).trans h.fz, rd := h.rd.setCell hB _, hB := hB, hPS := hP, hS := by simpa [World.setCell] using hS, hk := hk, hn := h.hn, hc := h.hc, hm := h.hm }
end
theorem Mv.refl (P : Nat) (w : World) : Mv P w w := World.grownBy.refl _ _
theorem Mv.store (w : World) (P : Nat) (v : Value) : Mv P w (w.setCell ⟨P, 1, none⟩ v) := by
  refine ⟨rfl, rfl, rfl, by simp [World.setCell], fun i hi hne => ?_⟩
  simp only [World.setCell]
  rw [Array.getElem?_modify]
  rw [if_neg (fun e => hne (by rw [e]))]
theorem Mv.of {P : Nat} {w w' : World} (h : w.grownBy w' none) : Mv P w w' := h.but _
theorem grown_below {w w' : World} (h : w.grownBy w' none) : Below w.heap.size w w' := ⟨h.os, h.tape, h.output, h.size, fun i hi => h.block i hi (by simp)⟩
theorem below_grown {w w' : World} (h : Below w.heap.size w w') : w.grownBy w' none := ⟨h.os, h.tape, h.output, h.size, fun i hi _ => h.block i hi⟩
theorem grown_drewN (w : World) (q : Nat) : w.grownBy (w.drewN q) none := ⟨rfl, rfl, rfl, Nat.le_refl _, fun _ _ _ => rfl⟩
theorem pk_at {l : List Int} {k m : Nat} (h : k + m < l.length) : l[k + m]? = some (pk (l.drop k) m) := by
  rw [pk_drop, pk, List.getElem?_eq_getElem h]; rfl
theorem pk_end {l : List Int} {k m : Nat} (h : l.length ≤ k + m) : pk (l.drop k) m = -1 := by
  rw [pk_drop, pk, List.getElem?_eq_none h]; rfl
set_option maxRecDepth 100000 in
set_option maxHeartbeats 1000000 in
theorem tk_peek {w : World} {B S P n cap k : Nat} {A : Option Addr} {l : List Int} (m : Nat) (h : At w B S P A n cap l k) (hm : m ≤ 100) :
    Calls Tryz.prog 10 #[.pointer (some ⟨P, 0, none⟩), .int .i64 (m : Int)] w fun e w' => e = .returned (.int .i32 (pk (l.drop k) m)) ∧ w.grownBy w' none := by
  have hlen := h.len
  have hk := h.hk
  have hn := h.hn
  have p0 := h.p0
  have p1 := h.p1
  by_cases hlt : k + m < n
  · obtain ⟨b, off, u, hA, hbB, hu, hcell⟩ := h.rd.at_ hlt
    subst hA
    have hv : u = .int .i32 (pk (l.drop k) m) := by
      rw [List.getElem?_map, pk_at (by omega)] at hu
      simp at hu
      rw [← hu]; rfl
    subst hv
    have hx1 : (0 : Int) ≤ (k : Int) + (m : Int) := by omega
    have hx2 : (k : Int) + (m : Int) < (n : Int) := by omega
    have hx3 : ((k : Int) + (m : Int)).toNat = k + m := by omega
    generalize pk (l.drop k) m = c at *
    go_enter Tryz.func10, Tryz.ntmps10
    go_wp2_with fail
    go_quiet (fail)
    go_wp2_with fail
    go_quiet (fail)
    go_wp2
    go_ret
    exact ⟨rfl, (grown_drewN _ _).trans (grown_drewN _ _)⟩
  · have hv : pk (l.drop k) m = -1 := pk_end (by omega)
    rw [hv]
    have hx2 : (n : Int) ≤ (k : Int) + (m : Int) := by omega
    go_enter Tryz.func10, Tryz.ntmps10
    go_wp2_with fail
    go_quiet (fail)
    go_wp2
    go_ret
    exact ⟨rfl, grown_drewN _ _⟩
theorem pk_shift (l : List Int) (k m i : Nat) : pk (l.drop k) (m + i) = pk (l.drop (k + m)) i := by rw [pk_drop, pk_drop, Nat.add_assoc]
theorem eq_f {a b : Int} (h : ¬ a = b) : (a == b) = false := by simpa using h
theorem eq_t {a b : Int} (h : a = b) : (a == b) = true := by simpa using h
set_option maxRecDepth 100000 in
set_option maxHeartbeats 1000000 in
theorem tk_escape {w : World} {B S P n cap k : Nat} {A : Option Addr} {l : List Int} (m : Nat) (h : At w B S P A n cap l k) (hm : m ≤ 50) :
    Calls Tryz.prog 19 #[.pointer (some ⟨S, 0, none⟩), .int .i64 (m : Int)] w fun e w' => e = .returned (.bool (esc (l.drop (k + m)))) ∧ w.grownBy w' none := by
  have s0 := h.s0
  have hp0 := tk_peek m h (by omega)
  have hp1 := fun w' (g : w.grownBy w' none) => tk_peek (m + 1) (h.mv g) (by omega)
  have hv : esc (l.drop (k + m)) = decide (pk (l.drop k) m = 92 ∧ 0 ≤ pk (l.drop k) (m + 1) ∧ pk (l.drop k) (m + 1) ≠ 10) := by
    unfold esc; rw [← pk_shift, ← pk_shift]; rfl
  rw [hv]
  clear hv
  generalize pk (l.drop k) m = c0 at *
  generalize pk (l.drop k) (m + 1) = c1 at *
  have hcast : ((m + 1 : Nat) : Int) = (m : Int) + 1 := by omega
  rw [hcast] at hp1
  by_cases e0 : c0 = 92
  · have b0 := eq_t e0
    by_cases e1 : 0 ≤ c1
    · have b1 : decide (0 ≤ c1) = true := by simpa using e1
      have hfin : decide (c0 = 92 ∧ 0 ≤ c1 ∧ c1 ≠ 10) = (c1 != 10) := by rw [Bool.eq_iff_iff]; simp [e0, e1]
      rw [hfin]
      clear e0 hfin
      go_enter Tryz.func19, Tryz.ntmps19
      go_wp2_with fail
      refine hp0.mono ?_
      rintro e w1 ⟨rfl, g1⟩
      have s1 := (h.mv g1).s0
      go_wp2_with fail
      refine (hp1 w1 g1).mono ?_
      rintro e w2 ⟨rfl, g2⟩
      have g2 := g1.trans g2
      have s2 := (h.mv g2).s0
      go_wp2_with fail
      refine (hp1 w2 g2).mono ?_
      rintro e w3 ⟨rfl, g3⟩
      have g3 := g2.trans g3
      go_wp2
      go_ret
      exact ⟨rfl, g3⟩
    · have b1 : decide (0 ≤ c1) = false := by simpa using e1
      have hfin : decide (c0 = 92 ∧ 0 ≤ c1 ∧ c1 ≠ 10) = false := by simp [e1]
      rw [hfin]
      clear e0 hfin
      go_enter Tryz.func19, Tryz.ntmps19
      go_wp2_with fail
      refine hp0.mono ?_
      rintro e w1 ⟨rfl, g1⟩
      have s1 := (h.mv g1).s0
      go_wp2_with fail
      refine (hp1 w1 g1).mono ?_
      rintro e w2 ⟨rfl, g2⟩
      have g2 := g1.trans g2
      go_wp2
      go_ret
      exact ⟨rfl, g2⟩
  · have b0 := eq_f e0
    have hfin : decide (c0 = 92 ∧ 0 ≤ c1 ∧ c1 ≠ 10) = false := by simp [e0]
    rw [hfin]
    go_enter Tryz.func19, Tryz.ntmps19
    go_wp2_with fail
    refine hp0.mono ?_
    rintro e w1 ⟨rfl, g1⟩
    go_wp2
    go_ret
    exact ⟨rfl, g1⟩
end Go.Proofs.YthkagpefgkpgeaaGreatDoor
