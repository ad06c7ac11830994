/- Layer 4: may tokens be? The program's Right is walked. -/
import Derived.Test.YtifedkilbpkpaaaGreatDoorB16
import Derived.Deep.DeepCutAuto
set_option linter.unusedVariables false
set_option linter.unusedSimpArgs false
namespace Go.Proofs.YtifedkilbpkpaaaGreatDoor
open Go.RowKit Rn Tp
namespace Tp
/-- may a token stand there, by what stands behind it? -/
def standB (t : GTok) (nx : Option GTok) : Bool := oneB t && (match nx with
  | none => decide (t.kind ≠ 7)
  | some u => !(decide (t.kind = 1) && decide (u.kind = 1)) && !(decide (t.kind = 7) && decide (u.kind ≠ 1)) && !(decide (t.kind = 11) && decide (t.text = [92]) && decide (u.kind ≠ 1)))
end Tp
theorem pairs_step (t : GTok) (r : List GTok) : pairsB (t :: r) = (standB t r.head? && pairsB r) := by
  cases r with
  | nil => simp [pairsB, standB]
  | cons u r => simp only [pairsB, standB, List.head?_cons]; simp only [Bool.and_assoc]
theorem pairs_drop {l : List GTok} {k : Nat} {t : GTok} (h : l[k]? = some t) : pairsB (l.drop k) = (standB t l[k + 1]? && pairsB (l.drop (k + 1))) := by
  have hk : k < l.length := (List.getElem?_eq_some_iff.1 h).1
  have hd : l.drop k = t :: l.drop (k + 1) := by
    rw [List.drop_eq_getElem_cons hk]
    rw [List.getElem?_eq_getElem hk] at h
    injection h with h
    rw [h]
  rw [hd, pairs_step, List.head?_drop]
/-- the row of tokens in memory, each of whose texts is short -/
structure TokRow (w : World) (B : Nat) (A : Option Addr) (n : Nat) (l : List GTok) : Prop where
  rd : ReadsT w B A n l
  small : ∀ t ∈ l, t.text.length ≤ 1000000 ∧ -9223372036854775808 ≤ t.n ∧ t.n ≤ 9223372036854775807
  hn : n ≤ 1000000
theorem TokRow.below {w w' : World} {B n : Nat} {A : Option Addr} {l : List GTok} (h : TokRow w B A n l) (hb : Below B w w') : TokRow w' B A n l := ⟨h.rd.below hb, h.small, h.hn⟩
set_option maxRecDepth 100000 in
set_option maxHeartbeats 8000000 in
theorem tp_rights (l : List GTok) (A : Option Addr) (n cap : Nat) (w : World) (hr : TokRow w w.heap.size A n l) (hT : Tabs w) :
    Calls Tryz.prog 22 #[.slice A n cap] w fun e w' => e = .returned (.bool (rightB l)) ∧ Below w.heap.size w w' := by
  have hlen : l.length = n := hr.rd.len
  have hn := hr.hn
  have Hlen := Lib.hid hlen
  clear hlen
  go_enter Tryz.func22, Tryz.ntmps22
  go_wp2_with fail
  go_loopw [8] (fun i wr => ∃ k : Nat, k ≤ n ∧ i = .int .i64 k ∧ Hid (pairsB l = pairsB (l.drop k)) ∧ Below w.heap.size w wr) (fun i _ => n - (intOf i).toNat)
  case atStart => exact ⟨0, by omega, rfl, rfl, Below.refl _ _⟩
  case round =>
    obtain ⟨k, hk, rfl, hrun, hb⟩ := hrel
    have hrw := hr.below hb
    by_cases hlt : k < n
    · obtain ⟨b, off, t, hA, hbw, ht, c0, c1, c2⟩ := hrw.rd.at_ hlt
      subst hA
      have hsm := hr.small t (List.mem_of_getElem? ht)
      have hstep := pairs_drop ht
      have dk : decide ((k : Int) < (n : Int)) = true := by simp; omega
      have hbs := hb.size
      obtain ⟨WA, hWA⟩ : ∃ WA, wr.alloc (.cells #[.int .i64 t.kind, .string (bytesOf t.text), .int .i64 t.n] 23) = WA := ⟨_, rfl⟩
      have bA : Below wr.heap.size wr WA := by rw [← hWA]; exact (Below.refl _ _).alloc (Nat.le_refl _) _
      have rA : RowAt WA wr.heap.size [.int .i64 t.kind, .string (bytesOf t.text), .int .i64 t.n] := by rw [← hWA]; exact RowAt.new _ _ _
      have hR := tp_right t WA (by unfold maxLen; omega) ⟨hsm.2.1, hsm.2.2⟩ (hT.below (hb.trans (bA.mono hbs)))
      obtain ⟨nx, hnx⟩ : ∃ nx, l[k + 1]? = nx := ⟨_, rfl⟩
      rw [hnx] at hstep
      -- what stands behind it
      obtain ⟨la, hla⟩ : ∃ la, ((k : Int) == (n : Int) - 1) = la := ⟨_, rfl⟩
      have hnext : (nx = none ∧ la = true) ∨ ∃ u, nx = some u ∧ la = false ∧ k + 1 < n ∧ ∀ W : World, Below w.heap.size w W → W.cell? ⟨b, off + (k + 1) * 3, none⟩ = some (.int .i64 u.kind) := by
        by_cases h1 : k + 1 < n
        · right
          obtain ⟨b', off', u, hA', _, hu, d0, _, _⟩ := hr.rd.at_ h1
          injection hA' with hA'
          injection hA' with e1 e2
          subst e1 e2
          refine ⟨u, by rw [← hnx]; exact hu, by rw [← hla]; simp; omega, h1, fun W hW => (hW.cell (p := ⟨b, off + (k + 1) * 3, none⟩) hbw).trans d0⟩
        · left
          exact ⟨by rw [← hnx]; exact List.getElem?_eq_none (by rw [Hlen.out]; omega), by rw [← hla]; simp; omega⟩
      obtain ⟨kind, text, num⟩ := t
      simp only [] at *
      obtain ⟨one, hone⟩ : ∃ o, oneB ⟨kind, text, num⟩ = o := ⟨_, rfl⟩
      rw [hone] at hR
      obtain ⟨b5, h5⟩ : ∃ b5, (!one || (match nx with | none => false | some u => (kind == 1) && (u.kind == 1))) = b5 := ⟨_, rfl⟩
      obtain ⟨b7, h7⟩ : ∃ b7, (match nx with | none => (kind == 7) | some u => ((kind == 7) || ((kind == 11) && decide (text = [92]))) && !(u.kind == 1)) = b7 := ⟨_, rfl⟩
      have hst : standB ⟨kind, text, num⟩ nx = (!b5 && !b7) := by
        rw [← h5, ← h7]
        unfold standB
        rw [hone]
        have ed : ∀ a b : Int, (a == b) = decide (a = b) := fun a b => by rw [Bool.eq_iff_iff]; simp
        cases nx with
        | none => simp only [ed, Bool.or_false, Bool.not_not]; rw [Bool.eq_iff_iff]; simp
        | some u =>
          simp only [ed, decide_not, ne_eq]
          generalize decide (kind = 1) = p1
          generalize decide (kind = 7) = p7
          generalize decide (kind = 11) = p11
          generalize decide (text = [92]) = pt
          generalize decide (u.kind = 1) = pu
          cases one <;> cases p1 <;> cases p7 <;> cases p11 <;> cases pt <;> cases pu <;> rfl
      rw [hst] at hstep
      have H5 := Lib.hid h5
      have H7 := Lib.hid h7
      have HS := Lib.hid hstep
      have HN := Lib.hid hnext
      have hwk : IntKind.i64.wrap ((k : Int) + 1) = (k : Int) + 1 := by rw [IntKind.wrap_i64]; omega
      clear h5 h7 hstep hst hone hnext hnx
      obtain ⟨a0, _⟩ := rA.2 0 _ rfl
      obtain ⟨a1, _⟩ := rA.2 1 _ rfl
      obtain ⟨a2, _⟩ := rA.2 2 _ rfl
      go_upto_region 5 with (fail)
      go_cut [5, 38] (fun v x wx => v = .bool la ∧ x = .bool b5 ∧ Below WA.heap.size WA wx)
      case first =>
        have hun : (undef : Value) = .tuple #[] := rfl
        go_wp2_with fail
        refine hR.mono ?_
        rintro e w1 ⟨rfl, hb1⟩
        have hb1' : Below w.heap.size w w1 := (hb.trans (bA.mono hbs)).trans (hb1.mono (Nat.le_trans hbs bA.size))
        have e0 := (hb1.cell (p := ⟨wr.heap.size, 0, none⟩) rA.1).trans a0
        have h5 := H5.out
        cases one with
        | false =>
          simp only [Bool.not_false, Bool.true_or] at h5
          have HB := Lib.hid h5
          clear h5 H5 H7 HS HN
          go_wp2_with fail
          go_meet
          exact ⟨rfl, by rw [HB.out], hb1⟩
        | true =>
          simp only [Bool.not_true, Bool.false_or] at h5
          cases k1 : (kind == 1) with
          | false =>
            have h5' : b5 = false := by
              rw [← h5]
              cases nx <;> simp [k1]
            have HB := Lib.hid h5'
            clear h5 h5' H5 H7 HS HN
            go_wp2_with fail
            go_meet
            exact ⟨rfl, by rw [HB.out], hb1⟩
          | true =>
            rcases HN.out with ⟨hn0, rfl⟩ | ⟨u, hn0, rfl, hk1, hu⟩
            · have h5' : b5 = false := by rw [← h5, hn0]
              have HB := Lib.hid h5'
              clear h5 h5' H5 H7 HS HN hn0
              go_wp2_with fail
              go_meet
              exact ⟨rfl, by rw [HB.out], hb1⟩
            · have h5' : b5 = (u.kind == 1) := by rw [← h5, hn0]; simp [k1]
              have HB := Lib.hid h5'
              have d0 := hu w1 hb1'
              clear h5 h5' H5 H7 HS HN hn0 hu
              go_wp2_with fail
              go_meet
              exact ⟨rfl, by rw [HB.out], hb1⟩
      case rest =>
        obtain ⟨rfl, rfl, hbc⟩ := hcut
        have hbc' : Below w.heap.size w wc := (hb.trans (bA.mono hbs)).trans (hbc.mono (Nat.le_trans hbs bA.size))
        have e0 := (hbc.cell (p := ⟨wr.heap.size, 0, none⟩) rA.1).trans a0
        have e1 := (hbc.cell (p := ⟨wr.heap.size, 1, none⟩) rA.1).trans a1
        clear hR H5 a0 a1 a2 hWA hla
        cases b5 with
        | true =>
          have hfin : rightB l = false := by
            unfold rightB
            rw [hrun.out, HS.out]; simp
          have HB := Lib.hid hfin
          clear hfin H7 HS HN hrun
          go_wp2
          go_ret
          exact ⟨ret_bool HB.out.symm, hbc'⟩
        | false =>
          go_upto_region 7 with (fail)
          go_cut [72] (fun x wx => x = .bool b7 ∧ wx = wc)
          case first =>
            have hun : (undef : Value) = .tuple #[] := rfl
            have h7 := H7.out
            rcases HN.out with ⟨hn0, rfl⟩ | ⟨u, hn0, rfl, hk1, hu⟩
            · have h7' : b7 = (kind == 7) := by rw [← h7, hn0]
              have HB := Lib.hid h7'
              clear h7 h7' H7 HS HN hn0
              cases k7 : (kind == 7) with
              | true =>
                go_wp2_with fail
                go_meet
                exact ⟨by rw [HB.out, k7], rfl⟩
              | false =>
                cases k11 : (kind == 11) with
                | false =>
                  go_wp2_with fail
                  go_meet
                  exact ⟨by rw [HB.out, k7], rfl⟩
                | true =>
                  by_cases ht92 : text = [92]
                  · obtain ⟨s1, s2⟩ := str_is ht92
                    clear ht92
                    go_wp2_with fail
                    go_meet
                    exact ⟨by rw [HB.out, k7], rfl⟩
                  · obtain ⟨s1, s2⟩ := str_not ht92
                    clear ht92
                    go_wp2_with fail
                    go_meet
                    exact ⟨by rw [HB.out, k7], rfl⟩
            · have h7' : b7 = (((kind == 7) || ((kind == 11) && decide (text = [92]))) && !(u.kind == 1)) := by rw [← h7, hn0]
              have HB := Lib.hid h7'
              have d0 := hu wc hbc'
              clear h7 h7' H7 HS HN hn0 hu
              cases k7 : (kind == 7) with
              | true =>
                go_wp2_with fail
                go_meet
                exact ⟨by rw [HB.out, k7]; simp; (try rfl), rfl⟩
              | false =>
                cases k11 : (kind == 11) with
                | false =>
                  go_wp2_with fail
                  go_meet
                  exact ⟨by rw [HB.out, k7, k11]; simp, rfl⟩
                | true =>
                  by_cases ht92 : text = [92]
                  · obtain ⟨s1, s2⟩ := str_is ht92
                    have h92 : decide (text = [92]) = true := by simp [ht92]
                    have H92 := Lib.hid h92
                    clear ht92 h92
                    go_wp2_with fail
                    go_meet
                    exact ⟨by rw [HB.out, k7, k11, H92.out]; simp; (try rfl), rfl⟩
                  · obtain ⟨s1, s2⟩ := str_not ht92
                    have h92 : decide (text = [92]) = false := by simp [ht92]
                    have H92 := Lib.hid h92
                    clear ht92 h92
                    go_wp2_with fail
                    go_meet
                    exact ⟨by rw [HB.out, k7, k11, H92.out]; simp, rfl⟩
          case rest =>
            obtain ⟨rfl, rfl⟩ := hcut
            clear H7 HN
            cases b7 with
            | true =>
              have hfin : rightB l = false := by
                unfold rightB
                rw [hrun.out, HS.out]; simp
              have HB := Lib.hid hfin
              clear hfin HS hrun
              go_wp2
              go_ret
              exact ⟨ret_bool HB.out.symm, hbc'⟩
            | false =>
              have hnew : Hid (pairsB l = pairsB (l.drop (k + 1))) := by
                show _ = _
                rw [hrun.out, HS.out]; simp
              clear HS hrun
              go_wp2_with fail
              go_roundw
              case rel => exact ⟨k + 1, by omega, by go_num, hnew, hbc'⟩
              case measure => simp [intOf]; omega
    · obtain rfl : k = n := by omega
      have dk : decide ((k : Int) < (k : Int)) = false := by simp
      have hfin : rightB l = decide ((k : Int) ≤ 16384) := by
        unfold rightB
        rw [hrun.out, ← Hlen.out, List.drop_length]
        simp [pairsB]; omega
      have HB := Lib.hid hfin
      clear hfin hrun hlt hk
      go_wp2
      go_ret
      exact ⟨ret_bool HB.out.symm, hb⟩
end Go.Proofs.YtifedkilbpkpaaaGreatDoor
