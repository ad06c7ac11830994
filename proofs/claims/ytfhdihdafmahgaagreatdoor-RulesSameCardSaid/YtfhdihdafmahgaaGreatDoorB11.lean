/- Layer 3: the model's scanner with a bound on its rounds: so that the kernel can run it. -/
import Derived.Test.YtfhdihdafmahgaaGreatDoorB10
import Derived.Deep.DeepCutAuto
import Derived.Test.YtfhdihdafmahgaaGreatDoorB05
import Derived.Maps.Own
import Derived.Maps.Views
import Derived.WalkArith
import Derived.Test.YtfhdihdafmahgaaGreatDoorB04
import Derived.Maps.AppendAt
import Derived.Test.YtfhdihdafmahgaaGreatDoorB09
/- Layer 4: may tokens be? The program's Right is walked. -/
set_option linter.unusedVariables false
set_option linter.unusedSimpArgs false
namespace Go.Proofs.YtfhdihdafmahgaaGreatDoor
open Go.RowKit Rn Tp
namespace Tp
/-- may a token stand there, by what stands behind it? -/
def standB (t : GTok) (nx : Option GTok) : Bool := oneB t && (match nx with
  | none => decide (t.kind ≠ 7)
  | some u => !(decide (t.kind = 1) && decide (u.kind = 1)) && !(decide (t.kind = 7) && decide (u.kind ≠ 1)) && !(decide (t.kind = 11) && decide (t.text = [92]) && decide (u.kind ≠ 1)))
end Tp
theorem pairs_step (t : GTok) (r : List GTok) : pairsB (t :: r) = (standB t r.head? && pairsB r) := by
  cases r with
  | nil => simp [pairsB, standB]
  | cons u r => simp only [pairsB, standB, List.head?_cons]; simp only [Bool.and_assoc]
theorem pairs_drop {l : List GTok} {k : Nat} {t : GTok} (h : l[k]? = some t) : pairsB (l.drop k) = (standB t l[k + 1]? && pairsB (l.drop (k + 1))) := by
  have hk : k < l.length := (List.getElem?_eq_some_iff.1 h).1
  have hd : l.drop k = t :: l.drop (k + 1) := by
    rw [List.drop_eq_getElem_cons hk]
    rw [List.getElem?_eq_getElem hk] at h
    injection h with h
    rw [h]
  rw [hd, pairs_step, List.head?_drop]
/-- the row of tokens in memory, each of whose texts is short -/
structure TokRow (w : World) (B : Nat) (A : Option Addr) (n : Nat) (l : List GTok) : Prop where
  rd : ReadsT w B A n l
  small : ∀ t ∈ l, t.text.length ≤ 1000000 ∧ -9223372036854775808 ≤ t.n ∧ t.n ≤ 9223372036854775807
  hn : n ≤ 1000000
theorem TokRow.below {w w' : World} {B n : Nat} {A : Option Addr} {l : List GTok} (h : TokRow w B A n l) (hb : Below B w w') : TokRow w' B A n l := ⟨h.rd.below hb, h.small, h.hn⟩
set_option maxRecDepth 100000 in
set_option maxHeartbeats 8000000 in
theorem tp_rights (l : List GTok) (A : Option Addr) (n cap : Nat) (w : World) (hr : TokRow w w.heap.size A n l) (hT : Tabs w) :
    Calls Tryz.prog 53 #[.slice A n cap] w fun e w' => e = .returned (.bool (rightB l)) ∧ Below w.heap.size w w' := by
  have hlen : l.length = n := hr.rd.len
  have hn := hr.hn
  have Hlen := Lib.hid hlen
  clear hlen
  go_enter Tryz.func53, Tryz.ntmps53
  go_wp2_with fail
  go_loopw [8] (fun i wr => ∃ k : Nat, k ≤ n ∧ i = .int .i64 k ∧ Hid (pairsB l = pairsB (l.drop k)) ∧ Below w.heap.size w wr) (fun i _ => n - (intOf i).toNat)
  case atStart => exact ⟨0, by omega, rfl, rfl, Below.refl _ _⟩
  case round =>
    obtain ⟨k, hk, rfl, hrun, hb⟩ := hrel
    have hrw := hr.below hb
    by_cases hlt : k < n
    · obtain ⟨b, off, t, hA, hbw, ht, c0, c1, c2⟩ := hrw.rd.at_ hlt
      subst hA
      have hsm := hr.small t (List.mem_of_getElem? ht)
      have hstep := pairs_drop ht
      have dk : decide ((k : Int) < (n : Int)) = true := by simp; omega
      have hbs := hb.size
      obtain ⟨WA, hWA⟩ : ∃ WA, wr.alloc (.cells #[.int .i64 t.kind, .string (bytesOf t.text), .int .i64 t.n] 58) = WA := ⟨_, rfl⟩
      have bA : Below wr.heap.size wr WA := by rw [← hWA]; exact (Below.refl _ _).alloc (Nat.le_refl _) _
      have rA : RowAt WA wr.heap.size [.int .i64 t.kind, .string (bytesOf t.text), .int .i64 t.n] := by rw [← hWA]; exact RowAt.new _ _ _
      have hR := tp_right t WA (by unfold maxLen; omega) ⟨hsm.2.1, hsm.2.2⟩ (hT.below (hb.trans (bA.mono hbs)))
      obtain ⟨nx, hnx⟩ : ∃ nx, l[k + 1]? = nx := ⟨_, rfl⟩
      rw [hnx] at hstep
      -- what stands behind it
      obtain ⟨la, hla⟩ : ∃ la, ((k : Int) == (n : Int) - 1) = la := ⟨_, rfl⟩
      have hnext : (nx = none ∧ la = true) ∨ ∃ u, nx = some u ∧ la = false ∧ k + 1 < n ∧ ∀ W : World, Below w.heap.size w W → W.cell? ⟨b, off + (k + 1) * 3, none⟩ = some (.int .i64 u.kind) := by
        by_cases h1 : k + 1 < n
        · right
          obtain ⟨b', off', u, hA', _, hu, d0, _, _⟩ := hr.rd.at_ h1
          injection hA' with hA'
          injection hA' with e1 e2
          subst e1 e2
          refine ⟨u, by rw [← hnx]; exact hu, by rw [← hla]; simp; omega, h1, fun W hW => (hW.cell (p := ⟨b, off + (k + 1) * 3, none⟩) hbw).trans d0⟩
        · left
          exact ⟨by rw [← hnx]; exact List.getElem?_eq_none (by rw [Hlen.out]; omega), by rw [← hla]; simp; omega⟩
      obtain ⟨kind, text, num⟩ := t
      simp only [] at *
      obtain ⟨one, hone⟩ : ∃ o, oneB ⟨kind, text, num⟩ = o := ⟨_, rfl⟩
      rw [hone] at hR
      obtain ⟨b5, h5⟩ : ∃ b5, (!one || (match nx with | none => false | some u => (kind == 1) && (u.kind == 1))) = b5 := ⟨_, rfl⟩
      obtain ⟨b7, h7⟩ : ∃ b7, (match nx with | none => (kind == 7) | some u => ((kind == 7) || ((kind == 11) && decide (text = [92]))) && !(u.kind == 1)) = b7 := ⟨_, rfl⟩
      have hst : standB ⟨kind, text, num⟩ nx = (!b5 && !b7) := by
        rw [← h5, ← h7]
        unfold standB
        rw [hone]
        have ed : ∀ a b : Int, (a == b) = decide (a = b) := fun a b => by rw [Bool.eq_iff_iff]; simp
        cases nx with
        | none => simp only [ed, Bool.or_false, Bool.not_not]; rw [Bool.eq_iff_iff]; simp
        | some u =>
          simp only [ed, decide_not, ne_eq]
          generalize decide (kind = 1) = p1
          generalize decide (kind = 7) = p7
          generalize decide (kind = 11) = p11
          generalize decide (text = [92]) = pt
          generalize decide (u.kind = 1) = pu
          cases one <;> cases p1 <;> cases p7 <;> cases p11 <;> cases pt <;> cases pu <;> rfl
      rw [hst] at hstep
      have H5 := Lib.hid h5
      have H7 := Lib.hid h7
      have HS := Lib.hid hstep
      have HN := Lib.hid hnext
      have hwk : IntKind.i64.wrap ((k : Int) + 1) = (k : Int) + 1 := by rw [IntKind.wrap_i64]; omega
      clear h5 h7 hstep hst hone hnext hnx
      obtain ⟨a0, _⟩ := rA.2 0 _ rfl
      obtain ⟨a1, _⟩ := rA.2 1 _ rfl
      obtain ⟨a2, _⟩ := rA.2 2 _ rfl
      go_upto_region 5 with (fail)
      go_cut [5, 38] (fun v x wx => v = .bool la ∧ x = .bool b5 ∧ Below WA.heap.size WA wx)
      case first =>
        have hun : (undef : Value) = .tuple #[] := rfl
        go_wp2_with fail
        refine hR.mono ?_
        rintro e w1 ⟨rfl, hb1⟩
        have hb1' : Below w.heap.size w w1 := (hb.trans (bA.mono hbs)).trans (hb1.mono (Nat.le_trans hbs bA.size))
        have e0 := (hb1.cell (p := ⟨wr.heap.size, 0, none⟩) rA.1).trans a0
        have h5 := H5.out
        cases one with
        | false =>
          simp only [Bool.not_false, Bool.true_or] at h5
          have HB := Lib.hid h5
          clear h5 H5 H7 HS HN
          go_wp2_with fail
          go_meet
          exact ⟨rfl, by rw [HB.out], hb1⟩
        | true =>
          simp only [Bool.not_true, Bool.false_or] at h5
          cases k1 : (kind == 1) with
          | false =>
            have h5' : b5 = false := by
              rw [← h5]
              cases nx <;> simp [k1]
            have HB := Lib.hid h5'
            clear h5 h5' H5 H7 HS HN
            go_wp2_with fail
            go_meet
            exact ⟨rfl, by rw [HB.out], hb1⟩
          | true =>
            rcases HN.out with ⟨hn0, rfl⟩ | ⟨u, hn0, rfl, hk1, hu⟩
            · have h5' : b5 = false := by rw [← h5, hn0]
              have HB := Lib.hid h5'
              clear h5 h5' H5 H7 HS HN hn0
              go_wp2_with fail
              go_meet
              exact ⟨rfl, by rw [HB.out], hb1⟩
            · have h5' : b5 = (u.kind == 1) := by rw [← h5, hn0]; simp [k1]
              have HB := Lib.hid h5'
              have d0 := hu w1 hb1'
              clear h5 h5' H5 H7 HS HN hn0 hu
              go_wp2_with fail
              go_meet
              exact ⟨rfl, by rw [HB.out], hb1⟩
      case rest =>
        obtain ⟨rfl, rfl, hbc⟩ := hcut
        have hbc' : Below w.heap.size w wc := (hb.trans (bA.mono hbs)).trans (hbc.mono (Nat.le_trans hbs bA.size))
        have e0 := (hbc.cell (p := ⟨wr.heap.size, 0, none⟩) rA.1).trans a0
        have e1 := (hbc.cell (p := ⟨wr.heap.size, 1, none⟩) rA.1).trans a1
        clear hR H5 a0 a1 a2 hWA hla
        cases b5 with
        | true =>
          have hfin : rightB l = false := by
            unfold rightB
            rw [hrun.out, HS.out]; simp
          have HB := Lib.hid hfin
          clear hfin H7 HS HN hrun
          go_wp2
          go_ret
          exact ⟨ret_bool HB.out.symm, hbc'⟩
        | false =>
          go_upto_region 7 with (fail)
          go_cut [72] (fun x wx => x = .bool b7 ∧ wx = wc)
          case first =>
            have hun : (undef : Value) = .tuple #[] := rfl
            have h7 := H7.out
            rcases HN.out with ⟨hn0, rfl⟩ | ⟨u, hn0, rfl, hk1, hu⟩
            · have h7' : b7 = (kind == 7) := by rw [← h7, hn0]
              have HB := Lib.hid h7'
              clear h7 h7' H7 HS HN hn0
              cases k7 : (kind == 7) with
              | true =>
                go_wp2_with fail
                go_meet
                exact ⟨by rw [HB.out, k7], rfl⟩
              | false =>
                cases k11 : (kind == 11) with
                | false =>
                  go_wp2_with fail
                  go_meet
                  exact ⟨by rw [HB.out, k7], rfl⟩
                | true =>
                  by_cases ht92 : text = [92]
                  · obtain ⟨s1, s2⟩ := str_is ht92
                    clear ht92
                    go_wp2_with fail
                    go_meet
                    exact ⟨by rw [HB.out, k7], rfl⟩
                  · obtain ⟨s1, s2⟩ := str_not ht92
                    clear ht92
                    go_wp2_with fail
                    go_meet
                    exact ⟨by rw [HB.out, k7], rfl⟩
            · have h7' : b7 = (((kind == 7) || ((kind == 11) && decide (text = [92]))) && !(u.kind == 1)) := by rw [← h7, hn0]
              have HB := Lib.hid h7'
              have d0 := hu wc hbc'
              clear h7 h7' H7 HS HN hn0 hu
              cases k7 : (kind == 7) with
              | true =>
                go_wp2_with fail
                go_meet
                exact ⟨by rw [HB.out, k7]; simp; (try rfl), rfl⟩
              | false =>
                cases k11 : (kind == 11) with
                | false =>
                  go_wp2_with fail
                  go_meet
                  exact ⟨by rw [HB.out, k7, k11]; simp, rfl⟩
                | true =>
                  by_cases ht92 : text = [92]
                  · obtain ⟨s1, s2⟩ := str_is ht92
                    have h92 : decide (text = [92]) = true := by simp [ht92]
                    have H92 := Lib.hid h92
                    clear ht92 h92
                    go_wp2_with fail
                    go_meet
                    exact ⟨by rw [HB.out, k7, k11, H92.out]; simp; (try rfl), rfl⟩
                  · obtain ⟨s1, s2⟩ := str_not ht92
                    have h92 : decide (text = [92]) = false := by simp [ht92]
                    have H92 := Lib.hid h92
                    clear ht92 h92
                    go_wp2_with fail
                    go_meet
                    exact ⟨by rw [HB.out, k7, k11, H92.out]; simp, rfl⟩
          case rest =>
            obtain ⟨rfl, rfl⟩ := hcut
            clear H7 HN
            cases b7 with
            | true =>
              have hfin : rightB l = false := by
                unfold rightB
                rw [hrun.out, HS.out]; simp
              have HB := Lib.hid hfin
              clear hfin HS hrun
              go_wp2
              go_ret
              exact ⟨ret_bool HB.out.symm, hbc'⟩
            | false =>
              have hnew : Hid (pairsB l = pairsB (l.drop (k + 1))) := by
                show _ = _
                rw [hrun.out, HS.out]; simp
              clear HS hrun
              go_wp2_with fail
              go_roundw
              case rel => exact ⟨k + 1, by omega, by go_num, hnew, hbc'⟩
              case measure => simp [intOf]; omega
    · obtain rfl : k = n := by omega
      have dk : decide ((k : Int) < (k : Int)) = false := by simp
      have hfin : rightB l = decide ((k : Int) ≤ 16384) := by
        unfold rightB
        rw [hrun.out, ← Hlen.out, List.drop_length]
        simp [pairsB]; omega
      have HB := Lib.hid hfin
      clear hfin hrun hlt hk
      go_wp2
      go_ret
      exact ⟨ret_bool HB.out.symm, hb⟩
end Go.Proofs.YtfhdihdafmahgaaGreatDoor
/- Layer 6: the program's Sound is walked. -/
set_option linter.unusedVariables false
set_option linter.unusedSimpArgs false
namespace Go.Proofs.YtfhdihdafmahgaaGreatDoor
open Go.RowKit Rn Tp Ru Go.Maps
/-- what a map of bools holds, as data -/
def boolR (v : Value) : Option (DataW Unit × List MemPlace) := match v with
  | .bool b => some (.lit (.bool b), [])
  | _ => none
theorem boolR_inv {v : Value} {z : DataW Unit × List MemPlace} (h : boolR v = some z) : ∃ b, v = .bool b ∧ z.1 = .lit (.bool b) := by
  unfold boolR at h
  split at h
  · rename_i b
    injection h with h
    exact ⟨b, rfl, by rw [← h]⟩
  · cases h
theorem ru_keys : Keyed Tryz.prog 3 := int_keyed Tryz.underlying3
theorem ru_zero_bool (w : World) : (zeroValue 4).run Tryz.prog w = .ok (.bool false) w := by kernel_rfl
/-- a block is a map of the places where brackets end, of the first so many tokens -/
def EndMap (w : World) (b : Nat) (l : List GTok) (k : Nat) : Prop :=
  ∃ D : DataW Unit, IsMap D ∧ (∀ z : Int, D.atKey (.int .i64 z) (.lit (.bool false)) = .lit (.bool (decide (∃ j, j < k ∧ endP l j = z)))) ∧ w.ownsMap Tryz.prog 3 boolR b k D
theorem EndMap.new (w : World) (l : List GTok) : EndMap (w.alloc (.map #[] 0)) w.heap.size l 0 :=
  ⟨.map [], isMap_empty, fun z => by
    have h0 : ¬ ∃ j, j < 0 ∧ endP l j = z := fun ⟨j, hj, _⟩ => absurd hj (Nat.not_lt_zero _)
    rw [decide_eq_false h0]; rfl, World.ownsMap_made _ _ _ _⟩
theorem EndMap.kept {w w' : World} {b : Nat} {l : List GTok} {k : Nat} (h : EndMap w b l k) {row : Option Nat} (hg : w.grownBy w' row) (hne : some b ≠ row) : EndMap w' b l k := by
  obtain ⟨D, h1, h2, h3⟩ := h
  exact ⟨D, h1, h2, h3.kept hg hne⟩
theorem EndMap.alloc {w : World} {b : Nat} {l : List GTok} {k : Nat} (h : EndMap w b l k) (o : Obj) : EndMap (w.alloc o) b l k := by
  obtain ⟨D, h1, h2, h3⟩ := h
  exact ⟨D, h1, h2, h3.alloc o⟩
theorem EndMap.drewN {w : World} {b : Nat} {l : List GTok} {k : Nat} (h : EndMap w b l k) (n : Nat) : EndMap (w.drewN n) b l k := h
theorem EndMap.put {w w' : World} {b : Nat} {l : List GTok} {k : Nat} {D : DataW Unit} (h1 : IsMap D) (h2 : ∀ z : Int, D.atKey (.int .i64 z) (.lit (.bool false)) = .lit (.bool (decide (∃ j, j < k ∧ endP l j = z))))
    (h3 : w'.ownsMap Tryz.prog 3 boolR b (k + 1) (D.put (.int .i64 (endP l k)) (.lit (.bool true)))) : EndMap w' b l (k + 1) := by
  refine ⟨_, h1.put _ _, fun z => ?_, h3⟩
  by_cases e : z = endP l k
  · subst e
    rw [atKey_put_same h1 (show WideAt.IsKeyLit (.int .i64 (endP l k)) from trivial)]
    have : decide (∃ j, j < k + 1 ∧ endP l j = endP l k) = true := decide_eq_true ⟨k, by omega, rfl⟩
    rw [this]
  · rw [atKey_put_other (by intro h; injection h with _ h; exact e h), h2 z]
    congr 2
    rw [Bool.eq_iff_iff]
    simp only [decide_eq_true_eq]
    constructor
    · rintro ⟨j, hj, hz⟩; exact ⟨j, by omega, hz⟩
    · rintro ⟨j, hj, hz⟩
      refine ⟨j, ?_, hz⟩
      rcases Nat.lt_or_ge j k with h | h
      · exact h
      · exact absurd (by rw [← hz, show j = k by omega]) e
theorem EndMap.look {w : World} {b : Nat} {l : List GTok} (h : EndMap w b l l.length) (z : Nat) (hz : z ≤ 1000000) : (Instr.lookup 98 (.map (some b)) (.int .i64 (z : Int)) false).run Tryz.prog w = .ok (.bool (closedB l z)) w := by
  obtain ⟨D, h1, h2, h3⟩ := h
  obtain ⟨v, ps, hrun, hv⟩ := h3.lookup ru_keys Tryz.underlying98 (ru_zero_bool w) (zd := .lit (.bool false)) (zp := []) rfl (keyOf_int_mk Tryz.underlying3 (WalkArith.wf_i64 (n := (z : Int)) ⟨by omega, by omega⟩))
  obtain ⟨x, rfl, hx⟩ := boolR_inv hv
  simp only [] at hx
  rw [h2] at hx
  simp only [DataW.lit.injEq, Lit.bool.injEq] at hx
  rw [hrun, ← hx]
  have : decide (∃ j, j < l.length ∧ endP l j = (z : Int)) = closedB l z := by unfold closedB; rfl
  rw [this]
theorem open_false {l : List GTok} {k : Nat} (hk : k < l.length) (h : endP l k = (l.length : Int)) : openB l = false := by
  unfold openB
  rw [List.all_eq_false]
  exact ⟨k, List.mem_range.2 hk, by simp [h]⟩
theorem open_true {l : List GTok} (h : ∀ k, k < l.length → endP l k ≠ (l.length : Int)) : openB l = true := by
  unfold openB
  rw [List.all_eq_true]
  intro k hk
  simpa using h k (List.mem_range.1 hk)
theorem sound_open {l : List GTok} (h : openB l = false) : soundP l = false := by unfold soundP; rw [h]; simp
theorem sound_all {l : List GTok} (h1 : rightB l = true) (h2 : deepB l = true) (h3 : openB l = true) (h4 : ∀ k, k < l.length → soundAt l k = true) : soundP l = true := by
  unfold soundP
  rw [h1, h2, h3, Bool.true_and, Bool.true_and, Bool.true_and, List.all_eq_true]
  exact fun k hk => h4 k (List.mem_range.1 hk)
theorem sound_at {l : List GTok} {k : Nat} (hk : k < l.length) (h : soundAt l k = false) : soundP l = false := by
  have : (List.range l.length).all (soundAt l) = false := by
    rw [List.all_eq_false]
    exact ⟨k, List.mem_range.2 hk, by rw [h]; decide⟩
  unfold soundP
  rw [this, Bool.and_false]
def badAt (l : List GTok) (t : GTok) (k : Nat) : Bool := barB t || (decide (t.kind = 13) && !closedB l k)
theorem sound_bad {l : List GTok} {k : Nat} {t : GTok} (h : l[k]? = some t) : soundAt l k = !badAt l t k := by
  unfold soundAt badAt
  rw [h]
  simp
theorem end_range (l : List GTok) (k : Nat) : -1 ≤ endP l k ∧ endP l k ≤ (l.length : Int) := by
  rcases end_cases l k with h | ⟨e, h, h1, h2⟩
  · omega
  · omega
set_option maxRecDepth 100000 in
set_option maxHeartbeats 8000000 in
theorem ru_sound (l : List GTok) (A : Option Addr) (n c : Nat) (w : World) (hr : ReadsS w (· < w.heap.size) 3 A n (cellsG l)) (hn : n ≤ 1000000) (hs : ∀ t ∈ l, smallT t) (hT : Tabs w) :
    Calls Tryz.prog 31 #[.slice A n c] w fun e w' => e = .returned (.bool (soundP l)) ∧ Below w.heap.size w w' := by
  have hlen : l.length = n := hr.toks_len
  have Hlen := Lib.hid hlen
  have hmm := @run_makeMap Tryz.prog
  have hRt := tp_rights l A n c w ⟨hr, hs, hn⟩ hT
  clear hlen
  go_enter Tryz.func31, Tryz.ntmps31
  go_wp2_with fail
  refine hRt.mono ?_
  rintro e w1 ⟨rfl, hb1⟩
  cases hri : rightB l with
  | false =>
    have hf : soundP l = false := by unfold soundP; rw [hri]; simp
    have HF := Lib.hid hf
    clear hf hri hRt
    go_wp2_with fail
    go_ret
    exact ⟨ret_bool HF.out.symm, hb1⟩
  | true =>
    have hr1 := hr.below hb1
    have Hri := Lib.hid hri
    clear hri hRt
    go_wp2_with fail
    refine (nest_ends l A n c w1 hr1 hn).mono ?_
    rintro e w2 ⟨hb2, hret⟩
    have hB2 : Below w.heap.size w w2 := hb1.trans (hb2.mono hb1.size)
    unfold EndsRet at hret
    cases hd : deepB l with
    | false =>
      rw [hd, if_neg (by decide)] at hret
      subst hret
      have hf : soundP l = false := by unfold soundP; rw [hd]; simp
      have HF := Lib.hid hf
      clear hf hd
      go_wp2_with fail
      go_ret
      exact ⟨ret_bool HF.out.symm, hB2⟩
    | true =>
      rw [hd, if_pos rfl] at hret
      obtain ⟨rfl, he2, hlt2⟩ := hret
      have Hd := Lib.hid hd
      have hs1 := hb1.size
      have hs2 := hb2.size
      clear hd
      go_wp2_with fail
      have hM0 := EndMap.new w2 l
      have hbA : Below w.heap.size w (w2.alloc (.map #[] 0)) := hB2.alloc (Nat.le_trans hs1 hs2) _
      have heA : EndsS (w2.alloc (.map #[] 0)) (fun b => b = w1.heap.size) (some ⟨w1.heap.size, 0, none⟩) n l := he2.keep (Kept.of_alloc _ (fun b hb => by rw [hb]; exact hlt2))
      go_loopw [23] (fun i wr => ∃ k : Nat, k ≤ n ∧ i = .int .i64 (k : Int) ∧ Hid (∀ j, j < k → endP l j ≠ (n : Int)) ∧ EndMap wr w2.heap.size l k ∧ Below w.heap.size w wr ∧ EndsS wr (fun b => b = w1.heap.size) (some ⟨w1.heap.size, 0, none⟩) n l ∧ w2.heap.size < wr.heap.size) (fun i _ => n - (intOf i).toNat)
      case atStart => exact ⟨0, Nat.zero_le _, rfl, (by show ∀ j, j < 0 → _; intro j hj; omega), hM0, hbA, heA, by simp⟩
      case round =>
        obtain ⟨k, hk, rfl, hno, hM, hb, he, hgt⟩ := hrel
        by_cases hlt : k < n
        · obtain ⟨b, off, hA, hbk, hc⟩ := he.at_ hlt
          injection hA with hA
          injection hA with e1 e2
          subst e1 e2
          have hrg := end_range l k
          have dk : decide ((k : Int) < (n : Int)) = true := by simp; omega
          have dk' : (k : Int) < (n : Int) := by omega
          rw [Nat.zero_add] at hc
          obtain ⟨E, hE⟩ : ∃ E, endP l k = E := ⟨_, rfl⟩
          rw [hE] at hc hrg
          by_cases heq : E = (n : Int)
          · have hf : soundP l = false := sound_open (open_false (k := k) (by rw [Hlen.out]; exact hlt) (by rw [hE, heq, Hlen.out]))
            have HF := Lib.hid hf
            have dE : (E == (n : Int)) = true := by simpa using heq
            clear hf hE heq
            go_wp2_with fail
            go_ret
            exact ⟨ret_bool HF.out.symm, hb⟩
          · have dE : (E == (n : Int)) = false := by simpa using heq
            have hnew : Hid (∀ j, j < k + 1 → endP l j ≠ (n : Int)) := by
              show ∀ j, _ → _
              intro j hj
              rcases Nat.lt_or_ge j k with h | h
              · exact hno.out j h
              · rw [show j = k by omega, hE]; exact heq
            obtain ⟨D, hD1, hD2, hD3⟩ := hM
            have hkey : keyOf Tryz.prog 3 (.int .i64 E) = some (.int .i64 E) := keyOf_int_mk Tryz.underlying3 (WalkArith.wf_i64 (n := E) ⟨by omega, by have := Hlen.out; omega⟩)
            have HE := Lib.hid hE
            have HD2 := Lib.hid hD2
            clear hE heq hno hD2
            go_wp2_with (at_mapUpdate; refine wpList_mapUpdate_own _ rfl _ _ _ 98 rfl 3 4 ru_keys Tryz.underlying98 boolR w2.heap.size k D rfl hD3 (by unfold maxLen; omega) _ _ _ rfl rfl hkey (.lit (.bool true)) [] rfl ?_)
            intro w4 hown4 hg4
            have hM4 : EndMap w4 w2.heap.size l (k + 1) := EndMap.put (w := wr) hD1 HD2.out (by rw [HE.out]; exact hown4)
            have hb4 : Below w.heap.size w w4 := hb.grown hg4 (Nat.le_trans hs1 (Nat.le_trans hs2 (Nat.le_of_lt hgt))) (fun j hj => by cases hj; exact Nat.le_trans hs1 hs2)
            have he4 := he.keep (Kept.of_grown hg4 (fun b hb => by rw [hb]; exact ⟨by omega, by intro e; injection e with e; omega⟩))
            have hgt4 := Nat.lt_of_lt_of_le hgt hg4.size
            clear hown4 hD3 hM0 hbA heA hkey
            go_wp2_with fail
            go_roundw
            case rel => exact ⟨k + 1, by omega, by go_num, hnew, hM4, hb4, he4, hgt4⟩
            case measure => simp [intOf]; omega
        · obtain rfl : k = n := by omega
          have dk : decide ((k : Int) < (k : Int)) = false := by simp
          have hop : openB l = true := open_true (fun j hj => by rw [Hlen.out]; exact hno.out j (by rw [Hlen.out] at hj; exact hj))
          have Hop := Lib.hid hop
          have hMf : EndMap wr w2.heap.size l l.length := by rw [Hlen.out]; exact hM
          have hrr := hr.keep (Kept.of_below hb (fun b h => h))
          clear hop hno hM hM0 hbA heA he he2
          go_wp2_with fail
          go_loopw [36] (fun i wx => ∃ k' : Nat, k' ≤ k ∧ i = .int .i64 (k' : Int) ∧ Hid (∀ j, j < k' → soundAt l j = true) ∧ EndMap wx w2.heap.size l l.length ∧ Below w.heap.size w wx) (fun i _ => k - (intOf i).toNat)
          case atStart => exact ⟨0, Nat.zero_le _, rfl, (by show ∀ j, j < 0 → _; intro j hj; omega), hMf, hb⟩
          case round =>
            obtain ⟨i, hi, rfl, hall, hM, hbx⟩ := hrel
            by_cases hlt : i < k
            · obtain ⟨b, off, t, hA, hbw, ht, c0, c1, c2⟩ := hr.tok hlt
              subst hA
              have dk : decide ((i : Int) < (k : Int)) = true := by simp; omega
              have dk' : (i : Int) < (k : Int) := by omega
              obtain ⟨WA, hWA⟩ : ∃ WA, wr.alloc (.cells #[.int .i64 t.kind, .string (bytesOf t.text), .int .i64 t.n] 58) = WA := ⟨_, rfl⟩
              have bA : Below wr.heap.size wr WA := by rw [← hWA]; exact (Below.refl _ _).alloc (Nat.le_refl _) _
              have rA : RowAt WA wr.heap.size [.int .i64 t.kind, .string (bytesOf t.text), .int .i64 t.n] := by rw [← hWA]; exact RowAt.new _ _ _
              have hMA : EndMap WA w2.heap.size l l.length := by rw [← hWA]; exact hM.alloc _
              have hlk := hMA.look i (by omega)
              have hBA := hbx.trans (bA.mono hbx.size)
              replace c0 := (hbx.cell (p := ⟨b, off + i * 3, none⟩) hbw).trans c0
              replace c1 := (hbx.cell (p := ⟨b, off + i * 3 + 1, none⟩) hbw).trans c1
              replace c2 := (hbx.cell (p := ⟨b, off + i * 3 + 2, none⟩) hbw).trans c2
              obtain ⟨a0, _⟩ := rA.2 0 _ rfl
              obtain ⟨a1, _⟩ := rA.2 1 _ rfl
              obtain ⟨a2, _⟩ := rA.2 2 _ rfl
              have hsb := sound_bad ht
              obtain ⟨q, hq⟩ : ∃ q, badAt l t i = q := ⟨_, rfl⟩
              rw [hq] at hsb
              obtain ⟨cl, hcl⟩ : ∃ cl, closedB l i = cl := ⟨_, rfl⟩
              rw [hcl] at hlk
              have hqe : q = ((t.kind == 7) || ((t.kind == 11) && decide (t.text = [92])) || ((t.kind == 13) && !cl)) := by
                rw [← hq]; unfold badAt barB; rw [hcl]
                rw [Bool.eq_iff_iff]; simp
              have HQ := Lib.hid hqe
              have HSB := Lib.hid hsb
              have Ht := Lib.hid ht
              obtain ⟨kind, text, num⟩ := t
              simp only [] at *
              have HM5 := Lib.hid hMA
              clear hq hqe hsb hcl ht hM hMf rA hMA
              go_upto_region 17 with (fail)
              go_cut [64] (fun x wz => x = .bool q ∧ WA = wz)
              case first =>
                have hun : (undef : Value) = .tuple #[] := rfl
                cases k7 : (kind == 7) with
                | true =>
                  have e : q = true := by rw [HQ.out, k7]; rfl
                  have HE := Lib.hid e
                  clear e
                  go_wp2_with fail
                  go_meet
                  exact ⟨by rw [HE.out], rfl⟩
                | false =>
                  cases k11 : (kind == 11) with
                  | true =>
                    have k13 : (kind == 13) = false := by
                      have := of_decide_eq_true (p := kind = 11) (by simpa using k11)
                      subst this; rfl
                    by_cases ht92 : text = [92]
                    · obtain ⟨s1, s2⟩ := txt_is ht92
                      have e : q = true := by rw [HQ.out, k7, k11, ht92]; rfl
                      have HE := Lib.hid e
                      clear e ht92
                      go_wp2_with fail
                      go_meet
                      exact ⟨by rw [HE.out], rfl⟩
                    · obtain ⟨s1, s2⟩ := txt_not ht92
                      have e : q = false := by rw [HQ.out, k7, k11, k13, decide_eq_false ht92]; rfl
                      have HE := Lib.hid e
                      clear e ht92
                      go_wp2_with fail
                      go_meet
                      exact ⟨by rw [HE.out], rfl⟩
                  | false =>
                    cases k13 : (kind == 13) with
                    | true =>
                      have e : q = !cl := by rw [HQ.out, k7, k11, k13]; cases cl <;> rfl
                      have HE := Lib.hid e
                      clear e
                      go_wp2_with fail
                      go_meet
                      exact ⟨by rw [HE.out], rfl⟩
                    | false =>
                      have e : q = false := by rw [HQ.out, k7, k11, k13]; rfl
                      have HE := Lib.hid e
                      clear e
                      go_wp2_with fail
                      go_meet
                      exact ⟨by rw [HE.out], rfl⟩
              case rest =>
                obtain ⟨rfl, rfl⟩ := hcut
                cases q with
                | true =>
                  have hf : soundP l = false := sound_at (k := i) (by rw [Hlen.out]; exact hlt) (by rw [HSB.out]; rfl)
                  have HF := Lib.hid hf
                  clear hf
                  go_wp2_with fail
                  go_ret
                  exact ⟨ret_bool HF.out.symm, hBA⟩
                | false =>
                  have hnew : Hid (∀ j, j < i + 1 → soundAt l j = true) := by
                    show ∀ j, _ → _
                    intro j hj
                    rcases Nat.lt_or_ge j i with h | h
                    · exact hall.out j h
                    · rw [show j = i by omega, HSB.out]; rfl
                  have hM5 := HM5.out
                  clear hall
                  go_wp2_with fail
                  go_roundw
                  case rel => exact ⟨i + 1, by omega, by go_num, hnew, hM5, hBA⟩
                  case measure => simp [intOf]; omega
            · obtain rfl : i = k := by omega
              have dk : decide ((i : Int) < (i : Int)) = false := by simp
              have hf : soundP l = true := sound_all Hri.out Hd.out Hop.out (fun j hj => hall.out j (by rw [Hlen.out] at hj; exact hj))
              have HF := Lib.hid hf
              clear hf hall
              go_wp2_with fail
              go_ret
              exact ⟨ret_bool HF.out.symm, hbx⟩
end Go.Proofs.YtfhdihdafmahgaaGreatDoor
/- Layer 6: what stands ahead of a value's end. Plain laws. -/
set_option linter.unusedVariables false
set_option linter.unusedSimpArgs false
namespace Go.Proofs.YtfhdihdafmahgaaGreatDoor
open Go.RowKit Rn Tp Ru
theorem seg_all (l : List GTok) : segP l 0 l.length = l := by unfold segP; simp
theorem seg_split (l : List GTok) {k j z : Nat} (h1 : k ≤ j) (h2 : j ≤ z) : segP l k z = segP l k j ++ segP l j z := by
  unfold segP
  have : l.take z = l.take j ++ (l.drop j).take (z - j) := by rw [← List.take_add, show j + (z - j) = z by omega]
  have h3 : (l.take z).drop j = (l.drop j).take (z - j) := by rw [List.drop_take]
  rw [h3]
  by_cases hl : k ≤ l.length
  · rw [this, List.drop_append_of_le_length (by rw [List.length_take]; omega)]
  · rw [List.drop_of_length_le (by rw [List.length_take]; omega), List.drop_of_length_le (by rw [List.length_take]; omega), List.drop_of_length_le (by omega), List.take_nil]; rfl
theorem seg_length (l : List GTok) (k z : Nat) : (segP l k z).length = min z l.length - k := by unfold segP; simp
theorem seg_last {l : List GTok} {z : Nat} {t : GTok} (ht : l[z]? = some t) : (segP l 0 (z + 1)).reverse = t :: (segP l 0 z).reverse := by
  have hl := (List.getElem?_eq_some_iff.1 ht).1
  unfold segP
  rw [List.take_add_one, ht, Option.toList_some, List.drop_zero, List.drop_zero, List.reverse_append]; rfl
theorem dropS_app (a b : List GTok) : dropS (a ++ b) = if dropS a = [] then dropS b else dropS a ++ b := by
  unfold dropS
  rw [List.dropWhile_append]
  cases h : List.dropWhile isSp a with
  | nil => simp
  | cons t l => simp
theorem dropS_none {a : List GTok} (h : ∀ t ∈ a, t.kind = 1) : dropS a = [] := by
  induction a with
  | nil => rfl
  | cons t l ih =>
    unfold dropS
    rw [List.dropWhile_cons_of_pos (by simp [isSp, h t (by simp)])]
    exact ih (fun x hx => h x (by simp [hx]))
theorem dropS_nil {a : List GTok} (h : dropS a = []) : ∀ t ∈ a, t.kind = 1 := by
  induction a with
  | nil => intro t ht; cases ht
  | cons t l ih =>
    unfold dropS at h
    by_cases h1 : t.kind = 1
    · rw [List.dropWhile_cons_of_pos (by simp [isSp, h1])] at h
      intro x hx
      rcases List.mem_cons.1 hx with rfl | hx
      · exact h1
      · exact ih h x hx
    · rw [List.dropWhile_cons_of_neg (by simp [isSp, h1])] at h; cases h
theorem dropS_first {a : List GTok} {t : GTok} {r : List GTok} (h : dropS a = t :: r) : t.kind ≠ 1 := by
  intro h1
  have h2 := dropS_head (l := dropS a) (by unfold dropS; induction a with
    | nil => rfl
    | cons x l ih =>
      by_cases hx : isSp x = true
      · rw [List.dropWhile_cons_of_pos hx]; exact ih (by unfold dropS at h; rw [List.dropWhile_cons_of_pos hx] at h; exact h)
      · rw [List.dropWhile_cons_of_neg hx, List.dropWhile_cons_of_neg hx])
  rw [h] at h2
  exact h2 t rfl h1
theorem rev_parts {l : List GTok} {z j i : Nat} (hz : z ≤ l.length) (hji : j ≤ i) (hiz : i ≤ z) (h1 : dropS (segP l 0 z) = segP l j z) (h2 : trimL (segP l 0 z) = segP l j i) :
    (j < i ∧ dropS (segP l 0 z).reverse = (segP l 0 i).reverse) ∨ (i = z ∧ dropS (segP l 0 z).reverse = [] ∧ ∀ t ∈ segP l 0 z, t.kind = 1) := by
  have hs := seg_split l (k := 0) (j := j) (z := z) (by omega) (by omega)
  have ht : (segP l 0 z).takeWhile isSp = segP l 0 j := by
    have h3 : (segP l 0 z).takeWhile isSp ++ dropS (segP l 0 z) = segP l 0 z := List.takeWhile_append_dropWhile
    rw [h1] at h3
    exact List.append_cancel_right (h3.trans hs)
  have hsp : ∀ t ∈ segP l 0 j, t.kind = 1 := fun t hm => by
    rw [← ht] at hm
    have := List.all_takeWhile (p := isSp) (l := segP l 0 z)
    rw [List.all_eq_true] at this
    simpa [isSp] using this t hm
  have hr : dropS (segP l j z).reverse = (segP l j i).reverse := by
    have : rtrim (segP l j z) = segP l j i := by rw [← h2]; unfold trimL; rw [h1]
    unfold rtrim at this
    rw [← this, List.reverse_reverse]
  have hrev : (segP l 0 z).reverse = (segP l j z).reverse ++ (segP l 0 j).reverse := by rw [hs, List.reverse_append]
  by_cases hlt : j < i
  · left
    refine ⟨hlt, ?_⟩
    rw [hrev, dropS_app, hr, if_neg, ← List.reverse_append, ← seg_split l (by omega) hji]
    intro e
    have := congrArg List.length e
    rw [List.length_reverse, seg_length] at this
    simp at this; omega
  · right
    have hij : i = j := by omega
    have hz0 : segP l j z = [] := by
      cases hx : segP l j z with
      | nil => rfl
      | cons t r =>
        have hn := dropS_first (h1.trans hx)
        have h4 : dropS (segP l j z).reverse = [] := by rw [hr, hij]; unfold segP; simp
        exact absurd (dropS_nil h4 t (by rw [hx]; simp)) hn
    have hjz : j = z := by
      have := congrArg List.length hz0
      rw [seg_length] at this
      simp at this; omega
    subst hjz
    exact ⟨by omega, dropS_none (fun t ht => hsp t (by simpa using ht)), hsp⟩
theorem imp_nil : importantP [] = none := rfl
theorem imp_not {v : List GTok} {n : Nat} {t : GTok} (hn : v.length = n + 1) (ht : v[n]? = some t) (h : namedB t 2 importantS = false) : importantP v = none := by
  have hr : v.reverse = t :: (segP v 0 n).reverse := by
    have := seg_last ht
    rw [← hn, seg_all] at this; exact this
  unfold importantP
  rw [hr]
  simp only [h]; rfl
/-- how a value that bears the word is read -/
theorem imp_yes {v : List GTok} {n : Nat} {t : GTok} (hn : v.length = n + 1) (ht : v[n]? = some t) (h : namedB t 2 importantS = true) {j i : Nat} (hji : j ≤ i) (hiz : i ≤ n) (h1 : dropS (segP v 0 n) = segP v j n) (h2 : trimL (segP v 0 n) = segP v j i) :
    (importantP v = none ∧ ∀ u, i ≠ 0 → v[i - 1]? = some u → u.kind = 1) ∨ ∃ u, 0 < i ∧ v[i - 1]? = some u ∧ importantP v = if u.kind = 11 ∧ u.text = [33] then some (dropS (segP v 0 (i - 1)).reverse).reverse else none := by
  have hr : v.reverse = t :: (segP v 0 n).reverse := by
    have := seg_last ht
    rw [← hn, seg_all] at this; exact this
  rcases rev_parts (by omega) hji hiz h1 h2 with ⟨hlt, hd⟩ | ⟨rfl, hd, hall⟩
  · right
    obtain ⟨u, hu⟩ : ∃ u, v[i - 1]? = some u := ⟨_, List.getElem?_eq_getElem (by omega)⟩
    refine ⟨u, by omega, hu, ?_⟩
    have hl := seg_last hu
    rw [show i - 1 + 1 = i by omega] at hl
    unfold importantP
    rw [hr]
    simp only [h, if_true]
    rw [hd, hl]
  · left
    refine ⟨?_, fun u hi hu => hall u ?_⟩
    · unfold importantP
      rw [hr]
      simp only [h, if_true]
      rw [hd]
    · have := seg_last hu
      rw [show i - 1 + 1 = i by omega] at this
      rw [← List.mem_reverse, this]; simp
/-- the value ahead of it -/
theorem imp_value {v : List GTok} {m j i : Nat} (hm : m ≤ v.length) (hji : j ≤ i) (hiz : i ≤ m) (h1 : dropS (segP v 0 m) = segP v j m) (h2 : trimL (segP v 0 m) = segP v j i) (hv : ∀ t ∈ v.head?, t.kind ≠ 1) :
    (dropS (segP v 0 m).reverse).reverse = segP v 0 i := by
  rcases rev_parts hm hji hiz h1 h2 with ⟨hlt, hd⟩ | ⟨rfl, hd, hall⟩
  · rw [hd, List.reverse_reverse]
  · rw [hd]
    cases v with
    | nil => simp [segP]
    | cons x v =>
      have hx := hv x rfl
      cases i with
      | zero => simp [segP]
      | succ i => exact absurd (hall x (by simp [segP])) hx
theorem seg_mem {l : List GTok} {k z : Nat} {t : GTok} (h : t ∈ segP l k z) : t ∈ l := List.mem_of_mem_take (List.mem_of_mem_drop h)
theorem dropS_mem {l : List GTok} {t : GTok} (h : t ∈ dropS l) : t ∈ l := (List.dropWhile_suffix _).subset h
theorem trim_mem {l : List GTok} {t : GTok} (h : t ∈ trimL l) : t ∈ l := by
  unfold trimL rtrim at h
  have h1 := dropS_mem (List.mem_reverse.1 h)
  exact dropS_mem (List.mem_reverse.1 h1)
theorem rtrim_head {l : List GTok} {t : GTok} {r : List GTok} (h : l = t :: r) (ht : t.kind ≠ 1) : ∀ u ∈ (rtrim l).head?, u.kind ≠ 1 := by
  subst h
  intro u hu
  unfold rtrim at hu
  rw [List.reverse_cons, dropS_app] at hu
  split at hu
  · have : dropS [t] = [t] := by unfold dropS; rw [List.dropWhile_cons_of_neg (by simp [isSp, ht])]
    rw [this] at hu
    simp at hu; subst hu; exact ht
  · rw [List.reverse_append] at hu
    simp at hu; subst hu; exact ht
/-- what is trimmed begins with no Space -/
theorem trim_head (l : List GTok) : ∀ u ∈ (trimL l).head?, u.kind ≠ 1 := by
  unfold trimL
  cases h : dropS l with
  | nil => intro u hu; simp [rtrim, dropS] at hu
  | cons t r => exact rtrim_head rfl (dropS_first h)
end Go.Proofs.YtfhdihdafmahgaaGreatDoor
/- Layer 6: the program's important is walked. -/
set_option linter.unusedVariables false
set_option linter.unusedSimpArgs false
namespace Go.Proofs.YtfhdihdafmahgaaGreatDoor
open Go.RowKit Rn Tp Ru
def ImpRet (v : List GTok) (S : Nat → Prop) (w : World) (e : Ending) (w' : World) : Prop :=
  ∃ (y : List GTok) (b : Bool) (A' : Option Addr) (c' : Nat), e = .returned (.tuple #[.slice A' y.length c', .bool b]) ∧ ReadsS w S 3 A' y.length (cellsG y) ∧ y.length ≤ c' ∧ y.length ≤ v.length ∧ b = (importantP v).isSome ∧ (b = false → y = v)
    ∧ (b = true → (∀ t ∈ v.head?, t.kind ≠ 1) → importantP v = some y) ∧ (∀ t ∈ y, t ∈ v) ∧ Below w.heap.size w w'
theorem ru_tok_elem : Tryz.prog.elem 32 = 58 := by kernel_rfl
theorem ru_tok_size (W : World) : (sizeOf 58).run Tryz.prog W = .ok 3 W := by
  obtain ⟨hi0, hi, hz0, hz1, hz2⟩ := info_take ru_tok_info
  simp [sizeOf, typeInfo, hi, hz1]
theorem run_to {P : Program} {T e s : Nat} (ht : P.underlying T = some (.slice e)) (hel : P.elem T = e) (hs : ∀ W, (sizeOf e).run P W = .ok s W) (A : Option Addr) (n c : Nat) (kd : IntKind) (b : Nat) (hb : b ≤ c) (W : World) :
    (Instr.slice T (.slice A n c) none (some (.int kd (b : Int))) none).run P W = .ok (.slice (cutAt A c 0 s) b c) W := by
  rw [run_slice_h W T A n c (by rw [hel]; exact ht) kd (b : Int) (by omega) (by omega), hel, hs]
  simp [sliced, cutAt]
set_option maxRecDepth 100000 in
set_option maxHeartbeats 4000000 in
theorem ru_important (v : List GTok) (S : Nat → Prop) (A : Option Addr) (n c : Nat) (w : World) (h : ReadsS w S 3 A n (cellsG v)) (hS : ∀ b, S b → b < w.heap.size) (hn : n ≤ 1000000) (hc : n ≤ c) (hs : ∀ t ∈ v, smallT t) :
    Calls Tryz.prog 94 #[.slice A n c] w (ImpRet v S w) := by
  have hlen := h.toks_len
  have Hlen := Lib.hid hlen
  by_cases hn0 : n = 0
  · have hv : v = [] := List.eq_nil_of_length_eq_zero (by omega)
    have Hv := Lib.hid hv
    subst hn0
    clear hv hlen
    go_enter Tryz.func94, Tryz.ntmps94
    go_wp2_with fail
    go_ret2
    refine ⟨v, false, A, c, ?_, ?_, ?_, Nat.le_refl _, ?_, fun _ => rfl, (fun e => by cases e), fun t ht => ht, Below.refl _ _⟩
    · rw [Hlen.out]; rfl
    · rw [Hlen.out]; exact h
    · rw [Hlen.out]; omega
    · rw [Hv.out]; rfl
  · obtain ⟨m, rfl⟩ : ∃ m, n = m + 1 := ⟨n - 1, by omega⟩
    obtain ⟨b, off, t, rfl, hb, ht, c0, c1, c2⟩ := h.tok (k := m) (by omega)
    have hst := hs t (List.mem_of_getElem? ht)
    have cN := fun W : World => ru_named t 2 importantS W hst.1
    have d0 : (((m + 1 : Nat) : Int) == 0) = false := by simp; omega
    have w1' : IntKind.i64.wrap (((m + 1 : Nat) : Int) - 1) = (m : Int) := by rw [IntKind.wrap_i64]; omega
    have d1 : (m : Int) < ((m + 1 : Nat) : Int) := by omega
    have d2 : (0 : Int) ≤ (m : Int) := by omega
    obtain ⟨q, hq⟩ : ∃ q, namedB t 2 importantS = q := ⟨_, rfl⟩
    simp only [hq] at cN
    rw [show bytesOf importantS = ⟨#[105, 109, 112, 111, 114, 116, 97, 110, 116]⟩ from rfl] at cN
    have hsame : ∀ (w' : World), Below w.heap.size w w' → importantP v = none → ImpRet v S w (.returned (.tuple #[.slice (some ⟨b, off, none⟩) (m + 1) c, .bool false])) w' := fun w' hb' hi =>
      ⟨v, false, some ⟨b, off, none⟩, c, by rw [hlen], by rw [hlen]; exact h, by omega, Nat.le_refl _, by rw [hi]; rfl, fun _ => rfl, (fun e => by cases e), fun t ht => ht, hb'⟩
    have Hq := Lib.hid hq
    have Ht := Lib.hid ht
    clear hq ht hlen hn0
    go_enter Tryz.func94, Tryz.ntmps94
    go_wp2_with fail
    refine (cN _).mono ?_
    rintro e w1 ⟨rfl, hb1⟩
    cases q with
    | false =>
      have hf := hsame w1 hb1 (imp_not Hlen.out Ht.out Hq.out)
      have HF := Lib.hid hf
      clear hsame hf cN
      go_wp2_with fail
      go_ret2
      exact HF.out
    | true =>
      have h1' := h.keep (Kept.of_below hb1 hS)
      have h1 : ReadsS w1 (· < w1.heap.size) 3 (some ⟨b, off, none⟩) (m + 1) (cellsG v) := h1'.more (fun b hb => Nat.lt_of_lt_of_le (hS b hb) hb1.size)
      go_wp2_with fail
      refine (nest_trim v _ _ (m + 1) c 0 m w1 h1 hn (Nat.zero_le _) (by omega)).mono ?_
      rintro e w2 ⟨⟨j, i, rfl, _, hji, hiz, hd1, hd2⟩, rfl⟩
      have hcase := imp_yes Hlen.out Ht.out Hq.out hji hiz hd1 hd2
      clear cN hd1 hd2 h1'
      have hl1 := Hlen.out
      obtain ⟨g, hg⟩ : ∃ g : Bool, (g = true ∧ importantP v = none ∧ (i = 0 ∨ ∃ u, 0 < i ∧ v[i - 1]? = some u ∧ ¬ (u.kind = 11 ∧ u.text = [33]))) ∨ (g = false ∧ ∃ u, 0 < i ∧ v[i - 1]? = some u ∧ u.kind = 11 ∧ u.text = [33] ∧ importantP v = some (dropS (segP v 0 (i - 1)).reverse).reverse) := by
        rcases hcase with ⟨e1, e2⟩ | ⟨u, e0, e1, e2⟩
        · refine ⟨true, .inl ⟨rfl, e1, ?_⟩⟩
          by_cases hi0 : i = 0
          · exact .inl hi0
          · right
            obtain ⟨u, hu⟩ : ∃ u, v[i - 1]? = some u := ⟨_, List.getElem?_eq_getElem (by omega)⟩
            exact ⟨u, by omega, hu, by have := e2 u hi0 hu; omega⟩
        · by_cases hk : u.kind = 11 ∧ u.text = [33]
          · rw [if_pos hk] at e2
            exact ⟨false, .inr ⟨rfl, u, e0, e1, hk.1, hk.2, e2⟩⟩
          · rw [if_neg hk] at e2
            exact ⟨true, .inl ⟨rfl, e2, .inr ⟨u, e0, e1, hk⟩⟩⟩
      have HG := Lib.hid hg
      clear hg hcase hl1
      go_upto_region 5 with (fail)
      go_cut [47] (fun x wx => x = .bool g ∧ w2 = wx)
      case first =>
        have hun : (undef : Value) = .tuple #[] := rfl
        have tok : ∀ u, 0 < i → v[i - 1]? = some u → w2.cell? ⟨b, off + (i - 1) * 3, none⟩ = some (.int .i64 u.kind) ∧ w2.cell? ⟨b, off + (i - 1) * 3 + 1, none⟩ = some (.string (bytesOf u.text)) := fun u hi0 hu => by
          obtain ⟨b', off', u', hA, _, hu', d0, d1, _⟩ := h1.tok (k := i - 1) (by omega)
          injection hA with hA
          injection hA with q1 q2
          subst q1 q2
          rw [hu] at hu'
          injection hu' with hu'
          subst hu'
          exact ⟨d0, d1⟩
        have dw : IntKind.i64.wrap ((i : Int) - 1) = (i : Int) - 1 := by rw [IntKind.wrap_i64]; omega
        rcases HG.out with ⟨rfl, _, hi0 | ⟨u, hi0, hu, hno⟩⟩ | ⟨rfl, u, hi0, hu, hk1, hk2, _⟩
        · have di : ((i : Int) == 0) = true := by simp; omega
          clear tok HG hi0
          go_wp2_with fail
          go_meet
          exact ⟨rfl, rfl⟩
        · obtain ⟨e0, e1⟩ := tok u hi0 hu
          have di : ((i : Int) == 0) = false := by simp; omega
          have dn : ((i : Int) - 1).toNat = i - 1 := by omega
          have dp : (0 : Int) ≤ (i : Int) - 1 := by omega
          have dq : (i : Int) - 1 < ((m + 1 : Nat) : Int) := by omega
          by_cases hk : u.kind = 11
          · have ht : u.text ≠ [33] := fun e => hno ⟨hk, e⟩
            obtain ⟨s1, s2⟩ := txt_not ht
            rw [hk] at e0
            have s3 : (!((bytesOf u.text).toList == [33])) = true := by rw [s2]; rfl
            clear tok HG hu hno hk ht
            go_wp2_with fail
            go_meet
            exact ⟨rfl, rfl⟩
          · have k1 : (u.kind == 11) = false := by simpa using hk
            have k2 : (u.kind != 11) = true := by simp [hk]
            clear tok HG hu hno hk
            go_wp2_with fail
            go_meet
            exact ⟨rfl, rfl⟩
        · obtain ⟨e0, e1⟩ := tok u hi0 hu
          have di : ((i : Int) == 0) = false := by simp; omega
          have dn : ((i : Int) - 1).toNat = i - 1 := by omega
          have dp : (0 : Int) ≤ (i : Int) - 1 := by omega
          have dq : (i : Int) - 1 < ((m + 1 : Nat) : Int) := by omega
          obtain ⟨s1, s2⟩ := txt_is hk2
          rw [hk1] at e0
          clear tok HG hu hk1 hk2
          go_wp2_with fail
          go_meet
          exact ⟨rfl, rfl⟩
      case rest =>
        obtain ⟨rfl, rfl⟩ := hcut
        rcases HG.out with ⟨rfl, hno, _⟩ | ⟨rfl, u, hi0, hu, hk1, hk2, hyes⟩
        · have hf := hsame _ hb1 hno
          have HF := Lib.hid hf
          clear hsame hf HG hno
          go_wp2_with fail
          go_ret2
          exact HF.out
        · have hl1 := Hlen.out
          obtain ⟨i1, hi1⟩ : ∃ i1, i = i1 + 1 := ⟨i - 1, by omega⟩
          subst hi1
          have dw : IntKind.i64.wrap (((i1 + 1 : Nat) : Int) - 1) = (i1 : Int) := by rw [IntKind.wrap_i64]; omega
          rw [Nat.add_sub_cancel] at hyes hu
          have Hyes := Lib.hid hyes
          clear hsame HG hyes hu hk1 hk2 hl1
          go_wp2_with fail
          refine (nest_trim v _ _ (m + 1) c 0 i1 _ h1 hn (Nat.zero_le _) (by omega)).mono ?_
          rintro e w3 ⟨⟨j', i', rfl, _, hji', hiz', hd1, hd2⟩, rfl⟩
          have hval := fun hv => imp_value (v := v) (m := i1) (by rw [Hlen.out]; omega) hji' hiz' hd1 hd2 hv
          have hp := fun W => run_to (P := Tryz.prog) Tryz.underlying32 ru_tok_elem ru_tok_size (some ⟨b, off, none⟩) (m + 1) c .i64 i' (by omega) W
          have hR := h.seg (c := c) (k := 0) (z := i') (Nat.zero_le _) (by omega) hc
          rw [Nat.sub_zero] at hR
          have hsl : (segP v 0 i').length = i' := by rw [seg_length, Hlen.out]; omega
          have HV : Hid ((∀ t ∈ v.head?, t.kind ≠ 1) → importantP v = some (segP v 0 i')) := fun hv => by rw [Hyes.out, hval hv]
          have HS := Lib.hid hsl
          clear hd1 hd2 hval hsl
          go_wp2_with fail
          go_ret2
          refine ⟨segP v 0 i', true, cutAt (some ⟨b, off, none⟩) c 0 3, c, ?_, ?_, ?_, ?_, ?_, (fun e => by cases e), fun _ => HV.out, fun t ht => seg_mem ht, hb1⟩
          · rw [HS.out]; rfl
          · rw [HS.out]; exact hR
          · rw [HS.out]; omega
          · rw [HS.out, Hlen.out]; omega
          · rw [Hyes.out]; rfl
end Go.Proofs.YtfhdihdafmahgaaGreatDoor
/- Layer 6: the program's decl is walked. -/
set_option linter.unusedVariables false
set_option linter.unusedSimpArgs false
namespace Go.Proofs.YtfhdihdafmahgaaGreatDoor
open Go.RowKit Rn Tp Ru
theorem results_decl {fn : Func} {p u : Tmp} (h : fn.results = #[.cell p 34, .tmp u]) (tmps : Array Value) (w : World) (g : Nat) (a b c : Value) (hp : tmps.getD p undef = .pointer (some ⟨g, 0, none⟩)) (hr : RowAt w g [a, b, c]) : (results fn tmps).run Tryz.prog w = .ok (.tuple #[.agg #[a, b, c], tmps.getD u undef]) w := by
  obtain ⟨c0, _⟩ := hr.2 0 _ rfl
  obtain ⟨c1, _⟩ := hr.2 1 _ rfl
  obtain ⟨c2, _⟩ := hr.2 2 _ rfl
  have hp' : tmps[p]?.getD undef = .pointer (some ⟨g, 0, none⟩) := by simpa using hp
  simp [results, h, hp', asAddr, go_sem, c0, c1, c2]
def DeclRet (o : Option Decl) (w : World) (e : Ending) (w' : World) : Prop :=
  (match o with
  | some d => ∃ A' c', e = .returned (.tuple #[.agg #[.string (bytesOf d.name), .slice A' d.value.length c', .bool d.imp], .bool true]) ∧ ReadsS w' (Fresh w w') 3 A' d.value.length (cellsG d.value)
  | none => ∃ x A' n' c' b, e = .returned (.tuple #[.agg #[.string x, .slice A' n' c', .bool b], .bool false])) ∧ Below w.heap.size w w'
theorem declP_nil : declP [] = none := rfl
theorem declP_kind {t : GTok} {r : List GTok} (h : t.kind ≠ 2) : declP (t :: r) = none := by unfold declP; simp only [if_neg h]
theorem declP_none {t : GTok} {r : List GTok} (h : dropS r = []) : declP (t :: r) = none := by unfold declP; simp [h]
theorem declP_colon {t c : GTok} {r q : List GTok} (h : dropS r = c :: q) (hc : c.kind ≠ 14) : declP (t :: r) = none := by unfold declP; simp [h, hc]
theorem declP_some {t c : GTok} {r q : List GTok} (ht : t.kind = 2) (h : dropS r = c :: q) (hc : c.kind = 14) {y : List GTok} {b : Bool} (hb : b = (importantP (trimL q)).isSome) (h1 : b = false → y = trimL q) (h2 : b = true → importantP (trimL q) = some y) : declP (t :: r) = if soundP y = true then some ⟨lowerP t.text, y, b⟩ else none := by
  unfold declP
  simp only [h, ht, hc, if_true]
  cases b with
  | true => rw [h2 rfl]
  | false =>
    cases hi : importantP (trimL q) with
    | none => rw [h1 rfl]
    | some z => rw [hi] at hb; cases hb
set_option maxRecDepth 100000 in
set_option maxHeartbeats 4000000 in
theorem ru_decl (l : List GTok) (p : Nat) (A : Option Addr) (n c : Nat) (A' : Option Addr) (c' k z : Nat) (w : World) (h : Par w p l A n c A' c') (hk : k ≤ z) (hz : z ≤ n) (hT : Tabs w) :
    Calls Tryz.prog 63 #[.pointer (some ⟨p, 0, none⟩), .int .i64 (k : Int), .int .i64 (z : Int)] w (DeclRet (declP (segP l k z)) w) := by
  have hn := h.hn
  obtain ⟨W0, hW0⟩ : ∃ W0, w.alloc (.cells #[.string ⟨#[]⟩, .slice none 0 0, .bool false] 34) = W0 := ⟨_, rfl⟩
  have b0 : Below w.heap.size w W0 := by rw [← hW0]; exact (Below.refl _ _).alloc (Nat.le_refl _) _
  have r0 : RowAt W0 w.heap.size [.string ⟨#[]⟩, .slice none 0 0, .bool false] := by rw [← hW0]; exact RowAt.new _ _ _
  have P0 := h.below b0
  obtain ⟨x0, f0⟩ := r0.2 0 _ rfl
  obtain ⟨x1, f1⟩ := r0.2 1 _ rfl
  obtain ⟨x2, f2⟩ := r0.2 2 _ rfl
  have rz := ((r0.store 0 (.string ⟨#[]⟩)).store 1 (.slice none 0 0)).store 2 (.bool false)
  have bz : Below w.heap.size w (((W0.setCell ⟨w.heap.size, 0, none⟩ (.string ⟨#[]⟩)).setCell ⟨w.heap.size, 1, none⟩ (.slice none 0 0)).setCell ⟨w.heap.size, 2, none⟩ (.bool false)) :=
    ((b0.setCell (p := ⟨w.heap.size, 0, none⟩) (Nat.le_refl _) _).setCell (p := ⟨w.heap.size, 1, none⟩) (Nat.le_refl _) _).setCell (p := ⟨w.heap.size, 2, none⟩) (Nat.le_refl _) _
  have hlenl := h.tk.toks_len
  by_cases hkz : k = z
  · subst hkz
    have hd : declP (segP l k k) = none := by rw [seg_nil]; rfl
    have HD := Lib.hid hd
    clear hd hlenl
    go_enter Tryz.func63, Tryz.ntmps63
    go_wp2_with fail
    refine bodyPost_ret (results_decl rfl _ _ _ _ _ _ rfl rz) rfl ?_
    unfold DeclRet
    rw [HD.out]
    exact ⟨⟨_, _, _, _, _, rfl⟩, bz⟩
  · obtain ⟨b, off, t, hA, hb, ht, c0, c1, c2⟩ := h.tk.tok (k := k) (by omega)
    have hseg : segP l k z = t :: segP l (k + 1) z := seg_cons ht (by omega)
    have hst := h.sm t (List.mem_of_getElem? ht)
    have c0' := (b0.cell (p := ⟨b, off + k * 3, none⟩) hb).trans c0
    have c1' := (b0.cell (p := ⟨b, off + k * 3 + 1, none⟩) hb).trans c1
    have c2' := (b0.cell (p := ⟨b, off + k * 3 + 2, none⟩) hb).trans c2
    have pc0 := P0.c0
    have dz : ((k : Int) == (z : Int)) = false := by simp; omega
    have dk : (k : Int) < (n : Int) := by omega
    subst hA
    have Hseg := Lib.hid hseg
    have Hlen := Lib.hid hlenl
    by_cases hk2 : t.kind = 2
    · have cT := nest_trim l (· < W0.heap.size) (some ⟨b, off, none⟩) n c (k + 1) z W0 P0.tk hn (by omega) hz
      have w1' : IntKind.i64.wrap ((k : Int) + 1) = (k : Int) + 1 := by rw [IntKind.wrap_i64]; omega
      have k2 : (t.kind == 2) = true := by simpa using hk2
      push_cast at cT
      have Hk2 := Lib.hid hk2
      clear hlenl hk2 hseg ht
      go_enter Tryz.func63, Tryz.ntmps63
      go_wp2_with fail
      refine cT.mono ?_
      rintro e w1 ⟨⟨j, i, rfl, hj1, hji, hiz, hdj, _⟩, rfl⟩
      have hn1 : w.heap.size < w1.heap.size := r0.1
      by_cases hjz : j = z
      · subst hjz
        have hd : declP (segP l k j) = none := by rw [Hseg.out]; exact declP_none (by rw [hdj, seg_nil])
        have HD := Lib.hid hd
        have dj : ((j : Int) == (j : Int)) = true := by simp
        clear hd hdj cT
        go_wp2_with fail
        refine bodyPost_ret (results_decl rfl _ _ _ _ _ _ rfl rz) rfl ?_
        unfold DeclRet
        rw [HD.out]
        exact ⟨⟨_, _, _, _, _, rfl⟩, bz⟩
      · have hjn : j < n := by omega
        obtain ⟨b', off', u, hA, _, hu, e0, e1, e2⟩ := P0.tk.tok hjn
        injection hA with hA
        injection hA with q1 q2
        subst q1 q2
        have hsj : segP l j z = u :: segP l (j + 1) z := seg_cons hu (by omega)
        have dj : ((j : Int) == (z : Int)) = false := by simp; omega
        have dj' : (j : Int) < (n : Int) := by omega
        by_cases h14 : u.kind = 14
        · have k14 : (u.kind != 14) = false := by simp [h14]
          have w2' : IntKind.i64.wrap ((j : Int) + 1) = (j : Int) + 1 := by rw [IntKind.wrap_i64]; omega
          have cC := ru_cut l p _ n c A' c' (j + 1) z w1 P0 (by omega) hz
          push_cast at cC
          rw [hsj] at hdj
          obtain ⟨v, hv⟩ : ∃ v, trimL (segP l (j + 1) z) = v := ⟨_, rfl⟩
          rw [hv] at cC
          have hvh : ∀ x ∈ v.head?, x.kind ≠ 1 := by rw [← hv]; exact trim_head _
          have hvs : ∀ x ∈ v, smallT x := fun x hx => h.sm x (seg_mem (trim_mem (by rw [hv]; exact hx)))
          have hvl : v.length ≤ n := by
            have h1 := congrArg List.length hv
            have h2 : (trimL (segP l (j + 1) z)).length ≤ (segP l (j + 1) z).length := by
              unfold trimL rtrim
              rw [List.length_reverse]
              exact Nat.le_trans (dropS_len _) (by rw [List.length_reverse]; exact dropS_len _)
            rw [seg_length] at h2
            rw [← h1]; omega
          have Hv := Lib.hid hv
          have Hdj := Lib.hid hdj
          have H14 := Lib.hid h14
          clear hv hdj h14 cT hsj hu
          go_wp2_with fail
          refine cC.mono ?_
          rintro e w2 ⟨⟨A2, c2, rfl, hcc2, hR2⟩, hb2⟩
          have cI := ru_important v _ A2 v.length c2 w2 hR2 (fun b h => h.2) (by omega) hcc2 hvs
          clear cC
          go_wp2_with fail
          refine cI.mono ?_
          rintro e w3 ⟨y, bi, A3, c3, rfl, hR3, hc3, hyv, hbi, hy1, hy2, hym, hb3⟩
          have hB3 : Below w1.heap.size w1 w3 := hb2.trans (hb3.mono hb2.size)
          have Hbi := Lib.hid hbi
          have Hy1 := Lib.hid hy1
          have Hy2 := Lib.hid hy2
          have P3 := P0.below hB3
          have pc3 := P3.c0
          have g1 := (hB3.cell (p := ⟨b, off + k * 3 + 1, none⟩) (Nat.lt_trans hb hn1)).trans c1'
          have cL := fun W => rn_lower (bytesOf t.text) W (by rw [bytesOf_size]; exact hst.1)
          rw [show (bytesOf t.text).data.toList = t.text by simp [bytesOf]] at cL
          clear hbi hy1 hy2 cI
          go_wp2_with fail
          refine (cL _).mono ?_
          rintro e w4 ⟨rfl, hb4⟩
          have hB4 : Below w1.heap.size w1 w4 := hB3.trans (hb4.mono hB3.size)
          have hR4 : ReadsS w4 (Fresh w1 w2) 3 A3 y.length (cellsG y) := hR3.keep (Kept.of_below (hb3.trans (hb4.mono hb3.size)) (fun b h => h.2))
          have hR4' : ReadsS w4 (· < w4.heap.size) 3 A3 y.length (cellsG y) := hR4.more (fun b h => Nat.lt_of_lt_of_le h.2 (Nat.le_trans hb3.size hb4.size))
          have hyl : y.length ≤ 1000000 := by omega
          have cS := ru_sound y A3 y.length c3 w4 hR4' hyl (fun x hx => hvs x (hym x hx)) ((hT.below b0).below hB4)
          clear cL
          go_wp2_with fail
          refine cS.mono ?_
          rintro e w5 ⟨rfl, hb5⟩
          have hB5 : Below w1.heap.size w1 w5 := hB4.trans (hb5.mono hB4.size)
          have r5 := r0.below hB5 hn1
          obtain ⟨y0, f0'⟩ := r5.2 0 _ rfl
          obtain ⟨y1, f1'⟩ := r5.2 1 _ rfl
          obtain ⟨y2, f2'⟩ := r5.2 2 _ rfl
          have rf := ((r5.store 0 (.string (bytesOf (lowerP t.text)))).store 1 (.slice A3 y.length c3)).store 2 (.bool bi)
          have bf : Below w.heap.size w (((w5.setCell ⟨w.heap.size, 0, none⟩ (.string (bytesOf (lowerP t.text)))).setCell ⟨w.heap.size, 1, none⟩ (.slice A3 y.length c3)).setCell ⟨w.heap.size, 2, none⟩ (.bool bi)) :=
            (((b0.trans (hB5.mono (Nat.le_of_lt hn1))).setCell (p := ⟨w.heap.size, 0, none⟩) (Nat.le_refl _) _).setCell (p := ⟨w.heap.size, 1, none⟩) (Nat.le_refl _) _).setCell (p := ⟨w.heap.size, 2, none⟩) (Nat.le_refl _) _
          have hR5 := hR4.keep (Kept.of_below hb5 (fun b h => Nat.lt_of_lt_of_le h.2 (Nat.le_trans hb3.size hb4.size)))
          have hne : ∀ x, Fresh w1 w2 x → x ≠ w.heap.size := fun x hx => by have := hx.1; omega
          have hR6 := ((hR5.keep (Kept.setCell (p := ⟨w.heap.size, 0, none⟩) (.string (bytesOf (lowerP t.text))) hne)).keep (Kept.setCell (p := ⟨w.heap.size, 1, none⟩) (.slice A3 y.length c3) hne)).keep (Kept.setCell (p := ⟨w.heap.size, 2, none⟩) (.bool bi) hne)
          have hsz2 : w2.heap.size ≤ w5.heap.size := Nat.le_trans hb3.size (Nat.le_trans hb4.size hb5.size)
          have hR7 := hR6.more (S' := Fresh w (((w5.setCell ⟨w.heap.size, 0, none⟩ (.string (bytesOf (lowerP t.text)))).setCell ⟨w.heap.size, 1, none⟩ (.slice A3 y.length c3)).setCell ⟨w.heap.size, 2, none⟩ (.bool bi))) (fun x hx => ⟨by have := hx.1; omega, by have := hx.2; simp [World.setCell]; omega⟩)
          have hfin := declP_some (t := t) (r := segP l (k + 1) z) Hk2.out Hdj.out H14.out (y := y) (b := bi) (by rw [Hv.out]; exact Hbi.out) (fun e => by rw [Hv.out]; exact Hy1.out e) (fun e => by rw [Hv.out]; exact Hy2.out e hvh)
          rw [← Hseg.out] at hfin
          have HF := Lib.hid hfin
          clear hfin hR5 hR6 cS hR4 hR4' hR3 hvh hvs
          go_wp2_with fail
          refine bodyPost_ret (results_decl rfl _ _ _ _ _ _ rfl rf) rfl ?_
          unfold DeclRet
          rw [HF.out]
          cases hsd : soundP y with
          | true => rw [if_pos rfl]; exact ⟨⟨A3, c3, by rw [← hsd]; rfl, hR7⟩, bf⟩
          | false => rw [if_neg (by decide)]; exact ⟨⟨_, _, _, _, _, by rw [← hsd]; rfl⟩, bf⟩
        · have k14 : (u.kind != 14) = true := by simp [h14]
          have hd : declP (segP l k z) = none := by rw [Hseg.out]; exact declP_colon (by rw [hdj, hsj]) h14
          have HD := Lib.hid hd
          clear hd hdj cT h14 hsj hu
          go_wp2_with fail
          refine bodyPost_ret (results_decl rfl _ _ _ _ _ _ rfl rz) rfl ?_
          unfold DeclRet
          rw [HD.out]
          exact ⟨⟨_, _, _, _, _, rfl⟩, bz⟩
    · have k2 : (t.kind == 2) = false := by simpa using hk2
      have k2n : (t.kind != 2) = true := by simp [hk2]
      have hd : declP (segP l k z) = none := by rw [hseg]; exact declP_kind hk2
      have HD := Lib.hid hd
      clear hd hlenl hk2 hseg ht
      go_enter Tryz.func63, Tryz.ntmps63
      go_wp2_with fail
      refine bodyPost_ret (results_decl rfl _ _ _ _ _ _ rfl rz) rfl ?_
      unfold DeclRet
      rw [HD.out]
      exact ⟨⟨_, _, _, _, _, rfl⟩, bz⟩
end Go.Proofs.YtfhdihdafmahgaaGreatDoor
/- Layer 6: the program's Box and Boxes are walked. -/
set_option linter.unusedVariables false
set_option linter.unusedSimpArgs false
namespace Go.Proofs.YtfhdihdafmahgaaGreatDoor
open Go.RowKit Rn Tp Ru
/-- the variable that holds the margin boxes' names does -/
def Boxed (w : World) : Prop := ∀ j s, boxes[j]? = some s → w.cell? ⟨0, j, none⟩ = some (.string (bytesOf s))
theorem Boxed.below {w w' : World} (h : Boxed w) (hb : Below w.heap.size w w') : Boxed w' := fun j s hs => by
  have := h j s hs
  have hlt : 0 < w.heap.size := World.block_lt_of_cell? _ _ this
  exact (hb.cell (p := ⟨0, j, none⟩) hlt).trans this
abbrev boxesV : Value := .agg #[.string (bytesOf [116, 111, 112, 45, 108, 101, 102, 116, 45, 99, 111, 114, 110, 101, 114]), .string (bytesOf [116, 111, 112, 45, 108, 101, 102, 116]), .string (bytesOf [116, 111, 112, 45, 99, 101, 110, 116, 101, 114]), .string (bytesOf [116, 111, 112, 45, 114, 105, 103, 104, 116]),
  .string (bytesOf [116, 111, 112, 45, 114, 105, 103, 104, 116, 45, 99, 111, 114, 110, 101, 114]), .string (bytesOf [114, 105, 103, 104, 116, 45, 116, 111, 112]), .string (bytesOf [114, 105, 103, 104, 116, 45, 109, 105, 100, 100, 108, 101]), .string (bytesOf [114, 105, 103, 104, 116, 45, 98, 111, 116, 116, 111, 109]),
  .string (bytesOf [98, 111, 116, 116, 111, 109, 45, 114, 105, 103, 104, 116, 45, 99, 111, 114, 110, 101, 114]), .string (bytesOf [98, 111, 116, 116, 111, 109, 45, 114, 105, 103, 104, 116]), .string (bytesOf [98, 111, 116, 116, 111, 109, 45, 99, 101, 110, 116, 101, 114]), .string (bytesOf [98, 111, 116, 116, 111, 109, 45, 108, 101, 102, 116]),
  .string (bytesOf [98, 111, 116, 116, 111, 109, 45, 108, 101, 102, 116, 45, 99, 111, 114, 110, 101, 114]), .string (bytesOf [108, 101, 102, 116, 45, 98, 111, 116, 116, 111, 109]), .string (bytesOf [108, 101, 102, 116, 45, 109, 105, 100, 100, 108, 101]), .string (bytesOf [108, 101, 102, 116, 45, 116, 111, 112])]
set_option maxRecDepth 100000 in
theorem box_index (W : World) : ∀ (k : Nat) (x : List UInt8), boxes[k]? = some x → (Instr.index 80 boxesV (.int .i64 (k : Int))).run Tryz.prog W = .ok (.string (bytesOf x)) W
  | 0, x, h => by
    injection h with h; subst h
    kernel_rfl
  | 1, x, h => by
    injection h with h; subst h
    kernel_rfl
  | 2, x, h => by
    injection h with h; subst h
    kernel_rfl
  | 3, x, h => by
    injection h with h; subst h
    kernel_rfl
  | 4, x, h => by
    injection h with h; subst h
    kernel_rfl
  | 5, x, h => by
    injection h with h; subst h
    kernel_rfl
  | 6, x, h => by
    injection h with h; subst h
    kernel_rfl
  | 7, x, h => by
    injection h with h; subst h
    kernel_rfl
  | 8, x, h => by
    injection h with h; subst h
    kernel_rfl
  | 9, x, h => by
    injection h with h; subst h
    kernel_rfl
  | 10, x, h => by
    injection h with h; subst h
    kernel_rfl
  | 11, x, h => by
    injection h with h; subst h
    kernel_rfl
  | 12, x, h => by
    injection h with h; subst h
    kernel_rfl
  | 13, x, h => by
    injection h with h; subst h
    kernel_rfl
  | 14, x, h => by
    injection h with h; subst h
    kernel_rfl
  | 15, x, h => by
    injection h with h; subst h
    kernel_rfl
  | (k + 16), x, h => by
    have := (List.getElem?_eq_some_iff.1 h).1
    have h16 : boxes.length = 16 := by decide
    omega
theorem idx_first {α : Type} [BEq α] [LawfulBEq α] {a : α} : ∀ (l : List α) (k : Nat), l[k]? = some a → (∀ j, j < k → l[j]? ≠ some a) → l.idxOf a = k
  | [], k, h, _ => by simp at h
  | x :: l, 0, h, _ => by simp at h; subst h; simp
  | x :: l, k + 1, h, hn => by
    have hx : x ≠ a := by have := hn 0 (by omega); simpa using this
    have ih := idx_first l k (by simpa using h) (fun j hj => by have := hn (j + 1) (by omega); simpa using this)
    rw [List.idxOf_cons]
    have : (x == a) = false := by simpa using hx
    simp [this, ih]
theorem box_len : boxes.length = 16 := by decide
theorem box_hit {s : List UInt8} {k : Nat} (h : boxes[k]? = some (lowerP s)) (hn : ∀ j, j < k → boxes[j]? ≠ some (lowerP s)) : boxP s = (k : Int) := by
  unfold boxP
  rw [if_pos (List.mem_of_getElem? h), idx_first boxes k h hn]
theorem box_miss {s : List UInt8} (hn : ∀ j, j < 16 → boxes[j]? ≠ some (lowerP s)) : boxP s = -1 := by
  unfold boxP
  rw [if_neg]
  intro h
  obtain ⟨j, hj, e⟩ := List.getElem_of_mem h
  have h16 : boxes.length = 16 := by decide
  exact hn j (by omega) (by rw [List.getElem?_eq_getElem hj, e])
set_option maxRecDepth 100000 in
set_option maxHeartbeats 4000000 in
theorem ru_box (s : List UInt8) (w : World) (hs : s.length ≤ 1000000) (hB : Boxed w) :
    Calls Tryz.prog 19 #[.string (bytesOf s)] w fun e w' => e = .returned (.int .i64 (boxP s)) ∧ Below w.heap.size w w' := by
  obtain b0 := hB 0 _ rfl
  obtain b1 := hB 1 _ rfl
  obtain b2 := hB 2 _ rfl
  obtain b3 := hB 3 _ rfl
  obtain b4 := hB 4 _ rfl
  obtain b5 := hB 5 _ rfl
  obtain b6 := hB 6 _ rfl
  obtain b7 := hB 7 _ rfl
  obtain b8 := hB 8 _ rfl
  obtain b9 := hB 9 _ rfl
  obtain b10 := hB 10 _ rfl
  obtain b11 := hB 11 _ rfl
  obtain b12 := hB 12 _ rfl
  obtain b13 := hB 13 _ rfl
  obtain b14 := hB 14 _ rfl
  obtain b15 := hB 15 _ rfl
  have cL := fun W => rn_lower (bytesOf s) W (by rw [bytesOf_size]; exact hs)
  rw [show (bytesOf s).data.toList = s by simp [bytesOf]] at cL
  go_enter Tryz.func19, Tryz.ntmps19
  go_wp2_with fail
  clear b0 b1 b2 b3 b4 b5 b6 b7 b8 b9 b10 b11 b12 b13 b14 b15
  go_loopw [6] (fun i wr => ∃ k : Nat, k ≤ 16 ∧ i = .int .i64 (k : Int) ∧ Hid (∀ j, j < k → boxes[j]? ≠ some (lowerP s)) ∧ Below w.heap.size w wr) (fun i _ => 16 - (intOf i).toNat)
  case atStart => exact ⟨0, by omega, rfl, (by show ∀ j, j < 0 → _; intro j hj; omega), Below.refl _ _⟩
  case round =>
    obtain ⟨k, hk, rfl, hno, hb⟩ := hrel
    by_cases hlt : k < 16
    · have dk : decide ((k : Int) < 16) = true := by simp; omega
      have dk2 : decide (k < 16) = true := by simp; omega
      obtain ⟨x, hx⟩ : ∃ x, boxes[k]? = some x := ⟨_, List.getElem?_eq_getElem (by rw [box_len]; exact hlt)⟩
      have hix := fun W => box_index W k x hx
      obtain ⟨q, hq⟩ : ∃ q, decide (x = lowerP s) = q := ⟨_, rfl⟩
      have hqe : ((bytesOf x).toList == (bytesOf (lowerP s)).toList) = q := by rw [bytesOf_toList, bytesOf_toList, ← hq, Bool.eq_iff_iff]; simp
      have Hq := Lib.hid hq
      have Hx := Lib.hid hx
      clear hq hx
      go_wp2_with fail
      refine (cL _).mono ?_
      rintro e w1 ⟨rfl, hb1⟩
      have hB1 : Below w.heap.size w w1 := hb.trans (hb1.mono hb.size)
      cases q with
      | true =>
        have hf : boxP s = (k : Int) := box_hit (by rw [Hx.out, of_decide_eq_true Hq.out]) hno.out
        have HF := Lib.hid hf
        clear hf hno
        go_wp2_with fail
        go_ret
        exact ⟨ret_int HF.out.symm, hB1⟩
      | false =>
        have hnew : Hid (∀ j, j < k + 1 → boxes[j]? ≠ some (lowerP s)) := by
          show ∀ j, _ → _
          intro j hj
          rcases Nat.lt_or_ge j k with h | h
          · exact hno.out j h
          · rw [show j = k by omega, Hx.out]
            intro e
            injection e with e
            exact of_decide_eq_false Hq.out e
        clear hno
        go_wp2_with fail
        go_roundw
        case rel => exact ⟨k + 1, by omega, by go_num, hnew, hB1⟩
        case measure => simp [intOf]; omega
    · obtain rfl : k = 16 := by omega
      have dk : decide ((((16 : Nat) : Int)) < 16) = false := by simp
      have hf : boxP s = -1 := box_miss hno.out
      have HF := Lib.hid hf
      clear hf hno
      go_wp2_with fail
      go_ret
      exact ⟨ret_int HF.out.symm, hb⟩
end Go.Proofs.YtfhdihdafmahgaaGreatDoor
/- Layer 6: what the program's block holds at each round: plain laws, and memory. -/
set_option linter.unusedVariables false
set_option linter.unusedSimpArgs false
namespace Go.Proofs.YtfhdihdafmahgaaGreatDoor
open Go.RowKit Rn Tp Ru
theorem itemsF_len (l : List GTok) (z : Nat) : ∀ f k, (itemsF l z f k).length ≤ f
  | 0, k => by simp [itemsF]
  | f + 1, k => by
    have ih := itemsF_len l z f
    unfold itemsF
    split
    · split
      · split
        · exact Nat.le_succ_of_le (ih _)
        · split
          · rw [List.length_cons]; exact Nat.succ_le_succ (ih _)
          · rw [List.length_cons]; exact Nat.succ_le_succ (ih _)
      · simp
    · simp
theorem decls_len (l : List GTok) (k z : Nat) : (declsP l k z).length ≤ z - k := Nat.le_trans (List.length_filterMap_le _ _) (itemsF_len l z _ _)
theorem margins_len (l : List GTok) (k z : Nat) : (marginsP l k z).length ≤ z - k := Nat.le_trans (List.length_filterMap_le _ _) (itemsF_len l z _ _)
theorem decls_end {l : List GTok} {k z : Nat} (h : z ≤ k) : declsP l k z = [] ∧ marginsP l k z = [] := by unfold declsP marginsP; rw [items_end h]; exact ⟨rfl, rfl⟩
theorem decls_sp {l : List GTok} {k z : Nat} {t : GTok} (hto : z ≤ l.length) (hk : k < z) (ht : l[k]? = some t) (h : t.kind = 1 ∨ t.kind = 15) : declsP l k z = declsP l (k + 1) z ∧ marginsP l k z = marginsP l (k + 1) z := by
  unfold declsP marginsP; rw [items_sp hto hk ht h]; exact ⟨rfl, rfl⟩
theorem decls_at {l : List GTok} {k z : Nat} {t : GTok} (hto : z ≤ l.length) (hk : k < z) (ht : l[k]? = some t) (h : t.kind = 4) : declsP l k z = declsP l (skipP l (findP l eitherB (k + 1) z)) z ∧ marginsP l k z = (marginOf l z (k, findP l eitherB (k + 1) z)).toList ++ marginsP l (skipP l (findP l eitherB (k + 1) z)) z := by
  have hd : declOf l (k, findP l eitherB (k + 1) z) = none := by unfold declOf; simp only []; rw [ht]; simp [h]
  unfold declsP marginsP
  rw [items_at hto hk ht h, List.filterMap_cons, hd, List.filterMap_cons]
  refine ⟨rfl, ?_⟩
  cases marginOf l z (k, findP l eitherB (k + 1) z) <;> rfl
theorem decls_else {l : List GTok} {k z : Nat} {t : GTok} (hto : z ≤ l.length) (hk : k < z) (ht : l[k]? = some t) (h1 : t.kind ≠ 1) (h2 : t.kind ≠ 15) (h3 : t.kind ≠ 4) : declsP l k z = (declP (segP l k (findP l semiB k z))).toList ++ declsP l (findP l semiB k z) z ∧ marginsP l k z = marginsP l (findP l semiB k z) z := by
  have hd : declOf l (k, findP l semiB k z) = declP (segP l k (findP l semiB k z)) := by unfold declOf; simp only []; rw [ht]; simp [h3]
  have hm : marginOf l z (k, findP l semiB k z) = none := by unfold marginOf; simp only []; rw [ht]; simp [h3]
  unfold declsP marginsP
  rw [items_else hto hk ht h1 h2 h3, List.filterMap_cons, hd, List.filterMap_cons, hm]
  refine ⟨?_, rfl⟩
  cases declP (segP l k (findP l semiB k z)) <;> rfl
/-- is it a margin rule? -/
def marB (l : List GTok) (pg : Bool) (z k e : Nat) (t : GTok) : Bool := decide (e < z) && ((l[e]?.map braceB).getD false) && pg && decide (0 ≤ boxP t.text) && decide ((trimL (segP l (k + 1) e)).length = 0)
theorem margin_yes {l : List GTok} {z k e : Nat} {t : GTok} (ht : l[k]? = some t) (h4 : t.kind = 4) (h : marB l true z k e t = true) : marginOf l z (k, e) = some ⟨lowerP t.text, declsP l (e + 1) (min (endP l e).toNat z)⟩ := by
  unfold marB at h
  simp only [Bool.and_eq_true, decide_eq_true_eq] at h
  obtain ⟨⟨⟨⟨a1, a2⟩, _⟩, a3⟩, a4⟩ := h
  unfold marginOf
  simp only []
  rw [ht]
  simp only []
  rw [if_pos]
  refine ⟨h4, a1, ?_, a3, List.eq_nil_of_length_eq_zero a4⟩
  cases hx : l[e]?.map braceB with
  | none => rw [hx] at a2; cases a2
  | some b => rw [hx] at a2; simp at a2; rw [a2]
theorem margin_no {l : List GTok} {z k e : Nat} {t : GTok} (ht : l[k]? = some t) (h : marB l true z k e t = false) : marginOf l z (k, e) = none := by
  unfold marginOf
  simp only []
  rw [ht]
  simp only []
  rw [if_neg]
  rintro ⟨_, a1, a2, a3, a4⟩
  have : marB l true z k e t = true := by
    unfold marB
    rw [a2, a4]
    simp [a1, a3]
  rw [this] at h; cases h
theorem mar_end {l : List GTok} {pg : Bool} {z k e : Nat} {t : GTok} (h : marB l pg z k e t = true) : e < z ∧ (l[e]?.map braceB) = some true ∧ pg = true := by
  unfold marB at h
  simp only [Bool.and_eq_true, decide_eq_true_eq] at h
  obtain ⟨⟨⟨⟨a1, a2⟩, a5⟩, a3⟩, a4⟩ := h
  refine ⟨a1, ?_, a5⟩
  cases hx : l[e]?.map braceB with
  | none => rw [hx] at a2; cases a2
  | some b => rw [hx] at a2; simp at a2; rw [a2]
theorem brace_opens {t : GTok} (h : braceB t = true) : opensP t = [125] := by
  unfold braceB at h
  simp only [Bool.and_eq_true, decide_eq_true_eq] at h
  unfold opensP
  simp [h.1, h.2]
theorem brace_end {l : List GTok} {e : Nat} (h : (l[e]?.map braceB) = some true) : ∃ j : Nat, endP l e = (j : Int) ∧ e < j ∧ j ≤ l.length := by
  cases ht : l[e]? with
  | none => rw [ht] at h; cases h
  | some t =>
    rw [ht] at h
    have hb : braceB t = true := by simpa using h
    exact end_open ht (by rw [brace_opens hb]; simp)
/-- the blocks that hold neither row -/
def BS (w wr : World) (v1 v2 : Value) : Nat → Prop := fun b => w.heap.size ≤ b ∧ b < wr.heap.size ∧ v1.ownBlock ≠ some b ∧ v2.ownBlock ≠ some b
structure BJ (l : List GTok) (pg : Bool) (z0 z : Nat) (w wr : World) (k : Nat) (v1 v2 : Value) (md : List MDecl) (mm : List MMargin) : Prop where
  bel : Below w.heap.size w wr
  own1 : wr.ownsRow w.heap.size 34 3 v1 md.length (cellsD md)
  own2 : wr.ownsRow w.heap.size 41 2 v2 mm.length (cellsM mm)
  ap : ∀ g, v1.ownBlock = some g → v2.ownBlock ≠ some g
  rd1 : DeclsM wr (BS w wr v1 v2) md
  rd2 : MarginsM wr (BS w wr v1 v2) mm
  e1 : declsP l z0 z = md.map (·.d) ++ declsP l k z
  e2 : (if pg = true then marginsP l z0 z else []) = mm.map (·.m) ++ (if pg = true then marginsP l k z else [])
section
variable {l : List GTok} {pg : Bool} {z0 z k k' : Nat} {w wr W w3 : World} {v1 v2 v' : Value} {md : List MDecl} {mm : List MMargin} {o : Obj}
theorem BJ.start (l : List GTok) (pg : Bool) (z0 z : Nat) (w : World) : BJ l pg z0 z w w z0 (.slice none 0 0) (.slice none 0 0) [] [] :=
  ⟨Below.refl _ _, World.ownsRow_nil _ _ _ _, World.ownsRow_nil _ _ _ _, (fun g h => by cases h), (fun m hm => by cases hm), (fun m hm => by cases hm), (by simp), (by simp)⟩
theorem BJ.to (h : BJ l pg z0 z w wr k v1 v2 md mm) (h1 : declsP l k z = declsP l k' z) (h2 : pg = true → marginsP l k z = marginsP l k' z) : BJ l pg z0 z w wr k' v1 v2 md mm :=
  ⟨h.bel, h.own1, h.own2, h.ap, h.rd1, h.rd2, by rw [h.e1, h1], by
    rw [h.e2]
    cases pg with
    | true => simp only [if_true]; rw [h2 rfl]
    | false => rfl⟩
theorem BJ.below (h : BJ l pg z0 z w wr k v1 v2 md mm) (hb : Below wr.heap.size wr W) : BJ l pg z0 z w W k v1 v2 md mm := by
  have hS : ∀ b, BS w wr v1 v2 b → BS w W v1 v2 b := fun b hb' => ⟨hb'.1, Nat.lt_of_lt_of_le hb'.2.1 hb.size, hb'.2.2⟩
  have hk : Kept (BS w wr v1 v2) wr W := Kept.of_below hb (fun b h => h.2.1)
  exact ⟨h.bel.trans (hb.mono h.bel.size), own_below h.own1 hb, own_below h.own2 hb, h.ap, (h.rd1.keep hk).more hS, (h.rd2.keep hk).more hS, h.e1, h.e2⟩
theorem BJ.pushD {m : MDecl} (h : BJ l pg z0 z w W k v1 v2 md mm) (hm : ReadsS W (BS w W v1 v2) 3 m.A m.d.value.length (cellsG m.d.value)) (hw : w.heap.size ≤ W.heap.size)
    (hown : w3.ownsRow w.heap.size 34 3 v' (md.length + 1) (cellsD md ++ m.cells)) (hg : (W.alloc o).grownBy w3 v1.ownBlock) (hat : v'.ownBlock = v1.ownBlock ∨ v'.ownBlock = some (W.heap.size + 1))
    (h1 : declsP l k z = m.d :: declsP l k' z) (h2 : pg = true → marginsP l k z = marginsP l k' z) : BJ l pg z0 z w w3 k' v' v2 (md ++ [m]) mm := by
  have hsz : W.heap.size + 1 ≤ w3.heap.size := by have := hg.size; simpa using this
  have hS : ∀ b, BS w W v1 v2 b → BS w w3 v' v2 b := fun b hb => ⟨hb.1, by have := hb.2.1; omega, by
    rcases hat with e | e
    · rw [e]; exact hb.2.2.1
    · rw [e]; intro e2; injection e2 with e2; have := hb.2.1; omega, hb.2.2.2⟩
  have hkA : Kept (BS w W v1 v2) W (W.alloc o) := Kept.of_alloc o (fun b hb => hb.2.1)
  have hkG : Kept (BS w W v1 v2) (W.alloc o) w3 := Kept.of_grown hg (fun b hb => ⟨by have := hb.2.1; simp; omega, fun e => hb.2.2.1 e.symm⟩)
  have hk := hkA.trans hkG
  refine ⟨push_below h.bel hw h.own1 hg, by rw [List.length_append, cellsD_snoc]; exact hown, ?_, ?_, ?_, (h.rd2.keep hk).more hS, ?_, ?_⟩
  · refine (h.own2.alloc o).kept hg ?_
    cases hv : v2.ownBlock with
    | none => exact .inl rfl
    | some g => exact .inr (fun e => h.ap g e.symm hv)
  · intro g hgv hv2
    rcases hat with e | e
    · rw [e] at hgv; exact h.ap g hgv hv2
    · rw [e] at hgv; injection hgv with hgv
      have := (h.own2.lt g hv2).2; omega
  · exact ((h.rd1.keep hk).more hS).snoc ((hm.keep hk).more hS)
  · rw [h.e1, h1]; simp
  · rw [h.e2]
    cases pg with
    | true => simp only [if_true]; rw [h2 rfl]
    | false => rfl
theorem BJ.pushM {m : MMargin} (h : BJ l true z0 z w W k v1 v2 md mm) (hm : DeclsS W (BS w W v1 v2) m.A m.m.decls.length m.m.decls) (hw : w.heap.size ≤ W.heap.size)
    (hown : w3.ownsRow w.heap.size 41 2 v' (mm.length + 1) (cellsM mm ++ m.cells)) (hg : (W.alloc o).grownBy w3 v2.ownBlock) (hat : v'.ownBlock = v2.ownBlock ∨ v'.ownBlock = some (W.heap.size + 1))
    (h1 : declsP l k z = declsP l k' z) (h2 : marginsP l k z = m.m :: marginsP l k' z) : BJ l true z0 z w w3 k' v1 v' md (mm ++ [m]) := by
  have hsz : W.heap.size + 1 ≤ w3.heap.size := by have := hg.size; simpa using this
  have hS : ∀ b, BS w W v1 v2 b → BS w w3 v1 v' b := fun b hb => ⟨hb.1, by have := hb.2.1; omega, hb.2.2.1, by
    rcases hat with e | e
    · rw [e]; exact hb.2.2.2
    · rw [e]; intro e2; injection e2 with e2; have := hb.2.1; omega⟩
  have hkA : Kept (BS w W v1 v2) W (W.alloc o) := Kept.of_alloc o (fun b hb => hb.2.1)
  have hkG : Kept (BS w W v1 v2) (W.alloc o) w3 := Kept.of_grown hg (fun b hb => ⟨by have := hb.2.1; simp; omega, fun e => hb.2.2.2 e.symm⟩)
  have hk := hkA.trans hkG
  refine ⟨push_below h.bel hw h.own2 hg, ?_, by rw [List.length_append, cellsM_snoc]; exact hown, ?_, (h.rd1.keep hk).more hS, ?_, ?_, ?_⟩
  · refine (h.own1.alloc o).kept hg ?_
    cases hv : v1.ownBlock with
    | none => exact .inl rfl
    | some g => exact .inr (fun e => h.ap g hv e.symm)
  · intro g hgv hv2
    rcases hat with e | e
    · rw [e] at hv2; exact h.ap g hgv hv2
    · rw [e] at hv2; injection hv2 with hv2
      have := (h.own1.lt g hgv).2; omega
  · exact ((h.rd2.keep hk).more hS).snoc ((hm.keep hk).more hS)
  · rw [h.e1, h1]
  · rw [h.e2]; simp only [if_true]; rw [h2]; simp
end
def BlockRet (l : List GTok) (k z : Nat) (pg : Bool) (w : World) (e : Ending) (w' : World) : Prop :=
  ∃ (ds : List Decl) (ms : List Margin) (A1 : Option Addr) (c1 : Nat) (A2 : Option Addr) (c2 : Nat), e = .returned (.tuple #[.slice A1 ds.length c1, .slice A2 ms.length c2]) ∧ ds = declsP l k z ∧ ms = (if pg = true then marginsP l k z else [])
    ∧ DeclsS w' (Fresh w w') A1 ds.length ds ∧ MarginsS w' (Fresh w w') A2 ms.length ms ∧ Below w.heap.size w w'
theorem BJ.done {l : List GTok} {pg : Bool} {z0 z k : Nat} {w wr : World} {A1 A2 : Option Addr} {n1 n2 c1 c2 : Nat} {md : List MDecl} {mm : List MMargin} (h : BJ l pg z0 z w wr k (.slice A1 n1 c1) (.slice A2 n2 c2) md mm) (h1 : n1 = md.length) (h2 : n2 = mm.length) (hk : z ≤ k) :
    BlockRet l z0 z pg w (.returned (.tuple #[.slice A1 n1 c1, .slice A2 n2 c2])) wr := by
  subst h1 h2
  obtain ⟨d1, d2⟩ := decls_end (l := l) hk
  have hF : ∀ b, BS w wr (.slice A1 md.length c1) (.slice A2 mm.length c2) b → Fresh w wr b := fun b hb => ⟨hb.1, hb.2.1⟩
  refine ⟨md.map (·.d), mm.map (·.m), A1, c1, A2, c2, by rw [List.length_map, List.length_map], ?_, ?_, ?_, ?_, h.bel⟩
  · rw [h.e1, d1, List.append_nil]
  · rw [h.e2, d2]; cases pg <;> simp
  · rw [List.length_map]
    exact ⟨md, rfl, ReadsS.of_own h.own1 (fun b hb => h.own1.lt b hb), h.rd1.more hF⟩
  · rw [List.length_map]
    exact ⟨mm, rfl, ReadsS.of_own h.own2 (fun b hb => h.own2.lt b hb), h.rd2.more hF⟩
end Go.Proofs.YtfhdihdafmahgaaGreatDoor
/- Layer 6: the program's block is walked. -/
set_option linter.unusedVariables false
set_option linter.unusedSimpArgs false
namespace Go.Proofs.YtfhdihdafmahgaaGreatDoor
open Go.RowKit Rn Tp Ru
theorem ru_enter_semi (args : Array Value) (W : World) : (callFunc 25 args).run Tryz.prog W = .ok (.enter 25 args) W := by
  exact enters_of Tryz.func25 (by kernel_rfl) rfl args W
theorem ru_enter_brace (args : Array Value) (W : World) : (callFunc 23 args).run Tryz.prog W = .ok (.enter 23 args) W := by
  exact enters_of Tryz.func23 (by kernel_rfl) rfl args W
theorem ru_enter_block (args : Array Value) (W : World) : (callFunc 62 args).run Tryz.prog W = .ok (.enter 62 args) W := by
  exact enters_of Tryz.func62 (by kernel_rfl) rfl args W
theorem ru_enter_parse (args : Array Value) (W : World) : (callFunc 24 args).run Tryz.prog W = .ok (.enter 24 args) W := by
  exact enters_of Tryz.func24 (by kernel_rfl) rfl args W
theorem ru_enter_right (args : Array Value) (W : World) : (callFunc 78 args).run Tryz.prog W = .ok (.enter 78 args) W := by
  exact enters_of Tryz.func78 (by kernel_rfl) rfl args W
theorem ru_decl_info : (Tryz.prog.info? 34).map (fun i => (i.zero, i.size, i.bytes)) = some (some (.agg #[.string ⟨#[]⟩, .slice none 0 0, .bool false]), 3, 48) := by kernel_rfl
theorem ru_margin_info : (Tryz.prog.info? 41).map (fun i => (i.zero, i.size, i.bytes)) = some (some (.agg #[.string ⟨#[]⟩, .slice none 0 0]), 2, 40) := by kernel_rfl
theorem cells_new2 (w : World) (e : TypeId) (a b : Value) : ∀ j u, [a, b][j]? = some u → (w.alloc (.cells #[a, b] e)).cell? ((⟨w.heap.size, 0, none⟩ : Addr).add j) = some u := by
  intro j u hu
  have h := ((RowAt.new w e #[a, b]).2 j u hu).1
  have ha : (⟨w.heap.size, 0, none⟩ : Addr).add j = ⟨w.heap.size, j, none⟩ := by unfold Addr.add; split <;> simp_all
  rw [ha]; exact h
theorem own_at {v' : Value} {W : World} {o : Obj} {v : Value} (h : v'.ownBlock = v.ownBlock ∨ v'.ownBlock = some (W.alloc o).heap.size) : v'.ownBlock = v.ownBlock ∨ v'.ownBlock = some (W.heap.size + 1) := by simpa using h
set_option maxRecDepth 100000 in
set_option maxHeartbeats 8000000 in
theorem ru_block_core (pg : Bool) (l : List GTok) (p : Nat) (A : Option Addr) (n c : Nat) (A' : Option Addr) (c' k z : Nat) (w : World) (h : Par w p l A n c A' c') (hk : k ≤ z) (hz : z ≤ n) (hT : Tabs w) (hB : Boxed w)
    (hrec : pg = true → ∀ (j i : Nat) (W : World), Below w.heap.size w W → j ≤ i → i ≤ n → Calls Tryz.prog 30 #[.pointer (some ⟨p, 0, none⟩), .int .i64 (j : Int), .int .i64 (i : Int), .bool false] W (BlockRet l j i false W)) :
    Calls Tryz.prog 30 #[.pointer (some ⟨p, 0, none⟩), .int .i64 (k : Int), .int .i64 (z : Int), .bool pg] w (BlockRet l k z pg w) := by
  have hn := h.hn
  have hlenl := h.tk.toks_len
  have Hlen := Lib.hid hlenl
  have Hrec := Lib.hid hrec
  obtain ⟨di0, di, dz0, dz1, dz2⟩ := info_take ru_decl_info
  obtain ⟨mi0, mi, mz0, mz1, mz2⟩ := info_take ru_margin_info
  clear hlenl hrec
  go_enter Tryz.func30, Tryz.ntmps30
  go_wp2_with fail
  go_loopw [10, 11, 12] (fun v1 v2 i wr => ∃ (j : Nat) (A1 : Option Addr) (n1 c1 : Nat) (A2 : Option Addr) (n2 c2 : Nat) (md : List MDecl) (mm : List MMargin), j ≤ n + 1 ∧ i = .int .i64 (j : Int) ∧ v1 = .slice A1 n1 c1 ∧ v2 = .slice A2 n2 c2 ∧ Hid (n1 = md.length ∧ n2 = mm.length) ∧ BJ l pg k z w wr j (.slice A1 n1 c1) (.slice A2 n2 c2) md mm) (fun _ _ i _ => z - (intOf i).toNat)
  case atStart => exact ⟨k, none, 0, 0, none, 0, 0, [], [], by omega, rfl, rfl, rfl, ⟨rfl, rfl⟩, BJ.start l pg k z w⟩
  case round =>
    obtain ⟨j, A1, n1, c1, A2, n2, c2, md, mm, hj, rfl, rfl, rfl, hnn, hJ⟩ := hrel
    have hb := hJ.bel
    have Pw := h.below hb
    have hbs := hb.size
    by_cases hlt : j < z
    · obtain ⟨b, off, t, hA, hbl, ht, x0, x1, x2⟩ := Pw.tk.tok (k := j) (by omega)
      subst hA
      have pc0 := Pw.c0
      have dj : (j : Int) < (z : Int) := by omega
      have dj2 : (j : Int) < (n : Int) := by omega
      have hst := h.sm t (List.mem_of_getElem? ht)
      obtain ⟨WA, hWA⟩ : ∃ WA, wr.alloc (.cells #[.int .i64 t.kind, .string (bytesOf t.text), .int .i64 t.n] 58) = WA := ⟨_, rfl⟩
      have bA : Below wr.heap.size wr WA := by rw [← hWA]; exact (Below.refl _ _).alloc (Nat.le_refl _) _
      have rA : RowAt WA wr.heap.size [.int .i64 t.kind, .string (bytesOf t.text), .int .i64 t.n] := by rw [← hWA]; exact RowAt.new _ _ _
      have hJA := hJ.below bA
      have PA := Pw.below bA
      have hbA := hJA.bel
      have hltA := rA.1
      have w1' : IntKind.i64.wrap ((j : Int) + 1) = (j : Int) + 1 := by rw [IntKind.wrap_i64]; omega
      obtain ⟨a0, _⟩ := rA.2 0 _ rfl
      obtain ⟨a1, _⟩ := rA.2 1 _ rfl
      obtain ⟨a2, _⟩ := rA.2 2 _ rfl
      by_cases hsp : t.kind = 1 ∨ t.kind = 15
      · obtain ⟨q1, q2⟩ := decls_sp (by rw [Hlen.out]; exact hz) hlt ht hsp
        have hJ2 := hJA.to q1 (fun _ => q2)
        have Hsp := Lib.hid hsp
        clear q1 q2 hsp ht hJ hJA
        cases k1 : (t.kind == 1) with
        | true =>
          go_wp2_with fail
          go_roundw
          case rel => exact ⟨j + 1, A1, n1, c1, A2, n2, c2, md, mm, by omega, by go_num, rfl, rfl, hnn, hJ2⟩
          case measure => simp [intOf]; omega
        | false =>
          have k15 : (t.kind == 15) = true := by
            rcases Hsp.out with e | e
            · rw [e] at k1; cases k1
            · simpa using e
          go_wp2_with fail
          go_roundw
          case rel => exact ⟨j + 1, A1, n1, c1, A2, n2, c2, md, mm, by omega, by go_num, rfl, rfl, hnn, hJ2⟩
          case measure => simp [intOf]; omega
      · have n1k : t.kind ≠ 1 := fun e => hsp (.inl e)
        have n15k : t.kind ≠ 15 := fun e => hsp (.inr e)
        have k1 : (t.kind == 1) = false := by simpa using n1k
        have k15 : (t.kind == 15) = false := by simpa using n15k
        by_cases h4 : t.kind = 4
        · have k4 : (t.kind == 4) = true := by simpa using h4
          have hds := decls_at (by rw [Hlen.out]; exact hz) hlt ht h4
          have hbd := find_bounds (l := l) eitherB (k := j + 1) (z := z) (by rw [Hlen.out]; exact hz) (by omega)
          have cF := ru_find l eitherB 62 p _ n c A' c' (j + 1) z WA PA (by omega) hz (fun t _ W _ => ru_either_block t W) ru_enter_block
          push_cast at cF
          obtain ⟨e, he⟩ : ∃ e, findP l eitherB (j + 1) z = e := ⟨_, rfl⟩
          rw [he] at hds hbd cF
          obtain ⟨g, hg⟩ : ∃ g, marB l pg z j e t = g := ⟨_, rfl⟩
          have hgB : g = (decide (e < z) && ((l[e]?.map braceB).getD false) && pg && decide (0 ≤ boxP t.text) && decide ((trimL (segP l (j + 1) e)).length = 0)) := hg.symm
          have hsk : skipP l e ≤ n + 1 ∧ e < skipP l e := by
            by_cases hen : e < n
            · have a := skip_le (l := l) (k := e) (by rw [Hlen.out]; exact hen)
              have b := skip_gt (l := l) (k := e) (by rw [Hlen.out]; exact hen)
              have := Hlen.out
              omega
            · rw [skip_past (by rw [Hlen.out]; omega)]; omega
          have Hds := Lib.hid hds
          have Hg := Lib.hid hg
          have HgB := Lib.hid hgB
          have Ht := Lib.hid ht
          have H4 := Lib.hid h4
          have l1 := hJ.own1.lt
          have l2 := hJ.own2.lt
          have cX := fun W (hW : Below WA.heap.size WA W) => ru_box t.text W hst.1 (hB.below (hbA.trans (hW.mono hbA.size)))
          have cC := fun W (hW : Below WA.heap.size WA W) (hej : j + 1 ≤ e) => ru_cut l p _ n c A' c' (j + 1) e W (PA.below hW) hej (by omega)
          push_cast at cC
          clear hds he hsp n1k n15k h4 ht hg hgB hJ
          go_wp2_with fail
          refine cF.mono ?_
          rintro e1 w1 ⟨rfl, hb1⟩
          have hJ1 := hJA.below hb1
          have P1 := PA.below hb1
          have a0' := (hb1.cell (p := ⟨wr.heap.size, 0, none⟩) hltA).trans a0
          have a1' := (hb1.cell (p := ⟨wr.heap.size, 1, none⟩) hltA).trans a1
          have pc1 := P1.c0
          clear cF hJA
          go_upto_region 17 with (fail)
          go_cut [92] (fun x wx => x = .bool g ∧ Below w1.heap.size w1 wx)
          case first =>
            have hun : (undef : Value) = .tuple #[] := rfl
            by_cases hez : e < z
            · have dz : (e : Int) < (z : Int) := by omega
              have dn : (e : Int) < (n : Int) := by omega
              obtain ⟨b', off', u, hA, _, hu, y0, y1, y2⟩ := P1.tk.tok (k := e) (by omega)
              injection hA with hA
              injection hA with q1 q2
              subst q1 q2
              have cB := fun W => ru_brace u W
              obtain ⟨q, hq⟩ : ∃ q, braceB u = q := ⟨_, rfl⟩
              simp only [hq] at cB
              have hg1 : g = (q && pg && decide (0 ≤ boxP t.text) && decide ((trimL (segP l (j + 1) e)).length = 0)) := by
                rw [HgB.out, hu, decide_eq_true hez]; simp [hq]
              have HG1 := Lib.hid hg1
              clear hg1 hu hq hez
              go_wp2_with fail
              refine (cB _).mono ?_
              rintro e2 w2 ⟨rfl, hb2⟩
              cases q with
              | false =>
                have e0 : g = false := by rw [HG1.out]; rfl
                have HE := Lib.hid e0
                clear e0
                go_wp2_with fail
                go_meet
                exact ⟨by rw [HE.out], hb2⟩
              | true =>
                cases pg with
                | false =>
                  have e0 : g = false := by rw [HG1.out]; rfl
                  have HE := Lib.hid e0
                  clear e0
                  go_wp2_with fail
                  go_meet
                  exact ⟨by rw [HE.out], hb2⟩
                | true =>
                  have hB2 : Below WA.heap.size WA w2 := hb1.trans (hb2.mono hb1.size)
                  have a1'' := (hb2.cell (p := ⟨wr.heap.size, 1, none⟩) (Nat.lt_of_lt_of_le hltA hb1.size)).trans a1'
                  have cX2 := cX w2 hB2
                  obtain ⟨x, hx⟩ : ∃ x, boxP t.text = x := ⟨_, rfl⟩
                  rw [hx] at cX2
                  have hg2 : g = (decide (0 ≤ x) && decide ((trimL (segP l (j + 1) e)).length = 0)) := by rw [HG1.out, hx]; rfl
                  have HG2 := Lib.hid hg2
                  clear hg2 hx cB
                  go_wp2_with fail
                  refine cX2.mono ?_
                  rintro e3 w3 ⟨rfl, hb3⟩
                  have hb23 : Below w1.heap.size w1 w3 := hb2.trans (hb3.mono hb2.size)
                  by_cases hx0 : 0 ≤ x
                  · have dx : (0 : Int) ≤ x := hx0
                    have hg3 : g = decide ((trimL (segP l (j + 1) e)).length = 0) := by rw [HG2.out, decide_eq_true hx0]; simp
                    have HG3 := Lib.hid hg3
                    have cC3 := cC w3 (hb1.trans (hb23.mono hb1.size)) hbd.1
                    obtain ⟨m, hm⟩ : ∃ m, (trimL (segP l (j + 1) e)).length = m := ⟨_, rfl⟩
                    have hg4 : g = ((m : Int) == 0) := by rw [HG3.out, hm, Bool.eq_iff_iff]; simp
                    have HG4 := Lib.hid hg4
                    have Hm := Lib.hid hm
                    clear hg3 hg4 hm cX2
                    go_wp2_with fail
                    refine cC3.mono ?_
                    rintro e4 w4 ⟨⟨A5, c5, rfl, _, _⟩, hb4⟩
                    rw [Hm.out]
                    go_wp2_with fail
                    go_meet
                    exact ⟨by rw [HG4.out], hb23.trans (hb4.mono hb23.size)⟩
                  · have dx : ¬ (0 : Int) ≤ x := hx0
                    have e0 : g = false := by rw [HG2.out, decide_eq_false hx0]; rfl
                    have HE := Lib.hid e0
                    clear e0 hx0
                    go_wp2_with fail
                    go_meet
                    exact ⟨by rw [HE.out], hb23⟩
            · have dz : ¬ (e : Int) < (z : Int) := by omega
              have e0 : g = false := by rw [HgB.out, decide_eq_false hez]; rfl
              have HE := Lib.hid e0
              clear e0 hez
              go_wp2_with fail
              go_meet
              exact ⟨by rw [HE.out], Below.refl _ _⟩
          case rest =>
            obtain ⟨rfl, hbc⟩ := hcut
            have hJc := hJ1.below hbc
            have Pc := P1.below hbc
            have pc2 := Pc.c1
            have hbcw := hJc.bel
            have b1 := hb1.size
            have b2 := hbc.size
            cases g with
            | false =>
              have hJf := hJc.to (k' := skipP l e) Hds.out.1 (fun hp => by subst hp; rw [Hds.out.2, margin_no Ht.out Hg.out]; rfl)
              have cS := nest_skip l (· < wc.heap.size) A' n c' e wc Pc.en hn (by omega)
              clear hJ1 hJc cX cC
              go_wp2_with fail
              refine cS.mono ?_
              rintro e5 w5 ⟨rfl, rfl⟩
              go_wp2_with fail
              go_roundw
              case rel => exact ⟨skipP l e, A1, n1, c1, A2, n2, c2, md, mm, hsk.1, rfl, rfl, rfl, hnn, hJf⟩
              case measure => simp [intOf]; omega
            | true =>
              obtain ⟨hez, hbr, hpg⟩ := mar_end Hg.out
              obtain ⟨E, hE, hE1, hE2⟩ := brace_end hbr
              obtain ⟨b3, off3, hA3, _, y0⟩ := Pc.en.at_ (k := e) (by omega)
              rw [hE] at y0
              have hEn : E ≤ n := by have := Hlen.out; omega
              subst hpg
              have cR := Hrec.out rfl (e + 1) (min E z) wc hbcw (by omega) (by omega)
              have w2' : IntKind.i64.wrap ((e : Int) + 1) = (e : Int) + 1 := by rw [IntKind.wrap_i64]; omega
              rw [show (((min E z : Nat) : Int)) = min (E : Int) (z : Int) by omega] at cR
              push_cast at cR
              have HE := Lib.hid hE
              have dn : (e : Int) < (n : Int) := by omega
              subst hA3
              clear hbr hE
              go_wp2_with fail
              refine cR.mono ?_
              rintro e5 w5 ⟨ds, ms, B1, d1, B2, d2, rfl, hds5, _, hD5, _, hb5⟩
              have hJ5 := hJc.below hb5
              have b5 := hb5.size
              have hA5 : Below WA.heap.size WA w5 := hb1.trans ((hbc.trans (hb5.mono hbc.size)).mono hb1.size)
              have a15 := (hA5.cell (p := ⟨wr.heap.size, 1, none⟩) hltA).trans a1
              have cL := fun W => rn_lower (bytesOf t.text) W (by rw [bytesOf_size]; exact hst.1)
              rw [show (bytesOf t.text).data.toList = t.text by simp [bytesOf]] at cL
              have Hds5 := Lib.hid hds5
              clear hds5 cR
              go_wp2_with fail
              refine (cL _).mono ?_
              rintro e6 w6 ⟨rfl, hb6⟩
              have hJ6 := hJ5.below hb6
              have b6 := hb6.size
              have hm : DeclsS w6 (BS w w6 (.slice A1 n1 c1) (.slice A2 n2 c2)) B1 ds.length ds := (hD5.keep (Kept.of_below hb6 (fun b hb => hb.2))).more (fun b hb => ⟨by have := hb.1; omega, by have := hb.2; omega, fun e => by have := (l1 b e).2; have := hb.1; omega, fun e => by have := (l2 b e).2; have := hb.1; omega⟩)
              have hnl : mm.length ≤ 1000000 := by
                have h1 := congrArg List.length hJ6.e2
                simp only [if_true] at h1
                rw [List.length_append, List.length_map] at h1
                have h2 := margins_len l k z
                omega
              have hwB : w.heap.size ≤ w6.heap.size := hJ6.bel.size
              have hJ6' := Lib.hid hJ6
              have hds1 := Hds.out.1
              have hds2 := Hds.out.2
              rw [margin_yes Ht.out H4.out Hg.out] at hds2
              have hmE : (⟨lowerP t.text, declsP l (e + 1) (min (endP l e).toNat z)⟩ : Margin) = ⟨lowerP t.text, ds⟩ := by rw [Hds5.out, HE.out]; rfl
              rw [hmE] at hds2
              have HD1 := Lib.hid hds1
              have HD2 := Lib.hid hds2
              have ho2 := hJ6.own2
              clear hds1 hds2 hmE hJ1 hJc hJ5 hD5 hJ6
              go_wp2_with (at_builtin; refine wpList_append_own_at _ rfl _ _ 37 rfl w.heap.size 41 mi0 _ 2 40 Tryz.underlying37 mi mz0 mz1 mz2 rfl (by decide) _ mm.length (cellsM mm) rfl (ho2.alloc _) ⟨w6.heap.size, 0, none⟩ 1 1 [.string (bytesOf (lowerP t.text)), .slice B1 ds.length d1] rfl rfl (cells_new2 _ _ _ _) ?f2 ?f3 ?f4 ?f5 ?_)
              case f2 => intro u hu; simp at hu; rcases hu with rfl | rfl <;> rfl
              case f3 => unfold maxLen; omega
              case f4 => omega
              case f5 => simp; omega
              intro v' w7 hown7 hg7 _ hat
              have hJ7 := hJ6'.out.pushM (m := ⟨⟨lowerP t.text, ds⟩, B1, d1⟩) (k' := skipP l e) hm hwB hown7 hg7 hat HD1.out (by rw [HD2.out]; rfl)
              obtain ⟨A4, c4, rfl, _, _⟩ := own_form hown7
              have P7 := h.below hJ7.bel
              have pc7 := P7.c1
              have cS := nest_skip l (· < w7.heap.size) _ n c' e w7 P7.en hn (by omega)
              clear hown7 hg7 hat hm ho2 hJ6'
              go_wp2_with fail
              refine cS.mono ?_
              rintro e8 w8 ⟨rfl, rfl⟩
              go_wp2_with fail
              go_roundw
              case rel => exact ⟨skipP l e, A1, n1, c1, A4, mm.length + 1, c4, md, _, hsk.1, rfl, rfl, rfl, ⟨hnn.out.1, by simp⟩, hJ7⟩
              case measure => simp [intOf]; omega
        · have k4 : (t.kind == 4) = false := by simpa using h4
          have hds := decls_else (by rw [Hlen.out]; exact hz) hlt ht n1k n15k h4
          have hgt := semi_gt (l := l) (by rw [Hlen.out]; exact hz) hlt ht n15k
          have hbd := find_bounds (l := l) semiB (k := j) (z := z) (by rw [Hlen.out]; exact hz) (by omega)
          have cF := ru_find l semiB 25 p _ n c A' c' j z WA PA (by omega) hz (fun t _ W _ => ru_semi t W) ru_enter_semi
          obtain ⟨e, he⟩ : ∃ e, findP l semiB j z = e := ⟨_, rfl⟩
          rw [he] at hds hgt hbd cF
          have Hds := Lib.hid hds
          clear hds he hsp n1k n15k h4 ht
          go_wp2_with fail
          refine cF.mono ?_
          rintro e1 w1 ⟨rfl, hb1⟩
          have hJ1 := hJA.below hb1
          have P1 := PA.below hb1
          have cD := ru_decl l p _ n c A' c' j e w1 P1 (by omega) (by omega) (hT.below (hbA.trans (hb1.mono hbA.size)))
          clear cF
          go_wp2_with fail
          refine cD.mono ?_
          rintro e2 w2 ⟨hret, hb2⟩
          have hJ2 := hJ1.below hb2
          have hs1 : wr.heap.size < w1.heap.size := Nat.lt_of_lt_of_le hltA hb1.size
          have hs2 := hb2.size
          have l1 := hJ.own1.lt
          have l2 := hJ.own2.lt
          obtain ⟨od, hod⟩ : ∃ od, declP (segP l j e) = od := ⟨_, rfl⟩
          rw [hod] at hret
          have Hod := Lib.hid hod
          clear hod cD hJ hJA hJ1
          cases od with
          | none =>
            obtain ⟨xs, A3, n3, c3, b3, rfl⟩ := hret
            obtain ⟨WB, hWB⟩ : ∃ WB, w2.alloc (.cells #[.string xs, .slice A3 n3 c3, .bool b3] 34) = WB := ⟨_, rfl⟩
            have bB : Below w2.heap.size w2 WB := by rw [← hWB]; exact (Below.refl _ _).alloc (Nat.le_refl _) _
            have hJB := (hJ2.below bB).to (k' := e) (by rw [Hds.out.1, Hod.out]; rfl) (fun _ => Hds.out.2)
            clear hJ2
            go_wp2_with fail
            go_roundw
            case rel => exact ⟨e, A1, n1, c1, A2, n2, c2, md, mm, by omega, rfl, rfl, rfl, hnn, hJB⟩
            case measure => simp [intOf]; omega
          | some d =>
            obtain ⟨A3, c3, rfl, hR⟩ := hret
            obtain ⟨dn, dv, dim⟩ := d
            simp only [] at *
            obtain ⟨WB, hWB⟩ : ∃ WB, w2.alloc (.cells #[.string (bytesOf dn), .slice A3 dv.length c3, .bool dim] 34) = WB := ⟨_, rfl⟩
            have bB : Below w2.heap.size w2 WB := by rw [← hWB]; exact (Below.refl _ _).alloc (Nat.le_refl _) _
            have rB : RowAt WB w2.heap.size [.string (bytesOf dn), .slice A3 dv.length c3, .bool dim] := by rw [← hWB]; exact RowAt.new _ _ _
            obtain ⟨y0, _⟩ := rB.2 0 _ rfl
            obtain ⟨y1, _⟩ := rB.2 1 _ rfl
            obtain ⟨y2, _⟩ := rB.2 2 _ rfl
            have hJB := hJ2.below bB
            have hsB := bB.size
            have hm : ReadsS WB (BS w WB (.slice A1 n1 c1) (.slice A2 n2 c2)) 3 A3 dv.length (cellsG dv) := (hR.keep (Kept.of_below bB (fun b hb => hb.2))).more (fun b hb => ⟨by have := hb.1; omega, by have := hb.2; omega, fun e => by have := (l1 b e).2; have := hb.1; omega, fun e => by have := (l2 b e).2; have := hb.1; omega⟩)
            have hnl : md.length ≤ 1000000 := by
              have h1 := congrArg List.length hJB.e1
              rw [List.length_append, List.length_map] at h1
              have h2 := decls_len l k z
              omega
            have hn1 := hnn.out.1
            have hwB : w.heap.size ≤ WB.heap.size := hJB.bel.size
            have Hn1 := Lib.hid hn1
            clear hn1 hJ2 rB
            go_wp2_with (at_builtin; refine wpList_append_own_at _ rfl _ _ 31 rfl w.heap.size 34 di0 _ 3 48 Tryz.underlying31 di dz0 dz1 dz2 rfl (by decide) _ md.length (cellsD md) rfl (hJB.own1.alloc _) ⟨WB.heap.size, 0, none⟩ 1 1 [.string (bytesOf dn), .slice A3 dv.length c3, .bool dim] rfl rfl (cells_new3 _ _ _ _ _) ?e2 ?e3 ?e4 ?e5 ?_)
            case e2 => intro u hu; simp at hu; rcases hu with rfl | rfl | rfl <;> rfl
            case e3 => unfold maxLen; omega
            case e4 => omega
            case e5 => simp; omega
            intro v' w3 hown3 hg3 _ hat
            have hJ4 := hJB.pushD (m := ⟨⟨dn, dv, dim⟩, A3, c3⟩) (k' := e) hm hwB hown3 hg3 hat (by rw [Hds.out.1, Hod.out]; rfl) (fun _ => Hds.out.2)
            obtain ⟨A4, c4, rfl, _, _⟩ := own_form hown3
            clear hown3 hg3 hat hm hJB hR
            go_wp2_with fail
            go_roundw
            case rel => exact ⟨e, A4, md.length + 1, c4, A2, n2, c2, _, mm, by omega, rfl, rfl, rfl, ⟨by simp, hnn.out.2⟩, hJ4⟩
            case measure => simp [intOf]; omega
    · have dj : ¬ (j : Int) < (z : Int) := by omega
      have hfin := hJ.done hnn.out.1 hnn.out.2 (by omega)
      have HF := Lib.hid hfin
      clear hfin hJ
      go_wp2_with fail
      go_ret2
      exact HF.out
theorem ru_block_false (l : List GTok) (p : Nat) (A : Option Addr) (n c : Nat) (A' : Option Addr) (c' k z : Nat) (w : World) (h : Par w p l A n c A' c') (hk : k ≤ z) (hz : z ≤ n) (hT : Tabs w) (hB : Boxed w) :
    Calls Tryz.prog 30 #[.pointer (some ⟨p, 0, none⟩), .int .i64 (k : Int), .int .i64 (z : Int), .bool false] w (BlockRet l k z false w) :=
  ru_block_core false l p A n c A' c' k z w h hk hz hT hB (fun e => by cases e)
theorem ru_block (pg : Bool) (l : List GTok) (p : Nat) (A : Option Addr) (n c : Nat) (A' : Option Addr) (c' k z : Nat) (w : World) (h : Par w p l A n c A' c') (hk : k ≤ z) (hz : z ≤ n) (hT : Tabs w) (hB : Boxed w) :
    Calls Tryz.prog 30 #[.pointer (some ⟨p, 0, none⟩), .int .i64 (k : Int), .int .i64 (z : Int), .bool pg] w (BlockRet l k z pg w) :=
  ru_block_core pg l p A n c A' c' k z w h hk hz hT hB (fun _ j i W hW hj hi => ru_block_false l p A n c A' c' j i W (h.below hW) hj hi (hT.below hW) (hB.below hW))
end Go.Proofs.YtfhdihdafmahgaaGreatDoor
/- Layer 3's tokens are small: no text is longer than four times what was scanned. Plain laws. -/
set_option linter.unusedVariables false
set_option linter.unusedSimpArgs false
namespace Go.Proofs.YtfhdihdafmahgaaGreatDoor
open Go.RowKit Rn Tp Tk Ru
theorem name_chars (r : List Int) : (nameT r).1.length ≤ r.length := by
  fun_induction nameT r with
  | case1 r h ih =>
    have := meant_lt (esc_ne h)
    simp only [List.length_cons]; omega
  | case2 r h h2 ih =>
    have := tail_lt (within_ne h2)
    simp only [List.length_cons]; omega
  | case3 r => simp
theorem quote_chars (e : Int) (r : List Int) : (quoteT e r).1.length ≤ r.length := by
  fun_induction quoteT e r with
  | case1 => simp
  | case2 => simp
  | case3 t h => simp
  | case4 c t h h2 h3 ih => have := meant_len t; simp only [List.length_cons] at *; omega
  | case5 t h h2 h3 ih => simp only [List.length_cons, List.length_tail] at *; omega
  | case6 c t h h2 h3 h4 ih => simp only [List.length_cons] at *; omega
theorem write_le (l : List Int) : (writeP l).length ≤ 4 * l.length := by
  induction l with
  | nil => simp [writeP]
  | cons c l ih =>
    have := (encode_len c).2
    rw [write_cons, List.length_append, List.length_cons]; omega
theorem parse_le (x : List UInt8) : -1099511627776 ≤ Fx.parseP x ∧ Fx.parseP x ≤ 1099511627776 := by
  have h : Fx.numP x ≤ 1099511627776 := by
    unfold Fx.numP Fx.foldN
    have : ∀ a, min a Fx.M ≤ 1099511627776 := fun a => by unfold Fx.M; omega
    exact this _
  unfold Fx.parseP
  (repeat' split) <;> omega
/-- a token's text, and its number, are small -/
def SmallK (n : Nat) (t : Tok) : Prop := t.text.length ≤ 4 * n ∧ -1099511627776 ≤ t.n ∧ t.n ≤ 1099511627776
theorem name_small (r : List Int) {n : Nat} (h : r.length ≤ n) : (writeP (nameT r).1).length ≤ 4 * n := by
  have := write_le (nameT r).1
  have := name_chars r
  omega
theorem next_small {r : List Int} (hr : r ≠ []) : SmallK r.length (nextT r).1 := by
  have ht : r.tail.length ≤ r.length := by simp
  unfold nextT
  simp only []
  split
  · refine ⟨?_, by simp, by simp⟩
    have := write_le (quoteT (pk r 0) r.tail).1
    have := quote_chars (pk r 0) r.tail
    show (writeP _).length ≤ _
    omega
  · split
    · exact ⟨name_small _ ht, by simp, by simp⟩
    · split
      · rename_i x hx
        unfold numberT at hx
        simp only [] at hx
        have hp := parse_le ((numText r).take (Fx.lenP (numText r)))
        split at hx
        · cases hx
        · split at hx
          · cases hx
            exact ⟨name_small _ (by simp), hp.1, hp.2⟩
          · split at hx
            · cases hx; exact ⟨by simp, hp.1, hp.2⟩
            · cases hx; exact ⟨by simp, hp.1, hp.2⟩
      · split
        · exact ⟨name_small _ ht, by simp, by simp⟩
        · split
          · split
            · exact ⟨name_small _ (Nat.le_refl _), by simp, by simp⟩
            · exact ⟨name_small _ (Nat.le_refl _), by simp, by simp⟩
          · refine ⟨?_, by simp [signT], by simp [signT]⟩
            have := List.length_pos_iff.2 hr
            unfold signT
            simp only []
            split
            · have := write_le [pk r 0]
              simp at this; omega
            · simp
theorem SmallK.more {n m : Nat} {t : Tok} (h : SmallK n t) (hm : n ≤ m) : SmallK m t := ⟨by have := h.1; omega, h.2⟩
theorem scan_small (r : List Int) : ∀ t ∈ scanT r, SmallK r.length t := by
  have hsp : SmallK r.length ⟨1, [], 0⟩ := ⟨by simp, by simp, by simp⟩
  by_cases h : (spacesT r).2 = []
  · rw [scanT_end h]
    intro t ht
    split at ht
    · rw [List.mem_singleton.1 ht]; exact hsp
    · cases ht
  · rw [scanT_step h]
    have h1 := spaces_len r
    have h2 := next_lt h
    have ih := scan_small (nextT (spacesT r).2).2
    intro t ht
    rcases List.mem_append.1 ht with ht | ht
    · split at ht
      · rw [List.mem_singleton.1 ht]; exact hsp
      · cases ht
    · rcases List.mem_cons.1 ht with rfl | ht
      · exact (next_small h).more h1
      · exact (ih t ht).more (by omega)
termination_by r.length
decreasing_by exact Nat.lt_of_lt_of_le (next_lt h) (spaces_len r)
/-- the tokens of a sheet's bytes -/
theorem sheet_small {bs : List UInt8} (h : bs.length ≤ 65536) : ∀ t ∈ (scanT (readP bs)).map Tok.g, smallT t := by
  intro t ht
  obtain ⟨x, hx, rfl⟩ := List.mem_map.1 ht
  obtain ⟨h1, h2, h3⟩ := scan_small _ x hx
  have hl : (readP bs).length ≤ bs.length := readF_len _ _
  exact ⟨by show x.text.length ≤ _; omega, by show _ ≤ x.n; omega, by show x.n ≤ _; omega⟩
end Go.Proofs.YtfhdihdafmahgaaGreatDoor
/- Layer 6: what the program's Parse holds at each round: plain laws, and memory. -/
set_option linter.unusedVariables false
set_option linter.unusedSimpArgs false
namespace Go.Proofs.YtfhdihdafmahgaaGreatDoor
open Go.RowKit Rn Tp Ru
theorem ruleAt_len (l : List GTok) (t : GTok) (k e : Nat) : (ruleAt l t k e).toList.length ≤ 1 := by cases ruleAt l t k e <;> simp
theorem rulesF_len (l : List GTok) : ∀ f k, (rulesF l f k).length ≤ f
  | 0, k => by simp [rulesF]
  | f + 1, k => by
    have ih := rulesF_len l f
    unfold rulesF
    split
    · simp
    · split
      · exact Nat.le_succ_of_le (ih _)
      · rename_i t _ _
        have h1 := ruleAt_len l t k (ruleEnd l t k)
        have h2 := ih (skipP l (ruleEnd l t k))
        rw [List.length_append]; omega
theorem rules_len (l : List GTok) : (rulesP l 0).length ≤ l.length := by have := rulesF_len l (l.length - 0) 0; unfold rulesP; omega
/-- is there a rule's block? -/
def ruleG (l : List GTok) (t : GTok) (e : Nat) : Bool := decide (e < l.length) && ((l[e]?.map braceB).getD false) && !(decide (t.kind = 4) && !decide (lowerP t.text = pageS))
def fromP (t : GTok) (k : Nat) : Nat := if t.kind = 4 then k + 1 else k
theorem rule_no {l : List GTok} {t : GTok} {k e : Nat} (h : ruleG l t e = false) : ruleAt l t k e = none := by
  unfold ruleAt
  simp only []
  rw [if_neg]
  rintro ⟨h1, h2, h3⟩
  have : ruleG l t e = true := by
    unfold ruleG
    rw [h2]
    simp only [decide_eq_true_eq] at h3
    by_cases h4 : t.kind = 4
    · simp [h1, h4, h3 h4]
    · simp [h1, h4]
  rw [this] at h; cases h
theorem rule_yes {l : List GTok} {t : GTok} {k e : Nat} (h : ruleG l t e = true) : e < l.length ∧ (l[e]?.map braceB) = some true ∧ ruleAt l t k e = if soundP (trimL (segP l (fromP t k) e)) = true then some ⟨if t.kind = 4 then 2 else 1, trimL (segP l (fromP t k) e), declsP l (e + 1) (endP l e).toNat, if t.kind = 4 then marginsP l (e + 1) (endP l e).toNat else []⟩ else none := by
  unfold ruleG at h
  simp only [Bool.and_eq_true, decide_eq_true_eq, Bool.not_eq_true'] at h
  obtain ⟨⟨h1, h2⟩, h3⟩ := h
  have hb : (l[e]?.map braceB) = some true := by
    cases hx : l[e]?.map braceB with
    | none => rw [hx] at h2; cases h2
    | some b => rw [hx] at h2; simp at h2; rw [h2]
  refine ⟨h1, hb, ?_⟩
  unfold ruleAt fromP
  simp only [decide_eq_true_eq]
  rw [if_pos]
  refine ⟨h1, hb, fun h4 => ?_⟩
  rw [Bool.and_eq_false_iff] at h3
  rcases h3 with h3 | h3
  · simp [h4] at h3
  · simpa using h3
/-- the blocks that hold no row of rules -/
def RS (w wr : World) (v : Value) : Nat → Prop := fun b => w.heap.size ≤ b ∧ b < wr.heap.size ∧ v.ownBlock ≠ some b
structure RJ (l : List GTok) (w wr : World) (k : Nat) (v : Value) (mr : List MRule) : Prop where
  bel : Below w.heap.size w wr
  own : wr.ownsRow w.heap.size 39 4 v mr.length (cellsR mr)
  rd : RulesM wr (RS w wr v) mr
  e1 : rulesP l 0 = mr.map (·.r) ++ rulesP l k
section
variable {l : List GTok} {k k' : Nat} {w wr W w3 : World} {v v' : Value} {mr : List MRule} {o : Obj}
theorem RJ.start (l : List GTok) (w : World) : RJ l w w 0 (.slice none 0 0) [] := ⟨Below.refl _ _, World.ownsRow_nil _ _ _ _, (fun m hm => by cases hm), (by simp)⟩
theorem RJ.to (h : RJ l w wr k v mr) (h1 : rulesP l k = rulesP l k') : RJ l w wr k' v mr := ⟨h.bel, h.own, h.rd, by rw [h.e1, h1]⟩
theorem RJ.below (h : RJ l w wr k v mr) (hb : Below wr.heap.size wr W) : RJ l w W k v mr :=
  ⟨h.bel.trans (hb.mono h.bel.size), own_below h.own hb, (h.rd.keep (Kept.of_below hb (fun b h => h.2.1))).more (fun b hb' => ⟨hb'.1, Nat.lt_of_lt_of_le hb'.2.1 hb.size, hb'.2.2⟩), h.e1⟩
theorem RJ.push {m : MRule} (h : RJ l w W k v mr) (hm : m.Reads W (RS w W v)) (hw : w.heap.size ≤ W.heap.size)
    (hown : w3.ownsRow w.heap.size 39 4 v' (mr.length + 1) (cellsR mr ++ m.cells)) (hg : (W.alloc o).grownBy w3 v.ownBlock) (hat : v'.ownBlock = v.ownBlock ∨ v'.ownBlock = some (W.heap.size + 1))
    (h1 : rulesP l k = m.r :: rulesP l k') : RJ l w w3 k' v' (mr ++ [m]) := by
  have hsz : W.heap.size + 1 ≤ w3.heap.size := by have := hg.size; simpa using this
  have hS : ∀ b, RS w W v b → RS w w3 v' b := fun b hb => ⟨hb.1, by have := hb.2.1; omega, by
    rcases hat with e | e
    · rw [e]; exact hb.2.2
    · rw [e]; intro e2; injection e2 with e2; have := hb.2.1; omega⟩
  have hkA : Kept (RS w W v) W (W.alloc o) := Kept.of_alloc o (fun b hb => hb.2.1)
  have hkG : Kept (RS w W v) (W.alloc o) w3 := Kept.of_grown hg (fun b hb => ⟨by have := hb.2.1; simp; omega, fun e => hb.2.2 e.symm⟩)
  have hk := hkA.trans hkG
  refine ⟨push_below h.bel hw h.own hg, by rw [List.length_append, cellsR_snoc]; exact hown, ?_, ?_⟩
  · exact ((h.rd.keep hk).more hS).snoc ((hm.keep hk).more hS)
  · rw [h.e1, h1]; simp
theorem RJ.done {A : Option Addr} {n c : Nat} (h : RJ l w wr k (.slice A n c) mr) (hn : n = mr.length) (hk : l.length ≤ k) : n = (rulesP l 0).length ∧ RulesS wr (Fresh w wr) A (rulesP l 0).length (rulesP l 0) := by
  subst hn
  have he : rulesP l 0 = mr.map (·.r) := by rw [h.e1, rules_end hk, List.append_nil]
  refine ⟨by rw [he, List.length_map], mr, he.symm, ?_, h.rd.more (fun b hb => ⟨hb.1, hb.2.1⟩)⟩
  rw [he, List.length_map]
  exact ReadsS.of_own h.own (fun b hb => h.own.lt b hb)
end
/-- what Parse hands back -/
def ParseRet (n0 : Nat) (T : List Tk.Tok) (w : World) (e : Ending) (w' : World) : Prop :=
  Below w.heap.size w w' ∧
  if 65536 < n0 ∨ 16384 < T.length then e = .returned (.tuple #[.slice none 0 0, .int .i64 2])
  else if (parseT (T.map Tk.Tok.g)).1 = 0 then ∃ A c, e = .returned (.tuple #[.slice A (parseT (T.map Tk.Tok.g)).2.length c, .int .i64 0]) ∧ RulesS w' (Fresh w w') A (parseT (T.map Tk.Tok.g)).2.length (parseT (T.map Tk.Tok.g)).2
  else e = .returned (.tuple #[.slice none 0 0, .int .i64 (parseT (T.map Tk.Tok.g)).1])
theorem ru_rule_info : (Tryz.prog.info? 39).map (fun i => (i.zero, i.size, i.bytes)) = some (some (.agg #[.int .i64 0, .slice none 0 0, .slice none 0 0, .slice none 0 0]), 4, 80) := by kernel_rfl
theorem cells_new4 (w : World) (e : TypeId) (a b c d : Value) : ∀ j u, [a, b, c, d][j]? = some u → (w.alloc (.cells #[a, b, c, d] e)).cell? ((⟨w.heap.size, 0, none⟩ : Addr).add j) = some u := by
  intro j u hu
  have h := ((RowAt.new w e #[a, b, c, d]).2 j u hu).1
  have ha : (⟨w.heap.size, 0, none⟩ : Addr).add j = ⟨w.heap.size, j, none⟩ := by unfold Addr.add; split <;> simp_all
  rw [ha]; exact h
end Go.Proofs.YtfhdihdafmahgaaGreatDoor
/- Layer 6: the statement of the program's Parse that fills in a rule's declarations and margin rules is walked apart, over a frame of letters: it draws its order. -/
set_option linter.unusedVariables false
set_option linter.unusedSimpArgs false
namespace Go.Proofs.YtfhdihdafmahgaaGreatDoor
open Go.RowKit Rn Tp Ru
/-- behind the statement that fills in a rule's declarations and margin rules -/
def RegRet (l : List GTok) (k z : Nat) (pg : Bool) (g : Nat) (kd : Int) (pre : Value) (w w' : World) : Prop :=
  ∃ (ds : List Decl) (ms : List Margin) (B1 : Option Addr) (d1 : Nat) (B2 : Option Addr) (d2 : Nat), RowAt w' g [.int .i64 kd, pre, .slice B1 ds.length d1, .slice B2 ms.length d2] ∧ ds = declsP l k z ∧ ms = (if pg = true then marginsP l k z else [])
    ∧ DeclsS w' (Fresh w w') B1 ds.length ds ∧ MarginsS w' (Fresh w w') B2 ms.length ms ∧ Below g w w'
theorem reg_fin {l : List GTok} {k z : Nat} {pg : Bool} {g : Nat} {kd : Int} {pre : Value} {w w9 : World} {ds : List Decl} {ms : List Margin} {B1 : Option Addr} {d1 : Nat} {B2 : Option Addr} {d2 : Nat} (hg : g < w.heap.size)
    (hds : ds = declsP l k z) (hms : ms = (if pg = true then marginsP l k z else [])) (hD : DeclsS w9 (Fresh w w9) B1 ds.length ds) (hM : MarginsS w9 (Fresh w w9) B2 ms.length ms) (hb : Below w.heap.size w w9) (r9 : RowAt w9 g [.int .i64 kd, pre, .slice none 0 0, .slice none 0 0]) :
    RegRet l k z pg g kd pre w ((w9.setCell ⟨g, 2, none⟩ (.slice B1 ds.length d1)).setCell ⟨g, 3, none⟩ (.slice B2 ms.length d2)) := by
  have hne : ∀ x, Fresh w w9 x → x ≠ g := fun x hx => by have := hx.1; omega
  have hbg : Below g w w9 := hb.mono (Nat.le_of_lt hg)
  have hk : Kept (Fresh w w9) w9 ((w9.setCell ⟨g, 2, none⟩ (.slice B1 ds.length d1)).setCell ⟨g, 3, none⟩ (.slice B2 ms.length d2)) := (Kept.setCell (p := ⟨g, 2, none⟩) _ hne).trans (fun b hb => Below.heap_setCell _ _ _ _ (hne b hb))
  exact ⟨ds, ms, B1, d1, B2, d2, (r9.store 2 _).store 3 _, hds, hms, (hD.keep hk).more (fun b hb => ⟨hb.1, by have := hb.2; simp [World.setCell]; omega⟩), (hM.keep hk).more (fun b hb => ⟨hb.1, by have := hb.2; simp [World.setCell]; omega⟩), (hbg.setCell (p := ⟨g, 2, none⟩) (Nat.le_refl _) _).setCell (p := ⟨g, 3, none⟩) (Nat.le_refl _) _⟩
/-- a code's region of that number -/
def regionR (r : Nat) : Code → Option Code
  | .seq a b => match regionR r a with
    | some c => some c
    | none => regionR r b
  | .block _ c => regionR r c
  | .loop c => regionR r c
  | .scope c => regionR r c
  | .cond _ a b => match regionR r a with
    | some c => some c
    | none => regionR r b
  | .region k x y => if k = r then some (.region k x y) else none
  | _ => none
noncomputable def parseFill : Code := (regionR 23 (Tryz.f9.body.getD .skip)).getD .skip
set_option maxRecDepth 1000000 in
set_option maxHeartbeats 4000000 in
theorem ru_fill {l : List GTok} {pg : Bool} {wX : World} {p g g1 e E n : Nat} {kd : Int} {pre : Value} (u0 u1 u2 u3 u4 u5 u8 u9 u10 u11 u12 u15 u16 u17 u18 u19 u20 u21 u22 u23 u24 u25 u26 u27 u28 u29 u30 u31 u32 u33 u34 u35 u36 u37 u38 u39 u40 u41 u42 u43 u44 u45 u46 u47 u48 u49 u50 u51 u52 u53 u54 u55 u56 u57 u58 u59 u60 u61 u62 u63 u64 u65 u66 u67 u68 u69 u70 u71 u72 u73 u74 u75 u76 u77 u78 u79 u80 u81 u82 u83 u84 u85 u86 u87 u88 u89 u90 u91 u92 u93 u94 u95 u96 u97 u98 u99 u100 u101 u102 u103 u104 u105 u106 u107 u108 u109 u110 u111 u112 u113 u114 u115 u116 u117 u118 u119 u120 u121 : Value)
    (y3 : wX.cell? ⟨g1, e, none⟩ = some (.int .i64 (E : Int))) (de : (e : Int) < (n : Int)) (de0 : (0 : Int) ≤ (e : Int)) (we1 : IntKind.i64.wrap ((e : Int) + 1) = (e : Int) + 1) (hgl : g < wX.heap.size)
    (rX : RowAt wX g [.int .i64 kd, pre, .slice none 0 0, .slice none 0 0])
    (cR : Calls Tryz.prog 30 #[.pointer (some ⟨p, 0, none⟩), .int .i64 ((e : Int) + 1), .int .i64 (E : Int), .bool (kd == 2)] wX.drew (BlockRet l (e + 1) E pg wX.drew)) :
    Code.wp Tryz.prog parseFill (fun e' a W => match e' with
      | .normal => (∃ v95 v96 v97 v98 v99 v100 v101 v102 v103 v104 v105 v106 v107 v108 v109 v110 : Value, a = ⟨(List.toArray (u0 :: u1 :: u2 :: u3 :: u4 :: u5 :: Value.slice (some ⟨g1, 0, none⟩) n n :: Value.pointer (some ⟨p, 0, none⟩) :: u8 :: u9 :: u10 :: u11 :: u12 :: Value.int .i64 (e : Int) :: Value.pointer (some ⟨g, 0, none⟩) :: u15 :: u16 :: u17 :: u18 :: u19 :: u20 :: u21 :: u22 :: u23 :: u24 :: u25 :: u26 :: u27 :: u28 :: u29 :: u30 :: u31 :: u32 :: u33 :: u34 :: u35 :: u36 :: u37 :: u38 :: u39 :: u40 :: u41 :: u42 :: u43 :: u44 :: u45 :: u46 :: u47 :: u48 :: u49 :: u50 :: u51 :: u52 :: u53 :: u54 :: u55 :: u56 :: u57 :: u58 :: u59 :: u60 :: u61 :: u62 :: u63 :: u64 :: u65 :: u66 :: u67 :: u68 :: u69 :: u70 :: u71 :: u72 :: u73 :: u74 :: u75 :: u76 :: u77 :: u78 :: u79 :: u80 :: u81 :: u82 :: u83 :: u84 :: u85 :: u86 :: u87 :: u88 :: u89 :: u90 :: u91 :: u92 :: u93 :: u94 :: v95 :: v96 :: v97 :: v98 :: v99 :: v100 :: v101 :: v102 :: v103 :: v104 :: v105 :: v106 :: v107 :: v108 :: v109 :: v110 :: u111 :: u112 :: u113 :: u114 :: u115 :: u116 :: u117 :: u118 :: u119 :: u120 :: u121 :: [])), []⟩) ∧ RegRet l (e + 1) E pg g kd pre wX W
      | _ => False) ⟨(List.toArray (u0 :: u1 :: u2 :: u3 :: u4 :: u5 :: Value.slice (some ⟨g1, 0, none⟩) n n :: Value.pointer (some ⟨p, 0, none⟩) :: u8 :: u9 :: u10 :: u11 :: u12 :: Value.int .i64 (e : Int) :: Value.pointer (some ⟨g, 0, none⟩) :: u15 :: u16 :: u17 :: u18 :: u19 :: u20 :: u21 :: u22 :: u23 :: u24 :: u25 :: u26 :: u27 :: u28 :: u29 :: u30 :: u31 :: u32 :: u33 :: u34 :: u35 :: u36 :: u37 :: u38 :: u39 :: u40 :: u41 :: u42 :: u43 :: u44 :: u45 :: u46 :: u47 :: u48 :: u49 :: u50 :: u51 :: u52 :: u53 :: u54 :: u55 :: u56 :: u57 :: u58 :: u59 :: u60 :: u61 :: u62 :: u63 :: u64 :: u65 :: u66 :: u67 :: u68 :: u69 :: u70 :: u71 :: u72 :: u73 :: u74 :: u75 :: u76 :: u77 :: u78 :: u79 :: u80 :: u81 :: u82 :: u83 :: u84 :: u85 :: u86 :: u87 :: u88 :: u89 :: u90 :: u91 :: u92 :: u93 :: u94 :: u95 :: u96 :: u97 :: u98 :: u99 :: u100 :: u101 :: u102 :: u103 :: u104 :: u105 :: u106 :: u107 :: u108 :: u109 :: u110 :: u111 :: u112 :: u113 :: u114 :: u115 :: u116 :: u117 :: u118 :: u119 :: u120 :: u121 :: [])), []⟩ wX := by
  conv => arg 2; whnf
  have r0 : RowAt wX.drew g [.int .i64 kd, pre, .slice none 0 0, .slice none 0 0] := rX
  have y3d : wX.drew.cell? ⟨g1, e, none⟩ = some (.int .i64 (E : Int)) := y3
  obtain ⟨k0, kf0⟩ := r0.2 0 _ rfl
  refine wp_region_any (by kernel_rfl) ?_
  try (change wpAny _ _ _ _ _ _ _ (World.drew _))
  refine wpAny_take (i := 0) (v := ?_) rfl (by kernel_rfl) (by kernel_rfl) (by kernel_rfl) (fun _ _ _ h => h) (Or.inl ⟨by kernel_rfl, ?_⟩) ?_
  rotate_left
  · intro w; go_simp; (try with_reducible rfl)
  refine wpAny_take (i := 1) (v := ?_) rfl (by kernel_rfl) (by kernel_rfl) (by kernel_rfl) (fun _ _ _ h => h) (Or.inl ⟨by kernel_rfl, ?_⟩) ?_
  rotate_left
  · intro w; go_simp; (try with_reducible rfl)
  refine wpAny_take (i := 2) (v := ?_) rfl (by kernel_rfl) (by kernel_rfl) (by kernel_rfl) (fun _ _ _ h => h) (Or.inl ⟨by kernel_rfl, ?_⟩) ?_
  rotate_left
  · intro w; go_simp; (try with_reducible rfl)
  refine wpAny_take (i := 3) (v := ?_) rfl (by kernel_rfl) (by kernel_rfl) (by kernel_rfl) (fun _ _ _ h => h) (Or.inl ⟨by kernel_rfl, ?_⟩) ?_
  rotate_left
  · intro w; go_simp; (try with_reducible rfl)
  refine wpAny_take (i := 4) (v := ?_) rfl (by kernel_rfl) (by kernel_rfl) (by kernel_rfl) (fun _ _ _ h => h) (Or.inl ⟨by kernel_rfl, ?_⟩) ?_
  rotate_left
  · intro w; go_simp; (try with_reducible rfl)
  refine wpAny_take (i := 5) (v := ?_) rfl (by kernel_rfl) (by kernel_rfl) (by kernel_rfl) (fun _ _ _ h => h) (Or.inl ⟨by kernel_rfl, ?_⟩) ?_
  rotate_left
  · intro w; go_simp; (try with_reducible rfl)
  refine wpAny_take (i := 7) (v := ?_) rfl (by kernel_rfl) (by kernel_rfl) (by kernel_rfl) (fun _ _ _ h => h) (Or.inl ⟨by kernel_rfl, ?_⟩) ?_
  rotate_left
  · intro w; go_simp; (try with_reducible rfl)
  refine wpAny_ready (rs := [6, 8]) (by kernel_rfl) (by simp) ?_
  refine AllReady.cons rfl (fun K hK => ?_) ?_
  · go_simp
    (try (refine hK _ _ ?_; clear hK K))
    refine wpAny_ready (rs := [8]) (by kernel_rfl) (by simp) ?_
    refine AllReady.cons rfl (fun K hK => ?_) ?_
    · go_simp
      (try (refine hK _ _ ?_; clear hK K))
      refine wpAny_take (i := 9) (v := ?_) rfl (by kernel_rfl) (by kernel_rfl) (by kernel_rfl) (fun _ _ _ h => h) (Or.inl ⟨by kernel_rfl, ?_⟩) ?_
      rotate_left
      · intro w; go_simp; (try with_reducible rfl)
      refine wpAny_ready (rs := [10]) (by kernel_rfl) (by simp) ?_
      refine AllReady.cons rfl (fun K hK => ?_) ?_
      · go_simp
        go_wp2_with (first | (go_at_call 30; refine cR.mono ?_; rintro e9 w9 ⟨ds, ms, B1, d1, B2, d2, rfl, hds, hms, hD, hM, hb9⟩; have r9 := r0.below hb9 hgl; obtain ⟨z2, f2⟩ := r9.2 2 _ rfl; obtain ⟨z3, f3⟩ := r9.2 3 _ rfl; have Hds := Lib.hid hds; have Hms := Lib.hid hms; clear hds hms))
        (try (refine hK _ _ ?_; clear hK K))
        refine wpAny_take (i := 11) (v := ?_) rfl (by kernel_rfl) (by kernel_rfl) (by kernel_rfl) (fun _ _ _ h => h) (Or.inl ⟨by kernel_rfl, ?_⟩) ?_
        rotate_left
        · intro w; go_simp; (try with_reducible rfl)
        refine wpAny_take (i := 12) (v := ?_) rfl (by kernel_rfl) (by kernel_rfl) (by kernel_rfl) (fun _ _ _ h => h) (Or.inl ⟨by kernel_rfl, ?_⟩) ?_
        rotate_left
        · intro w; go_simp; (try with_reducible rfl)
        refine wpAny_take (i := 13) (v := ?_) rfl (by kernel_rfl) (by kernel_rfl) (by kernel_rfl) (fun _ _ _ h => h) (Or.inl ⟨by kernel_rfl, ?_⟩) ?_
        rotate_left
        · intro w; go_simp; (try with_reducible rfl)
        refine wpAny_take (i := 14) (v := ?_) rfl (by kernel_rfl) (by kernel_rfl) (by kernel_rfl) (fun _ _ _ h => h) (Or.inl ⟨by kernel_rfl, ?_⟩) ?_
        rotate_left
        · intro w; go_simp; (try with_reducible rfl)
        refine wpAny_ready (rs := [15]) (by kernel_rfl) (by simp) ?_
        refine AllReady.cons rfl (fun K hK => ?_) ?_
        · go_simp
          (try (refine hK _ _ ?_; clear hK K))
          refine wpAny_take (i := 16) (v := ?_) rfl (by kernel_rfl) (by kernel_rfl) (by kernel_rfl) (fun _ _ _ h => h) (Or.inl ⟨by kernel_rfl, ?_⟩) ?_
          rotate_left
          · intro w; go_simp; (try with_reducible rfl)
          refine wpAny_ready (rs := [17]) (by kernel_rfl) (by simp) ?_
          refine AllReady.cons rfl (fun K hK => ?_) ?_
          · go_simp
            (try (refine hK _ _ ?_; clear hK K))
            refine wpAny_done (by kernel_rfl) ?_ _
            exact ⟨⟨_, _, _, _, _, _, _, _, _, _, _, _, _, _, _, _, rfl⟩, reg_fin (w := wX) hgl Hds.out Hms.out hD hM ((Below.refl _ _).drew.trans hb9) r9⟩
          · exact AllReady.nil
        · exact AllReady.nil
      · exact AllReady.nil
    · exact AllReady.nil
  · refine AllReady.cons rfl (fun K hK => ?_) ?_
    · go_simp
      (try (refine hK _ _ ?_; clear hK K))
      refine wpAny_take (i := 9) (v := ?_) rfl (by kernel_rfl) (by kernel_rfl) (by kernel_rfl) (fun _ _ _ h => h) (Or.inl ⟨by kernel_rfl, ?_⟩) ?_
      rotate_left
      · intro w; go_simp; (try with_reducible rfl)
      refine wpAny_ready (rs := [6]) (by kernel_rfl) (by simp) ?_
      refine AllReady.cons rfl (fun K hK => ?_) ?_
      · go_simp
        (try (refine hK _ _ ?_; clear hK K))
        refine wpAny_ready (rs := [10]) (by kernel_rfl) (by simp) ?_
        refine AllReady.cons rfl (fun K hK => ?_) ?_
        · go_simp
          go_wp2_with (first | (go_at_call 30; refine cR.mono ?_; rintro e9 w9 ⟨ds, ms, B1, d1, B2, d2, rfl, hds, hms, hD, hM, hb9⟩; have r9 := r0.below hb9 hgl; obtain ⟨z2, f2⟩ := r9.2 2 _ rfl; obtain ⟨z3, f3⟩ := r9.2 3 _ rfl; have Hds := Lib.hid hds; have Hms := Lib.hid hms; clear hds hms))
          (try (refine hK _ _ ?_; clear hK K))
          refine wpAny_take (i := 11) (v := ?_) rfl (by kernel_rfl) (by kernel_rfl) (by kernel_rfl) (fun _ _ _ h => h) (Or.inl ⟨by kernel_rfl, ?_⟩) ?_
          rotate_left
          · intro w; go_simp; (try with_reducible rfl)
          refine wpAny_take (i := 12) (v := ?_) rfl (by kernel_rfl) (by kernel_rfl) (by kernel_rfl) (fun _ _ _ h => h) (Or.inl ⟨by kernel_rfl, ?_⟩) ?_
          rotate_left
          · intro w; go_simp; (try with_reducible rfl)
          refine wpAny_take (i := 13) (v := ?_) rfl (by kernel_rfl) (by kernel_rfl) (by kernel_rfl) (fun _ _ _ h => h) (Or.inl ⟨by kernel_rfl, ?_⟩) ?_
          rotate_left
          · intro w; go_simp; (try with_reducible rfl)
          refine wpAny_take (i := 14) (v := ?_) rfl (by kernel_rfl) (by kernel_rfl) (by kernel_rfl) (fun _ _ _ h => h) (Or.inl ⟨by kernel_rfl, ?_⟩) ?_
          rotate_left
          · intro w; go_simp; (try with_reducible rfl)
          refine wpAny_ready (rs := [15]) (by kernel_rfl) (by simp) ?_
          refine AllReady.cons rfl (fun K hK => ?_) ?_
          · go_simp
            (try (refine hK _ _ ?_; clear hK K))
            refine wpAny_take (i := 16) (v := ?_) rfl (by kernel_rfl) (by kernel_rfl) (by kernel_rfl) (fun _ _ _ h => h) (Or.inl ⟨by kernel_rfl, ?_⟩) ?_
            rotate_left
            · intro w; go_simp; (try with_reducible rfl)
            refine wpAny_ready (rs := [17]) (by kernel_rfl) (by simp) ?_
            refine AllReady.cons rfl (fun K hK => ?_) ?_
            · go_simp
              (try (refine hK _ _ ?_; clear hK K))
              refine wpAny_done (by kernel_rfl) ?_ _
              exact ⟨⟨_, _, _, _, _, _, _, _, _, _, _, _, _, _, _, _, rfl⟩, reg_fin (w := wX) hgl Hds.out Hms.out hD hM ((Below.refl _ _).drew.trans hb9) r9⟩
            · exact AllReady.nil
          · exact AllReady.nil
        · exact AllReady.nil
      · exact AllReady.nil
    · exact AllReady.nil
end Go.Proofs.YtfhdihdafmahgaaGreatDoor
set_option linter.unusedVariables false
set_option linter.unusedSimpArgs false
namespace Go.Proofs.YtfhdihdafmahgaaGreatDoor
open Go.RowKit Rn Tk
namespace Tk
def spF : Nat → List Int → Bool × List Int
  | 0, r => (false, r)
  | f + 1, r => if whiteB (pk r 0) = true then (true, (spF f r.tail).2) else if pk r 0 = 47 ∧ pk r 1 = 42 then spF f (skipC r.tail.tail) else (false, r)
def nmF : Nat → List Int → List Int × List Int
  | 0, r => ([], r)
  | f + 1, r => if esc r = true then ((meantT r.tail).1 :: (nmF f (meantT r.tail).2).1, (nmF f (meantT r.tail).2).2)
    else if withinB (pk r 0) = true then (pk r 0 :: (nmF f r.tail).1, (nmF f r.tail).2) else ([], r)
def qtF : Nat → Int → List Int → List Int × Bool × List Int
  | 0, _, r => ([], false, r)
  | f + 1, e, r =>
    match r with
    | [] => ([], false, [])
    | c :: t =>
      if c = 10 then ([], true, c :: t)
      else if c = e then ([], false, t)
      else if esc (c :: t) = true then ((meantT t).1 :: (qtF f e (meantT t).2).1, (qtF f e (meantT t).2).2)
      else if c = 92 then qtF f e t.tail
      else (c :: (qtF f e t).1, (qtF f e t).2)
def numberF (f : Nat) (r : List Int) : Option (Tok × List Int) :=
  let x := numText r
  let n := Fx.lenP x
  if n = 0 then none else
  let v := Fx.parseP (x.take n)
  let s := r.drop n
  if beg s = true then some (⟨10, writeP (nmF f s).1, v⟩, (nmF f s).2)
  else if pk s 0 = 37 then some (⟨9, [], v⟩, s.tail)
  else some (⟨8, [], v⟩, s)
def nextF (f : Nat) (r : List Int) : Tok × List Int :=
  let c := pk r 0
  if c = 34 ∨ c = 39 then (⟨if (qtF f c r.tail).2.1 = true then 7 else 6, writeP (qtF f c r.tail).1, 0⟩, (qtF f c r.tail).2.2)
  else if c = 35 ∧ (withinB (pk r 1) || esc r.tail) = true then (⟨5, writeP (nmF f r.tail).1, 0⟩, (nmF f r.tail).2)
  else match numberF f r with
    | some x => x
    | none =>
      if c = 64 ∧ beg r.tail = true then (⟨4, writeP (nmF f r.tail).1, 0⟩, (nmF f r.tail).2)
      else if beg r = true then
        if pk (nmF f r).2 0 = 40 then (⟨3, writeP (nmF f r).1, 0⟩, (nmF f r).2.tail) else (⟨2, writeP (nmF f r).1, 0⟩, (nmF f r).2)
      else (signT c, r.tail)
def scF : Nat → Nat → List Int → List Tok
  | 0, _, _ => []
  | g + 1, f, r =>
    if (spF f r).2 = [] then (if (spF f r).1 = true then [⟨1, [], 0⟩] else [])
    else (if (spF f r).1 = true then [⟨1, [], 0⟩] else []) ++ (nextF f (spF f r).2).1 :: scF g f (nextF f (spF f r).2).2
end Tk
theorem spF_eq : ∀ (f : Nat) (r : List Int), r.length ≤ f → spF f r = spacesT r := by
  intro f
  induction f with
  | zero =>
    intro r h
    have : r = [] := List.eq_nil_of_length_eq_zero (by omega)
    subst this; rw [spacesT_nil]; rfl
  | succ f ih =>
    intro r h
    unfold spF
    by_cases h1 : whiteB (pk r 0) = true
    · have := tail_lt (white_ne h1)
      rw [if_pos h1, spacesT_white h1, ih _ (by omega)]
    · rw [if_neg h1]
      by_cases h2 : pk r 0 = 47 ∧ pk r 1 = 42
      · have hne : r ≠ [] := by rintro rfl; rw [pk_nil] at h2; omega
        have h3 := skipC_len r.tail.tail
        have h4 := tail_lt hne
        have h5 : r.tail.tail.length ≤ r.tail.length := by simp
        rw [if_pos h2, spacesT_comment (by simpa using h1) h2, ih _ (by omega)]
      · rw [if_neg h2, spacesT_end (by simpa using h1) h2]
theorem nmF_eq : ∀ (f : Nat) (r : List Int), r.length ≤ f → nmF f r = nameT r := by
  intro f
  induction f with
  | zero =>
    intro r h
    have : r = [] := List.eq_nil_of_length_eq_zero (by omega)
    subst this; rw [nameT_end (by decide) (by rw [pk_nil]; decide)]; rfl
  | succ f ih =>
    intro r h
    unfold nmF
    by_cases h1 : esc r = true
    · have := meant_lt (esc_ne h1)
      rw [if_pos h1, nameT_esc h1, ih _ (by omega)]
    · rw [if_neg h1]
      by_cases h2 : withinB (pk r 0) = true
      · have := tail_lt (within_ne h2)
        rw [if_pos h2, nameT_in (by simpa using h1) h2, ih _ (by omega)]
      · rw [if_neg h2, nameT_end (by simpa using h1) (by simpa using h2)]
theorem qtF_eq (e : Int) : ∀ (f : Nat) (r : List Int), r.length ≤ f → qtF f e r = quoteT e r := by
  intro f
  induction f with
  | zero =>
    intro r h
    have : r = [] := List.eq_nil_of_length_eq_zero (by omega)
    subst this; rw [quoteT_nil]; rfl
  | succ f ih =>
    intro r h
    cases r with
    | nil => rw [quoteT_nil]; rfl
    | cons c t =>
      rw [List.length_cons] at h
      have h5 : t.tail.length ≤ t.length := by simp
      have h6 := meant_len t
      rw [quoteT]
      unfold qtF
      simp only [ih t (by omega), ih t.tail (by omega), ih (meantT t).2 (by omega)]
theorem numberF_eq (f : Nat) (r : List Int) (h : r.length ≤ f) : numberF f r = numberT r := by
  unfold numberF numberT
  have h1 : (r.drop (Fx.lenP (numText r))).length ≤ f := by rw [List.length_drop]; omega
  simp only [nmF_eq f _ h1]
theorem nextF_eq (f : Nat) (r : List Int) (h : r.length ≤ f) : nextF f r = nextT r := by
  have h5 : r.tail.length ≤ r.length := by simp
  unfold nextF nextT
  simp only [numberF_eq f r h, nmF_eq f r h, nmF_eq f r.tail (by omega), qtF_eq _ f r.tail (by omega)]
  rfl
theorem scF_eq (f : Nat) : ∀ (g : Nat) (r : List Int), r.length ≤ f → r.length < g → scF g f r = scanT r := by
  intro g
  induction g with
  | zero => intro r _ h; omega
  | succ g ih =>
    intro r hf hg
    have h1 := spF_eq f r hf
    have h2 := spaces_len r
    unfold scF
    rw [h1]
    by_cases he : (spacesT r).2 = []
    · rw [if_pos he, scanT_end he]
    · have h3 := next_lt he
      rw [if_neg he, scanT_step he, nextF_eq f _ (by omega), ih _ (by omega) (by omega)]
theorem scan_run (r : List Int) : scanT r = scF (r.length + 1) r.length r := (scF_eq _ _ _ (Nat.le_refl _) (Nat.lt_succ_self _)).symm
theorem awake_scan : scanT (readP [97, 58, 49, 46, 53, 101, 109, 47, 42, 42, 47, 98]) = [⟨2, [97], 0⟩, ⟨14, [], 0⟩, ⟨10, [101, 109], 1500⟩, ⟨2, [98], 0⟩] := by
  rw [scan_run]; decide +kernel
end Go.Proofs.YtfhdihdafmahgaaGreatDoor
