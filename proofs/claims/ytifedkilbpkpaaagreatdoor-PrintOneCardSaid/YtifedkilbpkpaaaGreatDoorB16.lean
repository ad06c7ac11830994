/- Layer 4: a printed text's bytes are its characters'; what is printed of tokens below 128. Plain laws. -/
import Derived.Test.YtifedkilbpkpaaaGreatDoorB15
import Derived.Test.YtifedkilbpkpaaaGreatDoorB07
import Derived.Test.YtifedkilbpkpaaaGreatDoorB14
import Derived.WalkMore
import Derived.Deep.DeepCutAuto
import Derived.Test.YtifedkilbpkpaaaGreatDoorB12
/- Layer 4: may a token be? The program's right is walked. -/
set_option linter.unusedVariables false
set_option linter.unusedSimpArgs false
namespace Go.Proofs.YtifedkilbpkpaaaGreatDoor
open Go.RowKit Rn Tp Fx
/-- a text that is none of one constant -/
theorem str_not {l c : List UInt8} (h : l ≠ c) : ¬ (bytesOf l).toList = c ∧ ((bytesOf l).toList == c) = false := by
  rw [bytesOf_toList]; exact ⟨h, by simpa using h⟩
theorem str_is {l c : List UInt8} (h : l = c) : (bytesOf l).toList = c ∧ ((bytesOf l).toList == c) = true := by
  rw [bytesOf_toList]; exact ⟨h, by simpa using h⟩
theorem utf_empty {l : List UInt8} {cs : List Int} (h : utfP l = some cs) : l = [] ↔ cs = [] := by
  obtain ⟨h1, _⟩ := utf_some h
  constructor
  · rintro rfl
    rw [utfP_nil] at h; injection h with h; exact h.symm
  · rintro rfl
    rw [h1]; simp [writeP]
theorem utf_low {l : List UInt8} {cs : List Int} (h : utfP l = some cs) (b : UInt8) (hb : b.toNat < 128) : l = [b] ↔ cs = [(b.toNat : Int)] := by
  obtain ⟨h1, h2⟩ := utf_some h
  constructor
  · intro e
    have hw : writeP [(b.toNat : Int)] = [b] := by rw [write_one, enc_low b hb]
    have hu := utf_write [(b.toNat : Int)] (fun c hc => by
      obtain rfl : c = (b.toNat : Int) := by simpa using hc
      unfold isB; simp; omega)
    rw [hw, ← e, h] at hu
    injection hu
  · rintro rfl
    rw [h1, write_one, enc_low b hb]
/-- what of a token is wrong by its number and its characters -/
def badB (t : GTok) : Bool := (decide (t.n ≠ 0) && (decide (t.kind < 8) || decide (10 < t.kind))) || decide (t.n ≠ stopZ t.n) || !plainB t.text
theorem one_bad {t : GTok} (h : badB t = true) : oneB t = false := by
  unfold badB at h
  unfold oneB
  unfold plainB at h
  cases hu : utfP t.text with
  | none => rfl
  | some l =>
    rw [hu] at h
    simp only [] at h ⊢
    rw [Bool.and_eq_false_iff, Bool.and_eq_false_iff]
    left
    simp only [Bool.or_eq_true, Bool.and_eq_true, decide_eq_true_eq, Bool.not_eq_true', Bool.not_eq_false'] at h
    unfold numOk
    rcases h with (h | h) | h
    · right; simp; omega
    · right; simp; intro e; omega
    · left; simpa using h
theorem one_good {t : GTok} (h : badB t = false) : ∃ cs, utfP t.text = some cs ∧ oneB t = kindB t.kind cs := by
  unfold badB at h
  unfold plainB at h
  cases hu : utfP t.text with
  | none => rw [hu] at h; simp at h
  | some l =>
    rw [hu] at h
    refine ⟨l, rfl, ?_⟩
    unfold oneB
    rw [hu]
    simp only [Bool.or_eq_false_iff, Bool.and_eq_false_iff, decide_eq_false_iff_not, Bool.not_eq_false', Bool.not_not] at h
    obtain ⟨⟨h1, h2⟩, h3⟩ := h
    have h4 : decide ((0 : Int) ∉ l) = true := by simpa using h3
    have h5 : numOk t.kind t.n = true := by
      unfold numOk
      simp
      refine ⟨by omega, ?_⟩
      by_cases h0 : t.n = 0
      · exact .inr h0
      · rcases h1 with h1 | h1
        · exact absurd h0 h1
        · left; omega
    simp only [h4, h5, Bool.true_and]
abbrev tokG (t : GTok) : Value := .agg #[.int .i64 t.kind, .string (bytesOf t.text), .int .i64 t.n]
set_option maxRecDepth 100000 in
set_option maxHeartbeats 4000000 in
theorem tp_right (t : GTok) (w : World) (hl : t.text.length ≤ maxLen) (hn : -9223372036854775808 ≤ t.n ∧ t.n ≤ 9223372036854775807) (hT : Tabs w) :
    Calls Tryz.prog 17 #[tokG t] w fun e w' => e = .returned (.bool (oneB t)) ∧ Below w.heap.size w w' := by
  obtain ⟨kind, text, n⟩ := t
  simp only [] at hl hn
  obtain ⟨wA, hwA⟩ : ∃ wA, w.alloc (.cells #[.int .i64 kind, .string (bytesOf text), .int .i64 n] 23) = wA := ⟨_, rfl⟩
  have bA : Below w.heap.size w wA := by rw [← hwA]; exact (Below.refl _ _).alloc (Nat.le_refl _) _
  have rA : RowAt wA w.heap.size [.int .i64 kind, .string (bytesOf text), .int .i64 n] := by rw [← hwA]; exact RowAt.new _ _ _
  obtain ⟨x0, _⟩ := rA.2 0 _ rfl
  obtain ⟨x1, _⟩ := rA.2 1 _ rfl
  obtain ⟨x2, _⟩ := rA.2 2 _ rfl
  have hTA := hT.below bA
  obtain ⟨R, hR⟩ : ∃ R, oneB ⟨kind, text, n⟩ = R := ⟨_, rfl⟩
  rw [hR]
  have HR := Lib.hid hR
  clear hR
  obtain ⟨bad, hbad⟩ : ∃ b, badB ⟨kind, text, n⟩ = b := ⟨_, rfl⟩
  have Hbad := Lib.hid hbad
  obtain ⟨s, hs⟩ : ∃ s, stopZ n = s := ⟨_, rfl⟩
  obtain ⟨pl, hpl⟩ : ∃ p, plainB text = p := ⟨_, rfl⟩
  have hb2 : bad = ((decide (n ≠ 0) && (decide (kind < 8) || decide (10 < kind))) || decide (n ≠ s) || !pl) := by rw [← hbad, ← hs, ← hpl]; rfl
  have hstop := fun w => fx_stop n w hn.1 hn.2
  rw [hs] at hstop
  have hplain : ∀ w', Tabs w' → Calls Tryz.prog 33 #[.string (bytesOf text)] w' fun e w2 => e = .returned (.bool pl) ∧ Below w'.heap.size w' w2 := fun w' h => by rw [← hpl]; exact tp_plain text w' hl h
  clear hs hpl hbad
  have y0 := bw_cell (B := wA.heap.size) x0 rA.1
  have y1 := bw_cell (B := wA.heap.size) x1 rA.1
  have y2 := bw_cell (B := wA.heap.size) x2 rA.1
  go_enter Tryz.func17, Tryz.ntmps17
  go_upto_region 1 with (fail)
  go_cut [29] (fun x wx => x = .bool bad ∧ Below wA.heap.size wA wx)
  case first =>
    by_cases n0 : n = 0
    · have t0 : (n != 0) = false := by simp [n0]
      by_cases ns : n = s
      · have t1 : (n != s) = false := by simp [ns]
        have hfin : bad = !pl := by rw [hb2]; simp [n0, ← ns]
        clear ns hb2 n0
        refine wp_region_bw wA.heap.size (by kernel_rfl) (by kernel_rfl) ?_
        repeat (go_big_quiet_step (first | (go_at_call 32; exact calls_bw_same (hstop _)) | (go_at_call 33; rename_i W; exact calls_bw (Nat.le_refl _) (hplain _ (hTA.below W.is)))))
        refine wpQuiet_nil ?_
        intro _ hw'
        obtain ⟨W, rfl⟩ := hw'
        go_wp2_with fail
        go_meet
        exact ⟨by rw [hfin], W.is⟩
      · have t1 : (n != s) = true := by simp [ns]
        have hfin : bad = true := by rw [hb2]; simp [ns]
        clear ns hb2 n0
        refine wp_region_bw wA.heap.size (by kernel_rfl) (by kernel_rfl) ?_
        repeat (go_big_quiet_step (first | (go_at_call 32; exact calls_bw_same (hstop _)) | (go_at_call 33; rename_i W; exact calls_bw (Nat.le_refl _) (hplain _ (hTA.below W.is)))))
        refine wpQuiet_nil ?_
        intro _ hw'
        obtain ⟨W, rfl⟩ := hw'
        go_wp2_with fail
        go_meet
        exact ⟨by rw [hfin], W.is⟩
    · have t0 : (n != 0) = true := by simp [n0]
      by_cases k8 : kind < 8
      · have t8 : decide (kind < 8) = true := by simp [k8]
        have hfin : bad = true := by rw [hb2]; simp [n0, k8]
        clear n0 k8 hb2
        refine wp_region_bw wA.heap.size (by kernel_rfl) (by kernel_rfl) ?_
        repeat (go_big_quiet_step (first | (go_at_call 32; exact calls_bw_same (hstop _)) | (go_at_call 33; rename_i W; exact calls_bw (Nat.le_refl _) (hplain _ (hTA.below W.is)))))
        refine wpQuiet_nil ?_
        intro _ hw'
        obtain ⟨W, rfl⟩ := hw'
        go_wp2_with fail
        go_meet
        exact ⟨by rw [hfin], W.is⟩
      · have t8 : decide (kind < 8) = false := by simp; omega
        by_cases k10 : 10 < kind
        · have t10 : decide (10 < kind) = true := by simp [k10]
          have hfin : bad = true := by rw [hb2]; simp [n0, k10]
          clear n0 k8 k10 hb2
          refine wp_region_bw wA.heap.size (by kernel_rfl) (by kernel_rfl) ?_
          repeat (go_big_quiet_step (first | (go_at_call 32; exact calls_bw_same (hstop _)) | (go_at_call 33; rename_i W; exact calls_bw (Nat.le_refl _) (hplain _ (hTA.below W.is)))))
          refine wpQuiet_nil ?_
          intro _ hw'
          obtain ⟨W, rfl⟩ := hw'
          go_wp2_with fail
          go_meet
          exact ⟨by rw [hfin], W.is⟩
        · have t10 : decide (10 < kind) = false := by simp; omega
          by_cases ns : n = s
          · have t1 : (n != s) = false := by simp [ns]
            have hfin : bad = !pl := by rw [hb2]; simp [t8, t10, ← ns]
            clear ns hb2 n0 k8 k10
            refine wp_region_bw wA.heap.size (by kernel_rfl) (by kernel_rfl) ?_
            repeat (go_big_quiet_step (first | (go_at_call 32; exact calls_bw_same (hstop _)) | (go_at_call 33; rename_i W; exact calls_bw (Nat.le_refl _) (hplain _ (hTA.below W.is)))))
            refine wpQuiet_nil ?_
            intro _ hw'
            obtain ⟨W, rfl⟩ := hw'
            go_wp2_with fail
            go_meet
            exact ⟨by rw [hfin], W.is⟩
          · have t1 : (n != s) = true := by simp [ns]
            have hfin : bad = true := by rw [hb2]; simp [ns]
            clear ns hb2 n0 k8 k10
            refine wp_region_bw wA.heap.size (by kernel_rfl) (by kernel_rfl) ?_
            repeat (go_big_quiet_step (first | (go_at_call 32; exact calls_bw_same (hstop _)) | (go_at_call 33; rename_i W; exact calls_bw (Nat.le_refl _) (hplain _ (hTA.below W.is)))))
            refine wpQuiet_nil ?_
            intro _ hw'
            obtain ⟨W, rfl⟩ := hw'
            go_wp2_with fail
            go_meet
            exact ⟨by rw [hfin], W.is⟩
  case rest =>
    obtain ⟨rfl, hbx⟩ := hcut
    have hTx := hTA.below hbx
    have bx : Below w.heap.size w wc := bA.trans (hbx.mono bA.size)
    have z0 := (hbx.cell (p := ⟨w.heap.size, 0, none⟩) rA.1).trans x0
    have z1 := (hbx.cell (p := ⟨w.heap.size, 1, none⟩) rA.1).trans x1
    clear hstop hplain y0 y1 y2 x0 x1 x2 hwA hb2
    cases bad with
    | true =>
      obtain rfl : R = false := by rw [← HR.out]; exact one_bad Hbad.out
      go_wp2
      go_ret
      exact ⟨rfl, bx⟩
    | false =>
      obtain ⟨cs, hu, hO1⟩ := one_good Hbad.out
      simp only [] at hO1 hu
      have hO : R = kindB kind cs := by rw [← HR.out]; exact hO1
      have he := utf_empty hu
      clear hO1 Hbad HR
      have hK : kind = 2 ∨ kind = 3 ∨ kind = 4 ∨ kind = 5 ∨ kind = 10 ∨ kind = 6 ∨ kind = 7 ∨ kind = 11 ∨ kind = 12 ∨ kind = 13 ∨ ((kind == 2) = false ∧ (kind == 3) = false ∧ (kind == 4) = false ∧ (kind == 5) = false ∧ (kind == 10) = false ∧ (kind == 6) = false ∧ (kind == 7) = false ∧ (kind == 11) = false ∧ (kind == 12) = false ∧ (kind == 13) = false) := by simp; omega
      rcases hK with rfl | rfl | rfl | rfl | rfl | rfl | rfl | rfl | rfl | rfl | ⟨h2, h3, h4, h5, h10, h6, h7, h11, h12, h13⟩
      case inr.inr.inr.inr.inr.inr.inr.inl =>
        have h1 := tp_one text cs wc hl hTx hu
        subst hO
        clear hu he
        go_wp2_with fail
        refine h1.mono ?_
        rintro e w2 ⟨rfl, hb2⟩
        go_wp2
        go_ret
        exact ⟨rfl, bx.trans (hb2.mono bx.size)⟩
      case inr.inr.inr.inr.inr.inr.inr.inr.inl =>
        have u1 := utf_low hu 40 (by decide)
        have u2 := utf_low hu 91 (by decide)
        have u3 := utf_low hu 123 (by decide)
        have hfin : kindB 12 cs = (decide (text = [40]) || decide (text = [91]) || decide (text = [123])) := by
          unfold kindB
          simp only [u1, u2, u3]
          rw [Bool.eq_iff_iff]; simp [or_assoc]
        clear u1 u2 u3 hu he
        by_cases c1 : text = [40]
        · obtain ⟨f1, g1⟩ := str_is c1
          obtain rfl : R = true := by rw [hO, hfin]; simp [c1]
          clear hO hfin c1
          go_wp2
          go_ret
          exact ⟨rfl, bx⟩
        · obtain ⟨d1, e1⟩ := str_not c1
          by_cases c2 : text = [91]
          · obtain ⟨f2, g2⟩ := str_is c2
            obtain rfl : R = true := by rw [hO, hfin]; simp [c2]
            clear hO hfin c2
            go_wp2
            go_ret
            exact ⟨rfl, bx⟩
          · obtain ⟨d2, e2⟩ := str_not c2
            by_cases c3 : text = [123]
            · obtain ⟨f3, g3⟩ := str_is c3
              obtain rfl : R = true := by rw [hO, hfin]; simp [c3]
              clear hO hfin c3
              go_wp2
              go_ret
              exact ⟨rfl, bx⟩
            · obtain ⟨d3, e3⟩ := str_not c3
              obtain rfl : R = false := by rw [hO, hfin]; simp [c1, c2, c3]
              clear hO hfin c1 c2 c3
              go_wp2
              go_ret
              exact ⟨rfl, bx⟩
      case inr.inr.inr.inr.inr.inr.inr.inr.inr.inl =>
        have u1 := utf_low hu 41 (by decide)
        have u2 := utf_low hu 93 (by decide)
        have u3 := utf_low hu 125 (by decide)
        have hfin : kindB 13 cs = (decide (text = [41]) || decide (text = [93]) || decide (text = [125])) := by
          unfold kindB
          simp only [u1, u2, u3]
          rw [Bool.eq_iff_iff]; simp [or_assoc]
        clear u1 u2 u3 hu he
        by_cases c1 : text = [41]
        · obtain ⟨f1, g1⟩ := str_is c1
          obtain rfl : R = true := by rw [hO, hfin]; simp [c1]
          clear hO hfin c1
          go_wp2
          go_ret
          exact ⟨rfl, bx⟩
        · obtain ⟨d1, e1⟩ := str_not c1
          by_cases c2 : text = [93]
          · obtain ⟨f2, g2⟩ := str_is c2
            obtain rfl : R = true := by rw [hO, hfin]; simp [c2]
            clear hO hfin c2
            go_wp2
            go_ret
            exact ⟨rfl, bx⟩
          · obtain ⟨d2, e2⟩ := str_not c2
            by_cases c3 : text = [125]
            · obtain ⟨f3, g3⟩ := str_is c3
              obtain rfl : R = true := by rw [hO, hfin]; simp [c3]
              clear hO hfin c3
              go_wp2
              go_ret
              exact ⟨rfl, bx⟩
            · obtain ⟨d3, e3⟩ := str_not c3
              obtain rfl : R = false := by rw [hO, hfin]; simp [c1, c2, c3]
              clear hO hfin c1 c2 c3
              go_wp2
              go_ret
              exact ⟨rfl, bx⟩
      case inr.inr.inr.inr.inr.inr.inr.inr.inr.inr =>
        have hfin : kindB kind cs = (decide (1 ≤ kind) && (decide (kind ≤ 16) && decide (text = []))) := by
          simp at h2 h3 h4 h5 h10 h6 h7 h11 h12 h13
          unfold kindB
          rw [if_neg (by omega), if_neg (by omega), if_neg h11, if_neg h12, if_neg h13]
          rw [Bool.eq_iff_iff]; simp [he]
        clear hu he
        by_cases k1 : 1 ≤ kind
        · have e1 : decide (1 ≤ kind) = true := by simp [k1]
          by_cases k16 : kind ≤ 16
          · have e16 : decide (kind ≤ 16) = true := by simp [k16]
            by_cases ht : text = []
            · subst ht
              obtain ⟨s1, s2⟩ := str_none
              obtain rfl : R = true := by rw [hO, hfin]; simp [k1, k16]
              clear hO hfin k1 k16
              go_wp2
              go_ret
              exact ⟨rfl, bx⟩
            · obtain ⟨s1, s2⟩ := str_some ht
              obtain rfl : R = false := by rw [hO, hfin]; simp [ht]
              clear hO hfin k1 k16 ht
              go_wp2
              go_ret
              exact ⟨rfl, bx⟩
          · have e16 : decide (kind ≤ 16) = false := by simp; omega
            obtain rfl : R = false := by rw [hO, hfin]; simp [e16]
            clear hO hfin k1 k16
            go_wp2
            go_ret
            exact ⟨rfl, bx⟩
        · have e1 : decide (1 ≤ kind) = false := by simp; omega
          obtain rfl : R = false := by rw [hO, hfin]; simp [e1]
          clear hO hfin k1
          go_wp2
          go_ret
          exact ⟨rfl, bx⟩
      case inr.inr.inr.inr.inr.inl =>
        obtain rfl : R = true := by rw [hO]; rfl
        clear hu he hO
        go_wp2
        go_ret
        exact ⟨rfl, bx⟩
      case inr.inr.inr.inr.inr.inr.inl =>
        obtain rfl : R = true := by rw [hO]; rfl
        clear hu he hO
        go_wp2
        go_ret
        exact ⟨rfl, bx⟩
      all_goals
        have hgen : ∀ k, ((2 ≤ k ∧ k ≤ 5) ∨ k = 10) → kindB k cs = !decide (text = []) := by
          intro k hk
          unfold kindB
          rw [if_pos hk, Bool.eq_iff_iff]; simp [he]
        rw [hgen _ (by omega)] at hO
        clear hgen hu he
        by_cases ht : text = []
        · subst ht
          obtain ⟨s1, s2⟩ := str_none
          obtain rfl : R = false := by rw [hO]; simp
          clear hO
          go_wp2
          go_ret
          exact ⟨rfl, bx⟩
        · obtain ⟨s1, s2⟩ := str_some ht
          obtain rfl : R = true := by rw [hO]; simp [ht]
          clear hO ht
          go_wp2
          go_ret
          exact ⟨rfl, bx⟩
end Go.Proofs.YtifedkilbpkpaaaGreatDoor
/- Layer 4: a printed name, a printed text: the program's name and quoted are walked. -/
set_option linter.unusedVariables false
set_option linter.unusedSimpArgs false
namespace Go.Proofs.YtifedkilbpkpaaaGreatDoor
open Go.RowKit Rn Tp
theorem part_len {c : Int} (hc : isB c = true) (b : Bool) : (partP c b).length ≤ 10 := by
  unfold partP
  split
  · exact esc_len c hc
  · have := (encode_len c).2; omega
set_option maxRecDepth 100000 in
set_option maxHeartbeats 8000000 in
theorem tp_name (cs : List Int) (dim : Bool) (w : World) (hv : ∀ c ∈ cs, isB c = true) (hl : cs.length ≤ 1000000) (hD : Db w) :
    Calls Tryz.prog 20 #[.string (bytesOf (writeP cs)), .bool dim] w fun e w' => e = .returned (.string (bytesOf (nameP cs dim))) ∧ Below w.heap.size w w' := by
  have hwl := writeP_len cs
  have hz := bytesOf_size (writeP cs)
  have Hv := Lib.hid hv
  have hu := utf_write cs hv
  have h45 := utf_low hu 45 (by decide)
  have Hu := Lib.hid h45
  clear hv hu h45
  have hit0 : (w.iter (bytesOf (writeP cs)) 0).heap[w.heap.size]? = some (.stringIter (bytesOf (writeP cs)) 0) := World.iter_heap _ _ _
  have hb0 : Below w.heap.size w (w.iter (bytesOf (writeP cs)) 0) := (Below.refl _ _).alloc (Nat.le_refl _) _
  go_enter Tryz.func20, Tryz.ntmps20
  go_wp2_with fail
  go_loopw [5] (fun o wr => ∃ (k : Nat) (out : List UInt8), k ≤ cs.length ∧ Hid (out ++ nameF cs dim k (cs.drop k) = nameP cs dim) ∧ out.length ≤ 10 * k ∧ o = .string (bytesOf out) ∧ wr.heap[w.heap.size]? = some (.stringIter (bytesOf (writeP cs)) (posU cs k)) ∧ Below w.heap.size w wr) (fun _ wr => (writeP cs).length - wr.iterPos w.heap.size)
  case atStart => exact ⟨0, [], Nat.zero_le _, rfl, by simp, rfl, by rw [posU_zero]; exact hit0, hb0⟩
  case round =>
    obtain ⟨k, out, hk, hrun, hol, rfl, hit, hb⟩ := hrel
    have hip := iterPos_of hit
    have hoz := bytesOf_size out
    by_cases hlt : k < cs.length
    · obtain ⟨c, hc⟩ : ∃ c, cs[k]? = some c := ⟨_, List.getElem?_eq_getElem hlt⟩
      have hcB := Hv.out c (List.mem_of_getElem? hc)
      have hcr := isB_range' hcB
      obtain ⟨hdec, hpl⟩ := posU_step Hv.out hc
      have hsuc := posU_succ hc
      have hel := encode_len c
      have hfc := first_cases Hv.out hlt
      have hdrop : cs.drop k = c :: cs.drop (k + 1) := by
        rw [List.drop_eq_getElem_cons hlt]
        rw [List.getElem?_eq_getElem hlt] at hc
        injection hc with hc
        rw [hc]
      have hnx : ∀ ty, (Instr.next (.pointer (some ⟨w.heap.size, 0, none⟩)) true ty).run Tryz.prog wr = _ := fun ty => Lib.run_next_any_at wr w.heap.size (bytesOf (writeP cs)) (posU cs k) ty hit (by rw [hz]; exact hpl)
      have hit1 := Lib.iterAt_heap wr w.heap.size (bytesOf (writeP cs)) (posU cs k) (posU cs k + (Lib.encodeRune c).length) hit
      have hb1 := Lib.below_iterAt hb (k := w.heap.size) (Nat.le_refl _) (bytesOf (writeP cs)) (posU cs k + (Lib.encodeRune c).length)
      rw [hdec] at hnx
      simp only [] at hnx
      rw [show ((c.toNat : Nat) : Int) = c by omega] at hnx
      obtain ⟨F, hF⟩ : ∃ F, decide (k = 0 ∨ k = 1 ∧ cs[0]? = some 45) = F := ⟨_, rfl⟩
      obtain ⟨nd, hnd⟩ : ∃ nd, needB c F (decide (cs = [45])) (dim && decide (k = 0)) = nd := ⟨_, rfl⟩
      have hnew : Hid ((out ++ partP c nd) ++ nameF cs dim (k + 1) (cs.drop (k + 1)) = nameP cs dim) := by
        show _ = _
        rw [← hrun.out, hdrop, ← hnd, ← hF, List.append_assoc]; rfl
      have hpl10 := part_len hcB nd
      have hpz := bytesOf_size (partP c nd)
      rw [hF] at hfc
      rw [← hsuc] at hnx hit1 hb1
      have Hnd := Lib.hid hnd
      have HcB := Lib.hid hcB
      have HF := Lib.hid hfc
      generalize wr.iterAt w.heap.size (bytesOf (writeP cs)) (posU cs (k + 1)) = W1 at *
      obtain ⟨p, hp⟩ : ∃ p, posU cs k = p := ⟨_, rfl⟩
      rw [hp] at hnx HF hpl hip hsuc
      clear hrun hdrop hc hF hnd hdec hcB hit hfc hp
      go_upto_region 5 with (fail)
      go_cut [8] (fun x wx => x = .bool F ∧ wx = W1)
      case first =>
        have hun : (undef : Value) = .tuple #[] := rfl
        rcases HF.out with ⟨h0, _, hF⟩ | ⟨_, h1, b, hb, ⟨hbb, hF⟩ | ⟨hbb, hF⟩⟩ | ⟨_, h2, hF⟩
        · have t0 : ((p : Int) == 0) = true := by simp; omega
          clear h0 HF Hnd hnew
          have HN := Lib.hid hF
          clear hF
          go_wp2_with fail
          go_meet
          exact ⟨by rw [HN.out], rfl⟩
        · have t0 : ((p : Int) == 0) = false := by simp; omega
          have t1 : ((p : Int) == 1) = true := by simp; omega
          have hix : ∀ W, (Instr.index 9 (.string (bytesOf (writeP cs))) (.int .i64 0)).run Tryz.prog W = .ok (.int .u8 (b.toNat : Int)) W := fun W => str_at (P := Tryz.prog) (T := 9) Tryz.underlying9 (writeP cs) .i64 0 b hb W
          have tb : ((b.toNat : Int) == 45) = true := by simp; omega
          clear h1 HF Hnd hnew hb hbb
          have HN := Lib.hid hF
          clear hF
          go_wp2_with fail
          go_meet
          exact ⟨by rw [HN.out], rfl⟩
        · have t0 : ((p : Int) == 0) = false := by simp; omega
          have t1 : ((p : Int) == 1) = true := by simp; omega
          have hix : ∀ W, (Instr.index 9 (.string (bytesOf (writeP cs))) (.int .i64 0)).run Tryz.prog W = .ok (.int .u8 (b.toNat : Int)) W := fun W => str_at (P := Tryz.prog) (T := 9) Tryz.underlying9 (writeP cs) .i64 0 b hb W
          have tb : ((b.toNat : Int) == 45) = false := by simp; omega
          clear h1 HF Hnd hnew hb hbb
          have HN := Lib.hid hF
          clear hF
          go_wp2_with fail
          go_meet
          exact ⟨by rw [HN.out], rfl⟩
        · have t0 : ((p : Int) == 0) = false := by simp; omega
          have t1 : ((p : Int) == 1) = false := by simp; omega
          clear h2 HF Hnd hnew
          have HN := Lib.hid hF
          clear hF
          go_wp2_with fail
          go_meet
          exact ⟨by rw [HN.out], rfl⟩
      case rest =>
        obtain ⟨rfl, rfl⟩ := hcut
        have hkp : decide (k = 0) = ((p : Int) == 0) := by
          rcases HF.out with ⟨h0, hk0, _⟩ | ⟨hk0, h1, _⟩ | ⟨hk0, h2, _⟩
          · rw [Bool.eq_iff_iff]; simp [h0, hk0]
          · rw [Bool.eq_iff_iff]; simp [hk0]; omega
          · rw [Bool.eq_iff_iff]; simp [hk0]; omega
        have hnd2 := Hnd.out
        rw [hkp] at hnd2
        obtain ⟨E, hE⟩ : ∃ E, (dim && ((p : Int) == 0) && decide (c = 101 ∨ c = 69)) = E := ⟨_, rfl⟩
        have hnd3 : (!withinB c || (F && digitB c) || decide (cs = [45]) || E) = nd := by rw [← hnd2, ← hE]; unfold needB; rfl
        have Hnd3 := Lib.hid hnd3
        have HE := Lib.hid hE
        clear hnd2 hnd3 hE hkp Hnd HF
        go_upto_region 6 with (fail)
        go_cut [9] (fun x wx => x = .bool E ∧ wx = wc)
        case first =>
          have hun : (undef : Value) = .tuple #[] := rfl
          have hE := HE.out
          cases dim with
          | false =>
            simp only [Bool.false_and] at hE
            have HN := Lib.hid hE
            clear hE
            go_wp2_with fail
            go_meet
            exact ⟨by rw [HN.out], rfl⟩
          | true =>
            cases hp0 : ((p : Int) == 0) with
            | false =>
              rw [hp0] at hE
              simp only [Bool.and_false, Bool.false_and] at hE
              have HN := Lib.hid hE
              clear hE
              go_wp2_with fail
              go_meet
              exact ⟨by rw [HN.out], rfl⟩
            | true =>
              rw [hp0] at hE
              simp only [Bool.and_true, Bool.true_and] at hE
              by_cases c1 : c = 101
              · have t1 := eq_t c1
                have hE2 : E = true := by rw [← hE]; simp [c1]
                have HN := Lib.hid hE2
                clear c1 hE hE2
                go_wp2_with fail
                go_meet
                exact ⟨by rw [HN.out], rfl⟩
              · have t1 := eq_f c1
                have hE2 : E = (c == 69) := by rw [← hE, Bool.eq_iff_iff]; simp [c1]
                have HN := Lib.hid hE2
                clear c1 hE hE2
                go_wp2_with fail
                go_meet
                exact ⟨by rw [HN.out], rfl⟩
        case rest =>
          obtain ⟨rfl, rfl⟩ := hcut
          clear HE hnx
          go_upto_region 7 with (fail)
          go_cut [56] (fun x wx => x = .bool nd ∧ wx = wc)
          case first =>
            have hun : (undef : Value) = .tuple #[] := rfl
            have hW := fun w => rn_within c w
            have hD1 := fun w => rn_digit c w
            have hnd := Hnd3.out
            generalize withinB c = b1 at *
            generalize digitB c = b2 at *
            have hU := Hu.out
            obtain ⟨o, ho⟩ : ∃ o, decide (cs = [45]) = o := ⟨_, rfl⟩
            rw [ho] at hnd
            have hS : (o = true ∧ (bytesOf (writeP cs)).toList = [45] ∧ ((bytesOf (writeP cs)).toList == [45]) = true) ∨ (o = false ∧ ¬ (bytesOf (writeP cs)).toList = [45] ∧ ((bytesOf (writeP cs)).toList == [45]) = false) := by
              by_cases h : cs = [45]
              · left; exact ⟨by rw [← ho]; simp [h], str_is (hU.2 h)⟩
              · right; exact ⟨by rw [← ho]; simp [h], str_not (fun e => h (hU.1 e))⟩
            clear ho hU
            cases b1 with
            | false =>
              simp only [Bool.not_false, Bool.true_or] at hnd
              clear hS
              have HN := Lib.hid hnd
              clear hnd
              go_wp2_with (first | (go_at_call 37; refine (hW _).mono ?_; rintro e w' ⟨rfl, rfl⟩))
              go_meet
              exact ⟨by rw [HN.out], rfl⟩
            | true =>
              simp only [Bool.not_true, Bool.false_or] at hnd
              cases F with
              | true =>
                simp only [Bool.true_and] at hnd
                cases b2 with
                | true =>
                  simp only [Bool.true_or] at hnd
                  clear hS
                  have HN := Lib.hid hnd
                  clear hnd
                  go_wp2_with (first | (go_at_call 37; refine (hW _).mono ?_; rintro e w' ⟨rfl, rfl⟩) | (go_at_call 38; refine (hD1 _).mono ?_; rintro e w' ⟨rfl, rfl⟩))
                  go_meet
                  exact ⟨by rw [HN.out], rfl⟩
                | false =>
                  simp only [Bool.false_or] at hnd
                  rcases hS with ⟨rfl, s1, s2⟩ | ⟨rfl, s1, s2⟩
                  · simp only [Bool.true_or] at hnd
                    have HN := Lib.hid hnd
                    clear hnd
                    go_wp2_with (first | (go_at_call 37; refine (hW _).mono ?_; rintro e w' ⟨rfl, rfl⟩) | (go_at_call 38; refine (hD1 _).mono ?_; rintro e w' ⟨rfl, rfl⟩))
                    go_meet
                    exact ⟨by rw [HN.out], rfl⟩
                  · simp only [Bool.false_or] at hnd
                    have HN := Lib.hid hnd
                    clear hnd
                    go_wp2_with (first | (go_at_call 37; refine (hW _).mono ?_; rintro e w' ⟨rfl, rfl⟩) | (go_at_call 38; refine (hD1 _).mono ?_; rintro e w' ⟨rfl, rfl⟩))
                    go_meet
                    exact ⟨by rw [HN.out], rfl⟩
              | false =>
                simp only [Bool.false_and, Bool.false_or] at hnd
                rcases hS with ⟨rfl, s1, s2⟩ | ⟨rfl, s1, s2⟩
                · simp only [Bool.true_or] at hnd
                  have HN := Lib.hid hnd
                  clear hnd
                  go_wp2_with (first | (go_at_call 37; refine (hW _).mono ?_; rintro e w' ⟨rfl, rfl⟩))
                  go_meet
                  exact ⟨by rw [HN.out], rfl⟩
                · simp only [Bool.false_or] at hnd
                  have HN := Lib.hid hnd
                  clear hnd
                  go_wp2_with (first | (go_at_call 37; refine (hW _).mono ?_; rintro e w' ⟨rfl, rfl⟩))
                  go_meet
                  exact ⟨by rw [HN.out], rfl⟩
          case rest =>
            obtain ⟨rfl, rfl⟩ := hcut
            have hbs := hb1.size
            clear Hnd3 Hu
            cases nd with
            | true =>
              have hesc := tp_escaped c wc HcB.out (hD.below hb1)
              have hpe : partP c true = escP c := rfl
              rw [hpe] at hnew hpl10 hpz
              clear hpe
              go_wp2_with fail
              refine hesc.mono ?_
              rintro e w2 ⟨rfl, hb2⟩
              have hit2 := (hb2.block w.heap.size (Array.getElem?_eq_some_iff.1 hit1).1).trans hit1
              have hip2 := iterPos_of hit2
              go_wp2_with fail
              refine ⟨⟨k + 1, out ++ escP c, by omega, hnew, by rw [List.length_append]; omega, by rw [bytesOf_append], hit2, hb1.trans (hb2.mono hbs)⟩, ?_⟩
              rw [hip2, hip]; omega
            | false =>
              have henc := encode_is HcB.out
              have hpe : partP c false = Lib.encodeRune c := rfl
              rw [hpe] at hnew hpl10 hpz
              clear hpe
              have hip2 := iterPos_of hit1
              go_wp2_with fail
              refine ⟨⟨k + 1, out ++ Lib.encodeRune c, by omega, hnew, by rw [List.length_append]; omega, by rw [bytesOf_append], hit1, hb1⟩, ?_⟩
              rw [hip2, hip]; omega
    · obtain rfl : k = cs.length := by omega
      have hfin : out = nameP cs dim := by rw [← hrun.out, List.drop_length]; simp [nameF]
      have hnx : ∀ ty, (Instr.next (.pointer (some ⟨w.heap.size, 0, none⟩)) true ty).run Tryz.prog wr = _ := fun ty => Lib.run_next_end_at wr w.heap.size (bytesOf (writeP cs)) (posU cs cs.length) ty hit (by rw [hz, posU_end]; omega)
      have HN := Lib.hid hfin
      clear hfin hrun
      go_wp2
      go_ret
      exact ⟨congrArg (fun x => Ending.returned (Value.string (bytesOf x))) HN.out, hb⟩
set_option maxRecDepth 100000 in
set_option maxHeartbeats 8000000 in
theorem tp_quoted (cs : List Int) (w : World) (hv : ∀ c ∈ cs, isB c = true) (hl : cs.length ≤ 1000000) (hD : Db w) :
    Calls Tryz.prog 21 #[.string (bytesOf (writeP cs))] w fun e w' => e = .returned (.string (bytesOf (quotedP cs))) ∧ Below w.heap.size w w' := by
  have hwl := writeP_len cs
  have hz := bytesOf_size (writeP cs)
  have Hv := Lib.hid hv
  clear hv
  have hit0 : (w.iter (bytesOf (writeP cs)) 0).heap[w.heap.size]? = some (.stringIter (bytesOf (writeP cs)) 0) := World.iter_heap _ _ _
  have hb0 : Below w.heap.size w (w.iter (bytesOf (writeP cs)) 0) := (Below.refl _ _).alloc (Nat.le_refl _) _
  go_enter Tryz.func21, Tryz.ntmps21
  go_wp2_with fail
  go_loopw [3] (fun o wr => ∃ (k : Nat) (out : List UInt8), k ≤ cs.length ∧ Hid (out ++ (cs.drop k).flatMap (fun c => partP c (quoteB c)) = quotedP cs) ∧ out.length ≤ 10 * k + 1 ∧ o = .string (bytesOf out) ∧ wr.heap[w.heap.size]? = some (.stringIter (bytesOf (writeP cs)) (posU cs k)) ∧ Below w.heap.size w wr) (fun _ wr => (writeP cs).length - wr.iterPos w.heap.size)
  case atStart => exact ⟨0, [34], Nat.zero_le _, rfl, by simp, rfl, by rw [posU_zero]; exact hit0, hb0⟩
  case round =>
    obtain ⟨k, out, hk, hrun, hol, rfl, hit, hb⟩ := hrel
    have hip := iterPos_of hit
    have hoz := bytesOf_size out
    by_cases hlt : k < cs.length
    · obtain ⟨c, hc⟩ : ∃ c, cs[k]? = some c := ⟨_, List.getElem?_eq_getElem hlt⟩
      have hcB := Hv.out c (List.mem_of_getElem? hc)
      have hcr := isB_range' hcB
      obtain ⟨hdec, hpl⟩ := posU_step Hv.out hc
      have hsuc := posU_succ hc
      have hel := encode_len c
      have hdrop : cs.drop k = c :: cs.drop (k + 1) := by
        rw [List.drop_eq_getElem_cons hlt]
        rw [List.getElem?_eq_getElem hlt] at hc
        injection hc with hc
        rw [hc]
      have hnx : ∀ ty, (Instr.next (.pointer (some ⟨w.heap.size, 0, none⟩)) true ty).run Tryz.prog wr = _ := fun ty => Lib.run_next_any_at wr w.heap.size (bytesOf (writeP cs)) (posU cs k) ty hit (by rw [hz]; exact hpl)
      have hit1 := Lib.iterAt_heap wr w.heap.size (bytesOf (writeP cs)) (posU cs k) (posU cs k + (Lib.encodeRune c).length) hit
      have hb1 := Lib.below_iterAt hb (k := w.heap.size) (Nat.le_refl _) (bytesOf (writeP cs)) (posU cs k + (Lib.encodeRune c).length)
      rw [hdec] at hnx
      simp only [] at hnx
      rw [show ((c.toNat : Nat) : Int) = c by omega] at hnx
      obtain ⟨nd, hnd⟩ : ∃ nd, quoteB c = nd := ⟨_, rfl⟩
      have hnew : Hid ((out ++ partP c nd) ++ (cs.drop (k + 1)).flatMap (fun c => partP c (quoteB c)) = quotedP cs) := by
        show _ = _
        rw [← hrun.out, hdrop, ← hnd, List.append_assoc]; rfl
      have hpl10 := part_len hcB nd
      have hpz := bytesOf_size (partP c nd)
      rw [← hsuc] at hnx hit1 hb1
      have HcB := Lib.hid hcB
      have hnd2 : (c = 34 ∧ nd = true) ∨ (c = 92 ∧ nd = true) ∨ (c = 10 ∧ nd = true) ∨ (c = 12 ∧ nd = true) ∨ (c = 13 ∧ nd = true) ∨ ((c == 34) = false ∧ (c == 92) = false ∧ (c == 10) = false ∧ (c == 12) = false ∧ (c == 13) = false ∧ nd = false) := by
        rw [← hnd]
        unfold quoteB
        simp; omega
      have Hnd := Lib.hid hnd2
      generalize wr.iterAt w.heap.size (bytesOf (writeP cs)) (posU cs (k + 1)) = W1 at *
      obtain ⟨p, hp⟩ : ∃ p, posU cs k = p := ⟨_, rfl⟩
      rw [hp] at hnx hpl hip hsuc
      clear hrun hdrop hc hnd hdec hcB hit hp hnd2
      go_upto_region 5 with (fail)
      go_cut [28] (fun x wx => x = .bool nd ∧ wx = W1)
      case first =>
        have hun : (undef : Value) = .tuple #[] := rfl
        rcases Hnd.out with ⟨h, hn⟩ | ⟨h, hn⟩ | ⟨h, hn⟩ | ⟨h, hn⟩ | ⟨h, hn⟩ | ⟨e1, e2, e3, e4, e5, hn⟩
        case inr.inr.inr.inr.inr =>
          have HN := Lib.hid hn
          clear hn Hnd hnew
          go_wp2_with fail
          go_meet
          exact ⟨by rw [HN.out], rfl⟩
        case inl =>
          have HN := Lib.hid hn
          have e0 : (c == 34) = true := by rw [h]; decide
          clear h hn Hnd hnew
          go_wp2_with fail
          go_meet
          exact ⟨by rw [HN.out], rfl⟩
        case inr.inl =>
          have HN := Lib.hid hn
          have e0 : (c == 34) = false := by rw [h]; decide
          have e1 : (c == 92) = true := by rw [h]; decide
          clear h hn Hnd hnew
          go_wp2_with fail
          go_meet
          exact ⟨by rw [HN.out], rfl⟩
        case inr.inr.inl =>
          have HN := Lib.hid hn
          have e0 : (c == 34) = false := by rw [h]; decide
          have e1 : (c == 92) = false := by rw [h]; decide
          have e2 : (c == 10) = true := by rw [h]; decide
          clear h hn Hnd hnew
          go_wp2_with fail
          go_meet
          exact ⟨by rw [HN.out], rfl⟩
        case inr.inr.inr.inl =>
          have HN := Lib.hid hn
          have e0 : (c == 34) = false := by rw [h]; decide
          have e1 : (c == 92) = false := by rw [h]; decide
          have e2 : (c == 10) = false := by rw [h]; decide
          have e3 : (c == 12) = true := by rw [h]; decide
          clear h hn Hnd hnew
          go_wp2_with fail
          go_meet
          exact ⟨by rw [HN.out], rfl⟩
        case inr.inr.inr.inr.inl =>
          have HN := Lib.hid hn
          have e0 : (c == 34) = false := by rw [h]; decide
          have e1 : (c == 92) = false := by rw [h]; decide
          have e2 : (c == 10) = false := by rw [h]; decide
          have e3 : (c == 12) = false := by rw [h]; decide
          have e4 : (c == 13) = true := by rw [h]; decide
          clear h hn Hnd hnew
          go_wp2_with fail
          go_meet
          exact ⟨by rw [HN.out], rfl⟩
      case rest =>
        obtain ⟨rfl, rfl⟩ := hcut
        have hbs := hb1.size
        clear Hnd
        cases nd with
        | true =>
          have hesc := tp_escaped c wc HcB.out (hD.below hb1)
          have hpe : partP c true = escP c := rfl
          rw [hpe] at hnew hpl10 hpz
          clear hpe
          go_wp2_with fail
          refine hesc.mono ?_
          rintro e w2 ⟨rfl, hb2⟩
          have hit2 := (hb2.block w.heap.size (Array.getElem?_eq_some_iff.1 hit1).1).trans hit1
          have hip2 := iterPos_of hit2
          go_wp2_with fail
          refine ⟨⟨k + 1, out ++ escP c, by omega, hnew, by rw [List.length_append]; omega, by rw [bytesOf_append], hit2, hb1.trans (hb2.mono hbs)⟩, ?_⟩
          rw [hip2, hip]; omega
        | false =>
          have henc := encode_is HcB.out
          have hpe : partP c false = Lib.encodeRune c := rfl
          rw [hpe] at hnew hpl10 hpz
          clear hpe
          have hip2 := iterPos_of hit1
          go_wp2_with fail
          refine ⟨⟨k + 1, out ++ Lib.encodeRune c, by omega, hnew, by rw [List.length_append]; omega, by rw [bytesOf_append], hit1, hb1⟩, ?_⟩
          rw [hip2, hip]; omega
    · obtain rfl : k = cs.length := by omega
      have hfin : out = quotedP cs := by rw [← hrun.out, List.drop_length]; simp
      have hnx : ∀ ty, (Instr.next (.pointer (some ⟨w.heap.size, 0, none⟩)) true ty).run Tryz.prog wr = _ := fun ty => Lib.run_next_end_at wr w.heap.size (bytesOf (writeP cs)) (posU cs cs.length) ty hit (by rw [hz, posU_end]; omega)
      have HN := Lib.hid hfin
      clear hfin hrun
      go_wp2
      go_ret
      exact ⟨congrArg (fun x => Ending.returned (Value.string (bytesOf x))) HN.out, hb⟩
end Go.Proofs.YtifedkilbpkpaaaGreatDoor
set_option linter.unusedVariables false
set_option linter.unusedSimpArgs false
namespace Go.Proofs.YtifedkilbpkpaaaGreatDoor
open Go.RowKit Rn Tk Fx Tp
theorem write_nil : writeP [] = [] := by simp [writeP]
theorem escP_low (c : Int) : ∀ b ∈ escP c, b.toNat < 128 ∧ 32 ≤ b.toNat := by
  intro b hb
  unfold escP at hb
  rcases List.mem_cons.1 hb with rfl | hb
  · decide
  · rcases List.mem_append.1 hb with hb | hb
    · have := hexT_low c.toNat c.toNat (Nat.le_refl _) b hb; omega
    · obtain rfl : b = 32 := by simpa using hb
      decide
theorem part_write (c : Int) (b : Bool) : partP c b = writeP (partC c b) := by
  cases b with
  | true => exact (write_chr (escP c) (fun b hb => (escP_low c b hb).1)).symm
  | false => exact (write_one c).symm
theorem name_write (l : List Int) (dim : Bool) : ∀ (r : List Int) (i : Nat), nameF l dim i r = writeP (nameG l dim i r)
  | [], i => rfl
  | c :: r, i => by
    unfold nameF nameG
    rw [write_app, part_write, name_write l dim r (i + 1)]
theorem nameP_write (l : List Int) (dim : Bool) : nameP l dim = writeP (nameC l dim) := name_write l dim l 0
theorem quoted_write (l : List Int) : quotedP l = writeP (34 :: bodyC l) := by
  have : ∀ l : List Int, l.flatMap (fun c => partP c (quoteB c)) = writeP (bodyC l) := by
    intro l
    induction l with
    | nil => rfl
    | cons c l ih =>
      show partP c (quoteB c) ++ l.flatMap (fun c => partP c (quoteB c)) = writeP (partC c (quoteB c) ++ bodyC l)
      rw [ih, write_app, part_write]
  rw [write_cons]
  unfold quotedP
  rw [this]; rfl
theorem printP_low (n : Int) : ∀ b ∈ Fx.printP n, b.toNat < 128 ∧ 32 ≤ b.toNat := by
  intro b hb
  rcases printP_bytes n b hb with h | rfl | rfl
  · unfold isD at h; simp at h; omega
  · decide
  · decide
theorem printP_write (n : Int) : Fx.printP n = writeP (chr (Fx.printP n)) := (write_chr _ (fun b hb => (printP_low n b hb).1)).symm
theorem token_write {t : GTok} (h : oneB t = true) : tokenP t = writeP (tC t) := by
  obtain ⟨e1, e2, e3, e4, e5⟩ := one_facts h
  have w1 : ∀ a : List UInt8, (∀ b ∈ a, b.toNat < 128) → a = writeP (chr a) := fun a ha => (write_chr a ha).symm
  obtain ⟨k1, k2⟩ := kind_range h
  have hx : (utfP t.text).getD [] = textC t := rfl
  unfold tokenP tC
  rw [if_pos h]
  simp only [hx]
  generalize textC t = l at *
  rw [← e3]
  generalize t.kind = k at *
  have hK : k = 1 ∨ k = 2 ∨ k = 3 ∨ k = 4 ∨ k = 5 ∨ k = 6 ∨ k = 7 ∨ k = 8 ∨ k = 9 ∨ k = 10 ∨ k = 11 ∨ k = 12 ∨ k = 13 ∨ k = 14 ∨ k = 15 ∨ k = 16 := by omega
  rcases hK with rfl | rfl | rfl | rfl | rfl | rfl | rfl | rfl | rfl | rfl | rfl | rfl | rfl | rfl | rfl | rfl
  · rfl
  · exact nameP_write l false
  · show nameP l false ++ [40] = writeP (nameC l false ++ [40])
    rw [write_app, nameP_write]; rfl
  · show 64 :: nameP l false = writeP (64 :: nameC l false)
    rw [write_cons, nameP_write]; rfl
  · show 35 :: nameP l false = writeP (35 :: nameC l false)
    rw [write_cons, nameP_write]; rfl
  · show quotedP l ++ [34] = writeP ((34 :: bodyC l) ++ [34])
    rw [write_app, quoted_write]; rfl
  · exact quoted_write l
  · exact printP_write _
  · show Fx.printP t.n ++ [37] = writeP (chr (Fx.printP t.n) ++ [37])
    rw [write_app, ← printP_write]; rfl
  · show Fx.printP t.n ++ nameP l true = writeP (chr (Fx.printP t.n) ++ nameC l true)
    rw [write_app, ← printP_write, nameP_write]
  · rfl
  · rfl
  · rfl
  · rfl
  · rfl
  · rfl
theorem sep_write (a b : Int) : (if apartB a b = true then ([47, 42, 42, 47] : List UInt8) else []) = writeP (sepC a b) := by
  unfold sepC
  split <;> rfl
theorem one_of_pairs {t : GTok} : ∀ {l : List GTok}, pairsB l = true → t ∈ l → oneB t = true
  | [], _, ht => by cases ht
  | [u], h, ht => by
    obtain rfl : t = u := by simpa using ht
    simp [pairsB] at h; exact h.1
  | u :: v :: l, h, ht => by
    unfold pairsB at h
    simp only [Bool.and_eq_true] at h
    rcases List.mem_cons.1 ht with rfl | ht
    · exact h.1.1.1.1
    · exact one_of_pairs h.2 ht
theorem join_write : ∀ {l : List GTok}, (∀ t ∈ l, oneB t = true) → joinP l = writeP (joinC l)
  | [], _ => rfl
  | [t], h => token_write (h t (by simp))
  | t :: u :: l, h => by
    show tokenP t ++ (_ ++ joinP (u :: l)) = writeP (tC t ++ (sepC t.kind u.kind ++ joinC (u :: l)))
    rw [write_app, write_app, ← token_write (h t (by simp)), ← sep_write, join_write (l := u :: l) (fun x hx => h x (by simp [hx]))]
/-- characters as they are scanned -/
def PlainL (l : List Int) : Prop := ∀ c ∈ l, Plain c
theorem PlainL.app {a b : List Int} (ha : PlainL a) (hb : PlainL b) : PlainL (a ++ b) := fun c hc => by
  rcases List.mem_append.1 hc with h | h
  · exact ha c h
  · exact hb c h
theorem PlainL.cons {c : Int} {a : List Int} (hc : Plain c) (ha : PlainL a) : PlainL (c :: a) := fun d hd => by
  rcases List.mem_cons.1 hd with rfl | h
  · exact hc
  · exact ha d h
theorem PlainL.low {a : List UInt8} (h : ∀ b ∈ a, b.toNat < 128 ∧ 32 ≤ b.toNat) : PlainL (chr a) := fun c hc => by
  obtain ⟨b, hb, rfl⟩ := List.mem_map.1 hc
  have := h b hb
  exact low_plain this.1 (by omega) (by omega) (by omega)
theorem part_plain {c : Int} (hc : isB c = true ∧ c ≠ 0) (b : Bool) (hb : b = false → c ≠ 12 ∧ c ≠ 13) : PlainL (partC c b) := by
  cases b with
  | true => exact PlainL.low (escP_low c)
  | false =>
    intro d hd
    obtain rfl : d = c := by simpa [partC] using hd
    exact ⟨hc.1, hc.2, (hb rfl).1, (hb rfl).2⟩
theorem need_within {c : Int} {a b d : Bool} (h : needB c a b d = false) : withinB c = true := by
  unfold needB at h
  rcases hw : withinB c with _ | _
  · rw [hw] at h; simp at h
  · rfl
theorem within_not {c : Int} (h : withinB c = true) : c ≠ 12 ∧ c ≠ 13 ∧ c ≠ 10 := by
  refine ⟨?_, ?_, ?_⟩ <;> rintro rfl <;> revert h <;> decide
theorem name_plain (l : List Int) (dim : Bool) : ∀ (r : List Int) (i : Nat), (∀ c ∈ r, isB c = true ∧ c ≠ 0) → PlainL (nameG l dim i r)
  | [], i, _ => fun c hc => by cases hc
  | c :: r, i, h => by
    unfold nameG
    exact (part_plain (h c (by simp)) _ (fun hf => ⟨(within_not (need_within hf)).1, (within_not (need_within hf)).2.1⟩)).app (name_plain l dim r (i + 1) (fun d hd => h d (by simp [hd])))
theorem body_plain : ∀ (r : List Int), (∀ c ∈ r, isB c = true ∧ c ≠ 0) → PlainL (bodyC r)
  | [], _ => fun c hc => by cases hc
  | c :: r, h => by
    show PlainL (partC c (quoteB c) ++ bodyC r)
    exact (part_plain (h c (by simp)) _ (fun hf => by have := of_decide_eq_false hf; omega)).app (body_plain r (fun d hd => h d (by simp [hd])))
theorem plain_of (k : Int) (h : isB k = true ∧ k ≠ 0 ∧ k ≠ 12 ∧ k ≠ 13) : Plain k := ⟨h.1, h.2.1, h.2.2.1, h.2.2.2⟩
theorem one_plain {k : Int} (h : isB k = true ∧ k ≠ 0 ∧ k ≠ 12 ∧ k ≠ 13) : PlainL [k] := PlainL.cons (plain_of k h) (fun c hc => by cases hc)
theorem tok_plain {t : GTok} (h : oneB t = true) : PlainL (tC t) := by
  obtain ⟨e1, e2, e3, e4, e5⟩ := one_facts h
  obtain ⟨k1, k2⟩ := kind_range h
  unfold tC
  generalize textC t = l at *
  generalize t.kind = k at *
  have hK : k = 1 ∨ k = 2 ∨ k = 3 ∨ k = 4 ∨ k = 5 ∨ k = 6 ∨ k = 7 ∨ k = 8 ∨ k = 9 ∨ k = 10 ∨ k = 11 ∨ k = 12 ∨ k = 13 ∨ k = 14 ∨ k = 15 ∨ k = 16 := by omega
  have hN : PlainL (nameC l false) := name_plain l false l 0 e2
  have hM : PlainL (nameC l true) := name_plain l true l 0 e2
  have hB : PlainL (34 :: bodyC l) := (body_plain l e2).cons (plain_of _ (by decide))
  rcases hK with rfl | rfl | rfl | rfl | rfl | rfl | rfl | rfl | rfl | rfl | rfl | rfl | rfl | rfl | rfl | rfl
  · exact one_plain (k := 10) (by decide)
  · exact hN
  · exact hN.app (one_plain (k := 40) (by decide))
  · exact hN.cons (plain_of 64 (by decide))
  · exact hN.cons (plain_of 35 (by decide))
  · exact hB.app (one_plain (k := 34) (by decide))
  · exact hB
  · exact PlainL.low (printP_low t.n)
  · exact (PlainL.low (printP_low t.n)).app (one_plain (k := 37) (by decide))
  · exact (PlainL.low (printP_low t.n)).app hM
  · obtain ⟨c, rfl, hd⟩ := single_of e5
    have hc := e2 c (by simp)
    obtain ⟨d1, d2, d3, d4⟩ := delim_facts hd
    exact one_plain (k := c) ⟨hc.1, hc.2, by omega, by omega⟩
  · have hl : l = [40] ∨ l = [91] ∨ l = [123] := by simpa [kindB] using e5
    rcases hl with rfl | rfl | rfl
    · exact one_plain (k := 40) (by decide)
    · exact one_plain (k := 91) (by decide)
    · exact one_plain (k := 123) (by decide)
  · have hl : l = [41] ∨ l = [93] ∨ l = [125] := by simpa [kindB] using e5
    rcases hl with rfl | rfl | rfl
    · exact one_plain (k := 41) (by decide)
    · exact one_plain (k := 93) (by decide)
    · exact one_plain (k := 125) (by decide)
  · exact one_plain (k := 58) (by decide)
  · exact one_plain (k := 59) (by decide)
  · exact one_plain (k := 44) (by decide)
theorem sep_plain (a b : Int) : PlainL (sepC a b) := by
  unfold sepC
  split
  · exact PlainL.low (a := [47, 42, 42, 47]) (by decide)
  · exact fun c hc => by cases hc
theorem join_plain : ∀ {l : List GTok}, (∀ t ∈ l, oneB t = true) → PlainL (joinC l)
  | [], _ => fun c hc => by cases hc
  | [t], h => tok_plain (h t (by simp))
  | t :: u :: l, h => (tok_plain (h t (by simp))).app ((sep_plain _ _).app (join_plain (l := u :: l) (fun x hx => h x (by simp [hx]))))
/-- tokens that may be, printed, are scanned as they were -/
theorem scan_print {l : List GTok} (h : rightB l = true) : scanT (readP (printL l)) = l.map gT := by
  have hp : pairsB l = true := by unfold rightB at h; simp only [Bool.and_eq_true] at h; exact h.1
  unfold printL
  rw [if_pos h, join_write (fun t ht => one_of_pairs hp ht), read_write _ (join_plain (fun t ht => one_of_pairs hp ht))]
  exact scan_join l hp
/-- a token alone -/
theorem scan_token {t : GTok} (h : oneB t = true) : scanT (readP (tokenP t)) = if t.kind = 7 then [⟨6, t.text, 0⟩] else [gT t] := by
  rw [token_write h, read_write _ (tok_plain h)]
  split
  · rename_i h7; exact scan_bad h h7
  · rename_i h7; exact scan_join [t] (by simp [pairsB, h, h7])
theorem gT_inj {a b : GTok} (ha : oneB a = true) (hb : oneB b = true) (h : gT a = gT b) : a = b := by
  have h1 := (kind_range ha).1
  have h2 := (kind_range hb).1
  obtain ⟨k, t, n⟩ := a
  obtain ⟨k', t', n'⟩ := b
  unfold gT at h
  simp only [Tok.mk.injEq, GTok.mk.injEq] at *
  refine ⟨by omega, h.2⟩
theorem map_inj : ∀ {a b : List GTok}, (∀ t ∈ a, oneB t = true) → (∀ t ∈ b, oneB t = true) → a.map gT = b.map gT → a = b
  | [], [], _, _, _ => rfl
  | [], _ :: _, _, _, h => by simp at h
  | _ :: _, [], _, _, h => by simp at h
  | x :: a, y :: b, ha, hb, h => by
    simp only [List.map_cons, List.cons.injEq] at h
    rw [gT_inj (ha x (by simp)) (hb y (by simp)) h.1, map_inj (fun t ht => ha t (by simp [ht])) (fun t ht => hb t (by simp [ht])) h.2]
/-- unlike tokens that may be are printed as unlike texts -/
theorem print_inj {a b : List GTok} (ha : rightB a = true) (hb : rightB b = true) : printL a = printL b ↔ a = b := by
  constructor
  · intro h
    have h1 := scan_print ha
    rw [h, scan_print hb] at h1
    have hpa : pairsB a = true := by unfold rightB at ha; simp only [Bool.and_eq_true] at ha; exact ha.1
    have hpb : pairsB b = true := by unfold rightB at hb; simp only [Bool.and_eq_true] at hb; exact hb.1
    exact (map_inj (fun t ht => one_of_pairs hpb ht) (fun t ht => one_of_pairs hpa ht) h1).symm
  · rintro rfl; rfl
/-! Characters below 128. -/
/-- bytes below 128, of which so many are 10 -/
def Asc (n : Nat) (l : List UInt8) : Prop := (∀ b ∈ l, b.toNat < 128) ∧ l.count 10 = n
theorem Asc.app {a b : List UInt8} {m n : Nat} (ha : Asc m a) (hb : Asc n b) : Asc (m + n) (a ++ b) := ⟨fun x hx => by
  rcases List.mem_append.1 hx with h | h
  · exact ha.1 x h
  · exact hb.1 x h, by rw [List.count_append, ha.2, hb.2]⟩
theorem asc_low {l : List UInt8} (h : ∀ b ∈ l, b.toNat < 128 ∧ 32 ≤ b.toNat) : Asc 0 l := ⟨fun b hb => (h b hb).1, by
  rw [List.count_eq_zero]
  intro hm
  exact absurd (h 10 hm).2 (by decide)⟩
theorem enc_asc {c : Int} (h0 : 0 ≤ c) (h : c < 128) (h10 : c ≠ 10) : Asc 0 (Lib.encodeRune c) := by
  have e : Lib.encodeRune c = [c.toNat.toUInt8] := by simp [Lib.encodeRune, Lib.encodeRuneZ_one h0 (by omega : c ≤ 127)]
  have g0 := b_of c h0 (by omega)
  rw [e]
  refine ⟨fun b hb => ?_, ?_⟩
  · obtain rfl : b = c.toNat.toUInt8 := by simpa using hb
    rw [g0]; omega
  · rw [List.count_eq_zero]
    intro hm
    have : (10 : UInt8) = c.toNat.toUInt8 := by simpa using hm
    rw [← this] at g0
    have : (10 : UInt8).toNat = 10 := rfl
    omega
theorem part_asc {c : Int} (h0 : 0 ≤ c) (h : c < 128) (b : Bool) (hb : b = false → c ≠ 10) : Asc 0 (partP c b) := by
  cases b with
  | true => exact asc_low (escP_low c)
  | false => exact enc_asc h0 h (hb rfl)
theorem name_asc (l : List Int) (dim : Bool) : ∀ (r : List Int) (i : Nat), (∀ c ∈ r, 0 ≤ c ∧ c < 128) → Asc 0 (nameF l dim i r)
  | [], i, _ => ⟨fun b hb => (by cases hb), rfl⟩
  | c :: r, i, h => by
    unfold nameF
    exact (part_asc (h c (by simp)).1 (h c (by simp)).2 _ (fun hf => (within_not (need_within hf)).2.2)).app (name_asc l dim r (i + 1) (fun d hd => h d (by simp [hd])))
theorem quoted_asc (l : List Int) (h : ∀ c ∈ l, 0 ≤ c ∧ c < 128) : Asc 0 (quotedP l) := by
  have : ∀ r : List Int, (∀ c ∈ r, 0 ≤ c ∧ c < 128) → Asc 0 (r.flatMap (fun c => partP c (quoteB c))) := by
    intro r
    induction r with
    | nil => exact fun _ => ⟨fun b hb => (by cases hb), rfl⟩
    | cons c r ih =>
      intro h
      show Asc 0 (partP c (quoteB c) ++ _)
      exact (part_asc (h c (by simp)).1 (h c (by simp)).2 _ (fun hf => by have := of_decide_eq_false hf; omega)).app (ih (fun d hd => h d (by simp [hd])))
  exact (asc_low (l := [34]) (by decide)).app (this l h)
/-- a text below 128 has characters below 128 -/
theorem text_low {t : GTok} (h : oneB t = true) (ha : ∀ b ∈ t.text, b.toNat < 128) : ∀ c ∈ textC t, 0 ≤ c ∧ c < 128 := by
  obtain ⟨e1, e2, e3, e4, e5⟩ := one_facts h
  intro c hc
  have h0 := (isB_range' (e2 c hc).1)
  refine ⟨h0.1, ?_⟩
  by_cases hlt : c < 128
  · exact hlt
  exfalso
  have hmem : ∀ b ∈ Lib.encodeRune c, b.toNat < 128 := fun b hb => by
    refine ha b ?_
    rw [← e3]
    unfold writeP
    exact List.mem_flatMap.2 ⟨c, hc, hb⟩
  have hd := decL_write c (e2 c hc).1 []
  rw [List.append_nil] at hd
  obtain ⟨b0, r, e⟩ := List.exists_cons_of_ne_nil (show Lib.encodeRune c ≠ [] from by have := enc_ne c []; rwa [List.append_nil] at this)
  have hb := hmem b0 (by rw [e]; simp)
  rw [e, decL_N] at hd
  unfold Lib.decodeN at hd
  simp at hd
  rw [if_pos (by omega)] at hd
  have := congrArg Prod.fst hd
  simp at this
  omega
theorem tok_asc {t : GTok} (h : oneB t = true) (ha : ∀ b ∈ t.text, b.toNat < 128) : Asc (if t.kind = 1 then 1 else 0) (tokenP t) := by
  have hl := text_low h ha
  obtain ⟨e1, e2, e3, e4, e5⟩ := one_facts h
  obtain ⟨k1, k2⟩ := kind_range h
  have htx : t.kind = 11 ∨ t.kind = 12 ∨ t.kind = 13 → Asc 0 t.text := by
    intro hk
    rw [← e3]
    generalize textC t = l at *
    rcases hk with hk | hk | hk
    · rw [hk] at e5
      obtain ⟨c, rfl, hd⟩ := single_of e5
      have hc := hl c (by simp)
      obtain ⟨d1, d2, d3, d4⟩ := delim_facts hd
      rw [write_one]
      exact enc_asc hc.1 hc.2 (by unfold whiteB at d1; simp at d1; omega)
    · rw [hk] at e5
      have hl : l = [40] ∨ l = [91] ∨ l = [123] := by simpa [kindB] using e5
      rcases hl with rfl | rfl | rfl <;> (rw [write_one]; exact enc_asc (by decide) (by decide) (by decide))
    · rw [hk] at e5
      have hl : l = [41] ∨ l = [93] ∨ l = [125] := by simpa [kindB] using e5
      rcases hl with rfl | rfl | rfl <;> (rw [write_one]; exact enc_asc (by decide) (by decide) (by decide))
  have hx : (utfP t.text).getD [] = textC t := rfl
  unfold tokenP
  rw [if_pos h]
  simp only [hx]
  generalize textC t = l at *
  generalize t.kind = k at *
  have a1 : ∀ b : UInt8, b.toNat < 128 → 32 ≤ b.toNat → Asc 0 [b] := fun b h1 h2 => asc_low (fun x hx => by
    obtain rfl : x = b := by simpa using hx
    exact ⟨h1, h2⟩)
  have hN : Asc 0 (nameP l false) := name_asc l false l 0 hl
  have hM : Asc 0 (nameP l true) := name_asc l true l 0 hl
  have hK : k = 1 ∨ k = 2 ∨ k = 3 ∨ k = 4 ∨ k = 5 ∨ k = 6 ∨ k = 7 ∨ k = 8 ∨ k = 9 ∨ k = 10 ∨ k = 11 ∨ k = 12 ∨ k = 13 ∨ k = 14 ∨ k = 15 ∨ k = 16 := by omega
  rcases hK with rfl | rfl | rfl | rfl | rfl | rfl | rfl | rfl | rfl | rfl | rfl | rfl | rfl | rfl | rfl | rfl
  · refine ⟨fun b hb => ?_, rfl⟩
    obtain rfl : b = 10 := by simpa using hb
    decide
  · exact hN
  · exact hN.app (a1 40 (by decide) (by decide))
  · exact (a1 64 (by decide) (by decide)).app hN
  · exact (a1 35 (by decide) (by decide)).app hN
  · exact (quoted_asc l hl).app (a1 34 (by decide) (by decide))
  · exact quoted_asc l hl
  · exact asc_low (printP_low t.n)
  · exact (asc_low (printP_low t.n)).app (a1 37 (by decide) (by decide))
  · exact (asc_low (printP_low t.n)).app hM
  · exact htx (by omega)
  · exact htx (by omega)
  · exact htx (by omega)
  · exact a1 58 (by decide) (by decide)
  · exact a1 59 (by decide) (by decide)
  · exact a1 44 (by decide) (by decide)
/-- how many Spaces there are -/
def spacesN (l : List GTok) : Nat := l.countP (fun t => decide (t.kind = 1))
theorem join_asc : ∀ {l : List GTok}, (∀ t ∈ l, oneB t = true) → (∀ t ∈ l, ∀ b ∈ t.text, b.toNat < 128) → Asc (spacesN l) (joinP l)
  | [], _, _ => ⟨fun b hb => (by cases hb), rfl⟩
  | [t], h, ha => by
    have := tok_asc (h t (by simp)) (ha t (by simp))
    have e : spacesN [t] = if t.kind = 1 then 1 else 0 := by simp [spacesN, List.countP_cons]
    rw [e]; exact this
  | t :: u :: l, h, ha => by
    have h1 := tok_asc (h t (by simp)) (ha t (by simp))
    have h2 := join_asc (l := u :: l) (fun x hx => h x (by simp [hx])) (fun x hx => ha x (by simp [hx]))
    have h3 : Asc 0 (if apartB t.kind u.kind = true then ([47, 42, 42, 47] : List UInt8) else []) := by
      split
      · exact asc_low (by decide)
      · exact ⟨fun b hb => (by cases hb), rfl⟩
    have e : spacesN (t :: u :: l) = (if t.kind = 1 then 1 else 0) + (0 + spacesN (u :: l)) := by
      simp [spacesN, List.countP_cons]; omega
    rw [e]
    exact h1.app (h3.app h2)
end Go.Proofs.YtifedkilbpkpaaaGreatDoor
