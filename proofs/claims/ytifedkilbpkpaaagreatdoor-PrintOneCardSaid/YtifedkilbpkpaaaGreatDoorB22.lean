/- Layer 4, the document: may a token be? One is walked. -/
import Derived.Test.YtifedkilbpkpaaaGreatDoorB14
import Derived.Test.YtifedkilbpkpaaaGreatDoorB21
import Derived.Test.YtifedkilbpkpaaaGreatDoorB20
import Derived.Test.YtifedkilbpkpaaaGreatDoorB12
import Derived.Deep.DeepCutAuto
import Derived.Test.YtifedkilbpkpaaaGreatDoorB16
import Derived.Test.YtifedkilbpkpaaaGreatDoorB03
/- Layer 4, the document: a text's characters are walked. -/
set_option linter.unusedVariables false
set_option linter.unusedSimpArgs false
namespace Go.Proofs.YtifedkilbpkpaaaGreatDoor
open Go.RowKit Rn Tp Tk
theorem doc_lead (b : UInt8) (r : List UInt8) (z : Int) (hz : (b.toNat : Int) = z) : (240 ≤ z ∧ docN (b :: r) = 4 ∧ docV (b :: r) 0 = z - 240) ∨ (z < 240 ∧ 224 ≤ z ∧ docN (b :: r) = 3 ∧ docV (b :: r) 0 = z - 224) ∨ (z < 240 ∧ z < 224 ∧ 128 ≤ z ∧ docN (b :: r) = 2 ∧ docV (b :: r) 0 = z - 192) ∨ (z < 240 ∧ z < 224 ∧ z < 128 ∧ docN (b :: r) = 1 ∧ docV (b :: r) 0 = z) := by
  have e : docB (b :: r) 0 = z := hz
  unfold docN docV
  simp only [e]
  by_cases h1 : 240 ≤ z
  · simp only [h1, if_true]
    exact .inl ⟨trivial, (by first | trivial | rfl), (by first | trivial | rfl)⟩
  · simp only [h1, if_false]
    right
    by_cases h2 : 224 ≤ z
    · simp only [h2, if_true]
      exact .inl ⟨by omega, trivial, (by first | trivial | rfl), (by first | trivial | rfl)⟩
    · simp only [h2, if_false]
      right
      by_cases h3 : 128 ≤ z
      · simp only [h3, if_true]
        exact .inl ⟨by omega, by omega, trivial, (by first | trivial | rfl), (by first | trivial | rfl)⟩
      · simp only [h3, if_false]
        exact .inr ⟨by omega, by omega, by omega, (by first | trivial | rfl), (by first | trivial | rfl)⟩
set_option maxRecDepth 100000 in
set_option maxHeartbeats 8000000 in
theorem rp_chars (l : List UInt8) (w : World) (hl : l.length ≤ 1000000) :
    Calls Tryz.prog 13 #[.string (bytesOf l)] w fun e w' => (match utfP l with
      | none => ∃ v, e = .returned (.tuple #[v, .bool false])
      | some cs => ∃ v, e = .returned (.tuple #[v, .bool true]) ∧ w'.ownsRow w.heap.size 3 1 v cs.length (cs.map n64)) ∧ Below w.heap.size w w' := by
  obtain ⟨U, hU⟩ : ∃ U, utfP l = U := ⟨_, rfl⟩
  rw [hU]
  have HU := Lib.hid hU
  clear hU
  obtain ⟨c0, W1, hcv, hcc, hcm, hbc, hrc⟩ := conv_text (P := Tryz.prog) (src := 9) (dst := 31) Tryz.underlying9 Tryz.underlying31 Tryz.underlying5 w (bytesOf l) l rfl (by unfold maxLen; omega)
  obtain ⟨i0, hi, hz0, hz1, hz2⟩ := info_parts int_info
  have hb1 := hbc.size
  have Hcc := Lib.hid hcc
  unfold maxLen at hcm
  go_enter Tryz.func13, Tryz.ntmps13
  go_wp2_with fail
  go_loopw [4, 5] (fun o b wr => ∃ (rest : List UInt8) (A : Option Addr) (m c : Nat) (done : List Int), b = .slice A m c ∧ Reads wr W1.heap.size 1 A m (rest.map b8) ∧ m ≤ c ∧ c ≤ 9223372036854775807 ∧ wr.ownsRow W1.heap.size 3 1 o done.length (done.map n64) ∧ Below W1.heap.size W1 wr ∧ Hid (utfP l = (utfP rest).map (done ++ ·)) ∧ done.length + m ≤ l.length) (fun _ b _ => match b with | .slice _ m _ => m | _ => 0)
  case atStart => exact ⟨l, _, l.length, c0, [], rfl, hrc, hcc, by omega, World.ownsRow_nil _ _ _ _, Below.refl _ _, (by show _ = _; cases utfP l <;> simp), by simp⟩
  case round =>
    obtain ⟨rest, A, m, c, done, rfl, hr, hmc, hc, hown, hb, hrun, hdm⟩ := hrel
    have hrl : rest.length = m := by simpa using hr.len
    have hbs := hb.size
    obtain ⟨Ao, co, rfl, hco, hcom⟩ := own_form hown
    by_cases h0 : 0 < m
    · obtain ⟨b0, r, hrest⟩ := List.exists_cons_of_length_pos (l := rest) (by omega)
      have hne : rest ≠ [] := by rw [hrest]; simp
      have hstep := doc_step hne
      obtain ⟨bk, off, u, hA, hbk, hu, hcell⟩ := hr.at_ h0
      subst hA
      have hu0 : u = .int .u8 (b0.toNat : Int) := by
        rw [hrest] at hu
        simpa [b8] using hu.symm
      subst hu0
      rw [Nat.add_zero] at hcell
      obtain ⟨z, hz⟩ : ∃ z : Int, (b0.toNat : Int) = z := ⟨_, rfl⟩
      have hz256 : 0 ≤ z ∧ z ≤ 255 := by have := UInt8.toNat_lt b0; omega
      have hlead := doc_lead b0 r z hz
      rw [hz] at hcell
      rw [← hrest] at hlead
      have hvr := docV_range rest
      obtain ⟨nd, hnd⟩ : ∃ nd, docN rest = nd := ⟨_, rfl⟩
      have hnr := docN_range rest
      have hdc : docC rest = docV rest (nd - 1) := by unfold docC; rw [hnd]
      have hVs : ∀ k, docV rest (k + 1) = docV rest k * 64 + docB rest (k + 1) - 128 := fun k => rfl
      have hOk : docOk rest = (decide (nd ≤ m ∧ 0 ≤ docC rest) && isB (docC rest) && decide (Lib.encodeRune (docC rest) = rest.take nd)) := by unfold docOk; rw [hnd, hrl]
      rw [hnd] at hnr hlead hstep
      generalize docC rest = DC at *
      generalize docV rest = V at *
      generalize docOk rest = ok at *
      have HOk := Lib.hid hOk
      have HVs := Lib.hid hVs
      have Hvr := Lib.hid hvr
      have Hdc := Lib.hid hdc
      have HS := Lib.hid hstep
      clear hOk hVs hvr hdc hstep
      have HL := Lib.hid hlead
      have Hnd := Lib.hid hnd
      have Hrl := Lib.hid hrl
      have dm : decide ((0 : Int) < (m : Int)) = true := by simp; omega
      clear hlead hnd hu hrest hrl hne hz
      go_upto_if 21 with (fail)
      go_cut [6, 7] (fun x y wx => x = .int .i64 (nd : Int) ∧ y = .int .i64 (V 0) ∧ wx = wr)
      case first =>
        go_wp2_with fail
        all_goals
          go_meet
          refine ⟨congrArg (Value.int IntKind.i64) ?_, congrArg (Value.int IntKind.i64) ?_, rfl⟩
          all_goals (have hL := HL.out; simp only [decide_eq_true_eq, decide_eq_false_iff_not] at *; omega)
      case rest =>
        obtain ⟨rfl, rfl, hwc⟩ := hcut
        have hwc2 := hwc.symm
        subst hwc2
        clear HL
        by_cases hnm : nd ≤ m
        · have dn : decide ((m : Int) < (nd : Int)) = false := by simp; omega
          go_wp2_with fail
          go_loopw [7, 8] (fun x k wy => ∃ j : Nat, 1 ≤ j ∧ j ≤ nd ∧ k = .int .i64 (j : Int) ∧ x = .int .i64 (V (j - 1)) ∧ wr = wy) (fun _ k _ => nd - (intOf k).toNat)
          case atStart => exact ⟨1, by omega, by omega, rfl, rfl, rfl⟩
          case round =>
            obtain ⟨j, hj1, hjn, rfl, rfl, rfl⟩ := hrel
            by_cases hjl : j < nd
            · obtain ⟨bk', off', u, hA, _, hu, hcj⟩ := hr.at_ (show j < m by omega)
              injection hA with hA
              injection hA with e1 e2
              subst e1 e2
              obtain ⟨bj, hbj⟩ : ∃ bj, rest[j]? = some bj := ⟨_, List.getElem?_eq_getElem (by rw [Hrl.out]; omega)⟩
              have hu1 : u = .int .u8 (docB rest j) := by
                rw [List.getElem?_map, hbj] at hu
                unfold docB
                rw [hbj]
                simpa [b8] using hu.symm
              subst hu1
              have hbr : 0 ≤ docB rest j ∧ docB rest j ≤ 255 := by unfold docB; have := UInt8.toNat_lt (rest[j]?.getD 0); omega
              have hv1 := Hvr.out (j - 1) (by omega)
              have hv2 := Hvr.out j (by omega)
              have hvs : V j = V (j - 1) * 64 + docB rest j - 128 := by
                have := HVs.out (j - 1)
                rw [show j - 1 + 1 = j by omega] at this
                exact this
              have HV := Lib.hid hvs
              generalize docB rest j = z1 at *
              obtain ⟨v1, hv1e⟩ : ∃ v1, V (j - 1) = v1 := ⟨_, rfl⟩
              rw [hv1e] at hv1 HV ⊢
              have dj : decide ((j : Int) < (nd : Int)) = true := by simp; omega
              have Hv2 := Lib.hid hv2
              clear hvs hu hbj hv1e hv2
              go_wp2_with fail
              refine ⟨⟨j + 1, by omega, by omega, by go_num, congrArg (Value.int IntKind.i64) (by rw [Nat.add_sub_cancel]; exact HV.out.symm), trivial⟩, by simp [intOf]; omega⟩
            · obtain rfl : j = nd := by omega
              have dj : decide ((j : Int) < (j : Int)) = false := by simp
              rw [← Hdc.out]
              have hDr : -100000000 ≤ DC ∧ DC ≤ 100000000 := by rw [Hdc.out]; exact Hvr.out _ (by omega)
              have cI := fun W => ref_is DC W (by omega) (by omega)
              have hok := HOk.out
              have HS2 := HS
              clear HS
              go_upto_region 21 with (fail)
              go_cut [70] (fun x wx => x = .bool (!ok) ∧ Below wr.heap.size wr wx)
              case first =>
                rename_i JJ KK hJJ hKK
                by_cases hneg : DC < 0
                · have tN : decide (DC < 0) = true := by simp [hneg]
                  have hfin : ok = false := by rw [hok]; simp; omega
                  have HN := Lib.hid hfin
                  clear hfin hok HOk hneg
                  refine wp_region_bw wr.heap.size (by kernel_rfl) (by kernel_rfl) ?_
                  repeat (go_big_quiet_step (fail))
                  refine wpQuiet_nil ?_
                  intro _ hw'
                  obtain ⟨W, rfl⟩ := hw'
                  go_wp2_with fail
                  go_meet
                  exact ⟨by rw [HN.out]; rfl, W.is⟩
                · have tN : decide (DC < 0) = false := by simp; omega
                  cases hI : isB DC with
                  | false =>
                    have hfin : ok = false := by rw [hok, hI]; simp
                    have HN := Lib.hid hfin
                    rw [hI] at cI
                    clear hfin hok HOk hneg hI
                    refine wp_region_bw wr.heap.size (by kernel_rfl) (by kernel_rfl) ?_
                    repeat (go_big_quiet_step (first | (go_at_call 30; exact calls_bw_same (cI _))))
                    refine wpQuiet_nil ?_
                    intro _ hw'
                    obtain ⟨W, rfl⟩ := hw'
                    go_wp2_with fail
                    go_meet
                    exact ⟨by rw [HN.out]; rfl, W.is⟩
                  | true =>
                    rw [hI] at cI
                    have hfin : ok = decide (Lib.encodeRune DC = rest.take j) := by rw [hok, hI]; simp; omega
                    have HN := Lib.hid hfin
                    have htk := hr.take (k := j) (by omega)
                    rw [← List.map_take] at htk
                    have hconvT : ∀ W : World, Below wr.heap.size wr W → (convert 31 9 (.slice (some ⟨bk, off, none⟩) j c)).run Tryz.prog W = .ok (.string (bytesOf (rest.take j))) W := fun W hW =>
                      run_str (P := Tryz.prog) Tryz.underlying31 Tryz.underlying5 Tryz.underlying9 c (htk.below (hW.mono hbs))
                    have hsl : ∀ W, (Instr.slice 31 (.slice (some ⟨bk, off, none⟩) m c) none (some (.int .i64 (j : Int))) none).run Tryz.prog W = .ok (.slice (some ⟨bk, off, none⟩) j c) W := fun W => by
                      rw [run_slice_h W 31 (some ⟨bk, off, none⟩) m c Tryz.underlying31 .i64 (j : Int) (by omega) (by omega)]
                      go_simp
                    refine Code.wp_mono ?_ (rp_cmp _ _ _ _ _ _ _ _ _ _ _ _ _ _ _ _ _ _ _ _ _ _ _ _ _ _ _ _ _ _ _ _ _ _ _ _ _ _ _ _ _ _ _ _ _ _ _ _ _ _ _ _ _ _ _ _ _ _ _ _ _ _ _ _ _ _ _ _ _ _ _ _ _ _ _ _ tN hI hDr rfl hnm hmc hconvT hsl)
                    intro e a W hQ
                    cases e <;> first | exact hQ.elim | skip
                    obtain ⟨⟨v54, v55, v56, v57, v58, v59, v60, v61, v62, v63, v64, v65, v66, v67, v68, v69, rfl⟩, hbW⟩ := hQ
                    rw [← HN.out]
                    refine hKK _ _ ?_
                    go_meet
                    exact ⟨rfl, hbW⟩
              case rest =>
                obtain ⟨rfl, hbx⟩ := hcut
                have hbw : Below W1.heap.size W1 wc := hb.trans (hbx.mono hbs)
                have hwc := hbx.size
                clear cI hok
                cases ok with
                | false =>
                  obtain rfl : U = none := by rw [← HU.out, hrun.out, HS2.out]; rfl
                  clear HU hrun HS2 HOk
                  go_wp2
                  go_ret2
                  exact ⟨⟨_, rfl⟩, hbc.trans (hbw.mono hb1)⟩
                | true =>
                  have hownc := own_below hown hbx
                  have hrc2 := hr.below (hbx.mono hbs)
                  have hsl2 := fun (kd : IntKind) W => run_cut (P := Tryz.prog) Tryz.underlying31 (by kernel_rfl) (s := 1) (fun W => by kernel_rfl) (some ⟨bk, off, none⟩) m c kd j hnm W
                  have hcut2 := hrc2.cutA (k := j) (c := c) hnm hmc
                  rw [← List.map_drop] at hcut2
                  have hnew : Hid (utfP l = (utfP (rest.drop j)).map ((done ++ [DC]) ++ ·)) := by
                    show _ = _
                    rw [hrun.out, HS2.out, if_pos rfl]
                    cases utfP (rest.drop j) <;> simp
                  generalize cutAt (some ⟨bk, off, none⟩) c j 1 = A2 at *
                  clear hrun HS2 HOk hcell
                  go_wp2_with (at_builtin; refine wpList_append_own _ rfl _ _ 36 rfl W1.heap.size 3 i0 (.int .i64 0) 1 8 Tryz.underlying36 hi hz0 hz1 hz2 rfl (by decide) _ _ _ rfl (hownc.alloc _) ⟨wc.heap.size, 0, none⟩ 1 1 [.int .i64 DC] rfl rfl ?c1 ?c2 ?c3 ?c4 ?c5 ?_)
                  case c1 => exact cell_one_new _ _ _
                  case c2 => intro u hu; simp at hu; subst hu; rfl
                  case c3 => unfold maxLen; omega
                  case c4 => omega
                  case c5 => simp; omega
                  intro v' w2 hown2 hg2 _
                  have hb2 : Below W1.heap.size W1 w2 := push_below hbw (by omega) hownc hg2
                  have hrd2 := push_reads hcut2 (by omega) hownc hg2
                  go_wp2_with fail
                  refine ⟨⟨rest.drop j, A2, m - j, c - j, done ++ [DC], rfl, hrd2, by omega, by omega, by simpa [n64] using hown2, hb2, hnew, by simp; omega⟩, ?_⟩
                  show m - j < m
                  omega
        · have dn : decide ((m : Int) < (nd : Int)) = true := by simp; omega
          have hno : ok = false := by rw [HOk.out]; simp; omega
          obtain rfl : U = none := by rw [← HU.out, hrun.out, HS.out, hno]; rfl
          clear HU hrun HS HOk hno
          go_wp2
          go_ret2
          exact ⟨⟨_, rfl⟩, hbc.trans (hb.mono hb1)⟩
    · obtain rfl : m = 0 := by omega
      have hr0 : rest = [] := List.eq_nil_of_length_eq_zero (by omega)
      have hfin : U = some done := by rw [← HU.out, hrun.out, hr0, utfP_nil]; simp
      subst hfin
      clear HU hrun hr0
      go_wp2
      go_ret2
      exact ⟨⟨_, rfl, own_less hown hb1⟩, hbc.trans (hb.mono hb1)⟩
end Go.Proofs.YtifedkilbpkpaaaGreatDoor
set_option linter.unusedVariables false
set_option linter.unusedSimpArgs false
namespace Go.Proofs.YtifedkilbpkpaaaGreatDoor
open Go.RowKit Rn Tp Tk Fx
theorem one_none {t : GTok} (h : utfP t.text = none) : oneB t = false := by unfold oneB; rw [h]
theorem one_some {t : GTok} {cs : List Int} (h : utfP t.text = some cs) : oneB t = (decide ((0 : Int) ∉ cs) && numOk t.kind t.n && kindB t.kind cs) := by unfold oneB; rw [h]
def badS : List Int := [9, 10, 12, 13, 32, 34, 39, 40, 41, 91, 93, 123, 125, 58, 59, 44]
theorem delim_bad (c : Int) : delimB c = (!beginsB c && !(decide (48 ≤ c) && decide (c ≤ 57)) && !decide (c ∈ badS)) := by
  unfold delimB digitB whiteB badS
  cases beginsB c
  · rw [Bool.eq_iff_iff]
    simp
    omega
  · simp
set_option maxRecDepth 100000 in
set_option maxHeartbeats 8000000 in
theorem rp_one (t : GTok) (w : World) (hl : t.text.length ≤ 1000000) (hn : -9223372036854775808 ≤ t.n ∧ t.n ≤ 9223372036854775807) :
    Calls Tryz.prog 5 #[tokG t] w fun e w' => e = .returned (.bool (oneB t)) ∧ Below w.heap.size w w' := by
  obtain ⟨kind, text, n⟩ := t
  simp only [] at hl hn
  obtain ⟨wA, hwA⟩ : ∃ wA, w.alloc (.cells #[.int .i64 kind, .string (bytesOf text), .int .i64 n] 23) = wA := ⟨_, rfl⟩
  have bA : Below w.heap.size w wA := by rw [← hwA]; exact (Below.refl _ _).alloc (Nat.le_refl _) _
  have rA : RowAt wA w.heap.size [.int .i64 kind, .string (bytesOf text), .int .i64 n] := by rw [← hwA]; exact RowAt.new _ _ _
  obtain ⟨x0, _⟩ := rA.2 0 _ rfl
  obtain ⟨x1, _⟩ := rA.2 1 _ rfl
  obtain ⟨x2, _⟩ := rA.2 2 _ rfl
  obtain ⟨R, hR⟩ : ∃ R, oneB ⟨kind, text, n⟩ = R := ⟨_, rfl⟩
  rw [hR]
  have hC := rp_chars text wA hl
  have base : ∀ {W1 : World}, Below wA.heap.size wA W1 → Below w.heap.size w W1 := fun h => bA.trans (h.mono bA.size)
  have cells : ∀ {W1 : World}, Below wA.heap.size wA W1 → W1.cell? ⟨w.heap.size, 0, none⟩ = some (.int .i64 kind) ∧ W1.cell? ⟨w.heap.size, 1, none⟩ = some (.string (bytesOf text)) ∧ W1.cell? ⟨w.heap.size, 2, none⟩ = some (.int .i64 n) := fun h => ⟨(h.cell (p := ⟨w.heap.size, 0, none⟩) rA.1).trans x0, (h.cell (p := ⟨w.heap.size, 1, none⟩) rA.1).trans x1, (h.cell (p := ⟨w.heap.size, 2, none⟩) rA.1).trans x2⟩
  cases hu : utfP text with
  | none =>
    rw [hu] at hC
    obtain rfl : R = false := by rw [← hR]; exact one_none hu
    clear hR hu
    go_enter Tryz.func5, Tryz.ntmps5
    go_wp2_with fail
    refine hC.mono ?_
    rintro e w1 ⟨⟨v, rfl⟩, hb⟩
    go_wp2
    go_ret
    exact ⟨rfl, base hb⟩
  | some cs =>
    rw [hu] at hC
    have hO := one_some (t := ⟨kind, text, n⟩) hu
    rw [hR] at hO
    simp only [] at hO hC
    have hcl : cs.length ≤ 1000000 := by
      obtain ⟨e3, hv⟩ := utf_some hu
      have := posU_ge cs cs.length (Nat.le_refl _)
      rw [posU_end, ← e3] at this; omega
    have hvr : ∀ c ∈ cs, isB c = true := (utf_some hu).2
    have HO := Lib.hid hO
    have Hv := Lib.hid hvr
    clear hR hu hO hvr
    go_enter Tryz.func5, Tryz.ntmps5
    go_wp2_with fail
    refine hC.mono ?_
    rintro e w1 ⟨⟨v, rfl, hown⟩, hb⟩
    obtain ⟨A, co, rfl, hco, hcm⟩ := own_form hown
    have hrd := Reads.of_own hown
    obtain ⟨y0, y1, y2⟩ := cells hb
    have hI0 := rp_in cs A cs.length co 0 w1 hrd hcl
    have hlt : w.heap.size < w1.heap.size := Nat.lt_of_lt_of_le rA.1 hb.size
    clear hC x0 x1 x2 hwA
    by_cases h0 : (0 : Int) ∈ cs
    · have hI : decide ((0 : Int) ∈ cs) = true := by simp [h0]
      rw [hI] at hI0
      obtain rfl : R = false := by rw [HO.out]; simp [h0]
      clear h0 HO hI
      go_wp2_with fail
      refine hI0.mono ?_
      rintro e w2 ⟨rfl, rfl⟩
      go_wp2
      go_ret
      exact ⟨rfl, base hb⟩
    · have hI : decide ((0 : Int) ∈ cs) = false := by simp [h0]
      rw [hI] at hI0
      have hO2 : R = (numOk kind n && kindB kind cs) := by rw [HO.out]; simp [h0]
      have HO2 := Lib.hid hO2
      clear h0 HO hI hO2
      have hst := fun W => rfx_stop n W hn.1 hn.2
      obtain ⟨s, hs⟩ : ∃ s, stopZ n = s := ⟨_, rfl⟩
      rw [hs] at hst
      have hnum : numOk kind n = decide (s = n ∧ ((8 ≤ kind ∧ kind ≤ 10) ∨ n = 0)) := by unfold numOk; rw [hs]
      have hs0 : n = 0 → s = 0 := fun h => by rw [← hs, h]; rfl
      have HN := Lib.hid hnum
      have HS := Lib.hid hs0
      clear hnum hs0 hs
      by_cases hgood : numOk kind n = true
      · have hK : kind ≤ 0 ∨ kind = 1 ∨ kind = 2 ∨ kind = 3 ∨ kind = 4 ∨ kind = 5 ∨ kind = 6 ∨ kind = 7 ∨ kind = 8 ∨ kind = 9 ∨ kind = 10 ∨ kind = 11 ∨ kind = 12 ∨ kind = 13 ∨ kind = 14 ∨ kind = 15 ∨ kind = 16 ∨ 17 ≤ kind := by omega
        have hg := hgood
        rw [HN.out] at hg
        simp only [decide_eq_true_eq] at hg
        have hz1 := bw_cell (B := w1.heap.size) y2 hlt
        rcases hK with hK | rfl | rfl | rfl | rfl | rfl | rfl | rfl | rfl | rfl | rfl | rfl | rfl | rfl | rfl | rfl | rfl | hK
        case inl =>
          have n0 : n = 0 := by omega
          have t0 : (n != 0) = false := by simp [n0]
          obtain rfl : R = false := by
            rw [HO2.out]
            have : kindB kind cs = false := by
              unfold kindB
              rw [if_neg (by omega), if_neg (by omega), if_neg (by omega), if_neg (by omega), if_neg (by omega)]
              simp; omega
            rw [this]; simp
          have q1 : decide (kind < 8) = true := by simp; omega
          have q2 : decide (2 ≤ kind) = false := by simp; omega
          have q3 : decide (1 ≤ kind) = false := by simp; omega
          have r6 : (kind == 6) = false := by simp; omega
          have r7 : (kind == 7) = false := by simp; omega
          have r10 : (kind == 10) = false := by simp; omega
          have r11 : (kind == 11) = false := by simp; omega
          have r12 : (kind == 12) = false := by simp; omega
          have r13 : (kind == 13) = false := by simp; omega
          clear HO2 HN hK hg hgood n0
          go_wp2_with fail
          refine hI0.mono ?_
          rintro e w2 ⟨rfl, rfl⟩
          go_wp2
          go_ret
          exact ⟨rfl, base hb⟩
        case inr.inl =>
          have n0 : n = 0 := by omega
          have t0 : (n != 0) = false := by simp [n0]
          have HK := Lib.hid (show numOk 1 n = true by rw [HN.out]; simp [n0, HS.out n0])
          by_cases hcs : cs = []
          · obtain rfl : R = true := by rw [HO2.out, HK.out]; simp [kindB, hcs]
            have hl0 : ((cs.length : Int) == 0) = true := by simp [hcs]
            clear hcs HO2 HN HK hg hgood n0
            go_wp2_with fail
            refine hI0.mono ?_
            rintro e w2 ⟨rfl, rfl⟩
            go_wp2
            go_ret
            exact ⟨rfl, base hb⟩
          · have hpos := List.length_pos_iff.2 hcs
            obtain rfl : R = false := by rw [HO2.out, HK.out]; simp [kindB, hcs]
            have hl0 : ((cs.length : Int) == 0) = false := by simp; omega
            clear hcs HO2 HN HK hg hgood n0
            go_wp2_with fail
            refine hI0.mono ?_
            rintro e w2 ⟨rfl, rfl⟩
            go_wp2
            go_ret
            exact ⟨rfl, base hb⟩
        case inr.inr.inl =>
          have n0 : n = 0 := by omega
          have t0 : (n != 0) = false := by simp [n0]
          have HK := Lib.hid (show numOk 2 n = true by rw [HN.out]; simp [n0, HS.out n0])
          by_cases hcs : cs = []
          · obtain rfl : R = false := by rw [HO2.out, HK.out]; simp [kindB, hcs]
            have hl0 : decide ((0 : Int) < (cs.length : Int)) = false := by simp [hcs]
            have hl1 : decide (0 < cs.length) = false := by simp [hcs]
            clear hcs HO2 HN HK hg hgood n0
            go_wp2_with fail
            refine hI0.mono ?_
            rintro e w2 ⟨rfl, rfl⟩
            go_wp2
            go_ret
            exact ⟨rfl, base hb⟩
          · have hpos := List.length_pos_iff.2 hcs
            obtain rfl : R = true := by rw [HO2.out, HK.out]; simp [kindB, hcs]
            have hl0 : decide ((0 : Int) < (cs.length : Int)) = true := by simp; omega
            have hl1 : decide (0 < cs.length) = true := by simp; omega
            clear hcs HO2 HN HK hg hgood n0
            go_wp2_with fail
            refine hI0.mono ?_
            rintro e w2 ⟨rfl, rfl⟩
            go_wp2
            go_ret
            exact ⟨rfl, base hb⟩
        case inr.inr.inr.inl =>
          have n0 : n = 0 := by omega
          have t0 : (n != 0) = false := by simp [n0]
          have HK := Lib.hid (show numOk 3 n = true by rw [HN.out]; simp [n0, HS.out n0])
          by_cases hcs : cs = []
          · obtain rfl : R = false := by rw [HO2.out, HK.out]; simp [kindB, hcs]
            have hl0 : decide ((0 : Int) < (cs.length : Int)) = false := by simp [hcs]
            have hl1 : decide (0 < cs.length) = false := by simp [hcs]
            clear hcs HO2 HN HK hg hgood n0
            go_wp2_with fail
            refine hI0.mono ?_
            rintro e w2 ⟨rfl, rfl⟩
            go_wp2
            go_ret
            exact ⟨rfl, base hb⟩
          · have hpos := List.length_pos_iff.2 hcs
            obtain rfl : R = true := by rw [HO2.out, HK.out]; simp [kindB, hcs]
            have hl0 : decide ((0 : Int) < (cs.length : Int)) = true := by simp; omega
            have hl1 : decide (0 < cs.length) = true := by simp; omega
            clear hcs HO2 HN HK hg hgood n0
            go_wp2_with fail
            refine hI0.mono ?_
            rintro e w2 ⟨rfl, rfl⟩
            go_wp2
            go_ret
            exact ⟨rfl, base hb⟩
        case inr.inr.inr.inr.inl =>
          have n0 : n = 0 := by omega
          have t0 : (n != 0) = false := by simp [n0]
          have HK := Lib.hid (show numOk 4 n = true by rw [HN.out]; simp [n0, HS.out n0])
          by_cases hcs : cs = []
          · obtain rfl : R = false := by rw [HO2.out, HK.out]; simp [kindB, hcs]
            have hl0 : decide ((0 : Int) < (cs.length : Int)) = false := by simp [hcs]
            have hl1 : decide (0 < cs.length) = false := by simp [hcs]
            clear hcs HO2 HN HK hg hgood n0
            go_wp2_with fail
            refine hI0.mono ?_
            rintro e w2 ⟨rfl, rfl⟩
            go_wp2
            go_ret
            exact ⟨rfl, base hb⟩
          · have hpos := List.length_pos_iff.2 hcs
            obtain rfl : R = true := by rw [HO2.out, HK.out]; simp [kindB, hcs]
            have hl0 : decide ((0 : Int) < (cs.length : Int)) = true := by simp; omega
            have hl1 : decide (0 < cs.length) = true := by simp; omega
            clear hcs HO2 HN HK hg hgood n0
            go_wp2_with fail
            refine hI0.mono ?_
            rintro e w2 ⟨rfl, rfl⟩
            go_wp2
            go_ret
            exact ⟨rfl, base hb⟩
        case inr.inr.inr.inr.inr.inl =>
          have n0 : n = 0 := by omega
          have t0 : (n != 0) = false := by simp [n0]
          have HK := Lib.hid (show numOk 5 n = true by rw [HN.out]; simp [n0, HS.out n0])
          by_cases hcs : cs = []
          · obtain rfl : R = false := by rw [HO2.out, HK.out]; simp [kindB, hcs]
            have hl0 : decide ((0 : Int) < (cs.length : Int)) = false := by simp [hcs]
            have hl1 : decide (0 < cs.length) = false := by simp [hcs]
            clear hcs HO2 HN HK hg hgood n0
            go_wp2_with fail
            refine hI0.mono ?_
            rintro e w2 ⟨rfl, rfl⟩
            go_wp2
            go_ret
            exact ⟨rfl, base hb⟩
          · have hpos := List.length_pos_iff.2 hcs
            obtain rfl : R = true := by rw [HO2.out, HK.out]; simp [kindB, hcs]
            have hl0 : decide ((0 : Int) < (cs.length : Int)) = true := by simp; omega
            have hl1 : decide (0 < cs.length) = true := by simp; omega
            clear hcs HO2 HN HK hg hgood n0
            go_wp2_with fail
            refine hI0.mono ?_
            rintro e w2 ⟨rfl, rfl⟩
            go_wp2
            go_ret
            exact ⟨rfl, base hb⟩
        case inr.inr.inr.inr.inr.inr.inl =>
          have n0 : n = 0 := by omega
          have t0 : (n != 0) = false := by simp [n0]
          have HK := Lib.hid (show numOk 6 n = true by rw [HN.out]; simp [n0, HS.out n0])
          obtain rfl : R = true := by rw [HO2.out, HK.out]; rfl
          clear HO2 HN HK hg hgood n0
          go_wp2_with fail
          refine hI0.mono ?_
          rintro e w2 ⟨rfl, rfl⟩
          go_wp2
          go_ret
          exact ⟨rfl, base hb⟩
        case inr.inr.inr.inr.inr.inr.inr.inl =>
          have n0 : n = 0 := by omega
          have t0 : (n != 0) = false := by simp [n0]
          have HK := Lib.hid (show numOk 7 n = true by rw [HN.out]; simp [n0, HS.out n0])
          obtain rfl : R = true := by rw [HO2.out, HK.out]; rfl
          clear HO2 HN HK hg hgood n0
          go_wp2_with fail
          refine hI0.mono ?_
          rintro e w2 ⟨rfl, rfl⟩
          go_wp2
          go_ret
          exact ⟨rfl, base hb⟩
        case inr.inr.inr.inr.inr.inr.inr.inr.inl =>
          have ns : s = n := hg.1
          have t0 : (n != s) = false := by simp [ns]
          have HK := Lib.hid (show numOk 8 n = true by rw [HN.out]; simp [ns])
          by_cases hcs : cs = []
          · obtain rfl : R = true := by rw [HO2.out, HK.out]; simp [kindB, hcs]
            have hl0 : ((cs.length : Int) == 0) = true := by simp [hcs]
            clear hcs HO2 HN HK hg hgood ns
            go_wp2_with fail
            refine hI0.mono ?_
            rintro e w2 ⟨rfl, rfl⟩
            go_wp2_with fail
            refine wp_region_bw w1.heap.size (by kernel_rfl) (by kernel_rfl) ?_
            repeat (go_big_quiet_step (first | (go_at_call 15; exact calls_bw_same (hst _))))
            refine wpQuiet_nil ?_
            intro _ hw'
            obtain ⟨W, rfl⟩ := hw'
            obtain ⟨y0, y1, y2⟩ := cells (hb.trans (W.is.mono hb.size))
            go_wp2
            go_ret
            exact ⟨rfl, base (hb.trans (W.is.mono hb.size))⟩
          · have hpos := List.length_pos_iff.2 hcs
            obtain rfl : R = false := by rw [HO2.out, HK.out]; simp [kindB, hcs]
            have hl0 : ((cs.length : Int) == 0) = false := by simp; omega
            clear hcs HO2 HN HK hg hgood ns
            go_wp2_with fail
            refine hI0.mono ?_
            rintro e w2 ⟨rfl, rfl⟩
            go_wp2_with fail
            refine wp_region_bw w1.heap.size (by kernel_rfl) (by kernel_rfl) ?_
            repeat (go_big_quiet_step (first | (go_at_call 15; exact calls_bw_same (hst _))))
            refine wpQuiet_nil ?_
            intro _ hw'
            obtain ⟨W, rfl⟩ := hw'
            obtain ⟨y0, y1, y2⟩ := cells (hb.trans (W.is.mono hb.size))
            go_wp2
            go_ret
            exact ⟨rfl, base (hb.trans (W.is.mono hb.size))⟩
        case inr.inr.inr.inr.inr.inr.inr.inr.inr.inl =>
          have ns : s = n := hg.1
          have t0 : (n != s) = false := by simp [ns]
          have HK := Lib.hid (show numOk 9 n = true by rw [HN.out]; simp [ns])
          by_cases hcs : cs = []
          · obtain rfl : R = true := by rw [HO2.out, HK.out]; simp [kindB, hcs]
            have hl0 : ((cs.length : Int) == 0) = true := by simp [hcs]
            clear hcs HO2 HN HK hg hgood ns
            go_wp2_with fail
            refine hI0.mono ?_
            rintro e w2 ⟨rfl, rfl⟩
            go_wp2_with fail
            refine wp_region_bw w1.heap.size (by kernel_rfl) (by kernel_rfl) ?_
            repeat (go_big_quiet_step (first | (go_at_call 15; exact calls_bw_same (hst _))))
            refine wpQuiet_nil ?_
            intro _ hw'
            obtain ⟨W, rfl⟩ := hw'
            obtain ⟨y0, y1, y2⟩ := cells (hb.trans (W.is.mono hb.size))
            go_wp2
            go_ret
            exact ⟨rfl, base (hb.trans (W.is.mono hb.size))⟩
          · have hpos := List.length_pos_iff.2 hcs
            obtain rfl : R = false := by rw [HO2.out, HK.out]; simp [kindB, hcs]
            have hl0 : ((cs.length : Int) == 0) = false := by simp; omega
            clear hcs HO2 HN HK hg hgood ns
            go_wp2_with fail
            refine hI0.mono ?_
            rintro e w2 ⟨rfl, rfl⟩
            go_wp2_with fail
            refine wp_region_bw w1.heap.size (by kernel_rfl) (by kernel_rfl) ?_
            repeat (go_big_quiet_step (first | (go_at_call 15; exact calls_bw_same (hst _))))
            refine wpQuiet_nil ?_
            intro _ hw'
            obtain ⟨W, rfl⟩ := hw'
            obtain ⟨y0, y1, y2⟩ := cells (hb.trans (W.is.mono hb.size))
            go_wp2
            go_ret
            exact ⟨rfl, base (hb.trans (W.is.mono hb.size))⟩
        case inr.inr.inr.inr.inr.inr.inr.inr.inr.inr.inl =>
          have ns : s = n := hg.1
          have t0 : (n != s) = false := by simp [ns]
          have HK := Lib.hid (show numOk 10 n = true by rw [HN.out]; simp [ns])
          by_cases hcs : cs = []
          · obtain rfl : R = false := by rw [HO2.out, HK.out]; simp [kindB, hcs]
            have hl0 : decide ((0 : Int) < (cs.length : Int)) = false := by simp [hcs]
            have hl1 : decide (0 < cs.length) = false := by simp [hcs]
            clear hcs HO2 HN HK hg hgood ns
            go_wp2_with fail
            refine hI0.mono ?_
            rintro e w2 ⟨rfl, rfl⟩
            go_wp2_with fail
            refine wp_region_bw w1.heap.size (by kernel_rfl) (by kernel_rfl) ?_
            repeat (go_big_quiet_step (first | (go_at_call 15; exact calls_bw_same (hst _))))
            refine wpQuiet_nil ?_
            intro _ hw'
            obtain ⟨W, rfl⟩ := hw'
            obtain ⟨y0, y1, y2⟩ := cells (hb.trans (W.is.mono hb.size))
            go_wp2
            go_ret
            exact ⟨rfl, base (hb.trans (W.is.mono hb.size))⟩
          · have hpos := List.length_pos_iff.2 hcs
            obtain rfl : R = true := by rw [HO2.out, HK.out]; simp [kindB, hcs]
            have hl0 : decide ((0 : Int) < (cs.length : Int)) = true := by simp; omega
            have hl1 : decide (0 < cs.length) = true := by simp; omega
            clear hcs HO2 HN HK hg hgood ns
            go_wp2_with fail
            refine hI0.mono ?_
            rintro e w2 ⟨rfl, rfl⟩
            go_wp2_with fail
            refine wp_region_bw w1.heap.size (by kernel_rfl) (by kernel_rfl) ?_
            repeat (go_big_quiet_step (first | (go_at_call 15; exact calls_bw_same (hst _))))
            refine wpQuiet_nil ?_
            intro _ hw'
            obtain ⟨W, rfl⟩ := hw'
            obtain ⟨y0, y1, y2⟩ := cells (hb.trans (W.is.mono hb.size))
            go_wp2
            go_ret
            exact ⟨rfl, base (hb.trans (W.is.mono hb.size))⟩
        case inr.inr.inr.inr.inr.inr.inr.inr.inr.inr.inr.inl =>
          have n0 : n = 0 := by omega
          have t0 : (n != 0) = false := by simp [n0]
          have HK := Lib.hid (show numOk 11 n = true by rw [HN.out]; simp [n0, HS.out n0])
          by_cases h1 : cs.length = 1
          · obtain ⟨c, hcs⟩ : ∃ c, cs = [c] := by
              cases cs with
              | nil => simp at h1
              | cons c r => cases r with
                | nil => exact ⟨c, rfl⟩
                | cons d r => simp at h1
            obtain ⟨b, off, u, hA, hbw, hu, hcell⟩ := hrd.at_ (k := 0) (by omega)
            subst hA
            have hun : u = .int .i64 c := by rw [hcs] at hu; simpa [n64] using hu.symm
            subst hun
            rw [Nat.add_zero] at hcell
            have hl1 : ((cs.length : Int) == 1) = true := by simp [h1]
            have hle : 1 ≤ cs.length ∧ cs.length ≤ 1 := by omega
            have hcB := Hv.out c (by rw [hcs]; simp)
            have hcr := isB_range' hcB
            obtain ⟨W2, hW2⟩ : ∃ W2, w1.alloc (.cells #[.int .i64 9, .int .i64 10, .int .i64 12, .int .i64 13, .int .i64 32, .int .i64 34, .int .i64 39, .int .i64 40, .int .i64 41, .int .i64 91, .int .i64 93, .int .i64 123, .int .i64 125, .int .i64 58, .int .i64 59, .int .i64 44] 3) = W2 := ⟨_, rfl⟩
            have b2 : Below w1.heap.size w1 W2 := by rw [← hW2]; exact (Below.refl _ _).alloc (Nat.le_refl _) _
            have hrow : RowAt W2 w1.heap.size ((badS : List Int).map n64) := by rw [← hW2]; exact RowAt.new _ _ _
            have hin := rp_in badS (some ⟨w1.heap.size, 0, none⟩) 16 16 c W2 (hrow.reads hrow.1) (by omega)
            have hce2 := (b2.cell (p := ⟨b, off, none⟩) hbw).trans hcell
            have hR2 : R = (!beginsB c && !(decide (48 ≤ c) && decide (c ≤ 57)) && !decide (c ∈ badS)) := by rw [HO2.out, HK.out, hcs, ← delim_bad]; rfl
            have HR2 := Lib.hid hR2
            have cB := fun W => ref_begins c W (by omega) (by omega)
            generalize decide (c ∈ badS) = mm at *
            clear hR2 h1 hcs HO2 HN HK hg hgood n0 hu
            generalize beginsB c = b1 at *
            cases b1 with
            | true =>
              obtain rfl : R = false := by rw [HR2.out]; rfl
              go_wp2_with fail
              refine hI0.mono ?_
              rintro e w2 ⟨rfl, rfl⟩
              go_wp2_with (first | (go_at_call 16; refine (cB _).mono ?_; rintro e w2 ⟨rfl, rfl⟩))
              go_ret
              exact ⟨rfl, base hb⟩
            | false =>
              by_cases hd : 48 ≤ c ∧ c ≤ 57
              · have d1 : decide (48 ≤ c) = true := by simp; omega
                have d2 : decide (c ≤ 57) = true := by simp; omega
                obtain rfl : R = false := by rw [HR2.out, d1, d2]; rfl
                clear hd HR2
                go_wp2_with fail
                refine hI0.mono ?_
                rintro e w2 ⟨rfl, rfl⟩
                go_wp2_with (first | (go_at_call 16; refine (cB _).mono ?_; rintro e w2 ⟨rfl, rfl⟩))
                go_ret
                exact ⟨rfl, base hb⟩
              · have hR3 : R = !mm := by
                  rw [HR2.out]
                  have : (decide (48 ≤ c) && decide (c ≤ 57)) = false := by simp; omega
                  rw [this]; simp
                have HR3 := Lib.hid hR3
                clear HR2 hR3
                by_cases h48 : 48 ≤ c
                · have d1 : decide (48 ≤ c) = true := by simp; omega
                  have d2 : decide (c ≤ 57) = false := by simp; omega
                  clear hd
                  go_wp2_with fail
                  refine hI0.mono ?_
                  rintro e w2 ⟨rfl, rfl⟩
                  go_wp2_with (first | (go_at_call 16; refine (cB _).mono ?_; rintro e w2 ⟨rfl, rfl⟩) | (go_at_call 14; refine hin.mono ?_; rintro e w2 ⟨rfl, rfl⟩))
                  go_ret
                  exact ⟨ret_bool HR3.out.symm, base (hb.trans (b2.mono hb.size))⟩
                · have d1 : decide (48 ≤ c) = false := by simp; omega
                  clear hd
                  go_wp2_with fail
                  refine hI0.mono ?_
                  rintro e w2 ⟨rfl, rfl⟩
                  go_wp2_with (first | (go_at_call 16; refine (cB _).mono ?_; rintro e w2 ⟨rfl, rfl⟩) | (go_at_call 14; refine hin.mono ?_; rintro e w2 ⟨rfl, rfl⟩))
                  go_ret
                  exact ⟨ret_bool HR3.out.symm, base (hb.trans (b2.mono hb.size))⟩
          · have hl1 : ((cs.length : Int) == 1) = false := by simp; omega
            obtain rfl : R = false := by
              rw [HO2.out, HK.out]
              have : kindB 11 cs = false := by
                unfold kindB
                cases cs with
                | nil => rfl
                | cons c r => cases r with
                  | nil => simp at h1
                  | cons d r => simp
              rw [this]; rfl
            clear h1 HO2 HN HK hg hgood n0
            go_wp2_with fail
            refine hI0.mono ?_
            rintro e w2 ⟨rfl, rfl⟩
            go_wp2
            go_ret
            exact ⟨rfl, base hb⟩
        case inr.inr.inr.inr.inr.inr.inr.inr.inr.inr.inr.inr.inl =>
          have n0 : n = 0 := by omega
          have t0 : (n != 0) = false := by simp [n0]
          have HK := Lib.hid (show numOk 12 n = true by rw [HN.out]; simp [n0, HS.out n0])
          by_cases h1 : cs.length = 1
          · obtain ⟨c, hcs⟩ : ∃ c, cs = [c] := by
              cases cs with
              | nil => simp at h1
              | cons c r => cases r with
                | nil => exact ⟨c, rfl⟩
                | cons d r => simp at h1
            obtain ⟨b, off, u, hA, hbw, hu, hcell⟩ := hrd.at_ (k := 0) (by omega)
            subst hA
            have hun : u = .int .i64 c := by rw [hcs] at hu; simpa [n64] using hu.symm
            subst hun
            rw [Nat.add_zero] at hcell
            have hl1 : ((cs.length : Int) == 1) = true := by simp [h1]
            have hle : 1 ≤ cs.length ∧ cs.length ≤ 1 := by omega
            have hcB := Hv.out c (by rw [hcs]; simp)
            have hcr := isB_range' hcB
            obtain ⟨W2, hW2⟩ : ∃ W2, w1.alloc (.cells #[.int .i64 40, .int .i64 91, .int .i64 123] 3) = W2 := ⟨_, rfl⟩
            have b2 : Below w1.heap.size w1 W2 := by rw [← hW2]; exact (Below.refl _ _).alloc (Nat.le_refl _) _
            have hrow : RowAt W2 w1.heap.size (([40, 91, 123] : List Int).map n64) := by rw [← hW2]; exact RowAt.new _ _ _
            have hin := rp_in [40, 91, 123] (some ⟨w1.heap.size, 0, none⟩) 3 3 c W2 (hrow.reads hrow.1) (by omega)
            have hce2 := (b2.cell (p := ⟨b, off, none⟩) hbw).trans hcell
            have hR2 : R = (decide (c = 40) || (decide (c = 91) || decide (c = 123))) := by
              rw [HO2.out, HK.out, hcs]
              unfold kindB
              rw [Bool.eq_iff_iff]; simp
            have HR2 := Lib.hid hR2
            clear hR2 h1 hcs HO2 HN HK hg hgood n0 hu hcell
            go_wp2_with fail
            refine hI0.mono ?_
            rintro e w2 ⟨rfl, rfl⟩
            go_wp2_with (first | (go_at_call 14; refine hin.mono ?_; rintro e w2 ⟨rfl, rfl⟩))
            go_ret
            exact ⟨ret_bool HR2.out.symm, base (hb.trans (b2.mono hb.size))⟩
          · have hl1 : ((cs.length : Int) == 1) = false := by simp; omega
            obtain rfl : R = false := by
              rw [HO2.out, HK.out]
              have : kindB 12 cs = false := by
                unfold kindB
                cases cs with
                | nil => rfl
                | cons c r => cases r with
                  | nil => simp at h1
                  | cons d r => simp
              rw [this]; rfl
            clear h1 HO2 HN HK hg hgood n0
            go_wp2_with fail
            refine hI0.mono ?_
            rintro e w2 ⟨rfl, rfl⟩
            go_wp2
            go_ret
            exact ⟨rfl, base hb⟩
        case inr.inr.inr.inr.inr.inr.inr.inr.inr.inr.inr.inr.inr.inl =>
          have n0 : n = 0 := by omega
          have t0 : (n != 0) = false := by simp [n0]
          have HK := Lib.hid (show numOk 13 n = true by rw [HN.out]; simp [n0, HS.out n0])
          by_cases h1 : cs.length = 1
          · obtain ⟨c, hcs⟩ : ∃ c, cs = [c] := by
              cases cs with
              | nil => simp at h1
              | cons c r => cases r with
                | nil => exact ⟨c, rfl⟩
                | cons d r => simp at h1
            obtain ⟨b, off, u, hA, hbw, hu, hcell⟩ := hrd.at_ (k := 0) (by omega)
            subst hA
            have hun : u = .int .i64 c := by rw [hcs] at hu; simpa [n64] using hu.symm
            subst hun
            rw [Nat.add_zero] at hcell
            have hl1 : ((cs.length : Int) == 1) = true := by simp [h1]
            have hle : 1 ≤ cs.length ∧ cs.length ≤ 1 := by omega
            have hcB := Hv.out c (by rw [hcs]; simp)
            have hcr := isB_range' hcB
            obtain ⟨W2, hW2⟩ : ∃ W2, w1.alloc (.cells #[.int .i64 41, .int .i64 93, .int .i64 125] 3) = W2 := ⟨_, rfl⟩
            have b2 : Below w1.heap.size w1 W2 := by rw [← hW2]; exact (Below.refl _ _).alloc (Nat.le_refl _) _
            have hrow : RowAt W2 w1.heap.size (([41, 93, 125] : List Int).map n64) := by rw [← hW2]; exact RowAt.new _ _ _
            have hin := rp_in [41, 93, 125] (some ⟨w1.heap.size, 0, none⟩) 3 3 c W2 (hrow.reads hrow.1) (by omega)
            have hce2 := (b2.cell (p := ⟨b, off, none⟩) hbw).trans hcell
            have hR2 : R = (decide (c = 41) || (decide (c = 93) || decide (c = 125))) := by
              rw [HO2.out, HK.out, hcs]
              unfold kindB
              rw [Bool.eq_iff_iff]; simp
            have HR2 := Lib.hid hR2
            clear hR2 h1 hcs HO2 HN HK hg hgood n0 hu hcell
            go_wp2_with fail
            refine hI0.mono ?_
            rintro e w2 ⟨rfl, rfl⟩
            go_wp2_with (first | (go_at_call 14; refine hin.mono ?_; rintro e w2 ⟨rfl, rfl⟩))
            go_ret
            exact ⟨ret_bool HR2.out.symm, base (hb.trans (b2.mono hb.size))⟩
          · have hl1 : ((cs.length : Int) == 1) = false := by simp; omega
            obtain rfl : R = false := by
              rw [HO2.out, HK.out]
              have : kindB 13 cs = false := by
                unfold kindB
                cases cs with
                | nil => rfl
                | cons c r => cases r with
                  | nil => simp at h1
                  | cons d r => simp
              rw [this]; rfl
            clear h1 HO2 HN HK hg hgood n0
            go_wp2_with fail
            refine hI0.mono ?_
            rintro e w2 ⟨rfl, rfl⟩
            go_wp2
            go_ret
            exact ⟨rfl, base hb⟩
        case inr.inr.inr.inr.inr.inr.inr.inr.inr.inr.inr.inr.inr.inr.inl =>
          have n0 : n = 0 := by omega
          have t0 : (n != 0) = false := by simp [n0]
          have HK := Lib.hid (show numOk 14 n = true by rw [HN.out]; simp [n0, HS.out n0])
          by_cases hcs : cs = []
          · obtain rfl : R = true := by rw [HO2.out, HK.out]; simp [kindB, hcs]
            have hl0 : ((cs.length : Int) == 0) = true := by simp [hcs]
            clear hcs HO2 HN HK hg hgood n0
            go_wp2_with fail
            refine hI0.mono ?_
            rintro e w2 ⟨rfl, rfl⟩
            go_wp2
            go_ret
            exact ⟨rfl, base hb⟩
          · have hpos := List.length_pos_iff.2 hcs
            obtain rfl : R = false := by rw [HO2.out, HK.out]; simp [kindB, hcs]
            have hl0 : ((cs.length : Int) == 0) = false := by simp; omega
            clear hcs HO2 HN HK hg hgood n0
            go_wp2_with fail
            refine hI0.mono ?_
            rintro e w2 ⟨rfl, rfl⟩
            go_wp2
            go_ret
            exact ⟨rfl, base hb⟩
        case inr.inr.inr.inr.inr.inr.inr.inr.inr.inr.inr.inr.inr.inr.inr.inl =>
          have n0 : n = 0 := by omega
          have t0 : (n != 0) = false := by simp [n0]
          have HK := Lib.hid (show numOk 15 n = true by rw [HN.out]; simp [n0, HS.out n0])
          by_cases hcs : cs = []
          · obtain rfl : R = true := by rw [HO2.out, HK.out]; simp [kindB, hcs]
            have hl0 : ((cs.length : Int) == 0) = true := by simp [hcs]
            clear hcs HO2 HN HK hg hgood n0
            go_wp2_with fail
            refine hI0.mono ?_
            rintro e w2 ⟨rfl, rfl⟩
            go_wp2
            go_ret
            exact ⟨rfl, base hb⟩
          · have hpos := List.length_pos_iff.2 hcs
            obtain rfl : R = false := by rw [HO2.out, HK.out]; simp [kindB, hcs]
            have hl0 : ((cs.length : Int) == 0) = false := by simp; omega
            clear hcs HO2 HN HK hg hgood n0
            go_wp2_with fail
            refine hI0.mono ?_
            rintro e w2 ⟨rfl, rfl⟩
            go_wp2
            go_ret
            exact ⟨rfl, base hb⟩
        case inr.inr.inr.inr.inr.inr.inr.inr.inr.inr.inr.inr.inr.inr.inr.inr.inl =>
          have n0 : n = 0 := by omega
          have t0 : (n != 0) = false := by simp [n0]
          have HK := Lib.hid (show numOk 16 n = true by rw [HN.out]; simp [n0, HS.out n0])
          by_cases hcs : cs = []
          · obtain rfl : R = true := by rw [HO2.out, HK.out]; simp [kindB, hcs]
            have hl0 : ((cs.length : Int) == 0) = true := by simp [hcs]
            clear hcs HO2 HN HK hg hgood n0
            go_wp2_with fail
            refine hI0.mono ?_
            rintro e w2 ⟨rfl, rfl⟩
            go_wp2
            go_ret
            exact ⟨rfl, base hb⟩
          · have hpos := List.length_pos_iff.2 hcs
            obtain rfl : R = false := by rw [HO2.out, HK.out]; simp [kindB, hcs]
            have hl0 : ((cs.length : Int) == 0) = false := by simp; omega
            clear hcs HO2 HN HK hg hgood n0
            go_wp2_with fail
            refine hI0.mono ?_
            rintro e w2 ⟨rfl, rfl⟩
            go_wp2
            go_ret
            exact ⟨rfl, base hb⟩
        case inr.inr.inr.inr.inr.inr.inr.inr.inr.inr.inr.inr.inr.inr.inr.inr.inr =>
          have n0 : n = 0 := by omega
          have t0 : (n != 0) = false := by simp [n0]
          obtain rfl : R = false := by
            rw [HO2.out]
            have : kindB kind cs = false := by
              unfold kindB
              rw [if_neg (by omega), if_neg (by omega), if_neg (by omega), if_neg (by omega), if_neg (by omega)]
              simp; omega
            rw [this]; simp
          have q1 : decide (kind < 8) = false := by simp; omega
          have q1b : decide (10 < kind) = true := by simp; omega
          have q2 : decide (2 ≤ kind) = true := by simp; omega
          have q2b : decide (kind ≤ 5) = false := by simp; omega
          have q3 : decide (1 ≤ kind) = true := by simp; omega
          have q3b : decide (kind ≤ 16) = false := by simp; omega
          have r6 : (kind == 6) = false := by simp; omega
          have r7 : (kind == 7) = false := by simp; omega
          have r10 : (kind == 10) = false := by simp; omega
          have r11 : (kind == 11) = false := by simp; omega
          have r12 : (kind == 12) = false := by simp; omega
          have r13 : (kind == 13) = false := by simp; omega
          clear HO2 HN hK hg hgood n0
          go_wp2_with fail
          refine hI0.mono ?_
          rintro e w2 ⟨rfl, rfl⟩
          go_wp2
          go_ret
          exact ⟨rfl, base hb⟩
      · have hbad : numOk kind n = false := by simpa using hgood
        obtain rfl : R = false := by rw [HO2.out, hbad]; rfl
        rw [HN.out] at hbad
        simp only [decide_eq_false_iff_not, not_and, not_or] at hbad
        have hz1 := bw_cell (B := w1.heap.size) y2 hlt
        by_cases k8 : kind < 8
        · have q1 : decide (kind < 8) = true := by simp; omega
          have t0 : (n != 0) = true := by
            simp; intro h; have := HS.out h; exact absurd h (hbad (by omega)).2
          clear HO2 HN hgood hbad k8
          go_wp2_with fail
          refine hI0.mono ?_
          rintro e w2 ⟨rfl, rfl⟩
          go_wp2
          go_ret
          exact ⟨rfl, base hb⟩
        · have q1 : decide (kind < 8) = false := by simp; omega
          by_cases k10 : 10 < kind
          · have q2 : decide (10 < kind) = true := by simp; omega
            have t0 : (n != 0) = true := by
              simp; intro h; have := HS.out h; exact absurd h (hbad (by omega)).2
            clear HO2 HN hgood hbad k8 k10
            go_wp2_with fail
            refine hI0.mono ?_
            rintro e w2 ⟨rfl, rfl⟩
            go_wp2
            go_ret
            exact ⟨rfl, base hb⟩
          · have q2 : decide (10 < kind) = false := by simp; omega
            have t0 : (n != s) = true := by
              simp; intro h; exact absurd (show 8 ≤ kind ∧ kind ≤ 10 by omega) (fun hh => (hbad h.symm).1 hh.1 hh.2)
            clear HO2 HN hgood hbad k8 k10
            go_wp2_with fail
            refine hI0.mono ?_
            rintro e w2 ⟨rfl, rfl⟩
            go_wp2_with fail
            refine wp_region_bw w1.heap.size (by kernel_rfl) (by kernel_rfl) ?_
            repeat (go_big_quiet_step (first | (go_at_call 15; exact calls_bw_same (hst _))))
            refine wpQuiet_nil ?_
            intro _ hw'
            obtain ⟨W, rfl⟩ := hw'
            obtain ⟨y0, y1, y2⟩ := cells (hb.trans (W.is.mono hb.size))
            go_wp2
            go_ret
            exact ⟨rfl, base (hb.trans (W.is.mono hb.size))⟩
end Go.Proofs.YtifedkilbpkpaaaGreatDoor
