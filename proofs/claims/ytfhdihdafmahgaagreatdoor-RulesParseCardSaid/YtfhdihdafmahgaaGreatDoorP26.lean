/- Layer 4, the document: a text's characters are walked. -/
import Derived.Test.YtfhdihdafmahgaaGreatDoorP23
import Derived.Test.YtfhdihdafmahgaaGreatDoorP08
import Derived.Lib.OthersKept
import Derived.Test.YtfhdihdafmahgaaGreatDoorP11
import Derived.Test.YtfhdihdafmahgaaGreatDoorP22
import Derived.Test.YtfhdihdafmahgaaGreatDoorP12
import Derived.Test.YtfhdihdafmahgaaGreatDoorP01
import Derived.Deep.DeepCutAuto
/- Layer 4: a text that is UTF-8, gone through character by character. Plain facts. -/
set_option linter.unusedVariables false
set_option linter.unusedSimpArgs false
namespace Go.Proofs.YtfhdihdafmahgaaGreatDoor
open Go.RowKit Rn Tp
/-- where the k-th character begins -/
def posU (cs : List Int) (k : Nat) : Nat := (writeP (cs.take k)).length
theorem posU_succ {cs : List Int} {k : Nat} {c : Int} (h : cs[k]? = some c) : posU cs (k + 1) = posU cs k + (Lib.encodeRune c).length := by
  unfold posU
  rw [take_snoc cs k c h, write_app, List.length_append, write_one]
theorem posU_ge (cs : List Int) : ∀ k, k ≤ cs.length → k ≤ posU cs k
  | 0, _ => Nat.zero_le _
  | k + 1, h => by
    have := posU_ge cs k (by omega)
    rw [posU_succ (List.getElem?_eq_getElem (by omega))]
    have := (encode_len cs[k]).1
    omega
theorem posU_end (cs : List Int) : posU cs cs.length = (writeP cs).length := by unfold posU; rw [List.take_length]
end Go.Proofs.YtfhdihdafmahgaaGreatDoor
set_option linter.unusedVariables false
set_option linter.unusedSimpArgs false
namespace Go.Proofs.YtfhdihdafmahgaaGreatDoor
open Go.RowKit Rn Tp Tk
theorem doc_lead (b : UInt8) (r : List UInt8) (z : Int) (hz : (b.toNat : Int) = z) : (240 ≤ z ∧ docN (b :: r) = 4 ∧ docV (b :: r) 0 = z - 240) ∨ (z < 240 ∧ 224 ≤ z ∧ docN (b :: r) = 3 ∧ docV (b :: r) 0 = z - 224) ∨ (z < 240 ∧ z < 224 ∧ 128 ≤ z ∧ docN (b :: r) = 2 ∧ docV (b :: r) 0 = z - 192) ∨ (z < 240 ∧ z < 224 ∧ z < 128 ∧ docN (b :: r) = 1 ∧ docV (b :: r) 0 = z) := by
  have e : docB (b :: r) 0 = z := hz
  unfold docN docV
  simp only [e]
  by_cases h1 : 240 ≤ z
  · simp only [h1, if_true]
    exact .inl ⟨trivial, (by first | trivial | rfl), (by first | trivial | rfl)⟩
  · simp only [h1, if_false]
    right
    by_cases h2 : 224 ≤ z
    · simp only [h2, if_true]
      exact .inl ⟨by omega, trivial, (by first | trivial | rfl), (by first | trivial | rfl)⟩
    · simp only [h2, if_false]
      right
      by_cases h3 : 128 ≤ z
      · simp only [h3, if_true]
        exact .inl ⟨by omega, by omega, trivial, (by first | trivial | rfl), (by first | trivial | rfl)⟩
      · simp only [h3, if_false]
        exact .inr ⟨by omega, by omega, by omega, (by first | trivial | rfl), (by first | trivial | rfl)⟩
set_option maxRecDepth 100000 in
set_option maxHeartbeats 8000000 in
theorem rp_chars (l : List UInt8) (w : World) (hl : l.length ≤ 1000000) :
    Calls Tryz.prog 139 #[.string (bytesOf l)] w fun e w' => (match utfP l with
      | none => ∃ v, e = .returned (.tuple #[v, .bool false])
      | some cs => ∃ v, e = .returned (.tuple #[v, .bool true]) ∧ w'.ownsRow w.heap.size 3 1 v cs.length (cs.map n64)) ∧ Below w.heap.size w w' := by
  obtain ⟨U, hU⟩ : ∃ U, utfP l = U := ⟨_, rfl⟩
  rw [hU]
  have HU := Lib.hid hU
  clear hU
  obtain ⟨c0, W1, hcv, hcc, hcm, hbc, hrc⟩ := conv_text (P := Tryz.prog) (src := 9) (dst := 22) Tryz.underlying9 Tryz.underlying22 Tryz.underlying5 w (bytesOf l) l rfl (by unfold maxLen; omega)
  obtain ⟨i0, hi, hz0, hz1, hz2⟩ := info_parts int_info
  have hb1 := hbc.size
  have Hcc := Lib.hid hcc
  unfold maxLen at hcm
  go_enter Tryz.func139, Tryz.ntmps139
  go_wp2_with fail
  go_loopw [4, 5] (fun o b wr => ∃ (rest : List UInt8) (A : Option Addr) (m c : Nat) (done : List Int), b = .slice A m c ∧ Reads wr W1.heap.size 1 A m (rest.map b8) ∧ m ≤ c ∧ c ≤ 9223372036854775807 ∧ wr.ownsRow W1.heap.size 3 1 o done.length (done.map n64) ∧ Below W1.heap.size W1 wr ∧ Hid (utfP l = (utfP rest).map (done ++ ·)) ∧ done.length + m ≤ l.length) (fun _ b _ => match b with | .slice _ m _ => m | _ => 0)
  case atStart => exact ⟨l, _, l.length, c0, [], rfl, hrc, hcc, by omega, World.ownsRow_nil _ _ _ _, Below.refl _ _, (by show _ = _; cases utfP l <;> simp), by simp⟩
  case round =>
    obtain ⟨rest, A, m, c, done, rfl, hr, hmc, hc, hown, hb, hrun, hdm⟩ := hrel
    have hrl : rest.length = m := by simpa using hr.len
    have hbs := hb.size
    obtain ⟨Ao, co, rfl, hco, hcom⟩ := own_form hown
    by_cases h0 : 0 < m
    · obtain ⟨b0, r, hrest⟩ := List.exists_cons_of_length_pos (l := rest) (by omega)
      have hne : rest ≠ [] := by rw [hrest]; simp
      have hstep := doc_step hne
      obtain ⟨bk, off, u, hA, hbk, hu, hcell⟩ := hr.at_ h0
      subst hA
      have hu0 : u = .int .u8 (b0.toNat : Int) := by
        rw [hrest] at hu
        simpa [b8] using hu.symm
      subst hu0
      rw [Nat.add_zero] at hcell
      obtain ⟨z, hz⟩ : ∃ z : Int, (b0.toNat : Int) = z := ⟨_, rfl⟩
      have hz256 : 0 ≤ z ∧ z ≤ 255 := by have := UInt8.toNat_lt b0; omega
      have hlead := doc_lead b0 r z hz
      rw [hz] at hcell
      rw [← hrest] at hlead
      have hvr := docV_range rest
      obtain ⟨nd, hnd⟩ : ∃ nd, docN rest = nd := ⟨_, rfl⟩
      have hnr := docN_range rest
      have hdc : docC rest = docV rest (nd - 1) := by unfold docC; rw [hnd]
      have hVs : ∀ k, docV rest (k + 1) = docV rest k * 64 + docB rest (k + 1) - 128 := fun k => rfl
      have hOk : docOk rest = (decide (nd ≤ m ∧ 0 ≤ docC rest) && isB (docC rest) && decide (Lib.encodeRune (docC rest) = rest.take nd)) := by unfold docOk; rw [hnd, hrl]
      rw [hnd] at hnr hlead hstep
      generalize docC rest = DC at *
      generalize docV rest = V at *
      generalize docOk rest = ok at *
      have HOk := Lib.hid hOk
      have HVs := Lib.hid hVs
      have Hvr := Lib.hid hvr
      have Hdc := Lib.hid hdc
      have HS := Lib.hid hstep
      clear hOk hVs hvr hdc hstep
      have HL := Lib.hid hlead
      have Hnd := Lib.hid hnd
      have Hrl := Lib.hid hrl
      have dm : decide ((0 : Int) < (m : Int)) = true := by simp; omega
      clear hlead hnd hu hrest hrl hne hz
      go_upto_if 21 with (fail)
      go_cut [6, 7] (fun x y wx => x = .int .i64 (nd : Int) ∧ y = .int .i64 (V 0) ∧ wx = wr)
      case first =>
        go_wp2_with fail
        all_goals
          go_meet
          refine ⟨congrArg (Value.int IntKind.i64) ?_, congrArg (Value.int IntKind.i64) ?_, rfl⟩
          all_goals (have hL := HL.out; simp only [decide_eq_true_eq, decide_eq_false_iff_not] at *; omega)
      case rest =>
        obtain ⟨rfl, rfl, hwc⟩ := hcut
        have hwc2 := hwc.symm
        subst hwc2
        clear HL
        by_cases hnm : nd ≤ m
        · have dn : decide ((m : Int) < (nd : Int)) = false := by simp; omega
          go_wp2_with fail
          go_loopw [7, 8] (fun x k wy => ∃ j : Nat, 1 ≤ j ∧ j ≤ nd ∧ k = .int .i64 (j : Int) ∧ x = .int .i64 (V (j - 1)) ∧ wr = wy) (fun _ k _ => nd - (intOf k).toNat)
          case atStart => exact ⟨1, by omega, by omega, rfl, rfl, rfl⟩
          case round =>
            obtain ⟨j, hj1, hjn, rfl, rfl, rfl⟩ := hrel
            by_cases hjl : j < nd
            · obtain ⟨bk', off', u, hA, _, hu, hcj⟩ := hr.at_ (show j < m by omega)
              injection hA with hA
              injection hA with e1 e2
              subst e1 e2
              obtain ⟨bj, hbj⟩ : ∃ bj, rest[j]? = some bj := ⟨_, List.getElem?_eq_getElem (by rw [Hrl.out]; omega)⟩
              have hu1 : u = .int .u8 (docB rest j) := by
                rw [List.getElem?_map, hbj] at hu
                unfold docB
                rw [hbj]
                simpa [b8] using hu.symm
              subst hu1
              have hbr : 0 ≤ docB rest j ∧ docB rest j ≤ 255 := by unfold docB; have := UInt8.toNat_lt (rest[j]?.getD 0); omega
              have hv1 := Hvr.out (j - 1) (by omega)
              have hv2 := Hvr.out j (by omega)
              have hvs : V j = V (j - 1) * 64 + docB rest j - 128 := by
                have := HVs.out (j - 1)
                rw [show j - 1 + 1 = j by omega] at this
                exact this
              have HV := Lib.hid hvs
              generalize docB rest j = z1 at *
              obtain ⟨v1, hv1e⟩ : ∃ v1, V (j - 1) = v1 := ⟨_, rfl⟩
              rw [hv1e] at hv1 HV ⊢
              have dj : decide ((j : Int) < (nd : Int)) = true := by simp; omega
              have Hv2 := Lib.hid hv2
              clear hvs hu hbj hv1e hv2
              go_wp2_with fail
              refine ⟨⟨j + 1, by omega, by omega, by go_num, congrArg (Value.int IntKind.i64) (by rw [Nat.add_sub_cancel]; exact HV.out.symm), trivial⟩, by simp [intOf]; omega⟩
            · obtain rfl : j = nd := by omega
              have dj : decide ((j : Int) < (j : Int)) = false := by simp
              rw [← Hdc.out]
              have hDr : -100000000 ≤ DC ∧ DC ≤ 100000000 := by rw [Hdc.out]; exact Hvr.out _ (by omega)
              have cI := fun W => ref_is DC W (by omega) (by omega)
              have hok := HOk.out
              have HS2 := HS
              clear HS
              go_upto_region 21 with (fail)
              go_cut [70] (fun x wx => x = .bool (!ok) ∧ Below wr.heap.size wr wx)
              case first =>
                rename_i JJ KK hJJ hKK
                by_cases hneg : DC < 0
                · have tN : decide (DC < 0) = true := by simp [hneg]
                  have hfin : ok = false := by rw [hok]; simp; omega
                  have HN := Lib.hid hfin
                  clear hfin hok HOk hneg
                  refine wp_region_bw wr.heap.size (by kernel_rfl) (by kernel_rfl) ?_
                  repeat (go_big_quiet_step (fail))
                  refine wpQuiet_nil ?_
                  intro _ hw'
                  obtain ⟨W, rfl⟩ := hw'
                  go_wp2_with fail
                  go_meet
                  exact ⟨by rw [HN.out]; rfl, W.is⟩
                · have tN : decide (DC < 0) = false := by simp; omega
                  cases hI : isB DC with
                  | false =>
                    have hfin : ok = false := by rw [hok, hI]; simp
                    have HN := Lib.hid hfin
                    rw [hI] at cI
                    clear hfin hok HOk hneg hI
                    refine wp_region_bw wr.heap.size (by kernel_rfl) (by kernel_rfl) ?_
                    repeat (go_big_quiet_step (first | (go_at_call 161; exact calls_bw_same (cI _))))
                    refine wpQuiet_nil ?_
                    intro _ hw'
                    obtain ⟨W, rfl⟩ := hw'
                    go_wp2_with fail
                    go_meet
                    exact ⟨by rw [HN.out]; rfl, W.is⟩
                  | true =>
                    rw [hI] at cI
                    have hfin : ok = decide (Lib.encodeRune DC = rest.take j) := by rw [hok, hI]; simp; omega
                    have HN := Lib.hid hfin
                    have htk := hr.take (k := j) (by omega)
                    rw [← List.map_take] at htk
                    have hconvT : ∀ W : World, Below wr.heap.size wr W → (convert 22 9 (.slice (some ⟨bk, off, none⟩) j c)).run Tryz.prog W = .ok (.string (bytesOf (rest.take j))) W := fun W hW =>
                      run_str (P := Tryz.prog) Tryz.underlying22 Tryz.underlying5 Tryz.underlying9 c (htk.below (hW.mono hbs))
                    have hsl : ∀ W, (Instr.slice 22 (.slice (some ⟨bk, off, none⟩) m c) none (some (.int .i64 (j : Int))) none).run Tryz.prog W = .ok (.slice (some ⟨bk, off, none⟩) j c) W := fun W => by
                      rw [run_slice_h W 22 (some ⟨bk, off, none⟩) m c Tryz.underlying22 .i64 (j : Int) (by omega) (by omega)]
                      go_simp
                    refine Code.wp_mono ?_ (rp_cmp _ _ _ _ _ _ _ _ _ _ _ _ _ _ _ _ _ _ _ _ _ _ _ _ _ _ _ _ _ _ _ _ _ _ _ _ _ _ _ _ _ _ _ _ _ _ _ _ _ _ _ _ _ _ _ _ _ _ _ _ _ _ _ _ _ _ _ _ _ _ _ _ _ _ _ _ tN hI hDr rfl hnm hmc hconvT hsl)
                    intro e a W hQ
                    cases e <;> first | exact hQ.elim | skip
                    obtain ⟨⟨v54, v55, v56, v57, v58, v59, v60, v61, v62, v63, v64, v65, v66, v67, v68, v69, rfl⟩, hbW⟩ := hQ
                    rw [← HN.out]
                    refine hKK _ _ ?_
                    go_meet
                    exact ⟨rfl, hbW⟩
              case rest =>
                obtain ⟨rfl, hbx⟩ := hcut
                have hbw : Below W1.heap.size W1 wc := hb.trans (hbx.mono hbs)
                have hwc := hbx.size
                clear cI hok
                cases ok with
                | false =>
                  obtain rfl : U = none := by rw [← HU.out, hrun.out, HS2.out]; rfl
                  clear HU hrun HS2 HOk
                  go_wp2
                  go_ret2
                  exact ⟨⟨_, rfl⟩, hbc.trans (hbw.mono hb1)⟩
                | true =>
                  have hownc := own_below hown hbx
                  have hrc2 := hr.below (hbx.mono hbs)
                  have hsl2 := fun (kd : IntKind) W => run_cut (P := Tryz.prog) Tryz.underlying22 (by kernel_rfl) (s := 1) (fun W => by kernel_rfl) (some ⟨bk, off, none⟩) m c kd j hnm W
                  have hcut2 := hrc2.cutA (k := j) (c := c) hnm hmc
                  rw [← List.map_drop] at hcut2
                  have hnew : Hid (utfP l = (utfP (rest.drop j)).map ((done ++ [DC]) ++ ·)) := by
                    show _ = _
                    rw [hrun.out, HS2.out, if_pos rfl]
                    cases utfP (rest.drop j) <;> simp
                  generalize cutAt (some ⟨bk, off, none⟩) c j 1 = A2 at *
                  clear hrun HS2 HOk hcell
                  go_wp2_with (at_builtin; refine wpList_append_own _ rfl _ _ 51 rfl W1.heap.size 3 i0 (.int .i64 0) 1 8 Tryz.underlying51 hi hz0 hz1 hz2 rfl (by decide) _ _ _ rfl (hownc.alloc _) ⟨wc.heap.size, 0, none⟩ 1 1 [.int .i64 DC] rfl rfl ?c1 ?c2 ?c3 ?c4 ?c5 ?_)
                  case c1 => exact cell_one_new _ _ _
                  case c2 => intro u hu; simp at hu; subst hu; rfl
                  case c3 => unfold maxLen; omega
                  case c4 => omega
                  case c5 => simp; omega
                  intro v' w2 hown2 hg2 _
                  have hb2 : Below W1.heap.size W1 w2 := push_below hbw (by omega) hownc hg2
                  have hrd2 := push_reads hcut2 (by omega) hownc hg2
                  go_wp2_with fail
                  refine ⟨⟨rest.drop j, A2, m - j, c - j, done ++ [DC], rfl, hrd2, by omega, by omega, by simpa [n64] using hown2, hb2, hnew, by simp; omega⟩, ?_⟩
                  show m - j < m
                  omega
        · have dn : decide ((m : Int) < (nd : Int)) = true := by simp; omega
          have hno : ok = false := by rw [HOk.out]; simp; omega
          obtain rfl : U = none := by rw [← HU.out, hrun.out, HS.out, hno]; rfl
          clear HU hrun HS HOk hno
          go_wp2
          go_ret2
          exact ⟨⟨_, rfl⟩, hbc.trans (hb.mono hb1)⟩
    · obtain rfl : m = 0 := by omega
      have hr0 : rest = [] := List.eq_nil_of_length_eq_zero (by omega)
      have hfin : U = some done := by rw [← HU.out, hrun.out, hr0, utfP_nil]; simp
      subst hfin
      clear HU hrun hr0
      go_wp2
      go_ret2
      exact ⟨⟨_, rfl, own_less hown hb1⟩, hbc.trans (hb.mono hb1)⟩
end Go.Proofs.YtfhdihdafmahgaaGreatDoor
