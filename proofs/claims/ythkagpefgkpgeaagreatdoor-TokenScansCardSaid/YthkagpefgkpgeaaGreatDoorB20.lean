/- The law TokenScans is walked: the program's tokens and the document's are the model's. -/
import Derived.Test.YthkagpefgkpgeaaGreatDoorB14
import Derived.Test.YthkagpefgkpgeaaGreatDoorB03
import Derived.Test.YthkagpefgkpgeaaGreatDoorB19
import Derived.Test.YthkagpefgkpgeaaGreatDoorB13
/- Layer 3, the document: white space and comments are walked. -/
set_option linter.unusedVariables false
set_option linter.unusedSimpArgs false
namespace Go.Proofs.YthkagpefgkpgeaaGreatDoor
open Go.RowKit Rn Tk
set_option maxRecDepth 100000 in
set_option maxHeartbeats 2000000 in
theorem rt_spaces {w : World} {B n cap : Nat} {A : Option Addr} {l : List Int} (h : RL w B A n cap l) (m : Nat) (i0 : Int) (hi0 : i0 = m) (hm : m ≤ n) :
    Calls Tryz.prog 13 #[.slice A n cap, .int .i64 i0] w fun e w' => (∃ k' : Nat, m ≤ k' ∧ k' ≤ n ∧ l.drop k' = (spacesT (l.drop m)).2 ∧ e = .returned (.tuple #[.int .i64 (k' : Int), .bool (spacesT (l.drop m)).1])) ∧ Below w.heap.size w w' := by
  have hlen := h.len
  have hn := h.hn
  obtain ⟨T, hT⟩ : ∃ T, spacesT (l.drop m) = T := ⟨_, rfl⟩
  rw [hT]
  have HT := Lib.hid hT
  have Hi0 := Lib.hid hi0
  clear hT hi0
  go_enter Tryz.func13, Tryz.ntmps13
  go_wp2_with fail
  go_loopw [1, 6] (fun z x wr => ∃ (j : Nat) (b : Bool), m ≤ j ∧ j ≤ n ∧ Hid ((b || (spacesT (l.drop j)).1, (spacesT (l.drop j)).2) = T) ∧ Below w.heap.size w wr ∧ z = .int .i64 (j : Int) ∧ x = .bool b) (fun z _ _ => n - (intOf z).toNat)
  case atStart =>
    have := Hi0.out
    exact ⟨m, false, Nat.le_refl _, hm, (by show _ = _; rw [HT.out]; simp), Below.refl _ _, congrArg (Value.int IntKind.i64) (by omega), rfl⟩
  case round =>
    obtain ⟨j, b, hmj, hjn, hrun, hb, rfl, rfl⟩ := hrel
    have hR := h.mv hb
    obtain ⟨c, hc⟩ : ∃ c, pk (l.drop j) 0 = c := ⟨_, rfl⟩
    obtain ⟨d, hd⟩ : ∃ d, pk (l.drop j) 1 = d := ⟨_, rfl⟩
    have hp := rt_at hR j j rfl (by omega)
    rw [pk0, hc] at hp
    have hp1 := rt_at hR (j + 1) ((j : Int) + 1) (by omega) (by omega)
    rw [pk1, hd] at hp1
    have hwh := rt_white c wr
    cases hw : whiteB c with
    | true =>
      rw [hw] at hwh
      have hj1 : j < n := by
        have h0 : l.drop j ≠ [] := white_ne (by rw [hc]; exact hw)
        have := List.length_pos_iff.2 h0
        rw [List.length_drop] at this; omega
      have hnew : ((true || (spacesT (l.drop (j + 1))).1, (spacesT (l.drop (j + 1))).2) = T) := by
        rw [← hrun.out, spacesT_white (r := l.drop j) (by rw [hc]; exact hw), List.tail_drop]; simp
      have Hnew := Lib.hid hnew
      clear hnew hrun hc hd hw
      go_wp2_with (first
        | (go_at_call 26; with_reducible refine hp.mono ?_; rintro e w' ⟨rfl, rfl⟩)
        | (go_at_call 25; with_reducible refine hwh.mono ?_; rintro e w' ⟨rfl, rfl⟩))
      go_roundw
      case rel => exact ⟨j + 1, true, by omega, by omega, Hnew, hb, rfl, rfl⟩
      case measure => simp [intOf]; omega
    | false =>
      rw [hw] at hwh
      by_cases hcd : c = 47 ∧ d = 42
      · have hk1 : j + 1 < n := by
          have := pk_pos (l := l.drop j) (m := 1) (by rw [hd]; omega)
          rw [List.length_drop] at this; omega
        have hnew : ((b || (spacesT (skipC (l.drop (j + 2)))).1, (spacesT (skipC (l.drop (j + 2)))).2) = T) := by
          rw [← hrun.out, spacesT_comment (r := l.drop j) (by rw [hc]; exact hw) (by rw [hc, hd]; exact hcd), List.tail_drop, List.tail_drop]
        have Hnew := Lib.hid hnew
        have t47 := eq_t hcd.1
        have t42 := eq_t hcd.2
        clear hnew hrun hcd hc hd hw
        go_upto_block 2 with (first
          | (go_at_call 26; (first | with_reducible refine hp.mono ?_ | with_reducible refine hp1.mono ?_); rintro e w' ⟨rfl, rfl⟩)
          | (go_at_call 25; with_reducible refine hwh.mono ?_; rintro e w' ⟨rfl, rfl⟩))
        go_cut [1] (fun z wx => ∃ j2 : Nat, j + 2 ≤ j2 ∧ j2 ≤ n ∧ Hid (skipC (l.drop (j + 2)) = skipC (l.drop j2)) ∧ Hid (j2 = n ∨ (j2 < n ∧ pk (l.drop j2) 0 = 42 ∧ pk (l.drop j2) 1 = 47)) ∧ wr = wx ∧ z = .int .i64 (j2 : Int))
        case first =>
          go_wp2_with fail
          go_loopw [1] (fun z wi => ∃ j2 : Nat, j + 2 ≤ j2 ∧ j2 ≤ n ∧ Hid (skipC (l.drop (j + 2)) = skipC (l.drop j2)) ∧ wr = wi ∧ z = .int .i64 (j2 : Int)) (fun z _ => n - (intOf z).toNat)
          case atStart => exact ⟨j + 2, Nat.le_refl _, by omega, rfl, rfl, rfl⟩
          case round =>
            obtain ⟨j2, hj2, hj2n, hrj, rfl, rfl⟩ := hrel
            have x1 : (0 : Int) ≤ (j2 : Int) := by omega
            by_cases hjl : j2 < n
            · obtain ⟨bb, off, hA, hcell⟩ := hR.cell hjl
              rw [pk0] at hcell
              have x2 : (j2 : Int) < (n : Int) := by omega
              have x4 : decide ((j2 : Int) < (n : Int)) = true := by simp; omega
              have hq1 := rt_at hR (j2 + 1) ((j2 : Int) + 1) (by omega) (by omega)
              rw [pk1] at hq1
              obtain ⟨e0, he0⟩ : ∃ c, pk (l.drop j2) 0 = c := ⟨_, rfl⟩
              obtain ⟨e1, he1⟩ : ∃ c, pk (l.drop j2) 1 = c := ⟨_, rfl⟩
              rw [he0] at hcell
              rw [he1] at hq1
              subst hA
              by_cases h42 : e0 = 42
              · by_cases h47 : e1 = 47
                · have hst : Hid (j2 = n ∨ (j2 < n ∧ pk (l.drop j2) 0 = 42 ∧ pk (l.drop j2) 1 = 47)) := .inr ⟨hjl, by rw [he0]; exact h42, by rw [he1]; exact h47⟩
                  have u42 := eq_t h42
                  have u47 := eq_t h47
                  clear h42 h47 he0 he1
                  go_wp2_with (go_at_call 26; with_reducible refine hq1.mono ?_; rintro e w' ⟨rfl, rfl⟩)
                  go_meet
                  exact ⟨j2, hj2, hj2n, hrj, hst, rfl, rfl⟩
                · have hnx : Hid (skipC (l.drop (j + 2)) = skipC (l.drop (j2 + 1))) := by
                    show _ = _; rw [hrj.out, skipC_on (by omega) (by rw [he1]; exact fun h => h47 h.2)]
                  have u42 := eq_t h42
                  have u47 := eq_f h47
                  clear h42 h47 he0 he1
                  go_wp2_with (go_at_call 26; with_reducible refine hq1.mono ?_; rintro e w' ⟨rfl, rfl⟩)
                  go_roundw
                  case rel => exact ⟨j2 + 1, by omega, by omega, hnx, trivial, rfl⟩
                  case measure => simp [intOf]; omega
              · have hnx : Hid (skipC (l.drop (j + 2)) = skipC (l.drop (j2 + 1))) := by
                  show _ = _; rw [hrj.out, skipC_on (by omega) (by rw [he0]; exact fun h => h42 h.1)]
                have u42 := eq_f h42
                clear h42 he0 he1
                go_wp2_with fail
                go_roundw
                case rel => exact ⟨j2 + 1, by omega, by omega, hnx, trivial, rfl⟩
                case measure => simp [intOf]; omega
            · have x4 : decide ((j2 : Int) < (n : Int)) = false := by simp; omega
              have hst : Hid (j2 = n ∨ (j2 < n ∧ pk (l.drop j2) 0 = 42 ∧ pk (l.drop j2) 1 = 47)) := .inl (by omega)
              go_wp2_with fail
              go_meet
              exact ⟨j2, hj2, hj2n, hrj, hst, rfl, rfl⟩
        case rest =>
          obtain ⟨j2, hj2, hj2n, hrj, hstop, rfl, rfl⟩ := hcut
          obtain ⟨j', hj'⟩ : ∃ j', min (j2 + 2) n = j' := ⟨_, rfl⟩
          have hmin : min ((j2 : Int) + 2) (n : Int) = (j' : Int) := by omega
          have hj'n : j' ≤ n := by omega
          have hdrop : skipC (l.drop (j + 2)) = l.drop j' := by
            rw [hrj.out]
            rcases hstop.out with h | ⟨h1, h2⟩
            · have e1 : j' = n := by omega
              have e2 : l.drop j2 = [] := List.drop_eq_nil_of_le (by omega)
              have e3 : l.drop j' = [] := List.drop_eq_nil_of_le (by omega)
              rw [e2, e3]; rfl
            · rw [skipC_stop (by omega) h2]
              have := pk_pos (l := l.drop j2) (m := 1) (by rw [h2.2]; omega)
              rw [List.length_drop] at this
              have e1 : j' = j2 + 2 := by omega
              rw [e1]
          have hnew2 := Hnew.out
          rw [hdrop] at hnew2
          have HN := Lib.hid hnew2
          have hjj : j + 1 < j' := by omega
          clear hnew2 hdrop hj' hp hp1 hwh
          go_wp2_with fail
          go_roundw
          case rel => exact ⟨j', b, by omega, hj'n, HN, hb, congrArg (Value.int IntKind.i64) (by omega), rfl⟩
          case measure => simp [intOf]; omega
      · have hend : (b, l.drop j) = T := by
          rw [← hrun.out, spacesT_end (r := l.drop j) (by rw [hc]; exact hw) (by rw [hc, hd]; exact hcd)]; simp
        have HE1 : Hid (T.1 = b) := by show _ = _; rw [← hend]
        have HE2 : Hid (l.drop j = T.2) := by show _ = _; rw [← hend]
        obtain ⟨q0, t0⟩ : ∃ q, (c == 47) = q := ⟨_, rfl⟩
        obtain ⟨q1, t1⟩ : ∃ q, (d == 42) = q := ⟨_, rfl⟩
        have hqq : q0 = false ∨ q1 = false := by
          cases q0 <;> cases q1 <;> simp at t0 t1 ⊢
          exact hcd ⟨t0, t1⟩
        clear hend hrun hcd hc hd hw
        cases q0 with
        | false =>
          go_wp2_with (first
            | (go_at_call 26; (first | with_reducible refine hp.mono ?_ | with_reducible refine hp1.mono ?_); rintro e w' ⟨rfl, rfl⟩)
            | (go_at_call 25; with_reducible refine hwh.mono ?_; rintro e w' ⟨rfl, rfl⟩))
          go_ret2
          exact ⟨⟨j, hmj, hjn, HE2.out, by rw [HE1.out]; rfl⟩, hb⟩
        | true =>
          obtain rfl : q1 = false := by rcases hqq with h | h; · cases h
                                        exact h
          go_wp2_with (first
            | (go_at_call 26; (first | with_reducible refine hp.mono ?_ | with_reducible refine hp1.mono ?_); rintro e w' ⟨rfl, rfl⟩)
            | (go_at_call 25; with_reducible refine hwh.mono ?_; rintro e w' ⟨rfl, rfl⟩))
          go_ret2
          exact ⟨⟨j, hmj, hjn, HE2.out, by rw [HE1.out]; rfl⟩, hb⟩
end Go.Proofs.YthkagpefgkpgeaaGreatDoor
/- Layer 3, the document: its Scan is walked: its answer is the model's list of tokens. -/
set_option linter.unusedVariables false
set_option linter.unusedSimpArgs false
namespace Go.Proofs.YthkagpefgkpgeaaGreatDoor
open Go.RowKit Rn Tk
set_option maxRecDepth 100000 in
set_option maxHeartbeats 2000000 in
theorem rt_scan (bs : List UInt8) (A0 : Option Addr) (n0 cap0 : Nat) (w : World) (hr : Reads w w.heap.size 1 A0 n0 (bs.map b8)) (hm : n0 ≤ cap0) (hcap : cap0 ≤ maxLen) :
    Calls Tryz.prog 6 #[.slice A0 n0 cap0] w fun e w' => Below w.heap.size w w' ∧ ScanRet n0 (scanT (readP bs)) w e w' := by
  have hlen0 : bs.length = n0 := by simpa using hr.len
  have hcap' := hcap
  unfold maxLen at hcap'
  by_cases hbig : 65536 < n0
  · have t1 : decide (65536 < (n0 : Int)) = true := by simp; omega
    have Hbig := Lib.hid hbig
    clear hbig
    go_enter Tryz.func6, Tryz.ntmps6
    go_wp2_with fail
    go_ret2
    refine ⟨Below.refl _ _, ?_⟩
    unfold ScanRet
    rw [if_pos (.inl Hbig.out)]; rfl
  · have t1 : decide (65536 < (n0 : Int)) = false := by simp; omega
    have hl : (readP bs).length ≤ bs.length := readF_len bs.length bs
    have hch := readP_chars bs
    obtain ⟨l, hl0⟩ : ∃ l, readP bs = l := ⟨_, rfl⟩
    have hrd := ref_read bs A0 n0 cap0 w hr hm hcap (by omega)
    rw [hl0] at hl hch hrd ⊢
    obtain ⟨TS, hTS⟩ : ∃ T, scanT l = T := ⟨_, rfl⟩
    rw [hTS]
    have HTS := Lib.hid hTS
    have Hbig := Lib.hid hbig
    clear hTS hl0
    go_enter Tryz.func6, Tryz.ntmps6
    go_wp2_with fail
    refine hrd.mono ?_
    rintro e1 w1 ⟨v1, rfl, hown1, hb1⟩
    obtain ⟨A, cap, rfl, hnc, hcm⟩ := own_form hown1
    have hrd1 := Reads.of_own hown1
    obtain ⟨n, hn⟩ : ∃ n, l.length = n := ⟨_, rfl⟩
    rw [hn] at hrd1 hl hnc ⊢
    have hRL : RL w1 w1.heap.size A n cap l := ⟨hrd1, Nat.le_refl _, by omega, hnc, hcm, hch⟩
    obtain ⟨hi0, hi, hz0, hz1, hz2⟩ := info_got tok_info
    clear hrd hown1 hrd1
    have hws := hb1.size
    go_upto_block 0 with (fail)
    go_cut [5] (fun x wx => ∃ (toks : List Tok) (Ao : Option Addr) (co : Nat), Hid (toks = TS) ∧ toks.length ≤ 131072 ∧ x = .slice Ao toks.length co ∧ Below w1.heap.size w1 wx ∧ wx.ownsRow w1.heap.size 31 3 (.slice Ao toks.length co) toks.length (toksV toks))
    case first =>
      go_wp2_with fail
      go_loopw [5, 6] (fun x z wr => ∃ (j : Nat) (toks : List Tok) (Ao : Option Addr) (co : Nat), j ≤ n ∧ Hid (toks ++ scanT (l.drop j) = TS) ∧ toks.length ≤ 2 * j ∧ x = .slice Ao toks.length co ∧ Below w1.heap.size w1 wr ∧ wr.ownsRow w1.heap.size 31 3 (.slice Ao toks.length co) toks.length (toksV toks) ∧ z = .int .i64 (j : Int)) (fun _ z _ => n - (intOf z).toNat)
      case atStart => exact ⟨0, [], none, 0, Nat.zero_le _, (by show _ = _; rw [List.drop_zero]; exact HTS.out), by simp, rfl, Below.refl _ _, World.ownsRow_nil _ _ _ _, rfl⟩
      case round =>
        obtain ⟨j, toks, Ao, co, hjn, hrun, htl, rfl, hb, hown, rfl⟩ := hrel
        by_cases hjl : j < n
        · have x4 : decide ((j : Int) < (n : Int)) = true := by simp; omega
          obtain ⟨b, hbq⟩ : ∃ b, (spacesT (l.drop j)).1 = b := ⟨_, rfl⟩
          have hsp := rt_spaces (hRL.mv hb) j j rfl (by omega)
          rw [hbq] at hsp
          have Hb := Lib.hid hbq
          have hbs := hb.size
          clear hbq
          go_wp2_with fail
          refine hsp.mono ?_
          rintro e2 w2 ⟨⟨k3, hk3, hk3n, hd3, rfl⟩, hb2⟩
          have B2 := hb.trans (hb2.mono hbs)
          have own2 := hown.kept (below_grown hb2) (by cases hv : Value.ownBlock (.slice Ao toks.length co) with
            | none => exact .inl rfl
            | some g => exact .inr (by simp))
          have Hd3 := Lib.hid hd3
          clear hd3 hb hown hb2 hsp
          go_upto_if 27 with (fail)
          go_cut [5] (fun x wx => ∃ (toks2 : List Tok) (A2 : Option Addr) (c2 : Nat), Hid (toks2 = toks ++ if b = true then [⟨1, [], 0⟩] else []) ∧ toks2.length ≤ toks.length + 1 ∧ x = .slice A2 toks2.length c2 ∧ Below w1.heap.size w1 wx ∧ wx.ownsRow w1.heap.size 31 3 (.slice A2 toks2.length c2) toks2.length (toksV toks2))
          case first =>
            cases b with
            | true =>
              have hws2 := B2.size
              go_wp2_with (at_builtin; refine wpList_append_own _ rfl _ _ 24 rfl w1.heap.size 31 hi0 (.agg #[.int .i64 0, .string ⟨#[]⟩, .int .i64 0]) 3 32 Tryz.underlying24 hi hz0 hz1 hz2 rfl (by decide) (.slice Ao toks.length co) toks.length (toksV toks) rfl (own2.alloc _) ⟨w2.heap.size, 0, none⟩ 1 1 [.int .i64 1, .string ⟨#[]⟩, .int .i64 0] rfl rfl (cells_new3 _ _ _ _ _) ?c2 ?c3 ?c4 ?c5 ?_)
              case c2 => first | exact ⟨rfl, rfl, rfl⟩ | (intro u hu; simp at hu; rcases hu with rfl | rfl | rfl <;> rfl)
              case c3 => unfold maxLen; omega
              case c4 => omega
              case c5 => first | omega | (simp; omega)
              intro v' w3 hown3 hgrow3 _
              obtain ⟨A3, c3, rfl, _, _⟩ := own_form hown3
              have B3 := below_push B2 own2 hgrow3
              go_wp2_with fail
              go_meet
              exact ⟨toks ++ [⟨1, [], 0⟩], A3, c3, (by show _ = _; simp), by simp, by simp, B3, by rw [toksV_snoc, List.length_append]; exact hown3⟩
            | false =>
              go_wp2_with fail
              go_meet
              exact ⟨toks, Ao, co, (by show _ = _; simp), by omega, rfl, B2, own2⟩
          case rest =>
            obtain ⟨toks2, Aq, cq, ht2, htl2, rfl, B3, own3⟩ := hcut
            by_cases hend : k3 < n
            · have x5 : decide ((k3 : Int) < (n : Int)) = true := by simp; omega
              have hne : l.drop k3 ≠ [] := by intro h0; have := congrArg List.length h0; rw [List.length_drop] at this; simp at this; omega
              have hstep : scanT (l.drop j) = (if b = true then [⟨1, [], 0⟩] else []) ++ (nextT (l.drop k3)).1 :: scanT (nextT (l.drop k3)).2 := by
                rw [scanT_step (by rw [← Hd3.out]; exact hne), Hb.out, ← Hd3.out]
              have Hstep := Lib.hid hstep
              have hnx := rt_next (hRL.mv B3) k3 k3 rfl hend
              have hws3 := B3.size
              clear hstep hne
              go_wp2_with fail
              refine hnx.mono ?_
              rintro e5 w5 ⟨⟨k5, hk5, hk5n, hd5, rfl⟩, hb5⟩
              have B5 := B3.trans (hb5.mono hws3)
              have own5 := own3.kept (below_grown hb5) (by cases hv : Value.ownBlock (.slice Aq toks2.length cq) with
                | none => exact .inl rfl
                | some g => exact .inr (by simp))
              obtain ⟨⟨K, tx, N⟩, hTk⟩ : ∃ t, (nextT (l.drop k3)).1 = t := ⟨_, rfl⟩
              have hT : Hid ((toks2 ++ [⟨K, tx, N⟩]) ++ scanT (l.drop k5) = TS) := by
                show _ = _
                rw [← hrun.out, Hstep.out, hTk, ← hd5, ht2.out]; simp
              rw [hTk]
              unfold tokV
              have hrow5 := (RowAt.new w5 31 #[.int .i64 (K : Int), .string (bytesOf tx), .int .i64 N])
              obtain ⟨f0, _⟩ := hrow5.2 0 _ rfl
              obtain ⟨f1, _⟩ := hrow5.2 1 _ rfl
              obtain ⟨f2, _⟩ := hrow5.2 2 _ rfl
              have hws5 := B5.size
              have B6 : Below w1.heap.size w1 (w5.alloc (.cells #[.int .i64 (K : Int), .string (bytesOf tx), .int .i64 N] 31)) := B5.alloc hws5 _
              have own6 := own5.alloc (.cells #[.int .i64 (K : Int), .string (bytesOf tx), .int .i64 N] 31)
              clear hTk hd5 Hstep B3 own3 hb5 hnx B5 own5 hrow5
              go_wp2_with (at_builtin; refine wpList_append_own _ rfl _ _ 24 rfl w1.heap.size 31 hi0 (.agg #[.int .i64 0, .string ⟨#[]⟩, .int .i64 0]) 3 32 Tryz.underlying24 hi hz0 hz1 hz2 rfl (by decide) (.slice Aq toks2.length cq) toks2.length (toksV toks2) rfl (own6.alloc _) ⟨w5.heap.size + 1, 0, none⟩ 1 1 [.int .i64 (K : Int), .string (bytesOf tx), .int .i64 N] rfl rfl ?c1 ?c2 ?c3 ?c4 ?c5 ?_)
              case c1 =>
                have := cells_new3 (w5.alloc (.cells #[.int .i64 (K : Int), .string (bytesOf tx), .int .i64 N] 31)) 31 (.int .i64 (K : Int)) (.string (bytesOf tx)) (.int .i64 N)
                rw [show (w5.alloc (.cells #[.int .i64 (K : Int), .string (bytesOf tx), .int .i64 N] 31)).heap.size = w5.heap.size + 1 by simp] at this
                exact this
              case c2 => first | exact ⟨rfl, rfl, rfl⟩ | (intro u hu; simp at hu; rcases hu with rfl | rfl | rfl <;> rfl)
              case c3 => unfold maxLen; omega
              case c4 => omega
              case c5 => first | omega | (simp; omega)
              intro v' w6 hown6 hgrow6 _
              obtain ⟨A6, c6, rfl, _, _⟩ := own_form hown6
              have B7 := below_push B6 own6 hgrow6
              go_wp2_with fail
              go_roundw
              case rel => exact ⟨k5, toks2 ++ [⟨K, tx, N⟩], A6, c6, hk5n, hT, by simp; omega, by simp, B7, by simpa [toksV_snoc] using hown6, rfl⟩
              case measure => simp [intOf]; omega
            · have x5 : decide ((k3 : Int) < (n : Int)) = false := by simp; omega
              have hnil : l.drop k3 = [] := List.drop_eq_nil_of_le (by omega)
              have hT : Hid (toks2 ++ scanT (l.drop k3) = TS) := by
                show _ = _
                rw [← hrun.out, scanT_end (r := l.drop j) (by rw [← Hd3.out]; exact hnil), Hb.out, hnil, scanT_nil, ht2.out, List.append_nil]
              clear hnil
              go_wp2_with fail
              go_roundw
              case rel => exact ⟨k3, toks2, Aq, cq, hk3n, hT, by omega, rfl, B3, own3, rfl⟩
              case measure => simp [intOf]; omega
        · have x4 : decide ((j : Int) < (n : Int)) = false := by simp; omega
          have hT : Hid (toks = TS) := by
            show _ = _
            rw [← hrun.out, List.drop_eq_nil_of_le (by omega : l.length ≤ j), scanT_nil, List.append_nil]
          clear hrun
          go_wp2_with fail
          go_meet
          exact ⟨toks, Ao, co, hT, by omega, rfl, hb, hown⟩
    case rest =>
      obtain ⟨toks, Ao, co, hT, htl, rfl, hb, hown⟩ := hcut
      have hT2 := hT.out
      subst hT2
      by_cases hmany : 16384 < toks.length
      · have d1 : decide ((16384 : Int) < (toks.length : Int)) = true := by simp; omega
        have HB := Lib.hid hmany
        clear hmany
        go_wp2_with fail
        go_ret2
        refine ⟨hb1.trans (hb.mono hws), ?_⟩
        unfold ScanRet
        rw [if_pos (.inr HB.out)]; rfl
      · have d1 : decide ((16384 : Int) < (toks.length : Int)) = false := by simp; omega
        have Hm := Lib.hid hmany
        clear hmany
        go_wp2_with fail
        go_ret2
        refine ⟨hb1.trans (hb.mono hws), ?_⟩
        unfold ScanRet
        rw [if_neg (by have := Hbig.out; have := Hm.out; omega)]
        exact ⟨_, rfl, own_less hown (by omega)⟩
end Go.Proofs.YthkagpefgkpgeaaGreatDoor
set_option linter.unusedVariables false
set_option linter.unusedSimpArgs false
namespace Go.Proofs.YthkagpefgkpgeaaGreatDoor
open Go.RowKit Rn Tk
set_option maxRecDepth 100000 in
set_option maxHeartbeats 1000000 in
theorem walk_TokenScans (bs : List UInt8) (A : Option Addr) (n cap : Nat) (w : World) (hr : Reads w w.heap.size 1 A n (bs.map b8)) (hm : n ≤ cap) (hcap : cap ≤ maxLen) (hT : Tabs w) (hE : Env w) :
    Calls Tryz.prog 3 #[.slice A n cap] w fun e w' => e = .returned (.bool true) ∧ Below w.heap.size w w' := by
  have hlen : bs.length = n := by simpa using hr.len
  have hcap' := hcap
  unfold maxLen at hcap'
  by_cases hn : n ≤ 2000
  · have d1 : decide ((2000 : Int) < (n : Int)) = false := by simp; omega
    have d2 : decide ((65536 : Int) < (n : Int)) = false := by simp; omega
    have hl := scan_len (readP bs)
    have hl2 : (readP bs).length ≤ bs.length := readF_len bs.length bs
    obtain ⟨TS, hTS⟩ : ∃ T, scanT (readP bs) = T := ⟨_, rfl⟩
    have hc1 := tk_scan bs A n cap w hr hm hcap hT hE
    have hc2 := fun w' (hb : Below w.heap.size w w') => rt_scan bs A n cap w' ((hr.below hb).more hb.size) hm hcap
    rw [hTS] at hc1 hl
    simp only [hTS] at hc2
    have hTl : TS.length ≤ 2000 := by omega
    clear hTS hl hl2 hlen
    go_enter Tryz.func3, Tryz.ntmps3
    go_wp2_with fail
    refine hc1.mono ?_
    rintro e w1 ⟨hb1, hret⟩
    unfold ScanRet at hret
    rw [if_neg (by omega)] at hret
    obtain ⟨v, rfl, hown1⟩ := hret
    obtain ⟨A1, c1, rfl, hr1⟩ := toks_reads hown1
    go_wp2_with fail
    refine (hc2 w1 hb1).mono ?_
    rintro e w2 ⟨hb2, hret⟩
    unfold ScanRet at hret
    rw [if_neg (by omega)] at hret
    obtain ⟨v, rfl, hown2⟩ := hret
    obtain ⟨A2, c2, rfl, hr2⟩ := toks_reads hown2
    have B2 := hb1.trans (hb2.mono hb1.size)
    go_wp2_with fail
    refine (toks_same _ _ A1 A2 _ _ c1 c2 w2 (hr1.below hb2) hr2 (by omega)).mono ?_
    rintro e w3 ⟨rfl, hb3⟩
    have B3 := B2.trans (hb3.mono B2.size)
    rw [decide_eq_true rfl]
    go_wp2_with fail
    refine (tk_awake w3 (hT.below B3) (hE.below B3)).mono ?_
    rintro e w4 ⟨rfl, hb4⟩
    go_wp2
    go_ret
    exact ⟨rfl, B3.trans (hb4.mono B3.size)⟩
  · have d1 : decide ((2000 : Int) < (n : Int)) = true := by simp; omega
    by_cases hn2 : n ≤ 65536
    · have d2 : decide ((n : Int) ≤ 65536) = true := by simp; omega
      go_enter Tryz.func3, Tryz.ntmps3
      go_wp2_with fail
      refine (tk_awake w hT hE).mono ?_
      rintro e w4 ⟨rfl, hb4⟩
      go_wp2
      go_ret
      exact ⟨rfl, hb4⟩
    · have d2 : decide ((n : Int) ≤ 65536) = false := by simp; omega
      have d3 : decide ((65536 : Int) < (n : Int)) = true := by simp; omega
      go_enter Tryz.func3, Tryz.ntmps3
      go_wp2_with fail
      refine (tk_scan bs A n cap w hr hm hcap hT hE).mono ?_
      rintro e w1 ⟨hb1, hret⟩
      unfold ScanRet at hret
      rw [if_pos (.inl (by omega))] at hret
      subst hret
      go_wp2_with fail
      refine (tk_awake w1 (hT.below hb1) (hE.below hb1)).mono ?_
      rintro e w4 ⟨rfl, hb4⟩
      go_wp2
      go_ret
      exact ⟨rfl, hb1.trans (hb4.mono hb1.size)⟩
end Go.Proofs.YthkagpefgkpgeaaGreatDoor
