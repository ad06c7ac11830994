/- Layer 3: the next token is walked. -/
import Derived.Test.YtfhdihdafmahgaaGreatDoorB07
set_option linter.unusedVariables false
set_option linter.unusedSimpArgs false
namespace Go.Proofs.YtfhdihdafmahgaaGreatDoor
open Go.RowKit Rn Tk
set_option maxRecDepth 100000 in
set_option maxHeartbeats 2000000 in
theorem tk_next {w : World} {B S P n cap k : Nat} {A : Option Addr} {l : List Int} (h : At w B S P A n cap l k) (hch : Chars l) (hkn : k < n) (hw : EnvP P w) :
    Calls Tryz.prog 57 #[.pointer (some ⟨S, 0, none⟩)] w fun e w' => e = .returned (tokV (nextT (l.drop k)).1) ∧ Mv P w w' ∧ ∃ k', k < k' ∧ l.drop k' = (nextT (l.drop k)).2 ∧ At w' B S P A n cap l k' := by
  have hlen := h.len
  have hn := h.hn
  have hS := h.hS
  have hPS := h.hPS
  have Hch := Lib.hid hch
  have hci := isB_range (pk_is (l := l) hch (m := k) (by omega))
  rw [show pk l k = pk (l.drop k) 0 from by rw [pk_drop]; rfl] at hci
  clear hch
  obtain ⟨wA, hwA⟩ : ∃ wA, w.alloc (.cells #[.int .i64 0, .string ⟨#[]⟩, .int .i64 0] 58) = wA := ⟨_, rfl⟩
  have gA : w.grownBy wA none := by rw [← hwA]; exact World.grownBy_alloc _ _ _
  have rA : RowAt wA w.heap.size [.int .i64 0, .string ⟨#[]⟩, .int .i64 0] := by rw [← hwA]; exact RowAt.new _ _ _
  have hA := h.mv gA
  have sA := hA.s0
  have hp := tk_peek0 hA
  obtain ⟨NX, hNX⟩ : ∃ x, nextT (l.drop k) = x := ⟨_, rfl⟩
  rw [hNX]
  have HNX := Lib.hid hNX
  clear hNX
  obtain ⟨c, hc⟩ : ∃ c, pk (l.drop k) 0 = c := ⟨_, rfl⟩
  rw [hc] at hp hci
  have Hc := Lib.hid hc
  clear hc
  have hset : ∀ (W : World) (j : Nat) (u : Value), Mv P w W → Mv P w (W.setCell ⟨w.heap.size, j, none⟩ u) := fun W j u hm => grown_new hm (Nat.le_refl _) _
  have aset : ∀ (W : World) (j k' : Nat) (u : Value), At W B S P A n cap l k' → At (W.setCell ⟨w.heap.size, j, none⟩ u) B S P A n cap l k' := fun W j k' u ha => ha.grown (grownBy_set _ _ _) (by intro g hg; simp at hg; omega)
  go_enter Tryz.func57, Tryz.ntmps57
  go_wp2_with fail
  refine hp.mono ?_
  rintro e1 w1 ⟨rfl, g1⟩
  have A1 := hA.mv g1
  have M1 : Mv P w w1 := Mv.of (gA.trans g1)
  have R1 := rA.grown g1 (by simp)
  clear hp sA hA rA gA g1 hwA
  obtain ⟨q, hq0⟩ : ∃ q, decide (c = 34 ∨ c = 39) = q := ⟨_, rfl⟩
  have Hq := Lib.hid hq0
  clear hq0
  go_upto_region 2 with (fail)
  go_cut [17] (fun x wx => x = .bool q ∧ wx = w1)
  case first =>
    by_cases h34 : c = 34
    · have t34 := eq_t h34
      have Hv : Hid (q = true) := by show _ = _; rw [← Hq.out]; simp [h34]
      clear h34
      go_wp2_with fail
      go_meet
      exact ⟨by rw [Hv.out], rfl⟩
    · have t34 := eq_f h34
      have Hv : Hid (q = (c == 39)) := by show _ = _; rw [← Hq.out, Bool.eq_iff_iff]; simp [h34]
      clear h34
      go_wp2_with fail
      go_meet
      exact ⟨by rw [Hv.out], rfl⟩
  case rest =>
    obtain ⟨rfl, hwc⟩ := hcut
    have hwc2 := hwc.symm
    subst hwc2
    clear hwc
    cases q
    case true =>
      have hq := of_decide_eq_true Hq.out
      have hres : NX = (⟨if (quoteT c (l.drop (k + 1))).2.1 = true then 7 else 6, writeP (quoteT c (l.drop (k + 1))).1, 0⟩, (quoteT c (l.drop (k + 1))).2.2) := by
        rw [← HNX.out]; unfold nextT; simp only [Hc.out]; rw [if_pos hq, List.tail_drop]
      have hcall := tk_text A1 Hch.out hkn
      rw [Hc.out] at hcall
      obtain ⟨Kq, hKq⟩ : ∃ K : Nat, (if (quoteT c (l.drop (k + 1))).2.1 = true then 7 else 6) = K := ⟨_, rfl⟩
      rw [hKq] at hcall hres
      have Hres := Lib.hid hres
      clear hKq hres
      clear hq
      go_wp2_with fail
      refine hcall.mono ?_
      rintro e2 w2 ⟨rfl, m2, k', hk', hd', A2⟩
      have M2 := M1.trans m2
      have R2 := R1.grown m2 (by simp; omega)
      obtain ⟨x0, x3⟩ := R2.2 0 _ rfl
      obtain ⟨x1, x4⟩ := R2.2 1 _ rfl
      obtain ⟨x2, x5⟩ := R2.2 2 _ rfl
      have hfin := ((R2.store 0 (.int .i64 Kq)).store 1 (.string (bytesOf (writeP (quoteT c (l.drop (k + 1))).1)))).store 2 (.int .i64 0)
      have A19 := aset _ 2 k' (.int .i64 0) (aset _ 1 k' (.string (bytesOf (writeP (quoteT c (l.drop (k + 1))).1))) (aset _ 0 k' (.int .i64 Kq) A2))
      have M19 := hset _ 2 (.int .i64 0) (hset _ 1 (.string (bytesOf (writeP (quoteT c (l.drop (k + 1))).1))) (hset _ 0 (.int .i64 Kq) M2))
      unfold tokV
      clear aset hset
      go_wp2_with fail
      refine bodyPost_ret (results_tok rfl _ _ _ _ _ _ rfl hfin) rfl ?_
      exact ⟨by rw [Hres.out]; rfl, M19, k', hk', by rw [Hres.out]; exact hd', A19⟩
    have hq := of_decide_eq_false Hq.out
    have hnx : nextT (l.drop k) = if c = 35 ∧ (withinB (pk (l.drop k) 1) || esc (l.drop (k + 1))) = true then (⟨5, writeP (nameT (l.drop (k + 1))).1, 0⟩, (nameT (l.drop (k + 1))).2)
      else match numberT (l.drop k) with
        | some x => x
        | none =>
          if c = 64 ∧ beg (l.drop (k + 1)) = true then (⟨4, writeP (nameT (l.drop (k + 1))).1, 0⟩, (nameT (l.drop (k + 1))).2)
          else if beg (l.drop k) = true then
            if pk (nameT (l.drop k)).2 0 = 40 then (⟨3, writeP (nameT (l.drop k)).1, 0⟩, (nameT (l.drop k)).2.tail) else (⟨2, writeP (nameT (l.drop k)).1, 0⟩, (nameT (l.drop k)).2)
          else (signT c, l.drop (k + 1)) := by
      unfold nextT; simp only [Hc.out]; rw [if_neg hq, List.tail_drop]; rfl
    rw [HNX.out] at hnx
    have Hnx := Lib.hid hnx
    clear hnx hq
    have hp1 := fun w' (g : w1.grownBy w' none) => tk_peek1 (A1.mv g)
    have he1 := fun w' (g : w1.grownBy w' none) => tk_escape1 (A1.mv g)
    have s1 := A1.s0
    obtain ⟨d, hd⟩ : ∃ d, pk (l.drop k) 1 = d := ⟨_, rfl⟩
    rw [hd] at hp1
    have Hd := Lib.hid hd
    clear hd
    obtain ⟨D, hD0⟩ : ∃ D, decide (c = 35 ∧ (withinB d || esc (l.drop (k + 1))) = true) = D := ⟨_, rfl⟩
    have HD := Lib.hid hD0
    clear hD0
    go_upto_region 4 with (fail)
    go_cut [33] (fun x wx => x = .bool D ∧ w1.grownBy wx none)
    case first =>
      by_cases h35 : c = 35
      · have t35 := eq_t h35
        cases hwi : withinB d with
        | true =>
          have Hv : Hid (D = true) := by show _ = _; rw [← HD.out, hwi]; simp [h35]
          clear h35
          go_wp2_with fail
          refine (hp1 w1 (World.grownBy.refl _ _)).mono ?_
          rintro e2 w2 ⟨rfl, g2⟩
          go_wp2_with fail
          refine (rn_within d _).mono ?_
          rintro e3 w3 ⟨rfl, rfl⟩
          rw [hwi]
          go_wp2_with fail
          go_meet
          exact ⟨by rw [Hv.out], g2⟩
        | false =>
          have Hv : Hid (D = esc (l.drop (k + 1))) := by show _ = _; rw [← HD.out, hwi, Bool.eq_iff_iff]; simp [h35]
          clear h35
          go_wp2_with fail
          refine (hp1 w1 (World.grownBy.refl _ _)).mono ?_
          rintro e2 w2 ⟨rfl, g2⟩
          go_wp2_with fail
          refine (rn_within d _).mono ?_
          rintro e3 w3 ⟨rfl, rfl⟩
          rw [hwi]
          go_wp2_with fail
          refine (he1 w2 g2).mono ?_
          rintro e3 w3 ⟨rfl, g3⟩
          have g3 := g2.trans g3
          go_wp2_with fail
          go_meet
          exact ⟨by rw [Hv.out], g3⟩
      · have t35 := eq_f h35
        have Hv : Hid (D = false) := by show _ = _; rw [← HD.out]; simp [h35]
        go_wp2_with fail
        go_meet
        exact ⟨by rw [Hv.out], World.grownBy.refl _ _⟩
    case rest =>
      obtain ⟨rfl, g4⟩ := hcut
      have A4 := A1.mv g4
      have M4 := M1.trans (Mv.of g4)
      have R4 := R1.grown g4 (by simp)
      clear hp1 he1 s1 A1 M1 R1 g4
      cases D
      case true =>
        have hcd := of_decide_eq_true HD.out
        have hres : NX = (⟨5, writeP (nameT (l.drop (k + 1))).1, 0⟩, (nameT (l.drop (k + 1))).2) := by rw [Hnx.out, Hd.out, if_pos hcd]
        have Hres := Lib.hid hres
        clear hres hcd
        have u1 := A4.s0
        have u2 := A4.p0
        have u3 := A4.p1
        have u4 := A4.fz
        have A5 := A4.store (k' := k + 1) (by omega)
        have M5 := M4.trans (Mv.store _ P (.int .i64 ((k + 1 : Nat) : Int)))
        have R5 := R4.grown (Mv.store _ P (.int .i64 ((k + 1 : Nat) : Int))) (by simp; omega)
        push_cast at A5 M5 R5
        go_wp2_with fail
        refine (tk_name A5 Hch.out).mono ?_
        rintro e9 w9 ⟨rfl, m9, k', hk', hd', A9⟩
        have M9 := M5.trans m9
        have R9 := R5.grown m9 (by simp; omega)
        obtain ⟨x0, x3⟩ := R9.2 0 _ rfl
        obtain ⟨x1, x4⟩ := R9.2 1 _ rfl
        obtain ⟨x2, x5⟩ := R9.2 2 _ rfl
        have hfin := ((R9.store 0 (.int .i64 5)).store 1 (.string (bytesOf (writeP (nameT (l.drop (k + 1))).1)))).store 2 (.int .i64 0)
        have A19 := aset _ 2 k' (.int .i64 0) (aset _ 1 k' (.string (bytesOf (writeP (nameT (l.drop (k + 1))).1))) (aset _ 0 k' (.int .i64 5) A9))
        have M19 := hset _ 2 (.int .i64 0) (hset _ 1 (.string (bytesOf (writeP (nameT (l.drop (k + 1))).1))) (hset _ 0 (.int .i64 5) M9))
        clear aset hset
        go_wp2_with fail
        refine bodyPost_ret (results_tok rfl _ _ _ _ _ _ rfl hfin) rfl ?_
        exact ⟨by rw [Hres.out]; rfl, M19, k', by omega, by rw [Hres.out]; exact hd', A19⟩
      have hn2 := Hnx.out
      rw [Hd.out, if_neg (of_decide_eq_false HD.out)] at hn2
      have Hn2 := Lib.hid hn2
      clear hn2 Hnx HD
      have hcall := tk_number A4 Hch.out (hw.mv M4)
      go_wp2_with fail
      refine hcall.mono ?_
      rintro e5 w5 ⟨m5, hres5⟩
      have M5 := M4.trans m5
      have R5 := R4.grown m5 (by simp; omega)
      cases hnum : numberT (l.drop k) with
      | some x =>
        rw [hnum] at hres5 Hn2
        obtain ⟨⟨kd, tx, nn⟩, rs⟩ := x
        obtain ⟨rfl, k', hk', hd', A5⟩ := hres5
        have hNX : NX = (⟨kd, tx, nn⟩, rs) := Hn2.out
        have HN := Lib.hid hNX
        clear hNX Hn2 hnum HNX
        obtain ⟨x0, x3⟩ := R5.2 0 _ rfl
        obtain ⟨x1, x4⟩ := R5.2 1 _ rfl
        obtain ⟨x2, x5⟩ := R5.2 2 _ rfl
        have hlt : w.heap.size < w5.heap.size := R5.1
        have hfin := (((R5.store 0 (.int .i64 (kd : Int))).store 1 (.string (bytesOf tx))).store 2 (.int .i64 nn)).grown (World.grownBy_alloc _ (.cells #[.int .i64 (kd : Int), .string (bytesOf tx), .int .i64 nn] 58) none) (by simp)
        have A19 := (aset _ 2 k' (.int .i64 nn) (aset _ 1 k' (.string (bytesOf tx)) (aset _ 0 k' (.int .i64 (kd : Int)) A5))).mv (World.grownBy_alloc _ (.cells #[.int .i64 (kd : Int), .string (bytesOf tx), .int .i64 nn] 58) none)
        have M19 := (hset _ 2 (.int .i64 nn) (hset _ 1 (.string (bytesOf tx)) (hset _ 0 (.int .i64 (kd : Int)) M5))).trans (Mv.of (World.grownBy_alloc _ (.cells #[.int .i64 (kd : Int), .string (bytesOf tx), .int .i64 nn] 58) none))
        unfold tokV
        clear aset hset
        go_wp2_with fail
        refine bodyPost_ret (results_tok rfl _ _ _ _ _ _ rfl hfin) rfl ?_
        exact ⟨by rw [HN.out]; rfl, M19, k', hk', by rw [HN.out]; exact hd', A19⟩
      | none =>
        rw [hnum] at hres5 Hn2
        obtain ⟨rfl, A5⟩ := hres5
        have Hn3 := Lib.hid Hn2.out
        clear Hn2 hnum HNX
        obtain ⟨E, hE0⟩ : ∃ E, decide (c = 64 ∧ beg (l.drop (k + 1)) = true) = E := ⟨_, rfl⟩
        have HE := Lib.hid hE0
        clear hE0
        unfold tokV
        go_upto_region 10 with (fail)
        go_cut [54] (fun x wx => x = .bool E ∧ w5.grownBy wx none)
        case first =>
          by_cases h64 : c = 64
          · have t64 := eq_t h64
            have Hv : Hid (E = beg (l.drop (k + 1))) := by show _ = _; rw [← HE.out, Bool.eq_iff_iff]; simp [h64]
            clear h64
            go_wp2_with fail
            refine (tk_begins1 (A5.mv (World.grownBy_alloc _ _ _))).mono ?_
            rintro e7 w7 ⟨rfl, g7⟩
            go_wp2_with fail
            go_meet
            exact ⟨by rw [Hv.out], (World.grownBy_alloc _ _ _).trans g7⟩
          · have t64 := eq_f h64
            have Hv : Hid (E = false) := by show _ = _; rw [← HE.out]; simp [h64]
            go_wp2_with fail
            go_meet
            exact ⟨by rw [Hv.out], World.grownBy_alloc _ _ _⟩
        case rest =>
          obtain ⟨rfl, g8⟩ := hcut
          have A8 := A5.mv g8
          have M8 := M5.trans (Mv.of g8)
          have R8 := R5.grown g8 (by simp)
          clear g8 A5 M5 R5 m5 A4 M4 R4
          cases E
          case true =>
            have hres : NX = (⟨4, writeP (nameT (l.drop (k + 1))).1, 0⟩, (nameT (l.drop (k + 1))).2) := by rw [Hn3.out, if_pos (of_decide_eq_true HE.out)]
            have Hres := Lib.hid hres
            clear hres
            have u1 := A8.s0
            have u2 := A8.p0
            have u3 := A8.p1
            have u4 := A8.fz
            have A15 := A8.store (k' := k + 1) (by omega)
            have M15 := M8.trans (Mv.store _ P (.int .i64 ((k + 1 : Nat) : Int)))
            have R15 := R8.grown (Mv.store _ P (.int .i64 ((k + 1 : Nat) : Int))) (by simp; omega)
            push_cast at A15 M15 R15
            go_wp2_with fail
            refine (tk_name A15 Hch.out).mono ?_
            rintro e9 w9 ⟨rfl, m9, k', hk', hd', A9⟩
            have M9 := M15.trans m9
            have R9 := R15.grown m9 (by simp; omega)
            obtain ⟨x0, x3⟩ := R9.2 0 _ rfl
            obtain ⟨x1, x4⟩ := R9.2 1 _ rfl
            obtain ⟨x2, x5⟩ := R9.2 2 _ rfl
            have hfin := ((R9.store 0 (.int .i64 4)).store 1 (.string (bytesOf (writeP (nameT (l.drop (k + 1))).1)))).store 2 (.int .i64 0)
            have A19 := aset _ 2 k' (.int .i64 0) (aset _ 1 k' (.string (bytesOf (writeP (nameT (l.drop (k + 1))).1))) (aset _ 0 k' (.int .i64 4) A9))
            have M19 := hset _ 2 (.int .i64 0) (hset _ 1 (.string (bytesOf (writeP (nameT (l.drop (k + 1))).1))) (hset _ 0 (.int .i64 4) M9))
            clear aset hset
            go_wp2_with fail
            refine bodyPost_ret (results_tok rfl _ _ _ _ _ _ rfl hfin) rfl ?_
            exact ⟨by rw [Hres.out]; rfl, M19, k', by omega, by rw [Hres.out]; exact hd', A19⟩
          have hn4 : NX = if beg (l.drop k) = true then if pk (nameT (l.drop k)).2 0 = 40 then (⟨3, writeP (nameT (l.drop k)).1, 0⟩, (nameT (l.drop k)).2.tail) else (⟨2, writeP (nameT (l.drop k)).1, 0⟩, (nameT (l.drop k)).2) else (signT c, l.drop (k + 1)) := by
            rw [Hn3.out, if_neg (of_decide_eq_false HE.out)]
          have Hn4 := Lib.hid hn4
          clear hn4 Hn3 HE
          cases hb : beg (l.drop k) with
          | false =>
            rw [hb, if_neg (by simp)] at Hn4
            go_wp2_with fail
            refine (tk_begins0 A8).mono ?_
            rintro e9 w9 ⟨rfl, g9⟩
            rw [hb]
            have A9 := A8.mv g9
            have M9 := M8.trans (Mv.of g9)
            have R9 := R8.grown g9 (by simp)
            have u1 := A9.s0
            have u2 := A9.p0
            have u3 := A9.p1
            have u4 := A9.fz
            have A15 := A9.store (k' := k + 1) (by omega)
            have M15 := M9.trans (Mv.store _ P (.int .i64 ((k + 1 : Nat) : Int)))
            have R15 := R9.grown (Mv.store _ P (.int .i64 ((k + 1 : Nat) : Int))) (by simp; omega)
            push_cast at A15 M15 R15
            go_wp2_with fail
            refine (tk_sign c _ (by omega)).mono ?_
            rintro e10 w10 ⟨rfl, g10⟩
            have A10 := A15.mv g10
            have M10 := M15.trans (Mv.of g10)
            have R10 := R15.grown g10 (by simp)
            obtain ⟨x0, x3⟩ := R10.2 0 _ rfl
            obtain ⟨x1, x4⟩ := R10.2 1 _ rfl
            obtain ⟨x2, x5⟩ := R10.2 2 _ rfl
            have hfin := ((R10.store 0 (.int .i64 ((signT c).kind : Int))).store 1 (.string (bytesOf (signT c).text))).store 2 (.int .i64 (signT c).n)
            have A19 := aset _ 2 (k + 1) (.int .i64 (signT c).n) (aset _ 1 (k + 1) (.string (bytesOf (signT c).text)) (aset _ 0 (k + 1) (.int .i64 ((signT c).kind : Int)) A10))
            have M19 := hset _ 2 (.int .i64 (signT c).n) (hset _ 1 (.string (bytesOf (signT c).text)) (hset _ 0 (.int .i64 ((signT c).kind : Int)) M10))
            unfold tokV
            clear aset hset
            go_wp2_with fail
            refine bodyPost_ret (results_tok rfl _ _ _ _ _ _ rfl hfin) rfl ?_
            exact ⟨by rw [Hn4.out]; rfl, M19, k + 1, by omega, by rw [Hn4.out], A19⟩
          | true =>
            rw [hb, if_pos rfl] at Hn4
            have hlt0 := (name_some (beg_first hb)).1
            go_wp2_with fail
            refine (tk_begins0 A8).mono ?_
            rintro e9 w9 ⟨rfl, g9⟩
            rw [hb]
            have A9 := A8.mv g9
            have M9 := M8.trans (Mv.of g9)
            have R9 := R8.grown g9 (by simp)
            clear A8 M8 R8 g9
            go_wp2_with fail
            refine (tk_name A9 Hch.out).mono ?_
            rintro e10 w10 ⟨rfl, m10, k', hk', hd', A10⟩
            have hkk : k < k' := by
              have h1 := congrArg List.length hd'
              rw [List.length_drop] at h1 hlt0
              omega
            have M10 := M9.trans m10
            have R10 := R9.grown m10 (by simp; omega)
            obtain ⟨tx, htx⟩ : ∃ t, writeP (nameT (l.drop k)).1 = t := ⟨_, rfl⟩
            have hn5 := Hn4.out
            rw [htx, ← hd'] at hn5
            rw [htx]
            have Hn5 := Lib.hid hn5
            clear hn5 Hn4 hlt0 hd' htx M9 R9 A9 m10
            have gd := World.grownBy_alloc w10 (.cells #[.int .i64 2, .string (bytesOf tx), .int .i64 0] 58) none
            have rT : RowAt (w10.alloc (.cells #[.int .i64 2, .string (bytesOf tx), .int .i64 0] 58)) w10.heap.size [.int .i64 2, .string (bytesOf tx), .int .i64 0] := RowAt.new _ _ _
            have A11 := A10.mv gd
            have M11 := M10.trans (Mv.of gd)
            have R11 := R10.grown gd (by simp)
            have hRT : w.heap.size < w10.heap.size := R10.1
            obtain ⟨T, hT⟩ : ∃ T, w10.heap.size = T := ⟨_, rfl⟩
            rw [hT] at rT hRT
            have y0 := A11.s0
            have hST : S < T := by omega
            have hne1 : ¬ w.heap.size = T := by omega
            have hne2 : ¬ T = w.heap.size := by omega
            have hwT : w.heap.size ≤ T := by omega
            obtain ⟨d, hd⟩ : ∃ d, pk (l.drop k') 0 = d := ⟨_, rfl⟩
            have hp := tk_peek0 A11
            rw [hd] at hp Hn5
            have Hd := Lib.hid hd
            clear hd A10 R10 M10 gd
            have setT : ∀ (W : World) (u : Value), Mv P w W → Mv P w (W.setCell ⟨T, 0, none⟩ u) := fun W u hm => grown_new hm hwT _
            have asetT : ∀ (W : World) (u : Value), At W B S P A n cap l k' → At (W.setCell ⟨T, 0, none⟩ u) B S P A n cap l k' := fun W u ha => ha.grown (grownBy_set _ _ _) (by intro g hg; simp at hg; omega)
            by_cases h40 : d = 40
            · have t40 := eq_t h40
              have hn6 := Hn5.out
              rw [if_pos h40] at hn6
              have hk1 : k' < n := by
                have := pk_pos (l := l.drop k') (m := 0) (by rw [Hd.out]; omega)
                rw [List.length_drop] at this; omega
              have Hn6 := Lib.hid hn6
              clear hn6 Hn5 h40
              go_wp2_with fail
              refine hp.mono ?_
              rintro e13 w13 ⟨rfl, g13⟩
              have A13 := A11.mv g13
              have M13 := M11.trans (Mv.of g13)
              have R13 := R11.grown g13 (by simp)
              have T13 := rT.grown g13 (by simp)
              obtain ⟨x0, z0⟩ := R13.2 0 _ rfl
              obtain ⟨x1, z1⟩ := R13.2 1 _ rfl
              obtain ⟨x2, z2⟩ := R13.2 2 _ rfl
              obtain ⟨p0, q0⟩ := T13.2 0 _ rfl
              obtain ⟨p1, q1⟩ := T13.2 1 _ rfl
              obtain ⟨p2, q2⟩ := T13.2 2 _ rfl
              have A14 := asetT _ (.int .i64 3) A13
              have M14 := setT _ (.int .i64 3) M13
              have R14 := R13.grown (grownBy_set w13 ⟨T, 0, none⟩ (.int .i64 3)) (by simp; exact hne1)
              have y1 := A14.s0
              have y2 := A14.p0
              have y3 := A14.p1
              have y4 := A14.fz
              have A15 := A14.store (k' := k' + 1) (by omega)
              have M15 := M14.trans (Mv.store _ P (.int .i64 ((k' + 1 : Nat) : Int)))
              have R15 := R14.grown (Mv.store _ P (.int .i64 ((k' + 1 : Nat) : Int))) (by simp; omega)
              have hneP1 : ¬ P = T := by omega
              have hneP2 : ¬ P = w.heap.size := by omega
              have hneP3 : ¬ T = P := by omega
              have hneP4 : ¬ w.heap.size = P := by omega
              push_cast at A15 M15 R15 y3
              have hfin := ((R15.store 0 (.int .i64 3)).store 1 (.string (bytesOf tx))).store 2 (.int .i64 0)
              have A19 := aset _ 2 (k' + 1) (.int .i64 0) (aset _ 1 (k' + 1) (.string (bytesOf tx)) (aset _ 0 (k' + 1) (.int .i64 3) A15))
              have M19 := hset _ 2 (.int .i64 0) (hset _ 1 (.string (bytesOf tx)) (hset _ 0 (.int .i64 3) M15))
              clear hset aset setT asetT A11 M11 R11 rT A13 M13 R13 T13 A14 M14 R14 A15 M15 R15
              go_wp2_with fail
              refine bodyPost_ret (results_tok rfl _ _ _ _ _ _ rfl hfin) rfl ?_
              exact ⟨by rw [Hn6.out]; rfl, M19, k' + 1, by omega, by rw [Hn6.out, List.tail_drop], A19⟩
            · have t40 := eq_f h40
              have hn6 := Hn5.out
              rw [if_neg h40] at hn6
              have Hn6 := Lib.hid hn6
              clear hn6 Hn5 h40
              go_wp2_with fail
              refine hp.mono ?_
              rintro e13 w13 ⟨rfl, g13⟩
              have A13 := A11.mv g13
              have M13 := M11.trans (Mv.of g13)
              have R13 := R11.grown g13 (by simp)
              have T13 := rT.grown g13 (by simp)
              obtain ⟨x0, z0⟩ := R13.2 0 _ rfl
              obtain ⟨x1, z1⟩ := R13.2 1 _ rfl
              obtain ⟨x2, z2⟩ := R13.2 2 _ rfl
              obtain ⟨p0, q0⟩ := T13.2 0 _ rfl
              obtain ⟨p1, q1⟩ := T13.2 1 _ rfl
              obtain ⟨p2, q2⟩ := T13.2 2 _ rfl
              have hfin := ((R13.store 0 (.int .i64 2)).store 1 (.string (bytesOf tx))).store 2 (.int .i64 0)
              have A19 := aset _ 2 k' (.int .i64 0) (aset _ 1 k' (.string (bytesOf tx)) (aset _ 0 k' (.int .i64 2) A13))
              have M19 := hset _ 2 (.int .i64 0) (hset _ 1 (.string (bytesOf tx)) (hset _ 0 (.int .i64 2) M13))
              clear hset aset setT asetT A11 M11 R11 rT A13 M13 R13 T13
              go_wp2_with fail
              refine bodyPost_ret (results_tok rfl _ _ _ _ _ _ rfl hfin) rfl ?_
              exact ⟨by rw [Hn6.out]; rfl, M19, k', hkk, by rw [Hn6.out], A19⟩
end Go.Proofs.YtfhdihdafmahgaaGreatDoor
