/- Layer 1's reference: Stop and Add are walked. -/
import Derived.Test.YthkagpefgkpgeaaGreatDoorB14
import Derived.Test.YthkagpefgkpgeaaGreatDoorB12
import Derived.Test.YthkagpefgkpgeaaGreatDoorB05
import Derived.Test.YthkagpefgkpgeaaGreatDoorB08
import Derived.Test.YthkagpefgkpgeaaGreatDoorB07
import Derived.Test.YthkagpefgkpgeaaGreatDoorB01
/- Layer 3, the document: a text in quotes, and characters below 128 as a text, are walked. -/
set_option linter.unusedVariables false
set_option linter.unusedSimpArgs false
namespace Go.Proofs.YthkagpefgkpgeaaGreatDoor
open Go.RowKit Rn Tk
theorem below_set {w w' : World} (h : Below w.heap.size w w') (j : Nat) (u : Value) : Below w.heap.size w (w'.setCell ⟨w.heap.size, j, none⟩ u) := grown_below (grown_new (below_grown h) (Nat.le_refl _) u)
theorem RL.set {w w' : World} {B n cap : Nat} {A : Option Addr} {l : List Int} (h : RL w B A n cap l) (hb : Below w.heap.size w w') (j : Nat) (u : Value) : RL (w'.setCell ⟨w.heap.size, j, none⟩ u) B A n cap l := h.mv (below_set hb j u)
theorem row_below {w w' : World} {g : Nat} {xs : List Value} (h : RowAt w g xs) (hb : Below w.heap.size w w') : RowAt w' g xs := h.grown (below_grown hb) (by simp)
set_option maxRecDepth 100000 in
set_option maxHeartbeats 2000000 in
theorem rt_quoted {w : World} {B n cap : Nat} {A : Option Addr} {l : List Int} (h : RL w B A n cap l) (m : Nat) (i0 : Int) (hi0 : i0 = m) (hm : m < n) (hne : pk (l.drop m) 0 ≠ 10) :
    Calls Tryz.prog 27 #[.slice A n cap, .int .i64 i0] w fun e w' => (∃ k' : Nat, m < k' ∧ k' ≤ n ∧ l.drop k' = (quoteT (pk (l.drop m) 0) (l.drop (m + 1))).2.2 ∧ e = .returned (.tuple #[tokV ⟨if (quoteT (pk (l.drop m) 0) (l.drop (m + 1))).2.1 = true then 7 else 6, writeP (quoteT (pk (l.drop m) 0) (l.drop (m + 1))).1, 0⟩, .int .i64 (k' : Int)])) ∧ Below w.heap.size w w' := by
  have hlen := h.len
  have hn := h.hn
  have hqi := quoteT_is (pk (l.drop m) 0) (l.drop (m + 1)) (h.ch.drop _)
  obtain ⟨wA, hwA⟩ : ∃ wA, w.alloc (.cells #[.int .i64 0, .string ⟨#[]⟩, .int .i64 0] 31) = wA := ⟨_, rfl⟩
  have bA : Below w.heap.size w wA := by rw [← hwA]; exact grown_below (World.grownBy_alloc _ _ _)
  have rA : RowAt wA w.heap.size [.int .i64 0, .string ⟨#[]⟩, .int .i64 0] := by rw [← hwA]; exact RowAt.new _ _ _
  have hRA := h.mv bA
  obtain ⟨b0, off0, hA0, hcell0⟩ := hRA.cell hm
  rw [pk0] at hcell0
  obtain ⟨e, he⟩ : ∃ e, pk (l.drop m) 0 = e := ⟨_, rfl⟩
  rw [he] at hqi hcell0 hne ⊢
  obtain ⟨Q, hQ⟩ : ∃ Q, quoteT e (l.drop (m + 1)) = Q := ⟨_, rfl⟩
  rw [hQ] at hqi ⊢
  obtain ⟨Kq, hKq⟩ : ∃ K : Nat, (if Q.2.1 = true then 7 else 6) = K := ⟨_, rfl⟩
  rw [hKq]
  have HKq := Lib.hid hKq
  have HQ := Lib.hid hQ
  have Hqi := Lib.hid hqi
  have Hi0 := Lib.hid hi0
  have Hne := Lib.hid hne
  have y1 : (0 : Int) ≤ i0 := by omega
  have y2 : i0 < (n : Int) := by omega
  have y3 : i0.toNat = m := by omega
  clear hKq hQ hqi hi0 hne he
  obtain ⟨j0, hi, hz0, hz1, hz2⟩ := info_got int_info
  subst hA0
  go_enter Tryz.func27, Tryz.ntmps27
  go_upto_block 0 with (fail)
  have hrs := rA.1
  go_cut [1, 7] (fun z x wx => ∃ (j : Nat) (outs : List Int) (Ao : Option Addr) (co : Nat), m < j ∧ j ≤ n + 1 ∧ outs.length ≤ 1000000 ∧ Hid (Q = (outs, false, l.drop (min (j + 1) n))) ∧ OutR wx (w.heap.size + 1) Ao co outs ∧ RowAt wx w.heap.size [.int .i64 0, .string ⟨#[]⟩, .int .i64 0] ∧ Below w.heap.size w wx ∧ z = .int .i64 (j : Int) ∧ x = .slice Ao outs.length co)
  case first =>
    go_wp2_with fail
    go_loopw [1, 7] (fun z x wr => ∃ (j : Nat) (outs : List Int) (Ao : Option Addr) (co : Nat), m < j ∧ j ≤ n + 1 ∧ outs.length + m + 1 ≤ j ∧ Hid (Q = (outs ++ (quoteT e (l.drop j)).1, (quoteT e (l.drop j)).2)) ∧ OutR wr (w.heap.size + 1) Ao co outs ∧ RowAt wr w.heap.size [.int .i64 0, .string ⟨#[]⟩, .int .i64 0] ∧ Below w.heap.size w wr ∧ z = .int .i64 (j : Int) ∧ x = .slice Ao outs.length co) (fun z _ _ => n + 1 - (intOf z).toNat)
    case atStart =>
      have := Hi0.out
      exact ⟨m + 1, [], none, 0, by omega, by omega, by simp, (by show _ = _; rw [← HQ.out]; rfl), World.ownsRow_nil _ _ _ _, rA, bA, congrArg (Value.int IntKind.i64) (by omega), rfl⟩
    case round =>
      obtain ⟨j, outs, Ao, co, hmj, hjn, hol, hrun, hown, hrow, hb, rfl, rfl⟩ := hrel
      have hR := h.mv hb
      have x1 : (0 : Int) ≤ (j : Int) := by omega
      have hbs := hb.size
      have hrl := hrow.1
      by_cases hjl : j < n
      · obtain ⟨bb, off, hA, hcell⟩ := hR.cell hjl
        injection hA with hA
        injection hA with hA1 hA2
        subst hA1
        subst hA2
        rw [pk0] at hcell
        have hqa := quoteT_at (e := e) (drop_ne (l := l) (k := j) (by omega))
        have hcis := pk_is (l := l) h.ch (m := j) (by omega)
        have hcr := isB_range hcis
        rw [pk0] at hcr hcis
        obtain ⟨c, hc⟩ : ∃ c, pk (l.drop j) 0 = c := ⟨_, rfl⟩
        rw [hc] at hcell hqa hcr hcis
        have x2 : (j : Int) < (n : Int) := by omega
        have x4 : decide ((j : Int) < (n : Int)) = true := by simp; omega
        by_cases hce : c = e
        · have hE : Hid (Q = (outs, false, l.drop (min (j + 1) n))) := by
            show _ = _
            rw [hrun.out, hqa, if_neg (by rw [hce]; exact Hne.out), if_pos hce, List.tail_drop, List.append_nil, show min (j + 1) n = j + 1 by omega]
          have te : (c != e) = false := by simp [hce]
          clear hce hc hqa hrun
          go_wp2_with fail
          go_meet
          exact ⟨j, outs, Ao, co, hmj, hjn, by omega, hE, hown, hrow, hb, rfl, rfl⟩
        · have te : (c != e) = true := by simp [hce]
          by_cases h10 : c = 10
          · rw [if_pos h10] at hqa
            have hE1 : Q = (outs, true, l.drop j) := by rw [hrun.out, hqa, List.append_nil]
            have t10 := eq_t h10
            have HE := Lib.hid hE1
            have hon : Chars outs := by have := Hqi.out; rw [hE1] at this; exact this
            have htx := rt_text hown hon (by omega)
            clear hE1 hon h10 hce hc hqa hrun hcis hcr
            go_wp2_with fail
            refine htx.mono ?_
            rintro e2 w2 ⟨rfl, hb2⟩
            have R2 := row_below hrow hb2
            have B2 := hb.trans (hb2.mono hbs)
            obtain ⟨x0, z0⟩ := R2.2 0 _ rfl
            obtain ⟨x1', z1⟩ := R2.2 1 _ rfl
            obtain ⟨x2', z2⟩ := R2.2 2 _ rfl
            have hfin := ((R2.store 0 (.int .i64 7)).store 1 (.string (bytesOf (writeP outs)))).store 2 (.int .i64 0)
            have B9 := below_set (below_set (below_set B2 0 (.int .i64 7)) 1 (.string (bytesOf (writeP outs)))) 2 (.int .i64 0)
            clear htx hown hrow R2 B2 hb2 hb
            go_wp2_with fail
            (try simp only [Exit.inBlock, Exit.then])
            refine bodyPost_ret (results_tok2 rfl _ _ _ _ _ _ rfl hfin) rfl ?_
            refine ⟨⟨j, by omega, by omega, by rw [HE.out], ?_⟩, B9⟩
            rw [← HKq.out, HE.out]; rfl
          · rw [if_neg h10, if_neg hce] at hqa
            have t10 := eq_f h10
            have hes := rt_escape hR j j rfl (by omega)
            cases hesc : esc (l.drop j) with
            | true =>
              have h92 : c = 92 ∧ j + 1 < n := by
                unfold esc at hesc
                simp only [decide_eq_true_eq] at hesc
                have := pk_pos (l := l.drop j) (m := 1) (by omega)
                rw [List.length_drop] at this
                exact ⟨by rw [← hc]; exact hesc.1, by omega⟩
              obtain ⟨_, hj1⟩ := h92
              have hme := rt_meant hR j j rfl hj1
              rw [hesc, if_pos rfl, List.tail_drop] at hqa
              rw [hesc] at hes
              rw [hqa] at hrun
              generalize meantT (l.drop (j + 1)) = M at *
              clear hesc hqa h10 hce hc
              go_wp2_with (first
                | (go_at_call 29; with_reducible refine hes.mono ?_; rintro e2 w' ⟨rfl, rfl⟩)
                | (go_at_call 49; with_reducible refine hme.mono ?_; rintro e2 w' ⟨⟨k2, hk2, hk2n, hd2, rfl⟩, rfl⟩)
                | (at_builtin; refine wpList_append_own _ rfl _ _ 42 rfl (w.heap.size + 1) 3 j0 (.int .i64 0) 1 8 Tryz.underlying42 hi hz0 hz1 hz2 rfl (by decide) (.slice Ao outs.length co) outs.length (outs.map n64) rfl (hown.alloc _) ⟨wr.heap.size, 0, none⟩ 1 1 [.int .i64 M.1] rfl rfl (cell_new1 _ _ _) (by intro u hu; simp at hu; subst hu; rfl) (by unfold maxLen; omega) (by omega) (by simp; omega) ?_; intro v' w2 hown2 hg2 _))
              have hb2 := below_push hb (own_less hown (by omega)) hg2
              have hrow2 := (hrow.grown (World.grownBy_alloc wr (.cells #[.int .i64 M.1] 3) none) (by simp)).grown hg2 (by intro he; have := (hown.lt _ he.symm).1; omega)
              obtain ⟨A2, c2, rfl, _, _⟩ := own_form hown2
              clear hes hme hrow hown hb hR hg2
              go_wp2_with fail
              go_roundw
              case rel => exact ⟨k2, outs ++ [M.1], A2, c2, by omega, by omega, by simp; omega, (by show _ = _; rw [hrun.out, hd2]; simp), by simpa [OutR, n64] using hown2, hrow2, hb2, rfl, by simp⟩
              case measure => simp [intOf]; omega
            | false =>
              rw [hesc, if_neg (by simp)] at hqa
              rw [hesc] at hes
              by_cases h92 : c = 92
              · rw [if_pos h92, List.tail_drop, List.tail_drop] at hqa
                rw [hqa] at hrun
                have t92 := eq_t h92
                have hr2 : Hid (Q = (outs ++ (quoteT e (l.drop (j + 2))).1, (quoteT e (l.drop (j + 2))).2)) := hrun
                clear hesc hqa h10 hce hc h92 hrun
                go_wp2_with (go_at_call 29; with_reducible refine hes.mono ?_; rintro e2 w' ⟨rfl, rfl⟩)
                go_roundw
                case rel => exact ⟨j + 2, outs, Ao, co, by omega, by omega, by omega, hr2, hown, hrow, hb, rfl, rfl⟩
                case measure => simp [intOf]; omega
              · rw [if_neg h92, List.tail_drop] at hqa
                rw [hqa] at hrun
                have t92 := eq_f h92
                clear hesc hqa h10 hce hc h92
                go_wp2_with (first
                  | (go_at_call 29; with_reducible refine hes.mono ?_; rintro e2 w' ⟨rfl, rfl⟩)
                  | (at_builtin; refine wpList_append_own _ rfl _ _ 42 rfl (w.heap.size + 1) 3 j0 (.int .i64 0) 1 8 Tryz.underlying42 hi hz0 hz1 hz2 rfl (by decide) (.slice Ao outs.length co) outs.length (outs.map n64) rfl (hown.alloc _) ⟨wr.heap.size, 0, none⟩ 1 1 [.int .i64 c] rfl rfl (cell_new1 _ _ _) (by intro u hu; simp at hu; subst hu; rfl) (by unfold maxLen; omega) (by omega) (by simp; omega) ?_; intro v' w2 hown2 hg2 _))
                have hb2 := below_push hb (own_less hown (by omega)) hg2
                have hrow2 := (hrow.grown (World.grownBy_alloc wr (.cells #[.int .i64 c] 3) none) (by simp)).grown hg2 (by intro he; have := (hown.lt _ he.symm).1; omega)
                obtain ⟨A2, c2, rfl, _, _⟩ := own_form hown2
                clear hes hrow hown hb hR hg2
                go_wp2_with fail
                go_roundw
                case rel => exact ⟨j + 1, outs ++ [c], A2, c2, by omega, by omega, by simp; omega, (by show _ = _; rw [hrun.out]; simp), by simpa [OutR, n64] using hown2, hrow2, hb2, rfl, by simp⟩
                case measure => simp [intOf]; omega
      · have x4 : decide ((j : Int) < (n : Int)) = false := by simp; omega
        have hE : Hid (Q = (outs, false, l.drop (min (j + 1) n))) := by
          show _ = _
          rw [hrun.out, List.drop_eq_nil_of_le (by omega : l.length ≤ j), quoteT_nil, List.append_nil, List.drop_eq_nil_of_le (by omega : l.length ≤ min (j + 1) n)]
        clear hrun
        go_wp2_with fail
        go_meet
        exact ⟨j, outs, Ao, co, hmj, hjn, by omega, hE, hown, hrow, hb, rfl, rfl⟩
  case rest =>
    obtain ⟨j, outs, Ao, co, hmj, hjn, hol, HE, hown, hrow, hb, rfl, rfl⟩ := hcut
    clear bA rA hRA hcell0
    have hbs := hb.size
    have hrl := hrow.1
    obtain ⟨j', hj'⟩ : ∃ j', min (j + 1) n = j' := ⟨_, rfl⟩
    rw [hj'] at HE
    have hmin : min ((j : Int) + 1) (n : Int) = (j' : Int) := by omega
    have hj'n : j' ≤ n := by omega
    have hmj' : m < j' := by omega
    have hon : Chars outs := by have := Hqi.out; rw [HE.out] at this; exact this
    have htx := rt_text hown hon (by omega)
    clear hj' hon
    go_wp2_with fail
    refine htx.mono ?_
    rintro e2 w2 ⟨rfl, hb2⟩
    have R2 := row_below hrow hb2
    have B2 := hb.trans (hb2.mono hbs)
    obtain ⟨x0, z0⟩ := R2.2 0 _ rfl
    obtain ⟨x1', z1⟩ := R2.2 1 _ rfl
    obtain ⟨x2', z2⟩ := R2.2 2 _ rfl
    have hfin := ((R2.store 0 (.int .i64 6)).store 1 (.string (bytesOf (writeP outs)))).store 2 (.int .i64 0)
    have B9 := below_set (below_set (below_set B2 0 (.int .i64 6)) 1 (.string (bytesOf (writeP outs)))) 2 (.int .i64 0)
    clear htx hown hrow R2 B2 hb2 hb
    go_wp2_with fail
    refine bodyPost_ret (results_tok2 rfl _ _ _ _ _ _ rfl hfin) rfl ?_
    refine ⟨⟨j', hmj', hj'n, by rw [HE.out], ?_⟩, B9⟩
    rw [← HKq.out, HE.out]; rfl
end Go.Proofs.YthkagpefgkpgeaaGreatDoor
/- Layer 3, the document: characters below 128 as a text are walked. -/
set_option linter.unusedVariables false
set_option linter.unusedSimpArgs false
namespace Go.Proofs.YthkagpefgkpgeaaGreatDoor
open Go.RowKit Rn Tk Np
theorem asciiT_step {l : List Int} {j : Nat} (hj : j < l.length) : asciiT (l.drop j) = if pk (l.drop j) 0 < 128 then Tk.byteOf (pk (l.drop j) 0) :: asciiT (l.drop (j + 1)) else [] := by
  unfold asciiT
  rw [take_while_step hj]
  by_cases h : pk (l.drop j) 0 < 128
  · rw [if_pos (by simpa using h), if_pos h]; rfl
  · rw [if_neg (by simpa using h), if_neg h]; rfl
theorem asciiT_nil : asciiT [] = [] := rfl
theorem byteOf_nat {c : Int} (h : 0 ≤ c ∧ c < 128) : ((Tk.byteOf c).toNat : Int) = c := by
  unfold Tk.byteOf
  rw [UInt8.toNat_ofNat']; omega
theorem conv_byte1 (w : World) (b : UInt8) : (convert 22 9 (.slice (some ⟨w.heap.size, 0, none⟩) 1 1)).run Tryz.prog (w.alloc (.cells #[.int .u8 (b.toNat : Int)] 5)) = .ok (.string (bytesOf [b])) (w.alloc (.cells #[.int .u8 (b.toNat : Int)] 5)) := by
  have h := (RowAt.new w 5 #[.int .u8 (b.toNat : Int)]).reads (B := w.heap.size + 1) (by omega)
  exact run_str (P := Tryz.prog) (src := 22) (dst := 9) Tryz.underlying22 Tryz.underlying5 Tryz.underlying9 1 (bs := [b]) h
theorem u8_wrap (b : UInt8) : IntKind.u8.wrap (b.toNat : Int) = b.toNat := by
  have := b.toNat_lt
  unfold IntKind.wrap; simp [IntKind.signed, IntKind.bits]; omega
set_option maxRecDepth 100000 in
set_option maxHeartbeats 2000000 in
theorem rt_ascii {w : World} {B n cap : Nat} {A : Option Addr} {l : List Int} (h : RL w B A n cap l) (m : Nat) (i0 : Int) (hi0 : i0 = m) (hm : m ≤ n) :
    Calls Tryz.prog 31 #[.slice A n cap, .int .i64 i0] w fun e w' => e = .returned (.string (bytesOf (asciiT (l.drop m)))) ∧ Below w.heap.size w w' := by
  have hlen := h.len
  have hn := h.hn
  obtain ⟨T, hT⟩ : ∃ T, asciiT (l.drop m) = T := ⟨_, rfl⟩
  rw [hT]
  have HT := Lib.hid hT
  have Hi0 := Lib.hid hi0
  clear hT hi0
  go_enter Tryz.func31, Tryz.ntmps31
  go_wp2_with fail
  go_loopw [1, 5] (fun z x wr => ∃ (j : Nat) (S : List UInt8), m ≤ j ∧ j ≤ n ∧ S.length + m ≤ j ∧ Hid (S ++ asciiT (l.drop j) = T) ∧ Below w.heap.size w wr ∧ z = .int .i64 (j : Int) ∧ x = .string (bytesOf S)) (fun z _ _ => n - (intOf z).toNat)
  case atStart =>
    have := Hi0.out
    exact ⟨m, [], Nat.le_refl _, hm, by simp, (by show _ = _; rw [HT.out]; rfl), Below.refl _ _, congrArg (Value.int IntKind.i64) (by omega), rfl⟩
  case round =>
    obtain ⟨j, S, hmj, hjn, hSl, hrun, hb, rfl, rfl⟩ := hrel
    have hR := h.mv hb
    have x1 : (0 : Int) ≤ (j : Int) := by omega
    have hsz := bytesOf_size S
    by_cases hjl : j < n
    · obtain ⟨bb, off, hA, hcell⟩ := hR.cell hjl
      subst hA
      rw [pk0] at hcell
      have hst := asciiT_step (l := l) (j := j) (by omega)
      have hcr := isB_range (pk_is (l := l) h.ch (m := j) (by omega))
      rw [pk0] at hcr
      generalize pk (l.drop j) 0 = c at *
      have x2 : (j : Int) < (n : Int) := by omega
      have x4 : decide ((j : Int) < (n : Int)) = true := by simp; omega
      by_cases hc : c < 128
      · obtain ⟨b, hbe⟩ : ∃ b, Tk.byteOf c = b := ⟨_, rfl⟩
        have hbn := byteOf_nat (c := c) (by omega)
        rw [if_pos hc, hbe] at hst
        rw [hbe] at hbn
        subst hbn
        have hcv := conv_byte1 wr b
        have hwr := u8_wrap b
        have hs1 := bytesOf_size [b]
        have d1 : decide ((b.toNat : Int) < 128) = true := by simpa using hc
        have hr2 : Hid ((S ++ [b]) ++ asciiT (l.drop (j + 1)) = T) := by show _ = _; rw [← hrun.out, hst]; simp
        have hb2 : Below w.heap.size w (wr.alloc (.cells #[.int .u8 (b.toNat : Int)] 5)) := hb.alloc hb.size _
        clear hst hbe hrun hc
        go_wp2_with fail
        go_roundw
        case rel => exact ⟨j + 1, S ++ [b], by omega, by omega, by simp; omega, hr2, hb2, rfl, by rw [bytesOf_append]⟩
        case measure => simp [intOf]; omega
      · rw [if_neg hc] at hst
        have d1 : decide (c < 128) = false := by simpa using hc
        have hS : Hid (S = T) := by show _ = _; rw [← hrun.out, hst]; simp
        clear hst hrun hc
        go_wp2_with fail
        go_ret
        exact ⟨by rw [← hS.out]; rfl, hb⟩
    · have x4 : decide ((j : Int) < (n : Int)) = false := by simp; omega
      have hS : Hid (S = T) := by show _ = _; rw [← hrun.out, List.drop_eq_nil_of_le (by omega : l.length ≤ j), asciiT_nil]; simp
      clear hrun
      go_wp2_with fail
      go_ret
      exact ⟨by rw [← hS.out]; rfl, hb⟩
end Go.Proofs.YthkagpefgkpgeaaGreatDoor
/- Layer 1: the document's Parse: what its loop over the bytes gathers: plain laws. -/
set_option linter.unusedVariables false
set_option linter.unusedSimpArgs false
namespace Go.Proofs.YthkagpefgkpgeaaGreatDoor
open Go.RowKit Fx
namespace Fx
/-- what the document's loop keeps -/
structure St where
  d : List UInt8
  point : Nat
  behind : Bool
  exp : Nat
  expDigits : Nat
  expNeg : Bool
  inExp : Bool
def St.zero : St := ⟨[], 0, false, 0, 0, false, false⟩
def isEb (c : UInt8) : Bool := decide (c.toNat = 101 ∨ c.toNat = 69)
def St.step (s : St) (c : UInt8) : St :=
  if isEb c = true then { s with inExp := true }
  else if s.inExp = true ∧ c.toNat = 45 then { s with expNeg := true }
  else if c.toNat = 46 then { s with behind := true }
  else if isD c = true ∧ s.inExp = true then { s with expDigits := s.expDigits + 1, exp := if s.exp < 999999 then s.exp * 10 + dv c else s.exp }
  else if isD c = true then { s with d := s.d ++ [c], point := if s.behind = true then s.point else s.point + 1 }
  else s
def St.run (l : List UInt8) : St := l.foldl St.step St.zero
/-- the exponent at the loop's end -/
def St.power (s : St) : Int :=
  let e : Nat := if 999999 < s.exp ∨ 6 < s.expDigits then 999999 else s.exp
  if s.expNeg = true then -(e : Int) else (e : Int)
end Fx
theorem isEb_no {c : UInt8} (h : ¬ (c.toNat = 101 ∨ c.toNat = 69)) : isEb c = false := by unfold isEb; simpa using h
theorem step_digit_int {s : St} {c : UInt8} (h : isD c = true) (h2 : s.inExp = false) : s.step c = { s with d := s.d ++ [c], point := if s.behind = true then s.point else s.point + 1 } := by
  have hr := isD_range h
  unfold St.step
  rw [isEb_no (by omega), if_neg (by simp), h2, if_neg (by simp), if_neg (by omega), if_neg (by simp), if_pos h]
theorem step_digit_exp {s : St} {c : UInt8} (h : isD c = true) (h2 : s.inExp = true) : s.step c = { s with expDigits := s.expDigits + 1, exp := if s.exp < 999999 then s.exp * 10 + dv c else s.exp } := by
  have hr := isD_range h
  unfold St.step
  rw [isEb_no (by omega), if_neg (by simp), if_neg (by omega), if_neg (by omega), if_pos ⟨h, h2⟩]
theorem run_int (l : List UInt8) (h : ∀ b ∈ l, isD b = true) : ∀ s : St, s.inExp = false → l.foldl St.step s = { s with d := s.d ++ l, point := if s.behind = true then s.point else s.point + l.length } := by
  induction l with
  | nil => intro s _; cases s; simp
  | cons b l ih =>
    intro s hs
    have he := ih (fun c hc => h c (by simp [hc])) (s.step b) (by rw [step_digit_int (h b (by simp)) hs]; exact hs)
    rw [List.foldl_cons, he, step_digit_int (h b (by simp)) hs]
    simp only [List.append_assoc, List.cons_append, List.nil_append, List.length_cons, St.mk.injEq, and_true, true_and]
    split <;> omega
theorem run_exp (l : List UInt8) (h : ∀ b ∈ l, isD b = true) : ∀ s : St, s.inExp = true → ∃ e, l.foldl St.step s = { s with expDigits := s.expDigits + l.length, exp := e } ∧ (s.exp * 10 ^ l.length + val l < 10 ^ 6 → e = s.exp * 10 ^ l.length + val l) := by
  induction l with
  | nil => intro s _; exact ⟨s.exp, by cases s; rfl, fun _ => by simp [val]⟩
  | cons b l ih =>
    intro s hs
    have hr := isD_range (h b (by simp))
    obtain ⟨e, he, h2⟩ := ih (fun c hc => h c (by simp [hc])) (s.step b) (by rw [step_digit_exp (h b (by simp)) hs]; exact hs)
    refine ⟨e, ?_, ?_⟩
    · rw [List.foldl_cons, he, step_digit_exp (h b (by simp)) hs]
      simp; omega
    · intro hlt
      rw [step_digit_exp (h b (by simp)) hs] at h2
      simp only [] at h2
      rw [val_cons, List.length_cons, Nat.pow_succ] at hlt ⊢
      have h1 : 1 ≤ 10 ^ l.length := Nat.one_le_pow _ _ (by omega)
      have hexp : s.exp * (10 ^ l.length * 10) = s.exp * 10 * 10 ^ l.length := by rw [Nat.mul_comm (10 ^ l.length) 10, Nat.mul_assoc]
      have hle : s.exp * 10 ≤ s.exp * 10 * 10 ^ l.length := Nat.le_mul_of_pos_right _ h1
      rw [if_pos (by omega)] at h2
      rw [Nat.add_mul] at h2
      rw [hexp]
      rw [h2 (by omega)]
      omega
theorem step_plain {s : St} {c : UInt8} (h : c.toNat = 43 ∨ (c.toNat = 45 ∧ s.inExp = false)) : s.step c = s := by
  have hd : isD c = false := by unfold isD; simp; omega
  unfold St.step
  rw [isEb_no (by omega), if_neg (by simp)]
  rcases h with h | ⟨h, h2⟩
  · rw [if_neg (by omega), if_neg (by omega), hd, if_neg (by simp), if_neg (by simp)]
  · rw [h2, if_neg (by simp), if_neg (by omega), hd, if_neg (by simp), if_neg (by simp)]
theorem step_minus {s : St} {c : UInt8} (h : c.toNat = 45) (h2 : s.inExp = true) : s.step c = { s with expNeg := true } := by
  unfold St.step
  rw [isEb_no (by omega), if_neg (by simp), if_pos ⟨h2, h⟩]
theorem run_dec {l sg I P F E S2 X : List UInt8} (D : Dec l sg I P F E S2 X) : (St.run l).d = I ++ F ∧ (St.run l).point = I.length ∧ (St.run l).power = powP (expP l) := by
  unfold St.run
  rw [congrArg (List.foldl St.step St.zero) D.all]
  simp only [List.foldl_append]
  have h1 : List.foldl St.step St.zero sg = St.zero := by
    rcases D.hsg with h | ⟨b, h, hb⟩
    · rw [h]; rfl
    · rw [h]
      simp only [List.foldl_cons, List.foldl_nil]
      exact step_plain (by rcases hb with hb | hb; exact .inl hb; exact .inr ⟨hb, rfl⟩)
  rw [h1, run_int I D.hI St.zero rfl]
  simp only [St.zero, List.nil_append, Nat.zero_add, Bool.false_eq_true, if_false]
  obtain ⟨bh, hPF⟩ : ∃ bh, List.foldl St.step (List.foldl St.step ⟨I, I.length, false, 0, 0, false, false⟩ P) F = ⟨I ++ F, I.length, bh, 0, 0, false, false⟩ := by
    rcases D.hP with ⟨hP, hF⟩ | ⟨hP, hF⟩
    · rw [hP, hF]; exact ⟨false, by simp⟩
    · rw [hP]
      simp only [List.foldl_cons, List.foldl_nil]
      have : St.step ⟨I, I.length, false, 0, 0, false, false⟩ 46 = ⟨I, I.length, true, 0, 0, false, false⟩ := rfl
      rw [this, run_int F D.hF _ rfl]
      exact ⟨true, by simp⟩
  rw [hPF]
  rcases D.hE with ⟨hE, hS, hX⟩ | ⟨e, hE, he, hX⟩
  · have : expP l = [] := by rw [← D.lE, hS, hX]; rfl
    rw [hE, hS, hX, this]
    exact ⟨rfl, rfl, rfl⟩
  · rw [hE]
    simp only [List.foldl_cons, List.foldl_nil]
    have h2 : St.step ⟨I ++ F, I.length, bh, 0, 0, false, false⟩ e = ⟨I ++ F, I.length, bh, 0, 0, false, true⟩ := by
      unfold St.step
      rw [if_pos (by unfold isEb; simpa using he)]
    rw [h2]
    have hXx : X = (expP l).drop (sgn (expP l)) := D.lX
    have hne : expP l ≠ [] := by rw [← D.lE]; intro h; exact hX (List.append_eq_nil_iff.1 h).2
    have hlen : X.length = (expP l).length - sgn (expP l) := by rw [hXx, List.length_drop]
    obtain ⟨ng, hS, hsg⟩ : ∃ ng, List.foldl St.step ⟨I ++ F, I.length, bh, 0, 0, false, true⟩ S2 = ⟨I ++ F, I.length, bh, 0, 0, ng, true⟩ ∧ (ng = true ↔ (expP l)[0]? = some 45) := by
      rcases D.hS with h | ⟨b, h, hb⟩
      · rw [h]
        refine ⟨false, rfl, ?_⟩
        constructor
        · intro h; cases h
        · intro h0
          exfalso
          rw [← D.lE, h, List.nil_append] at h0
          have := isD_range (D.hX 45 (List.mem_of_getElem? h0))
          revert this; decide
      · rw [h]
        simp only [List.foldl_cons, List.foldl_nil]
        rcases hb with hb | hb
        · refine ⟨false, step_plain (.inl hb), ?_⟩
          constructor
          · intro h; cases h
          · intro h0
            exfalso
            rw [← D.lE, h] at h0
            simp at h0
            subst h0; revert hb; decide
        · refine ⟨true, step_minus hb rfl, ?_⟩
          have : b = 45 := UInt8.toNat_inj.1 hb
          rw [← D.lE, h, this]
          simp
    rw [hS]
    obtain ⟨ex, hex, hval⟩ := run_exp X D.hX ⟨I ++ F, I.length, bh, 0, 0, ng, true⟩ rfl
    rw [hex]
    refine ⟨rfl, rfl, ?_⟩
    unfold St.power powP
    simp only [Nat.zero_add, Nat.zero_mul] at hval ⊢
    rw [if_neg hne, ← hlen, ← hXx]
    have key : (if 999999 < ex ∨ 6 < X.length then 999999 else ex) = if X.length ≤ 6 then val X else 999999 := by
      by_cases h6 : X.length ≤ 6
      · have hv := val_lt X D.hX
        have hp : 10 ^ X.length ≤ 10 ^ 6 := Nat.pow_le_pow_right (by omega) h6
        have := hval (by omega)
        rw [if_pos h6, if_neg (by omega), this]
      · rw [if_neg h6, if_pos (by omega)]
    rw [key]
    cases ng with
    | true => rw [if_pos rfl, if_pos (hsg.1 rfl)]
    | false =>
      have hn : ¬ (expP l)[0]? = some 45 := fun h => by have := hsg.2 h; cases this
      rw [if_neg hn, if_neg (by simp)]
theorem St.run_snoc (l : List UInt8) (c : UInt8) : St.run (l ++ [c]) = (St.run l).step c := by simp [St.run]
theorem St.point_le (l : List UInt8) : ∀ s : St, (l.foldl St.step s).point ≤ s.point + l.length ∧ (l.foldl St.step s).expDigits ≤ s.expDigits + l.length ∧ (l.foldl St.step s).d.length ≤ s.d.length + l.length ∧ (s.exp < 10000000 → (l.foldl St.step s).exp < 10000000) := by
  induction l with
  | nil => intro s; simp
  | cons b l ih =>
    intro s
    rw [List.foldl_cons, List.length_cons]
    obtain ⟨h1, h2, h3, h4⟩ := ih (s.step b)
    have : (s.step b).point ≤ s.point + 1 ∧ (s.step b).expDigits ≤ s.expDigits + 1 ∧ (s.step b).d.length ≤ s.d.length + 1 ∧ (s.exp < 10000000 → (s.step b).exp < 10000000) := by
      unfold St.step
      split
      · simp
      · split
        · simp
        · split
          · simp
          · split
            · rename_i hd
              have := isD_range hd.1
              simp only [dv]
              refine ⟨by omega, by omega, by omega, ?_⟩
              intro h; split <;> omega
            · split
              · simp; split <;> omega
              · simp
    exact ⟨by omega, by omega, by omega, fun h => h4 (this.2.2.2 h)⟩
end Go.Proofs.YthkagpefgkpgeaaGreatDoor
/- Layer 1's Stop and Add, of the program and of the reference, are walked. -/
set_option linter.unusedVariables false
set_option linter.unusedSimpArgs false
namespace Go.Proofs.YthkagpefgkpgeaaGreatDoor
open Go.RowKit
namespace Fx
/-- a number, stopped -/
def stopZ (n : Int) : Int := if 1099511627776 < n then 1099511627776 else if n < -1099511627776 then -1099511627776 else n
def addZ (a b : Int) : Int := stopZ (stopZ a + stopZ b)
/-- what a product of two numbers not below nothing is, stopped -/
def mulN (x y : Nat) : Nat := min (x * y / 1000) 1099511627776
def mulZ (a b : Int) : Int := if (stopZ a < 0) = (stopZ b < 0) then mulN (stopZ a).natAbs (stopZ b).natAbs else -(mulN (stopZ a).natAbs (stopZ b).natAbs : Int)
end Fx
open Fx
theorem stopZ_range (n : Int) : -1099511627776 ≤ stopZ n ∧ stopZ n ≤ 1099511627776 := by unfold stopZ; (repeat' split) <;> omega
theorem stopZ_of {n : Int} (h1 : -1099511627776 ≤ n) (h2 : n ≤ 1099511627776) : stopZ n = n := by unfold stopZ; rw [if_neg (by omega), if_neg (by omega)]
theorem stopZ_eq (n : Int) : stopZ n = min (max n (-1099511627776)) 1099511627776 := by unfold stopZ; (repeat' split) <;> omega

theorem abs_form (a : Int) : ∃ (s : Bool) (x : Nat), x ≤ 1099511627776 ∧ (s = true → 0 < x) ∧ stopZ a = (if s then -(x : Int) else x) ∧ x = (stopZ a).natAbs ∧ (s = true ↔ stopZ a < 0) := by
  have h := stopZ_range a
  by_cases hn : stopZ a < 0
  · exact ⟨true, (stopZ a).natAbs, by omega, fun _ => by omega, by simp; omega, rfl, by simp [hn]⟩
  · exact ⟨false, (stopZ a).natAbs, by omega, (fun h => by cases h), by simp; omega, rfl, by simp [hn]⟩
theorem mulZ_form {a b : Int} {sx sy : Bool} {x y : Nat} (hx : x = (stopZ a).natAbs) (hy : y = (stopZ b).natAbs) (h1 : sx = true ↔ stopZ a < 0) (h2 : sy = true ↔ stopZ b < 0) :
    (if sx = sy then (mulN x y : Int) else -(mulN x y : Int)) = mulZ a b := by
  unfold mulZ
  rw [← hx, ← hy]
  have : (sx = sy) = ((stopZ a < 0) = (stopZ b < 0)) := by
    rw [← h1, ← h2]
    cases sx <;> cases sy <;> simp
  simp only [this]
end Go.Proofs.YthkagpefgkpgeaaGreatDoor
set_option linter.unusedVariables false
set_option linter.unusedSimpArgs false
namespace Go.Proofs.YthkagpefgkpgeaaGreatDoor
open Go.RowKit Fx
theorem rfx_stop (n : Int) (w : World) (h1 : -9223372036854775808 ≤ n) (h2 : n ≤ 9223372036854775807) :
    Calls Tryz.prog 52 #[.int .i64 n] w fun e w' => e = .returned (.int .i64 (stopZ n)) ∧ w = w' := by
  go_enter Tryz.func52, Tryz.ntmps52
  go_wp2
  all_goals (go_ret; refine ⟨ret_int ?_, rfl⟩; unfold stopZ; (repeat' split) <;> omega)
end Go.Proofs.YthkagpefgkpgeaaGreatDoor
