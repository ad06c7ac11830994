/- The law RunesParts of layer 2 is walked. -/
import Derived.Test.YtjgjpcoieiobcaaDoorRnLawA
import Derived.Test.YtjgjpcoieiobcaaDoorRnPlain2
import Derived.Test.YtjgjpcoieiobcaaDoorAppend
set_option linter.unusedVariables false
set_option linter.unusedSimpArgs false
namespace Go.Proofs.YtjgjpcoieiobcaaDoor
open Go.RowKit Rn

set_option maxRecDepth 100000 in
set_option maxHeartbeats 2000000 in
theorem walk_RunesParts (xs : List UInt8) (A : Option Addr) (n cap : Nat) (bs : List UInt8) (A' : Option Addr) (m cap' : Nat) (w : World)
    (hr : Reads w w.heap.size 1 A n (xs.map b8)) (hm : n ≤ cap) (hcap : cap ≤ maxLen) (hr' : Reads w w.heap.size 1 A' m (bs.map b8)) (hm' : m ≤ cap') (hcap' : cap' ≤ maxLen) (hT : Tabs w) :
    Calls Tryd.prog 8 #[.slice A n cap, .slice A' m cap'] w fun e w' => e = .returned (.bool true) ∧ Below w.heap.size w w' := by
  have hlen : xs.length = n := by simpa using hr.len
  have hlen' : bs.length = m := by simpa using hr'.len
  have hc1 := hcap
  have hc2 := hcap'
  unfold maxLen at hc1 hc2
  by_cases hn : n ≤ 1000
  · by_cases hn' : m ≤ 1000
    · by_cases hm0 : m = 0
      · have hm0' : ((m : Int) == 0) = true := by simp [hm0]
        have Hm0 := Lib.hid hm0
        clear hm0
        go_enter Tryd.func8, Tryd.ntmps8
        go_wp2_with fail
        refine (law_awake w hT).mono ?_
        rintro e w5 ⟨rfl, hb5⟩
        go_wp2
        go_ret
        exact ⟨rfl, hb5⟩
      · obtain ⟨b, off, u, hA, hbw, hx, hcell⟩ := hr'.at_ (k := 0) (by omega)
        subst hA
        rw [Nat.add_zero] at hcell
        obtain ⟨b0, bt, rfl⟩ := List.exists_cons_of_length_pos (l := bs) (by omega)
        obtain rfl : u = b8 b0 := by simpa using hx.symm
        unfold b8 at hcell
        have hb256 : b0.toNat < 256 := b0.toNat_lt
        have hm0' : ((m : Int) == 0) = false := by simp; omega
        have hmpos : 0 < m := by omega
        clear hx hm0
        by_cases h128 : 128 ≤ b0.toNat
        · have Hlen := Lib.hid hlen
          have Hlen' := Lib.hid hlen'
          clear hlen hlen'
          go_enter Tryd.func8, Tryd.ntmps8
          go_wp2_with fail
          refine (law_awake w hT).mono ?_
          rintro e w5 ⟨rfl, hb5⟩
          go_wp2
          go_ret
          exact ⟨rfl, hb5⟩
        · by_cases h10 : b0.toNat = 10
          · have h10' : ((b0.toNat : Int) == 10) = true := by simp [h10]
            have Hlen := Lib.hid hlen
            have Hlen' := Lib.hid hlen'
            have H10 := Lib.hid h10
            clear hlen hlen' h10
            go_enter Tryd.func8, Tryd.ntmps8
            go_wp2_with fail
            refine (law_awake w hT).mono ?_
            rintro e w5 ⟨rfl, hb5⟩
            go_wp2
            go_ret
            exact ⟨rfl, hb5⟩
          · have h10' : ((b0.toNat : Int) == 10) = false := by simp; omega
            have hrp := read_parts xs b0 bt (by omega) (fun e => h10 (by rw [e]; rfl))
            have hl1 := readP_len xs
            have hl2 := readP_len (b0 :: bt)
            have hg1 := readP_range xs
            have hg2 := readP_range (b0 :: bt)
            rw [hlen] at hl1
            rw [hlen'] at hl2
            have hg3 : ∀ c ∈ readP (xs ++ b0 :: bt), -2147483648 ≤ c ∧ c ≤ 2147483647 := readP_range _
            generalize hB : b0 :: bt = bs at *
            have Hrp := Lib.hid hrp
            have Hlen := Lib.hid hlen
            have Hlen' := Lib.hid hlen'
            have HB := Lib.hid hB
            have Hg1 := Lib.hid hg1
            have Hg2 := Lib.hid hg2
            have Hg3 := Lib.hid hg3
            obtain ⟨i0, hi, hz0, hz1, hz2⟩ := info_parts byte_info
            obtain ⟨i1, hi1, hy0, hy1, hy2⟩ := info_parts int_info
            clear hlen hlen' hB hrp hg1 hg2 hg3 h10
            have hown0 := World.ownsRow_lit (base := w.heap.size) (e := 5) (size := 1) w #[] 0 (Nat.le_refl _) (Nat.zero_le _) rfl
            have hb0 : Below w.heap.size w (w.alloc (.cells #[] 5)) := (Below.refl _ _).alloc (Nat.le_refl _) _
            have hs0 := hb0.size
            go_enter Tryd.func8, Tryd.ntmps8
            go_wp2_with (at_builtin; refine wpList_append_reads _ rfl (.tmp 31) (.tmp 32) _ rfl w.heap.size 5 i0 (.int .u8 0) 1 1 Tryd.underlying22 hi hz0 hz1 hz2 rfl (by decide) _ 0 [] rfl hown0 w.heap.size A n cap (xs.map b8) rfl (hr.alloc (Nat.le_refl _) _) ?c1 ?c2 ?c3 ?c4 ?_)
            case c1 => (intro u hu; first | rfl | (simp at hu; obtain ⟨x, _, rfl⟩ := hu; rfl))
            case c2 => unfold maxLen; omega
            case c3 => omega
            all_goals try (case c4 => exact hs0)
            intro v1 w1 hown1 hg1
            have hb1 := grow_below hb0 hs0 hown0 hg1
            have hr1 := hr.below hb1
            have hr1' := hr'.below hb1
            have hs1 := hb1.size
            clear hg1 hown0
            go_wp2_with (at_builtin; refine wpList_append_reads _ rfl (.tmp 33) (.tmp 34) _ rfl w.heap.size 5 i0 (.int .u8 0) 1 1 Tryd.underlying22 hi hz0 hz1 hz2 rfl (by decide) _ n (xs.map b8) rfl hown1 w.heap.size _ m cap' (bs.map b8) rfl hr1' ?d1 ?d2 ?d3 ?d4 ?_)
            case d1 => (intro u hu; first | rfl | (simp at hu; obtain ⟨x, _, rfl⟩ := hu; rfl))
            case d2 => unfold maxLen; omega
            case d3 => omega
            all_goals try (case d4 => exact hs1)
            intro v2 w2 hown2 hg2
            rw [← List.map_append] at hown2
            have hb2 := grow_below hb1 hs1 hown1 hg2
            have hs2 := hb2.size
            clear hg2 hown1 hr1 hr1' hb1 hs1
            obtain ⟨A2, c2, rfl, h21, h22, hr2⟩ := own_reads hown2
            go_wp2_with fail
            refine (rn_read (xs ++ bs) A2 _ c2 w2 hr2 h21 h22 (by omega) (hT.below hb2)).mono ?_
            rintro e w3 ⟨v, rfl, hown3, hb3⟩
            have hb03 := hb2.trans (hb3.mono hs2)
            obtain ⟨A3, c3, rfl, h31, h32, hr3⟩ := own_reads hown3
            have hl3 := readP_len (xs ++ bs)
            rw [List.length_append, Hlen.out, Hlen'.out] at hl3
            have hs3 := hb03.size
            go_wp2_with fail
            refine (law_ints (readP (xs ++ bs)) A3 _ c3 w3 hr3 Hg3.out (by omega)).mono ?_
            rintro e w4 ⟨v, rfl, hown4, hb4⟩
            have hb04 := hb03.trans (hb4.mono hs3)
            have hs4 := hb04.size
            obtain ⟨A4, c4, rfl, h41, h42, hr4⟩ := own_reads hown4
            go_wp2_with fail
            refine (rn_read xs A n cap w4 ((hr.below hb04).more hs4) hm hcap (by omega) (hT.below hb04)).mono ?_
            rintro e w5 ⟨v, rfl, hown5, hb5⟩
            have hb05 := hb04.trans (hb5.mono hs4)
            have hs5 := hb05.size
            obtain ⟨A5, c5, rfl, h51, h52, hr5⟩ := own_reads hown5
            go_wp2_with fail
            refine (law_ints (readP xs) A5 _ c5 w5 hr5 Hg1.out (by omega)).mono ?_
            rintro e w6 ⟨v6, rfl, hown6, hb6⟩
            have hb06 := hb05.trans (hb6.mono hs5)
            have hs6 := hb06.size
            go_wp2_with fail
            refine (rn_read bs _ m cap' w6 ((hr'.below hb06).more hs6) hm' hcap' (by omega) (hT.below hb06)).mono ?_
            rintro e w7 ⟨v, rfl, hown7, hb7⟩
            have hb07 := hb06.trans (hb7.mono hs6)
            have hs7 := hb07.size
            obtain ⟨A7, c7, rfl, h71, h72, hr7⟩ := own_reads hown7
            have hown67 := own_below hown6 hb7
            go_wp2_with fail
            refine (law_ints (readP bs) A7 _ c7 w7 hr7 Hg2.out (by omega)).mono ?_
            rintro e w8 ⟨v, rfl, hown8, hb8⟩
            have hb08 := hb07.trans (hb8.mono hs7)
            have hs8 := hb08.size
            obtain ⟨A8, c8, rfl, h81, h82, hr8⟩ := own_reads hown8
            have hown68 := own_below hown67 hb8
            have hb48 := (hb5.trans ((hb6.trans ((hb7.trans (hb8.mono hb7.size)).mono hb6.size)).mono hb5.size))
            have hr48 := hr4.below hb48
            have hsz48 := hb48.size
            have hb58 := hb6.trans ((hb7.trans (hb8.mono hb7.size)).mono hb6.size)
            have hs58 := hb58.size
            have hs56 := hb6.size
            clear hown67 hown6
            go_wp2_with (at_builtin; refine wpList_append_reads _ rfl (.tmp 40) (.tmp 43) _ rfl w5.heap.size 3 i1 (.int .i64 0) 1 8 Tryd.underlying25 hi1 hy0 hy1 hy2 rfl (by decide) _ _ _ rfl hown68 w8.heap.size _ _ c8 ((readP bs).map n64) rfl hr8 ?e1 ?e2 ?e3 ?e4 ?_)
            case e1 => (intro u hu; first | rfl | (simp at hu; obtain ⟨x, _, rfl⟩ := hu; rfl))
            case e2 => unfold maxLen; omega
            case e3 => omega
            all_goals try (case e4 => exact hs58)
            intro v9 w9 hown9 hg9
            rw [← List.map_append, ← Hrp.out] at hown9
            have hb59 := grow_below hb58 hs58 hown68 hg9
            have hs59 := hb59.size
            have hb09 := hb05.trans (hb59.mono hs5)
            have hs9 := hb09.size
            have hb49 := hb5.trans (hb59.mono hb5.size)
            have hr49 := (hr4.below hb49).more hb49.size
            obtain ⟨A9, c9, rfl, h91, h92, hr9⟩ := own_reads hown9
            rw [← List.length_append, ← Hrp.out]
            rw [← List.length_append, ← Hrp.out] at hr9
            clear hg9 hown68 hown9
            go_wp2_with fail
            refine (law_same (readP (xs ++ bs)) (readP (xs ++ bs)) A4 A9 _ _ c4 c9 w9 hr49 hr9 (by omega)).mono ?_
            rintro e w10 ⟨rfl, hb10⟩
            have hb010 := hb09.trans (hb10.mono hs9)
            rw [decide_eq_true rfl]
            go_wp2_with fail
            refine (law_awake w10 (hT.below hb010)).mono ?_
            rintro e w11 ⟨rfl, hb11⟩
            have hb011 := hb010.trans (hb11.mono hb010.size)
            go_wp2
            go_ret
            exact ⟨rfl, hb011⟩
    · have Hlen := Lib.hid hlen
      have Hlen' := Lib.hid hlen'
      clear hlen hlen'
      go_enter Tryd.func8, Tryd.ntmps8
      go_wp2_with fail
      refine (law_awake w hT).mono ?_
      rintro e w5 ⟨rfl, hb5⟩
      go_wp2
      go_ret
      exact ⟨rfl, hb5⟩
  · have Hlen := Lib.hid hlen
    have Hlen' := Lib.hid hlen'
    clear hlen hlen'
    go_enter Tryd.func8, Tryd.ntmps8
    go_wp2_with fail
    refine (law_awake w hT).mono ?_
    rintro e w5 ⟨rfl, hb5⟩
    go_wp2
    go_ret
    exact ⟨rfl, hb5⟩
end Go.Proofs.YtjgjpcoieiobcaaDoor
