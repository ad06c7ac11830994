/- Layer 3, the document: the next token is walked: a number. -/
import Derived.Test.YthkagpefgkpgeaaGreatDoorB17
import Derived.Test.YthkagpefgkpgeaaGreatDoorB16
set_option linter.unusedVariables false
set_option linter.unusedSimpArgs false
namespace Go.Proofs.YthkagpefgkpgeaaGreatDoor
open Go.RowKit Rn Tk Np
set_option maxRecDepth 1000000 in
set_option maxHeartbeats 3000000 in
theorem rt_tail7 {w wA : World} {c : Int} {B n cap m : Nat} {A : Option Addr} {i0 : Int} {NX : Tok × List Int} {l : List Int} (u2 u3 u5 u7 u8 u9 u10 u11 u12 u13 u14 u15 u16 u17 u18 u19 u20 u21 u22 u23 u24 u25 u26 u27 u28 u29 u30 u31 u32 u33 u34 u35 u36 u37 u38 u39 u40 u41 u42 u43 u44 u45 u46 u47 u48 u49 u50 u51 u52 u53 u54 u55 u56 u57 u58 u59 u60 u61 u62 u63 u64 u65 u66 u67 u68 u69 u70 u71 u72 u73 u74 u75 u76 u77 u78 u79 u80 u81 u82 u83 u84 u85 u86 u87 u88 u89 u90 u91 u92 u93 u94 u95 u96 u97 u98 u99 u100 u101 u102 u103 u104 u105 u106 u107 u108 u109 u110 u111 u112 u113 u114 u115 u116 u117 u118 u119 u120 u121 u122 u123 u124 u125 u126 u127 u128 u129 u130 u131 u132 u133 u134 u135 u136 u137 u138 u139 u140 u141 u142 u143 u144 u145 u146 u147 u148 u149 u150 u151 u152 u153 u154 u155 u156 u157 u158 u159 u160 u161 u162 u163 u164 u165 u166 u167 u168 u169 u170 u171 u172 u173 u174 u175 u176 u177 u178 u179 u180 u181 u182 u183 u184 u185 u186 u187 u188 u189 u190 u191 u192 u193 u194 u195 u196 u197 u198 : Value)
    (h : RL w B A n cap l) (Hi0 : Hid (i0 = m)) (y1 : (0 : Int) ≤ i0) (y4 : i0 ≤ 1000000) (hm : m < n) (hcB : isB c = true) (Hc : Hid (pk (l.drop m) 0 = c))
    (Hn2 : Hid (NX = match numberT (l.drop m) with
        | some x => x
        | none =>
          if c = 64 ∧ beg (l.drop (m + 1)) = true then (⟨4, writeP (nameT (l.drop (m + 1))).1, 0⟩, (nameT (l.drop (m + 1))).2)
          else if beg (l.drop m) = true then
            if pk (nameT (l.drop m)).2 0 = 40 then (⟨3, writeP (nameT (l.drop m)).1, 0⟩, (nameT (l.drop m)).2.tail) else (⟨2, writeP (nameT (l.drop m)).1, 0⟩, (nameT (l.drop m)).2)
          else (signT c, l.drop (m + 1))))
    (R0 : RowAt wA w.heap.size [.int .i64 0, .string ⟨#[]⟩, .int .i64 0]) (B0 : Below w.heap.size w wA) :
    Code.wp Tryz.prog (refTail 7) (bodyPost Tryz.prog Tryz.f14 fun e w' => (∃ k' : Nat, m < k' ∧ k' ≤ n ∧ l.drop k' = NX.2 ∧ e = .returned (.tuple #[tokV NX.1, .int .i64 (k' : Int)])) ∧ Below w.heap.size w w') ⟨(List.toArray (Value.slice A n cap :: Value.int .i64 i0 :: u2 :: u3 :: Value.pointer (some ⟨w.heap.size, 0, none⟩) :: u5 :: Value.int .i64 c :: u7 :: u8 :: u9 :: u10 :: u11 :: u12 :: u13 :: u14 :: u15 :: u16 :: u17 :: u18 :: u19 :: u20 :: u21 :: u22 :: u23 :: u24 :: u25 :: u26 :: u27 :: u28 :: u29 :: u30 :: u31 :: u32 :: u33 :: u34 :: u35 :: u36 :: u37 :: u38 :: u39 :: u40 :: u41 :: u42 :: u43 :: u44 :: u45 :: u46 :: u47 :: u48 :: u49 :: u50 :: u51 :: u52 :: u53 :: u54 :: u55 :: u56 :: u57 :: u58 :: u59 :: u60 :: u61 :: u62 :: u63 :: u64 :: u65 :: u66 :: u67 :: u68 :: u69 :: u70 :: u71 :: u72 :: u73 :: u74 :: u75 :: u76 :: u77 :: u78 :: u79 :: u80 :: u81 :: u82 :: u83 :: u84 :: u85 :: u86 :: u87 :: u88 :: u89 :: u90 :: u91 :: u92 :: u93 :: u94 :: u95 :: u96 :: u97 :: u98 :: u99 :: u100 :: u101 :: u102 :: u103 :: u104 :: u105 :: u106 :: u107 :: u108 :: u109 :: u110 :: u111 :: u112 :: u113 :: u114 :: u115 :: u116 :: u117 :: u118 :: u119 :: u120 :: u121 :: u122 :: u123 :: u124 :: u125 :: u126 :: u127 :: u128 :: u129 :: u130 :: u131 :: u132 :: u133 :: u134 :: u135 :: u136 :: u137 :: u138 :: u139 :: u140 :: u141 :: u142 :: u143 :: u144 :: u145 :: u146 :: u147 :: u148 :: u149 :: u150 :: u151 :: u152 :: u153 :: u154 :: u155 :: u156 :: u157 :: u158 :: u159 :: u160 :: u161 :: u162 :: u163 :: u164 :: u165 :: u166 :: u167 :: u168 :: u169 :: u170 :: u171 :: u172 :: u173 :: u174 :: u175 :: u176 :: u177 :: u178 :: u179 :: u180 :: u181 :: u182 :: u183 :: u184 :: u185 :: u186 :: u187 :: u188 :: u189 :: u190 :: u191 :: u192 :: u193 :: u194 :: u195 :: u196 :: u197 :: u198 :: [])), []⟩ wA := by
  conv => arg 2; whnf
  have hlen := h.len
  have hn := h.hn
  have H0 := h.mv B0
  have hrs := R0.1
  have hcr := isB_range hcB
  have hnn : ∀ c ∈ l.drop m, 0 ≤ c := fun c hc => (isB_range (h.ch.drop m c hc)).1
  have Hnn := Lib.hid hnn
  clear hnn
  obtain ⟨NB, hNB⟩ : ∃ b, numStart c = b := ⟨_, rfl⟩
  have HNB := Lib.hid hNB
  clear hNB
  go_upto_region 7 with (fail)
  go_cut [77] (fun x wx => x = .bool NB ∧ wx = wA)
  case first =>
    by_cases h43 : c = 43
    · have t43 := eq_t h43
      have Hv : Hid (NB = true) := by show _ = _; rw [← HNB.out, h43]; rfl
      clear h43
      go_wp2_with fail
      go_meet
      exact ⟨by rw [Hv.out], rfl⟩
    have t43 := eq_f h43
    by_cases h45 : c = 45
    · have t45 := eq_t h45
      have Hv : Hid (NB = true) := by show _ = _; rw [← HNB.out, h45]; rfl
      clear h43 h45
      go_wp2_with fail
      go_meet
      exact ⟨by rw [Hv.out], rfl⟩
    have t45 := eq_f h45
    by_cases h46 : c = 46
    · have t46 := eq_t h46
      have Hv : Hid (NB = true) := by show _ = _; rw [← HNB.out, h46]; rfl
      clear h43 h45 h46
      go_wp2_with fail
      go_meet
      exact ⟨by rw [Hv.out], rfl⟩
    have t46 := eq_f h46
    by_cases h48 : 48 ≤ c
    · have t48 : decide ((48 : Int) ≤ c) = true := by simpa using h48
      have Hv : Hid (NB = decide (c ≤ 57)) := by show _ = _; rw [← HNB.out]; unfold numStart; rw [Bool.eq_iff_iff]; simp; omega
      clear h43 h45 h46
      go_wp2_with fail
      go_meet
      exact ⟨by rw [Hv.out], rfl⟩
    · have t48 : decide ((48 : Int) ≤ c) = false := by simpa using h48
      have Hv : Hid (NB = false) := by show _ = _; rw [← HNB.out]; unfold numStart; simp; omega
      clear h43 h45 h46
      go_wp2_with fail
      go_meet
      exact ⟨by rw [Hv.out], rfl⟩
  case rest =>
    obtain ⟨rfl, hwc⟩ := hcut
    have hwc2 := hwc.symm
    subst hwc2
    clear hwc
    go_upto_if 77 with (fail)
    go_cut [1] (fun z wx => z = .int .i64 i0 ∧ Hid (numberT (l.drop m) = none) ∧ RowAt wx w.heap.size [.int .i64 0, .string ⟨#[]⟩, .int .i64 0] ∧ Below w.heap.size w wx)
    case first =>
      cases NB with
      | false =>
        have hnone : Hid (numberT (l.drop m) = none) := number_none (num_none Hnn.out (by rw [Hc.out]; exact HNB.out))
        go_wp2_with fail
        go_meet
        exact ⟨rfl, hnone, R0, B0⟩
      | true =>
        have hcall := rt_ascii H0 m i0 Hi0.out (by omega)
        obtain ⟨hl1, hl2⟩ := len_ascii (l.drop m) Hnn.out
        have hXl := asciiT_len (l.drop m)
        rw [List.length_drop] at hXl
        obtain ⟨X, hX⟩ : ∃ X, asciiT (l.drop m) = X := ⟨_, rfl⟩
        obtain ⟨N, hN⟩ : ∃ N, Fx.lenP (numText (l.drop m)) = N := ⟨_, rfl⟩
        rw [hX] at hcall hl1 hl2 hXl
        rw [hN] at hl1 hl2
        have hNl := lenP_le X
        rw [hl1] at hNl
        have hlc := fun w' => rfx_length X w' (by omega)
        rw [hl1] at hlc
        have hnt : numberT (l.drop m) = if N = 0 then none else
            if beg (l.drop (m + N)) = true then some (⟨10, writeP (nameT (l.drop (m + N))).1, Fx.parseP (X.take N)⟩, (nameT (l.drop (m + N))).2)
            else if pk (l.drop (m + N)) 0 = 37 then some (⟨9, [], Fx.parseP (X.take N)⟩, (l.drop (m + N)).tail)
            else some (⟨8, [], Fx.parseP (X.take N)⟩, l.drop (m + N)) := by
          unfold numberT; simp only [hN, List.drop_drop, hl2]
        have Hnt := Lib.hid hnt
        have hXl6 : X.length ≤ 1000000 := by omega
        clear hnt hX hN hl1 hl2
        go_wp2_with fail
        refine hcall.mono ?_
        rintro e2 w2 ⟨rfl, hb2⟩
        have R1 := row_below R0 hb2
        have B1 := B0.trans (hb2.mono B0.size)
        have H1 := H0.mv hb2
        clear hcall hb2 H0 R0 B0
        go_wp2_with fail
        refine (hlc w2).mono ?_
        rintro e3 w3 ⟨rfl, rfl⟩
        by_cases hN0 : N = 0
        · have hnone : Hid (numberT (l.drop m) = none) := by show _ = _; rw [Hnt.out, if_pos hN0]
          have t0 : decide ((0 : Int) < (N : Int)) = false := by simp; omega
          have t0' : decide (0 < N) = false := by simp; omega
          clear hN0
          go_wp2_with fail
          go_meet
          exact ⟨rfl, hnone, R1, B1⟩
        · have t0 : decide ((0 : Int) < (N : Int)) = true := by simp; omega
          have t0' : decide (0 < N) = true := by simp; omega
          have hn4 := Hn2.out
          rw [Hnt.out, if_neg hN0] at hn4
          have Hn4 := Lib.hid hn4
          have hto := str_to (P := Tryz.prog) (T := 9) Tryz.underlying9 X .i64 N hNl
          have hz1 : (0 : Int) ≤ i0 + (N : Int) := by omega
          have hz2 : i0 + (N : Int) ≤ 1000000 := by have := Hi0.out; omega
          have hpa := fun w' => rfx_parse (X.take N) w' (by rw [List.length_take]; omega)
          obtain ⟨V, hV⟩ : ∃ V, Fx.parseP (X.take N) = V := ⟨_, rfl⟩
          rw [hV] at hpa Hn4
          generalize Fx.isP (X.take N) = is at hpa
          clear hN0 hn4 Hnt hV
          go_wp2_with fail
          refine (hpa w2).mono ?_
          rintro e4 w4 ⟨rfl, hb4⟩
          have R2 := row_below R1 hb4
          have B2 := B1.trans (hb4.mono B1.size)
          have H2 := H1.mv hb4
          have hbg := rt_begins H2 (m + N) (i0 + (N : Int)) (by have := Hi0.out; push_cast; omega) (by omega)
          clear hb4 H1 R1 B1 hpa hlc
          go_wp2_with fail
          refine hbg.mono ?_
          rintro e5 w5 ⟨rfl, rfl⟩
          cases hb : beg (l.drop (m + N)) with
          | true =>
            rw [hb, if_pos rfl] at Hn4
            have hcall := rt_name H2 (m + N) (i0 + (N : Int)) (by have := Hi0.out; push_cast; omega) (by omega)
            generalize nameT (l.drop (m + N)) = NM at *
            have Hres : Hid (NX = (⟨10, writeP NM.1, V⟩, NM.2)) := by show _ = _; exact Hn4.out
            clear hb Hn4
            go_wp2_with fail
            refine hcall.mono ?_
            rintro e6 w6 ⟨⟨k', hk', hk'n, hd', rfl⟩, hb6⟩
            have R3 := row_below R2 hb6
            have B3 := B2.trans (hb6.mono B2.size)
            have H3 := H2.mv hb6
            obtain ⟨x0, z0⟩ := R3.2 0 _ rfl
            obtain ⟨x1, z1⟩ := R3.2 1 _ rfl
            obtain ⟨x2, z2⟩ := R3.2 2 _ rfl
            have hfin := ((R3.store 0 (.int .i64 10)).store 1 (.string (bytesOf (writeP NM.1)))).store 2 (.int .i64 V)
            have B99 := below_set (below_set (below_set B3 0 (.int .i64 10)) 1 (.string (bytesOf (writeP NM.1)))) 2 (.int .i64 V)
            (try unfold tokV)
            go_wp2_with fail
            (try simp only [Exit.inBlock, Exit.then])
            refine bodyPost_ret (results_tok2 rfl _ _ _ _ _ _ rfl hfin) rfl ?_
            exact ⟨⟨k', by have h0 : 0 < N := (by simpa using t0'); omega, hk'n, by rw [Hres.out]; exact hd', by rw [Hres.out]; rfl⟩, B99⟩
          | false =>
            rw [hb, if_neg (by simp)] at Hn4
            have hp37 := rt_at H2 (m + N) (i0 + (N : Int)) (by have := Hi0.out; push_cast; omega) (by omega)
            rw [pk0] at hp37
            obtain ⟨f, hf⟩ : ∃ f, pk (l.drop (m + N)) 0 = f := ⟨_, rfl⟩
            rw [hf] at hp37 Hn4
            have hfl : f = 37 → m + N < n := fun h37 => by
              have := pk_pos (l := l.drop (m + N)) (m := 0) (by rw [hf]; omega)
              rw [List.length_drop] at this; omega
            have Hf := Lib.hid hf
            clear hf hb
            go_wp2_with fail
            refine hp37.mono ?_
            rintro e6 w6 ⟨rfl, rfl⟩
            by_cases h37 : f = 37
            · have Hres : Hid (NX = (⟨9, [], V⟩, l.drop (m + N + 1))) := by
                have := Hn4.out; rw [if_pos h37, List.tail_drop] at this; exact this
              have t37 := eq_t h37
              have hlt := hfl h37
              clear h37 Hn4 hfl
              obtain ⟨x0, z0⟩ := R2.2 0 _ rfl
              obtain ⟨x1, z1⟩ := R2.2 1 _ rfl
              obtain ⟨x2, z2⟩ := R2.2 2 _ rfl
              have hfin := ((R2.store 0 (.int .i64 9)).store 1 (.string ⟨#[]⟩)).store 2 (.int .i64 V)
              have B99 := below_set (below_set (below_set B2 0 (.int .i64 9)) 1 (.string ⟨#[]⟩)) 2 (.int .i64 V)
              (try unfold tokV)
              go_wp2_with fail
              (try simp only [Exit.inBlock, Exit.then])
              refine bodyPost_ret (results_tok2 rfl _ _ _ _ _ _ rfl hfin) rfl ?_
              exact ⟨⟨m + N + 1, by omega, by omega, by rw [Hres.out], by rw [Hres.out]; exact ret2i (by have := Hi0.out; push_cast; omega)⟩, B99⟩
            · have Hres : Hid (NX = (⟨8, [], V⟩, l.drop (m + N))) := by
                have := Hn4.out; rw [if_neg h37] at this; exact this
              have t37 := eq_f h37
              have hN0 : 0 < N := by simpa using t0
              clear h37 Hn4 hfl
              obtain ⟨x0, z0⟩ := R2.2 0 _ rfl
              obtain ⟨x1, z1⟩ := R2.2 1 _ rfl
              obtain ⟨x2, z2⟩ := R2.2 2 _ rfl
              have hfin := ((R2.store 0 (.int .i64 8)).store 1 (.string ⟨#[]⟩)).store 2 (.int .i64 V)
              have B99 := below_set (below_set (below_set B2 0 (.int .i64 8)) 1 (.string ⟨#[]⟩)) 2 (.int .i64 V)
              (try unfold tokV)
              go_wp2_with fail
              (try simp only [Exit.inBlock, Exit.then])
              refine bodyPost_ret (results_tok2 rfl _ _ _ _ _ _ rfl hfin) rfl ?_
              exact ⟨⟨m + N, by omega, by omega, by rw [Hres.out], by rw [Hres.out]; exact ret2i (by have := Hi0.out; push_cast; omega)⟩, B99⟩
    case rest =>
      obtain ⟨rfl, hnone, R1, B1⟩ := hcut
      have hn3 := Hn2.out
      rw [hnone.out] at hn3
      have Hn3 := Lib.hid hn3
      refine ‹∀ (a : Act) (w : World), Code.wp _ _ _ a w → _› _ _ ?_
      exact rt_tail19 _ _ _ _ _ _ _ _ _ _ _ _ _ _ _ _ _ _ _ _ _ _ _ _ _ _ _ _ _ _ _ _ _ _ _ _ _ _ _ _ _ _ _ _ _ _ _ _ _ _ _ _ _ _ _ _ _ _ _ _ _ _ _ _ _ _ _ _ _ _ _ _ _ _ _ _ _ _ _ _ _ _ _ _ _ _ _ _ _ _ _ _ _ _ _ _ _ _ _ _ _ _ _ _ _ _ _ _ _ _ _ _ _ _ _ _ _ _ _ _ _ _ _ _ _ _ _ _ _ _ _ _ _ _ _ _ _ _ _ _ _ _ _ _ _ _ _ _ _ _ _ _ _ _ _ _ _ _ _ _ _ _ _ _ _ _ _ _ _ _ _ _ _ _ _ _ _ _ _ _ _ _ _ _ _ _ _ _ _ _ _ _ _ _ _ h Hi0 y1 y4 hm hcB Hn3 R1 B1
end Go.Proofs.YthkagpefgkpgeaaGreatDoor
