/- The law RulesDrops is walked: a bad rule between is dropped, and takes nothing with it. -/
import Derived.Test.YtfhdihdafmahgaaGreatDoorV14
import Derived.Test.YtfhdihdafmahgaaGreatDoorV25
import Derived.Test.YtfhdihdafmahgaaGreatDoorV42
import Derived.Test.YtfhdihdafmahgaaGreatDoorV43
import Derived.Test.YtfhdihdafmahgaaGreatDoorV40
import Derived.Test.YtfhdihdafmahgaaGreatDoorV36
import Derived.Test.YtfhdihdafmahgaaGreatDoorV38
import Derived.Test.YtfhdihdafmahgaaGreatDoorV23
/- Layer 6: rules that may be gone through are small. Plain laws. -/
set_option linter.unusedVariables false
namespace Go.Proofs.YtfhdihdafmahgaaGreatDoor
open Go.RowKit Rn Tp Ru
theorem few_big {l : List Rule} (h : fewR l = true) : ∀ r ∈ l, bigR r := fun r hr => by
  obtain ⟨a1, _, a2, a3, a4⟩ := ruleFew_facts ((fewR_facts h).2 r hr)
  obtain ⟨b1, b2⟩ := declsFew_facts a3
  refine ⟨by omega, by omega, by omega, fun d hd => by have := (declFew_facts (b2 d hd)).2.1; omega, fun m hm => ?_⟩
  obtain ⟨d1, d2⟩ := declsFew_facts (marginFew_facts (a4 m hm)).2
  exact ⟨by omega, fun d hd => by have := (declFew_facts (d2 d hd)).2.1; omega⟩
theorem few_small {l : List Rule} (h : fewR l = true) : ∀ r ∈ l, smallR r := fun r hr => by
  obtain ⟨a1, _, a2, a3, a4⟩ := ruleFew_facts ((fewR_facts h).2 r hr)
  obtain ⟨b1, b2⟩ := declsFew_facts a3
  refine ⟨by omega, by omega, fun d hd => by have := (declFew_facts (b2 d hd)).2.1; omega, by omega, fun m hm => ?_⟩
  obtain ⟨d1, d2⟩ := declsFew_facts (marginFew_facts (a4 m hm)).2
  exact ⟨by omega, fun d hd => by have := (declFew_facts (d2 d hd)).2.1; omega⟩
end Go.Proofs.YtfhdihdafmahgaaGreatDoor
set_option linter.unusedVariables false
set_option linter.unusedSimpArgs false
namespace Go.Proofs.YtfhdihdafmahgaaGreatDoor
open Go.RowKit Rn Tp Ru
set_option maxRecDepth 100000 in
set_option maxHeartbeats 16000000 in
theorem walk_RulesDrops (xs : List Rule) (A : Option Addr) (n c : Nat) (ys : List Rule) (A' : Option Addr) (m c' : Nat) (x : Int) (w : World)
    (hx : RulesK w (· < w.heap.size) A n xs) (hn : n ≤ c) (hc : c ≤ maxLen) (hxs : ∀ r ∈ xs, okR r) (hy : RulesK w (· < w.heap.size) A' m ys) (hm : m ≤ c') (hc' : c' ≤ maxLen) (hys : ∀ r ∈ ys, okR r) (hx5 : 0 ≤ x ∧ x ≤ 255) (hT : Tabs w) (hE : Env w) (hD : Db w) (hB : Boxed w) :
    Calls Tryz.prog 7 #[.slice A n c, .slice A' m c', .int .u8 x] w fun e w' => e = .returned (.bool true) ∧ Below w.heap.size w w' := by
  have hSx := hx.toS
  have hSy := hy.toS
  have cFx := ru_few xs A n c w hSx (by omega) (fun r hr => (hxs r hr).lim)
  have cFy := fun (W : World) (h : Below w.heap.size w W) => ru_few ys A' m c' W (hSy.below h) (by omega) (fun r hr => (hys r hr).lim)
  have cAw := fun (W : World) (h : Below w.heap.size w W) => ru_awake W (hT.below h) (hE.below h) (hB.below h)
  have hnx := okR.num hxs
  have hny := okR.num hys
  have hlx := hSx.len
  have hly := hSy.len
  obtain ⟨q1, hq1⟩ : ∃ q, fewR xs = q := ⟨_, rfl⟩
  obtain ⟨q2, hq2⟩ : ∃ q, fewR ys = q := ⟨_, rfl⟩
  rw [hq1] at cFx
  simp only [hq2] at cFy
  cases q1 with
  | false =>
    clear cFy
    go_enter Tryz.func7, Tryz.ntmps7
    go_wp2_with fail
    refine cFx.mono ?_
    rintro e w1 ⟨rfl, hb1⟩
    go_wp2_with fail
    refine (cAw _ hb1).mono ?_
    rintro e w2 ⟨rfl, hb2⟩
    go_wp2_with fail
    go_ret
    exact ⟨rfl, hb1.trans (hb2.mono hb1.size)⟩
  | true =>
  have hn8 := (fewR_facts hq1).1
  rw [hlx] at hn8
  cases q2 with
  | false =>
    go_enter Tryz.func7, Tryz.ntmps7
    go_wp2_with fail
    refine cFx.mono ?_
    rintro e w1 ⟨rfl, hb1⟩
    go_wp2_with fail
    refine (cFy _ hb1).mono ?_
    rintro e w2 ⟨rfl, hb2'⟩
    have hb2 := hb1.trans (hb2'.mono hb1.size)
    go_wp2_with fail
    refine (cAw _ hb2).mono ?_
    rintro e w3 ⟨rfl, hb3⟩
    go_wp2_with fail
    go_ret
    exact ⟨rfl, hb2.trans (hb3.mono hb2.size)⟩
  | true =>
  have hm8 := (fewR_facts hq2).1
  rw [hly] at hm8
  have cRx := fun (W : World) (h : Below w.heap.size w W) => ru_Right xs A n c W (hx.below h) hq1 hnx (hT.below h) (hE.below h) (hD.below h) (hB.below h)
  have cRy := fun (W : World) (h : Below w.heap.size w W) => ru_Right ys A' m c' W (hy.below h) hq2 hny (hT.below h) (hE.below h) (hD.below h) (hB.below h)
  obtain ⟨q3, hq3⟩ : ∃ q, rulesB xs = q := ⟨_, rfl⟩
  obtain ⟨q4, hq4⟩ : ∃ q, rulesB ys = q := ⟨_, rfl⟩
  simp only [hq3] at cRx
  simp only [hq4] at cRy
  cases q3 with
  | false =>
    clear cRy
    go_enter Tryz.func7, Tryz.ntmps7
    go_wp2_with fail
    refine cFx.mono ?_
    rintro e w1 ⟨rfl, hb1⟩
    go_wp2_with fail
    refine (cFy _ hb1).mono ?_
    rintro e w2 ⟨rfl, hb2'⟩
    have hb2 := hb1.trans (hb2'.mono hb1.size)
    go_wp2_with fail
    refine (cRx _ hb2).mono ?_
    rintro e w3 ⟨rfl, hb3'⟩
    have hb3 := hb2.trans (hb3'.mono hb2.size)
    go_wp2_with fail
    refine (cAw _ hb3).mono ?_
    rintro e w4 ⟨rfl, hb4⟩
    go_wp2_with fail
    go_ret
    exact ⟨rfl, hb3.trans (hb4.mono hb3.size)⟩
  | true =>
  cases q4 with
  | false =>
    go_enter Tryz.func7, Tryz.ntmps7
    go_wp2_with fail
    refine cFx.mono ?_
    rintro e w1 ⟨rfl, hb1⟩
    go_wp2_with fail
    refine (cFy _ hb1).mono ?_
    rintro e w2 ⟨rfl, hb2'⟩
    have hb2 := hb1.trans (hb2'.mono hb1.size)
    go_wp2_with fail
    refine (cRx _ hb2).mono ?_
    rintro e w3 ⟨rfl, hb3'⟩
    have hb3 := hb2.trans (hb3'.mono hb2.size)
    go_wp2_with fail
    refine (cRy _ hb3).mono ?_
    rintro e w4 ⟨rfl, hb4'⟩
    have hb4 := hb3.trans (hb4'.mono hb3.size)
    go_wp2_with fail
    refine (cAw _ hb4).mono ?_
    rintro e w5 ⟨rfl, hb5⟩
    go_wp2_with fail
    go_ret
    exact ⟨rfl, hb4.trans (hb5.mono hb4.size)⟩
  | true =>
  have wnm : IntKind.i64.wrap ((n : Int) + (m : Int)) = (n : Int) + (m : Int) := by rw [IntKind.wrap_i64]; omega
  by_cases h8 : n + m ≤ 8
  case neg =>
    have d8 : (8 : Int) < (n : Int) + (m : Int) := by omega
    go_enter Tryz.func7, Tryz.ntmps7
    go_wp2_with fail
    refine cFx.mono ?_
    rintro e w1 ⟨rfl, hb1⟩
    go_wp2_with fail
    refine (cFy _ hb1).mono ?_
    rintro e w2 ⟨rfl, hb2'⟩
    have hb2 := hb1.trans (hb2'.mono hb1.size)
    go_wp2_with fail
    refine (cRx _ hb2).mono ?_
    rintro e w3 ⟨rfl, hb3'⟩
    have hb3 := hb2.trans (hb3'.mono hb2.size)
    go_wp2_with fail
    refine (cRy _ hb3).mono ?_
    rintro e w4 ⟨rfl, hb4'⟩
    have hb4 := hb3.trans (hb4'.mono hb3.size)
    go_wp2_with fail
    refine (cAw _ hb4).mono ?_
    rintro e w5 ⟨rfl, hb5⟩
    go_wp2_with fail
    go_ret
    exact ⟨rfl, hb4.trans (hb5.mono hb4.size)⟩
  case pos =>
  have d8 : ¬ (8 : Int) < (n : Int) + (m : Int) := by omega
  have cPx := fun (W : World) (h : Below w.heap.size w W) => ru_Print xs A n c W (hx.below h) hq1 hnx (hT.below h) (hE.below h) (hD.below h) (hB.below h)
  have cPy := fun (W : World) (h : Below w.heap.size w W) => ru_Print ys A' m c' W (hy.below h) hq2 hny (hT.below h) (hE.below h) (hD.below h) (hB.below h)
  have hTx : tokensR xs = tokensP xs := by unfold tokensR; rw [hq3]; rfl
  have hTy : tokensR ys = tokensP ys := by unfold tokensR; rw [hq4]; rfl
  have h65x := (rulesB_le hq3).1
  have h65y := (rulesB_le hq4).1
  have hpp := fun (x : List UInt8) (k : Nat) => sheet_drops (x := x) k hq3 hq4 hq1 hq2 (by omega)
  obtain ⟨X, hX⟩ : ∃ X, printL (tokensP xs) = X := ⟨_, rfl⟩
  obtain ⟨Y, hY⟩ : ∃ Y, printL (tokensP ys) = Y := ⟨_, rfl⟩
  rw [hTx, hX] at cPx
  rw [hTy, hY] at cPy
  rw [hX] at hpp h65x
  rw [hY] at hpp h65y
  have hsX := bytesOf_size X
  have hsY := bytesOf_size Y
  obtain ⟨xl, hxl⟩ : ∃ k, X.length = k := ⟨_, rfl⟩
  obtain ⟨yl, hyl⟩ : ∃ k, Y.length = k := ⟨_, rfl⟩
  rw [hxl] at hsX h65x hpp
  rw [hyl] at hsY h65y hpp
  have wxy : IntKind.i64.wrap ((xl : Int) + (yl : Int)) = (xl : Int) + (yl : Int) := by rw [IntKind.wrap_i64]; omega
  have hbig : ∀ r ∈ xs ++ ys, bigR r := fun r hr => by
    rcases List.mem_append.1 hr with h | h
    · exact few_big hq1 r h
    · exact few_big hq2 r h
  have hsml := few_small hq1
  have hab : (xs ++ ys).length = n + m := by rw [List.length_append, hlx, hly]
  have Hpp := Lib.hid hpp
  have Hab := Lib.hid hab
  have Hlx := Lib.hid hlx
  have Hly := Lib.hid hly
  have Hxl := Lib.hid hxl
  have Hyl := Lib.hid hyl
  clear hpp hTx hTy hX hY hnx hny hxs hys hq1 hq2 hq3 hq4 hxl hyl hab hlx hly
  go_enter Tryz.func7, Tryz.ntmps7
  go_wp2_with fail
  refine cFx.mono ?_
  rintro e w1 ⟨rfl, hb1⟩
  clear cFx
  go_wp2_with fail
  refine (cFy _ hb1).mono ?_
  rintro e w2 ⟨rfl, hb2'⟩
  have hb2 := hb1.trans (hb2'.mono hb1.size)
  clear cFy hb1 hb2'
  go_wp2_with fail
  refine (cRx _ hb2).mono ?_
  rintro e w3 ⟨rfl, hb3'⟩
  have hb3 := hb2.trans (hb3'.mono hb2.size)
  clear cRx hb2 hb3'
  go_wp2_with fail
  refine (cRy _ hb3).mono ?_
  rintro e w4 ⟨rfl, hb4'⟩
  have hb4 := hb3.trans (hb4'.mono hb3.size)
  have s4 := hb4.size
  clear cRy hb3 hb4'
  go_upto_region 3 with (fail)
  go_cut [7] (fun v wc => ∃ k : Nat, v = .string (bytesOf (Ru.badS k)) ∧ Below w.heap.size w wc)
  case first =>
    have hr5 : x.tmod 5 = x % 5 := by rw [Int.tmod_eq_emod_of_nonneg hx5.1]
    have hcs : x % 5 = 0 ∨ x % 5 = 1 ∨ x % 5 = 2 ∨ x % 5 = 3 ∨ x % 5 = 4 := by omega
    rcases hcs with h | h | h | h | h
    · rw [h] at hr5
      clear h
      go_wp2_with fail
      go_meet
      exact ⟨0, rfl, hb4.alloc s4 _⟩
    · rw [h] at hr5
      clear h
      go_wp2_with fail
      go_meet
      exact ⟨1, rfl, hb4.alloc s4 _⟩
    · rw [h] at hr5
      clear h
      go_wp2_with fail
      go_meet
      exact ⟨2, rfl, hb4.alloc s4 _⟩
    · rw [h] at hr5
      clear h
      go_wp2_with fail
      go_meet
      exact ⟨3, rfl, hb4.alloc s4 _⟩
    · rw [h] at hr5
      clear h
      go_wp2_with fail
      go_meet
      exact ⟨4, rfl, hb4.alloc s4 _⟩
  case rest =>
  obtain ⟨kk, rfl, hb4⟩ := hcut
  obtain ⟨w4, hu4⟩ : ∃ x, x = wc := ⟨_, rfl⟩
  subst hu4
  obtain ⟨V, hV⟩ : ∃ V, Ru.badS kk = V := ⟨_, rfl⟩
  have hVl := sheet_bad_len kk
  have hpp := fun x => Hpp.out x kk
  rw [hV] at hVl hpp ⊢
  have hsV := bytesOf_size V
  obtain ⟨vl, hvl⟩ : ∃ k, V.length = k := ⟨_, rfl⟩
  rw [hvl] at hsV hVl
  have Hvl := Lib.hid hvl
  have Hpp := Lib.hid hpp
  clear hpp hV hvl
  go_wp2_with fail
  refine (cPx _ hb4).mono ?_
  rintro e w5 ⟨rfl, hb5'⟩
  have hb5 := hb4.trans (hb5'.mono hb4.size)
  clear cPx hb4 hb5'
  go_wp2_with fail
  refine (cPy _ hb5).mono ?_
  rintro e w6 ⟨rfl, hb6'⟩
  have hb6 := hb5.trans (hb6'.mono hb5.size)
  have s6 := hb6.size
  clear cPy hb5 hb6'
  by_cases h60 : xl + yl ≤ 60000
  case neg =>
    have d6 : (60000 : Int) < (xl : Int) + (yl : Int) := by omega
    go_wp2_with fail
    refine (cAw _ hb6).mono ?_
    rintro e w7 ⟨rfl, hb7⟩
    go_wp2_with fail
    go_ret
    exact ⟨rfl, hb6.trans (hb7.mono s6)⟩
  case pos =>
  have d6 : ¬ (60000 : Int) < (xl : Int) + (yl : Int) := by omega
  obtain ⟨Z, hZ⟩ : ∃ Z, X ++ (V ++ Y) = Z := ⟨_, rfl⟩
  obtain ⟨zl, hzl⟩ : ∃ k, Z.length = k := ⟨_, rfl⟩
  have hZl : Z.length = zl := hzl
  have hz2 : zl ≤ 70000 := by rw [← hzl, ← hZ]; simp [Hxl.out, Hyl.out, Hvl.out]; omega
  have hpo := Hpp.out Z hZ.symm h60
  rw [hZl] at hpo
  have Hpo := Lib.hid hpo
  obtain ⟨ca, Wa, hca, hca1, hca2, hba, hra⟩ := conv_text (P := Tryz.prog) Tryz.underlying9 Tryz.underlying22 Tryz.underlying5 w6 (bytesOf X ++ bytesOf V ++ bytesOf Y) Z (by
    rw [← hZ, bytesOf_append, bytesOf_append, List.append_assoc]) (by rw [hZl]; unfold maxLen; omega)
  rw [hZl] at hca hra
  have hBa := hb6.trans (hba.mono s6)
  have sa := hBa.size
  have hpa := ru_parse Z _ _ ca Wa hra (by omega) hca2 (hT.below hBa) (hE.below hBa) (hB.below hBa)
  clear hra hca1 hca2 hZ hZl hpo hzl
  go_wp2_with fail
  refine hpa.mono ?_
  intro e w7 hp
  obtain ⟨hb7, A7, c7, rfl, hS7⟩ := hp.out
  rw [Hpo.out] at hS7
  rw [Hpo.out]
  simp only [] at hS7 ⊢
  rw [Hab.out] at hS7
  simp only [Hab.out]
  have hB7 := hBa.trans (hb7.mono sa)
  have s7 := hB7.size
  have hS7' := hS7.more (S' := (· < w7.heap.size)) (fun b h => h.2)
  have cO := ru_own xs A n c w7 (hSx.below hB7) (by omega) hsml
  clear hp hpa hca hba hS7 hb7
  go_wp2_with fail
  refine cO.mono ?_
  rintro e w8 ⟨A8, c8, mr, rfl, hOJ⟩
  have hb8 := hOJ.bel
  have hB8 := hB7.trans (hb8.mono s7)
  have s8 := hB8.size
  have hS7c := hS7'.below hb8
  obtain ⟨mb, hmb, hmr, hmm⟩ := (hSy.below hB7).keep (Kept.of_below hb8 (fun b h => h))
  have hone := cellsR_one mb
  obtain ⟨ri0, ri, rz0, rz1, rz2⟩ := info_take ru_rule_info
  have hml : m = mb.length := by rw [← Hly.out, ← hmb, List.length_map]
  have hrl : mr.length = xs.length := by have e := congrArg List.length hOJ.e1; rw [List.length_map, List.take_length] at e; exact e
  have hO := hOJ.own
  rw [hrl] at hO
  have hq1 : xs.length + m ≤ maxLen := by rw [Hlx.out]; unfold maxLen; omega
  have hq2 : (xs.length + m) * 80 ≤ 140737488355328 := by rw [Hlx.out]; omega
  have Hml := Lib.hid hml
  clear cO hrl hml
  go_wp2_with (at_builtin; go_loud (refine wpList_append_reads_g (by rfl) _ _ 24 rfl w7.heap.size 39 ri0 _ 4 80 Tryz.underlying24 ri rz0 rz1 rz2 rfl (by decide) _ xs.length (cellsR mr) rfl hO w7.heap.size A' m c' (cellsR mb) rfl hmr hone hq1 hq2 hb8.size ?_; (intro v' w9 hown9 hg9 hat9; obtain ⟨A9, c9, hv9, hS9, hb9⟩ := hOJ.app hmb hmm (Nat.le_refl _) Hml.out hown9 hg9 hat9; rw [Hab.out] at hv9; subst hv9)))
  have hB9 := hB7.trans (hb9.mono s7)
  have s9 := hB9.size
  have hg9' : w8.heap.size ≤ w9.heap.size := hg9.size
  have hS7d : RulesS w9 (· < w9.heap.size) A7 (n + m) (xs ++ ys) := hS7'.below hb9
  rw [Hab.out] at hS9
  have cS := ru_same (xs ++ ys) (xs ++ ys) A7 A9 (n + m) (n + m) c7 c9 w9 hS7d hS9 (by omega) hbig
  rw [decide_eq_true rfl] at cS
  refine cS.mono ?_
  rintro e w10 ⟨rfl, hb10⟩
  have hB10 := hB9.trans (hb10.mono s9)
  clear cS
  go_wp2_with fail
  refine (cAw _ hB10).mono ?_
  rintro e w11 ⟨rfl, hb11⟩
  go_wp2_with fail
  go_ret
  exact ⟨rfl, hB10.trans (hb11.mono hB10.size)⟩
end Go.Proofs.YtfhdihdafmahgaaGreatDoor
