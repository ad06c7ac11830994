/- The law RunesWrite of layer 2 is walked. -/
import Derived.Test.YtjgjpcoieiobcaaDoorRnLawA
import Derived.Deep.RegionWith
import Derived.Deep.RegionHeld3
set_option linter.unusedVariables false
set_option linter.unusedSimpArgs false
namespace Go.Proofs.YtjgjpcoieiobcaaDoor
open Go.RowKit Rn
set_option maxRecDepth 100000 in
set_option maxHeartbeats 2000000 in
theorem walk_RunesWrite (l : List Int) (A : Option Addr) (n cap : Nat) (w : World) (hr : Reads w w.heap.size 1 A n (l.map r32)) (hl : ∀ c ∈ l, -2147483648 ≤ c ∧ c ≤ 2147483647) (hm : n ≤ cap) (hcap : cap ≤ maxLen) (hT : Tabs w) :
    Calls Tryd.prog 4 #[.slice A n cap] w fun e w' => e = .returned (.bool true) ∧ Below w.heap.size w w' := by
  have hlen : l.length = n := by simpa using hr.len
  have hcap' := hcap
  unfold maxLen at hcap
  by_cases hn : n ≤ 500
  · have Hlen := Lib.hid hlen
    clear hlen
    have Hl := Lib.hid hl
    clear hl
    go_enter Tryd.func4, Tryd.ntmps4
    have hr0 : Reads w.drew w.drew.heap.size 1 A n (l.map r32) := hr
    have hb0 : Below w.heap.size w w.drew := (Below.refl _ _).drew
    have hT0 : Tabs w.drew := hT
    have hwl := writeP_len l
    rw [Hlen.out] at hwl
    have Hwl := Lib.hid hwl
    clear hwl
    generalize hW0 : w.drew = w0 at *
    go_wp2_with fail
    go_region_with (first
      | (go_at_call 15; refine (rn_write l A n cap w0 hr0 Hl.out (by omega)).mono ?_; rintro e w1 ⟨v1, rfl, hown1, hb1⟩; obtain ⟨A1, c1, rfl, _, _, hr1⟩ := own_reads hown1; have hs1 := run_str (P := Tryd.prog) (src := 22) (dst := 9) Tryd.underlying22 Tryd.underlying5 Tryd.underlying9 c1 hr1)
      | (go_at_call 12; refine (law_ints l A n cap w1 ((hr0.below hb1).more hb1.size) Hl.out (by omega)).mono ?_; rintro e w2 ⟨v2, rfl, hown2, hb2⟩; obtain ⟨A2, c2, rfl, _, _, hr2⟩ := own_reads hown2; have hs12 := run_str (P := Tryd.prog) (src := 22) (dst := 9) Tryd.underlying22 Tryd.underlying5 Tryd.underlying9 c1 (hr1.below hb2))
      | (go_at_call 16; refine (ref_write l A2 _ c2 w2 hr2 Hl.out (by rw [Hlen.out]; omega)).mono ?_; rintro e w3 ⟨v3, rfl, hown3, hb3⟩; obtain ⟨A3, c3, rfl, _, _, hr3⟩ := own_reads hown3; have hs13 := run_str (P := Tryd.prog) (src := 22) (dst := 9) Tryd.underlying22 Tryd.underlying5 Tryd.underlying9 c1 ((hr1.below hb2).below (hb3.mono hb2.size)); have hs3 := run_str (P := Tryd.prog) (src := 22) (dst := 9) Tryd.underlying22 Tryd.underlying5 Tryd.underlying9 c3 hr3)
      | (go_at_call 10; have hb03 := hb0.trans ((hb1.trans ((hb2.trans (hb3.mono hb2.size)).mono hb1.size)).mono hb0.size); refine (law_awake w3 (hT.below hb03)).mono ?_; rintro e w4 ⟨rfl, hb4⟩))
    all_goals
      go_wp2
      go_ret
      exact ⟨rfl, hb03.trans (hb4.mono hb03.size)⟩
  · go_enter Tryd.func4, Tryd.ntmps4
    go_wp2_with fail
    refine (law_awake w hT).mono ?_
    rintro e w5 ⟨rfl, hb5⟩
    go_wp2
    go_ret
    exact ⟨rfl, hb5⟩
end Go.Proofs.YtjgjpcoieiobcaaDoor
