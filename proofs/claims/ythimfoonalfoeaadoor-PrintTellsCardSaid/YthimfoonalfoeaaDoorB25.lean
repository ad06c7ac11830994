/- The law PrintSame is walked: unlike tokens that may be are printed as unlike texts. -/
import Derived.Test.YthimfoonalfoeaaDoorB21
import Derived.Test.YthimfoonalfoeaaDoorB24
import Derived.Test.YthimfoonalfoeaaDoorB17
set_option linter.unusedVariables false
set_option linter.unusedSimpArgs false
namespace Go.Proofs.YthimfoonalfoeaaDoor
open Go.RowKit Rn Tp Tk Fx
/-- what a row lists of tokens: short enough to be gone through -/
theorem row_few {w : World} {B n : Nat} {A : Option Addr} {l : List GTok} (hr : ReadsT w B A n l) (hs : ∀ t ∈ l, t.text.length ≤ maxLen ∧ -9223372036854775808 ≤ t.n ∧ t.n ≤ 9223372036854775807) (hf : fewB l = true) : TokRow w B A n l :=
  ⟨hr, fun t ht => ⟨by have := (few_facts hf).2 t ht; omega, (hs t ht).2⟩, by have := (few_facts hf).1; have := hr.len; omega⟩
theorem TokRow.more {w w' : World} {n : Nat} {A : Option Addr} {l : List GTok} (h : TokRow w w.heap.size A n l) (hb : Below w.heap.size w w') : TokRow w' w'.heap.size A n l := ⟨h.rd.below hb, h.small, h.hn⟩
set_option maxRecDepth 100000 in
set_option maxHeartbeats 8000000 in
theorem walk_PrintSame (xs : List GTok) (A : Option Addr) (n cap : Nat) (ys : List GTok) (A' : Option Addr) (m cap' : Nat) (w : World)
    (hr : ReadsT w w.heap.size A n xs) (hm : n ≤ cap) (hcap : cap ≤ maxLen) (hs : ∀ t ∈ xs, t.text.length ≤ maxLen ∧ -9223372036854775808 ≤ t.n ∧ t.n ≤ 9223372036854775807)
    (hr' : ReadsT w w.heap.size A' m ys) (hm' : m ≤ cap') (hcap' : cap' ≤ maxLen) (hs' : ∀ t ∈ ys, t.text.length ≤ maxLen ∧ -9223372036854775808 ≤ t.n ∧ t.n ≤ 9223372036854775807) (hT : Tabs w) (hE : Env w) (hD : Db w) :
    Calls Tryd.prog 4 #[.slice A n cap, .slice A' m cap'] w fun e w' => e = .returned (.bool true) ∧ Below w.heap.size w w' := by
  unfold maxLen at hcap hcap'
  have cFa := tp_few xs A n cap w hr (by omega) (fun t ht => (hs t ht).1)
  have cFb := tp_few ys A' m cap' w hr' (by omega) (fun t ht => (hs' t ht).1)
  have cAw := fun (W : World) (h : Below w.heap.size w W) => tp_awake W (hT.below h) (hE.below h) (hD.below h)
  cases hfa : fewB xs with
  | false =>
    rw [hfa] at cFa
    go_enter Tryd.func4, Tryd.ntmps4
    go_wp2_with fail
    refine cFa.mono ?_
    rintro e w1 ⟨rfl, rfl⟩
    go_wp2_with fail
    refine (cAw _ (Below.refl _ _)).mono ?_
    rintro e w2 ⟨rfl, hb2⟩
    go_wp2
    go_ret
    exact ⟨rfl, hb2⟩
  | true =>
    rw [hfa] at cFa
    cases hfb : fewB ys with
    | false =>
      rw [hfb] at cFb
      go_enter Tryd.func4, Tryd.ntmps4
      go_wp2_with fail
      refine cFa.mono ?_
      rintro e w1 ⟨rfl, rfl⟩
      go_wp2_with fail
      refine cFb.mono ?_
      rintro e w1 ⟨rfl, rfl⟩
      go_wp2_with fail
      refine (cAw _ (Below.refl _ _)).mono ?_
      rintro e w2 ⟨rfl, hb2⟩
      go_wp2
      go_ret
      exact ⟨rfl, hb2⟩
    | true =>
      rw [hfb] at cFb
      have ra := row_few hr hs hfa
      have rb := row_few hr' hs' hfb
      have cRa := rp_rights xs A n cap w ra
      have cRb := fun (W : World) (h : Below w.heap.size w W) => rp_rights ys A' m cap' W (rb.more h)
      cases hra : rightB xs with
      | false =>
        rw [hra] at cRa
        go_enter Tryd.func4, Tryd.ntmps4
        go_wp2_with fail
        refine cFa.mono ?_
        rintro e w1 ⟨rfl, rfl⟩
        go_wp2_with fail
        refine cFb.mono ?_
        rintro e w1 ⟨rfl, rfl⟩
        go_wp2_with fail
        refine cRa.mono ?_
        rintro e w1 ⟨rfl, hb1⟩
        go_wp2_with fail
        refine (cAw _ hb1).mono ?_
        rintro e w2 ⟨rfl, hb2⟩
        go_wp2
        go_ret
        exact ⟨rfl, hb1.trans (hb2.mono hb1.size)⟩
      | true =>
        rw [hra] at cRa
        cases hrb : rightB ys with
        | false =>
          rw [hrb] at cRb
          go_enter Tryd.func4, Tryd.ntmps4
          go_wp2_with fail
          refine cFa.mono ?_
          rintro e w1 ⟨rfl, rfl⟩
          go_wp2_with fail
          refine cFb.mono ?_
          rintro e w1 ⟨rfl, rfl⟩
          go_wp2_with fail
          refine cRa.mono ?_
          rintro e w1 ⟨rfl, hb1⟩
          go_wp2_with fail
          refine (cRb _ hb1).mono ?_
          rintro e w2 ⟨rfl, hb2⟩
          have hb2' := hb1.trans (hb2.mono hb1.size)
          go_wp2_with fail
          refine (cAw _ hb2').mono ?_
          rintro e w3 ⟨rfl, hb3⟩
          go_wp2
          go_ret
          exact ⟨rfl, hb2'.trans (hb3.mono hb2'.size)⟩
        | true =>
          rw [hrb] at cRb
          have cPa := fun (W : World) (h : Below w.heap.size w W) => tp_print xs A n cap W (ra.more h) (hT.below h) (hE.below h) (hD.below h)
          have cPb := fun (W : World) (h : Below w.heap.size w W) => tp_print ys A' m cap' W (rb.more h) (hT.below h) (hE.below h) (hD.below h)
          have cS := fun (W : World) (h : Below w.heap.size w W) => toks_same xs ys A A' n m cap cap' W (ra.more h).rd (rb.more h).rd ra.hn
          have hinj := print_inj hra hrb
          obtain ⟨X, hX⟩ : ∃ X, printL xs = X := ⟨_, rfl⟩
          obtain ⟨Y, hY⟩ : ∃ Y, printL ys = Y := ⟨_, rfl⟩
          rw [hX, hY] at hinj
          rw [hX] at cPa
          rw [hY] at cPb
          have hq : ((bytesOf X).toList == (bytesOf Y).toList) = decide (xs = ys) := by
            rw [bytes_ne, Bool.eq_iff_iff, decide_eq_true_iff, decide_eq_true_iff]; exact hinj
          have hq2 : (xs = ys ∧ (bytesOf X).toList = (bytesOf Y).toList) ∨ (xs ≠ ys ∧ ¬ (bytesOf X).toList = (bytesOf Y).toList) := by
            rw [bytesOf_toList, bytesOf_toList]
            by_cases h : xs = ys
            · exact .inl ⟨h, hinj.2 h⟩
            · exact .inr ⟨h, fun e => h (hinj.1 e)⟩
          have hd : (xs = ys ∧ decide (xs = ys) = true) ∨ (xs ≠ ys ∧ decide (xs = ys) = false) := by
            by_cases h : xs = ys
            · exact .inl ⟨h, by simp [h]⟩
            · exact .inr ⟨h, by simp [h]⟩
          obtain ⟨d, hdd⟩ : ∃ d, decide (xs = ys) = d := ⟨_, rfl⟩
          rw [hdd] at cS hq hd
          have hq3 : (d = true ∧ (bytesOf X).toList = (bytesOf Y).toList) ∨ (d = false ∧ ¬ (bytesOf X).toList = (bytesOf Y).toList) := by
            rcases hq2 with ⟨h1, h2⟩ | ⟨h1, h2⟩
            · exact .inl ⟨by rw [← hdd]; simp [h1], h2⟩
            · exact .inr ⟨by rw [← hdd]; simp [h1], h2⟩
          clear hq2 hd hinj hX hY hdd
          rcases hq3 with ⟨rfl, q⟩ | ⟨rfl, q⟩
          all_goals
            go_enter Tryd.func4, Tryd.ntmps4
            go_wp2_with fail
            refine cFa.mono ?_
            rintro e w1 ⟨rfl, rfl⟩
            go_wp2_with fail
            refine cFb.mono ?_
            rintro e w1 ⟨rfl, rfl⟩
            go_wp2_with fail
            refine cRa.mono ?_
            rintro e w1 ⟨rfl, hb1⟩
            go_wp2_with fail
            refine (cRb _ hb1).mono ?_
            rintro e w2 ⟨rfl, hb2⟩
            have hb2' := hb1.trans (hb2.mono hb1.size)
            go_wp2_with fail
            refine (cPa _ hb2').mono ?_
            rintro e w3 ⟨rfl, hb3⟩
            have hb3' := hb2'.trans (hb3.mono hb2'.size)
            go_wp2_with fail
            refine (cPb _ hb3').mono ?_
            rintro e w4 ⟨rfl, hb4⟩
            have hb4' := hb3'.trans (hb4.mono hb3'.size)
            go_wp2_with fail
            refine (cS _ hb4').mono ?_
            rintro e w5 ⟨rfl, hb5⟩
            have hb5' := hb4'.trans (hb5.mono hb4'.size)
            go_wp2_with fail
            refine (cAw _ hb5').mono ?_
            rintro e w6 ⟨rfl, hb6⟩
            go_wp2
            go_ret
            exact ⟨rfl, hb5'.trans (hb6.mono hb5'.size)⟩
end Go.Proofs.YthimfoonalfoeaaDoor
