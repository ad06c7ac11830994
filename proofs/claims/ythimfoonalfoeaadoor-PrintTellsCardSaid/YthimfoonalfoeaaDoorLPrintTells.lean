/- The law PrintTells is walked: the text of any tokens, and of each, and whether they may be, are the document's. -/
import Derived.Test.YthimfoonalfoeaaDoorB14
import Derived.Test.YthimfoonalfoeaaDoorB16
import Derived.Test.YthimfoonalfoeaaDoorB22
import Derived.Test.YthimfoonalfoeaaDoorB17
import Derived.Test.YthimfoonalfoeaaDoorB24
import Derived.Test.YthimfoonalfoeaaDoorB20
import Derived.Test.YthimfoonalfoeaaDoorB25
/- Layer 4, the document: a printed name, a printed text: its name and quoted are walked. -/
set_option linter.unusedVariables false
set_option linter.unusedSimpArgs false
namespace Go.Proofs.YthimfoonalfoeaaDoor
open Go.RowKit Rn Tp
set_option maxRecDepth 100000 in
set_option maxHeartbeats 16000000 in
theorem rp_name (cs : List Int) (A : Option Addr) (n cap : Nat) (dim : Bool) (w : World) (hr : Reads w w.heap.size 1 A n (cs.map n64)) (hv : ∀ c ∈ cs, isB c = true) (hn : n ≤ 1000000) :
    Calls Tryd.prog 23 #[.slice A n cap, .bool dim] w fun e w' => e = .returned (.string (bytesOf (nameP cs dim))) ∧ Below w.heap.size w w' := by
  have hlen : cs.length = n := by simpa using hr.len
  have Hlen := Lib.hid hlen
  have Hv := Lib.hid hv
  clear hlen hv
  go_enter Tryd.func23, Tryd.ntmps23
  go_wp2_with fail
  go_loopw [5, 6] (fun o i wr => ∃ (k : Nat) (out : List UInt8), k ≤ n ∧ Hid (out ++ nameF cs dim k (cs.drop k) = nameP cs dim) ∧ out.length ≤ 10 * k ∧ o = .string (bytesOf out) ∧ i = .int .i64 k ∧ Below w.heap.size w wr) (fun _ i _ => n - (intOf i).toNat)
  case atStart => exact ⟨0, [], Nat.zero_le _, rfl, by simp, rfl, rfl, Below.refl _ _⟩
  case round =>
    obtain ⟨k, out, hk, hrun, hol, rfl, rfl, hb⟩ := hrel
    have hoz := bytesOf_size out
    have hrw := hr.below hb
    by_cases hlt : k < n
    · obtain ⟨b, off, u, hA, hbw, hu, hcell⟩ := hrw.at_ hlt
      obtain ⟨b', off', u', hA', hbw', hu', hcell0⟩ := hrw.at_ (k := 0) (by omega)
      subst hA
      injection hA' with hA'
      injection hA' with e1 e2
      subst e1 e2
      obtain ⟨c, hc⟩ : ∃ c, cs[k]? = some c := ⟨_, List.getElem?_eq_getElem (by rw [Hlen.out]; omega)⟩
      obtain ⟨x, hx⟩ : ∃ x, cs[0]? = some x := ⟨_, List.getElem?_eq_getElem (by rw [Hlen.out]; omega)⟩
      rw [List.getElem?_map, hc] at hu
      rw [List.getElem?_map, hx] at hu'
      obtain rfl : u = n64 c := by simpa using hu.symm
      obtain rfl : u' = n64 x := by simpa using hu'.symm
      unfold n64 at hcell hcell0
      simp only [Nat.mul_one, Nat.add_zero, Nat.zero_mul] at hcell hcell0
      have dk : decide ((k : Int) < (n : Int)) = true := by simp; omega
      have hcB := Hv.out c (List.mem_of_getElem? hc)
      have hcr := isB_range' hcB
      have hxr := isB_range' (Hv.out x (List.mem_of_getElem? hx))
      have hdrop : cs.drop k = c :: cs.drop (k + 1) := by
        have hl2 : k < cs.length := by rw [Hlen.out]; omega
        rw [List.drop_eq_getElem_cons hl2]
        rw [List.getElem?_eq_getElem hl2] at hc
        injection hc with hc
        rw [hc]
      obtain ⟨F, hF⟩ : ∃ F, decide (k = 0 ∨ k = 1 ∧ cs[0]? = some 45) = F := ⟨_, rfl⟩
      obtain ⟨nd, hnd⟩ : ∃ nd, needB c F (decide (cs = [45])) (dim && decide (k = 0)) = nd := ⟨_, rfl⟩
      have hnew : Hid ((out ++ partP c nd) ++ nameF cs dim (k + 1) (cs.drop (k + 1)) = nameP cs dim) := by
        show _ = _
        rw [← hrun.out, hdrop, ← hnd, ← hF, List.append_assoc]; rfl
      have hpl10 := part_len hcB nd
      have hpz := bytesOf_size (partP c nd)
      have hone : (cs = [45]) ↔ (c = 45 ∧ n = 1) := by
        constructor
        · intro h
          rw [h] at hc
          have := Hlen.out
          rw [h] at this
          have hk0 : k = 0 := by simp at this; omega
          subst hk0
          simp at hc
          exact ⟨hc.symm, by simpa using this.symm⟩
        · rintro ⟨rfl, rfl⟩
          have hk0 : k = 0 := by omega
          subst hk0
          match cs, Hlen.out, hc with
          | [y], _, hc => simp at hc; rw [hc]
      rw [hx] at hF
      have hnd2 : (!withinB c || ((decide (k = 0) || decide (k = 1) && decide (x = 45)) && digitB c) || (decide (c = 45) && decide (n = 1)) || ((dim && decide (k = 0)) && (decide (c = 101) || decide (c = 69)))) = nd := by
        rw [← hnd, ← hF]
        unfold needB
        have g1 : decide (k = 0 ∨ k = 1 ∧ some x = some 45) = (decide (k = 0) || decide (k = 1) && decide (x = 45)) := by rw [Bool.eq_iff_iff]; simp
        have g2 : decide (cs = [45]) = (decide (c = 45) && decide (n = 1)) := by rw [Bool.eq_iff_iff]; simp [hone]
        have g3 : decide (c = 101 ∨ c = 69) = (decide (c = 101) || decide (c = 69)) := by rw [Bool.eq_iff_iff]; simp
        rw [g1, g2, g3]
      have Hnd := Lib.hid hnd2
      have HcB := Lib.hid hcB
      have hwi := ref_within c wr (by omega) (by omega)
      clear hrun hdrop hc hx hF hnd hnd2 hcB hone hu hu' hxr
      obtain ⟨dg, hdg⟩ : ∃ dg, digitB c = dg := ⟨_, rfl⟩
      have Hdg := Lib.hid hdg
      clear hdg
      go_upto_region 6 with (fail)
      go_cut [8] (fun x wx => x = .bool dg ∧ wr = wx)
      case first =>
        have hun : (undef : Value) = .tuple #[] := rfl
        have hdg := Hdg.out
        unfold digitB at hdg
        by_cases h1 : 48 ≤ c
        · have t1 : decide ((48 : Int) ≤ c) = true := by simp [h1]
          have hdg2 : dg = decide (c ≤ 57) := by rw [← hdg]; simp [h1]
          have HN := Lib.hid hdg2
          clear hdg hdg2 h1
          go_wp2_with fail
          go_meet
          exact ⟨by rw [HN.out], rfl⟩
        · have t1 : decide ((48 : Int) ≤ c) = false := by simp [h1]
          have hdg2 : dg = false := by rw [← hdg]; simp [h1]
          have HN := Lib.hid hdg2
          clear hdg hdg2 h1
          go_wp2_with fail
          go_meet
          exact ⟨by rw [HN.out], rfl⟩
      case rest =>
        obtain ⟨rfl, rfl⟩ := hcut
        go_upto_region 7 with (fail)
        go_cut [71] (fun x wx => x = .bool nd ∧ wr = wx)
        case first =>
          have hun : (undef : Value) = .tuple #[] := rfl
          have hnd := Hnd.out
          rw [Hdg.out] at hnd
          have hdg := Hdg.out
          generalize withinB c = b1 at *
          cases b1 with
          | false =>
            have hN : nd = true := by rw [← hnd]; simp []
            have HN := Lib.hid hN
            clear hnd hN hdg Hnd Hdg hnew HcB 
            go_wp2_with (first | (go_at_call 42; with_reducible refine hwi.mono ?_; rintro e w' ⟨rfl, rfl⟩))
            go_meet
            exact ⟨by rw [HN.out], rfl⟩
          | true =>
            cases dg with
            | true =>
              have hd2 : 48 ≤ c ∧ c ≤ 57 := by unfold digitB at hdg; simpa using hdg
              by_cases p_k0 : k = 0
              · have hN : nd = true := by rw [← hnd]; simp [p_k0]
                have HN := Lib.hid hN
                have t_k0 : ((k : Int) == 0) = true := by simp; omega
                clear hnd hN hdg Hnd Hdg hnew HcB p_k0
                go_wp2_with (first | (go_at_call 42; with_reducible refine hwi.mono ?_; rintro e w' ⟨rfl, rfl⟩))
                go_meet
                exact ⟨by rw [HN.out], rfl⟩
              · by_cases p_k1 : k = 1
                · by_cases p_x45 : x = 45
                  · have hN : nd = true := by rw [← hnd]; simp [p_k0, p_k1, p_x45]
                    have HN := Lib.hid hN
                    have t_k0 : ((k : Int) == 0) = false := by simp; omega
                    have t_k1 : ((k : Int) == 1) = true := by simp; omega
                    have t_x45 : (x == 45) = true := by simp; omega
                    clear hnd hN hdg Hnd Hdg hnew HcB p_k0 p_k1 p_x45
                    go_wp2_with (first | (go_at_call 42; with_reducible refine hwi.mono ?_; rintro e w' ⟨rfl, rfl⟩))
                    go_meet
                    exact ⟨by rw [HN.out], rfl⟩
                  · have p_c45 : ¬ c = 45 := by omega
                    have p_c101 : ¬ c = 101 := by omega
                    have p_c69 : ¬ c = 69 := by omega
                    cases dim with
                    | false =>
                      have hN : nd = false := by rw [← hnd]; simp [p_k0, p_k1, p_x45, p_c45, p_c101, p_c69]
                      have HN := Lib.hid hN
                      have t_k0 : ((k : Int) == 0) = false := by simp; omega
                      have t_k1 : ((k : Int) == 1) = true := by simp; omega
                      have t_x45 : (x == 45) = false := by simp; omega
                      have t_c45 : (c == 45) = false := by simp; omega
                      have t_c101 : (c == 101) = false := by simp; omega
                      have t_c69 : (c == 69) = false := by simp; omega
                      clear hnd hN hdg Hnd Hdg hnew HcB p_k0 p_k1 p_x45 p_c45 p_c101 p_c69
                      go_wp2_with (first | (go_at_call 42; with_reducible refine hwi.mono ?_; rintro e w' ⟨rfl, rfl⟩))
                      go_meet
                      exact ⟨by rw [HN.out], rfl⟩
                    | true =>
                      have hN : nd = false := by rw [← hnd]; simp [p_k0, p_k1, p_x45, p_c45, p_c101, p_c69]
                      have HN := Lib.hid hN
                      have t_k0 : ((k : Int) == 0) = false := by simp; omega
                      have t_k1 : ((k : Int) == 1) = true := by simp; omega
                      have t_x45 : (x == 45) = false := by simp; omega
                      have t_c45 : (c == 45) = false := by simp; omega
                      have t_c101 : (c == 101) = false := by simp; omega
                      have t_c69 : (c == 69) = false := by simp; omega
                      clear hnd hN hdg Hnd Hdg hnew HcB p_k0 p_k1 p_x45 p_c45 p_c101 p_c69
                      go_wp2_with (first | (go_at_call 42; with_reducible refine hwi.mono ?_; rintro e w' ⟨rfl, rfl⟩))
                      go_meet
                      exact ⟨by rw [HN.out], rfl⟩
                · have p_c45 : ¬ c = 45 := by omega
                  have p_c101 : ¬ c = 101 := by omega
                  have p_c69 : ¬ c = 69 := by omega
                  cases dim with
                  | false =>
                    have hN : nd = false := by rw [← hnd]; simp [p_k0, p_k1, p_c45, p_c101, p_c69]
                    have HN := Lib.hid hN
                    have t_k0 : ((k : Int) == 0) = false := by simp; omega
                    have t_k1 : ((k : Int) == 1) = false := by simp; omega
                    have t_c45 : (c == 45) = false := by simp; omega
                    have t_c101 : (c == 101) = false := by simp; omega
                    have t_c69 : (c == 69) = false := by simp; omega
                    clear hnd hN hdg Hnd Hdg hnew HcB p_k0 p_k1 p_c45 p_c101 p_c69
                    go_wp2_with (first | (go_at_call 42; with_reducible refine hwi.mono ?_; rintro e w' ⟨rfl, rfl⟩))
                    go_meet
                    exact ⟨by rw [HN.out], rfl⟩
                  | true =>
                    have hN : nd = false := by rw [← hnd]; simp [p_k0, p_k1, p_c45, p_c101, p_c69]
                    have HN := Lib.hid hN
                    have t_k0 : ((k : Int) == 0) = false := by simp; omega
                    have t_k1 : ((k : Int) == 1) = false := by simp; omega
                    have t_c45 : (c == 45) = false := by simp; omega
                    have t_c101 : (c == 101) = false := by simp; omega
                    have t_c69 : (c == 69) = false := by simp; omega
                    clear hnd hN hdg Hnd Hdg hnew HcB p_k0 p_k1 p_c45 p_c101 p_c69
                    go_wp2_with (first | (go_at_call 42; with_reducible refine hwi.mono ?_; rintro e w' ⟨rfl, rfl⟩))
                    go_meet
                    exact ⟨by rw [HN.out], rfl⟩
            | false =>
              by_cases p_c45 : c = 45
              · by_cases p_n1 : n = 1
                · have hN : nd = true := by rw [← hnd]; simp [p_c45, p_n1]
                  have HN := Lib.hid hN
                  have t_c45 : (c == 45) = true := by simp; omega
                  have t_n1 : ((n : Int) == 1) = true := by simp; omega
                  clear hnd hN hdg Hnd Hdg hnew HcB p_c45 p_n1
                  go_wp2_with (first | (go_at_call 42; with_reducible refine hwi.mono ?_; rintro e w' ⟨rfl, rfl⟩))
                  go_meet
                  exact ⟨by rw [HN.out], rfl⟩
                · cases dim with
                  | false =>
                    have hN : nd = false := by rw [← hnd]; simp [p_c45, p_n1]
                    have HN := Lib.hid hN
                    have t_c45 : (c == 45) = true := by simp; omega
                    have t_n1 : ((n : Int) == 1) = false := by simp; omega
                    clear hnd hN hdg Hnd Hdg hnew HcB p_c45 p_n1
                    go_wp2_with (first | (go_at_call 42; with_reducible refine hwi.mono ?_; rintro e w' ⟨rfl, rfl⟩))
                    go_meet
                    exact ⟨by rw [HN.out], rfl⟩
                  | true =>
                    by_cases p_k0 : k = 0
                    · have p_c101 : ¬ c = 101 := by omega
                      have p_c69 : ¬ c = 69 := by omega
                      have hN : nd = false := by rw [← hnd]; simp [p_c45, p_n1, p_k0, p_c101, p_c69]
                      have HN := Lib.hid hN
                      have t_c45 : (c == 45) = true := by simp; omega
                      have t_n1 : ((n : Int) == 1) = false := by simp; omega
                      have t_k0 : ((k : Int) == 0) = true := by simp; omega
                      have t_c101 : (c == 101) = false := by simp; omega
                      have t_c69 : (c == 69) = false := by simp; omega
                      clear hnd hN hdg Hnd Hdg hnew HcB p_c45 p_n1 p_k0 p_c101 p_c69
                      go_wp2_with (first | (go_at_call 42; with_reducible refine hwi.mono ?_; rintro e w' ⟨rfl, rfl⟩))
                      go_meet
                      exact ⟨by rw [HN.out], rfl⟩
                    · have hN : nd = false := by rw [← hnd]; simp [p_c45, p_n1, p_k0]
                      have HN := Lib.hid hN
                      have t_c45 : (c == 45) = true := by simp; omega
                      have t_n1 : ((n : Int) == 1) = false := by simp; omega
                      have t_k0 : ((k : Int) == 0) = false := by simp; omega
                      clear hnd hN hdg Hnd Hdg hnew HcB p_c45 p_n1 p_k0
                      go_wp2_with (first | (go_at_call 42; with_reducible refine hwi.mono ?_; rintro e w' ⟨rfl, rfl⟩))
                      go_meet
                      exact ⟨by rw [HN.out], rfl⟩
              · cases dim with
                | false =>
                  have hN : nd = false := by rw [← hnd]; simp [p_c45]
                  have HN := Lib.hid hN
                  have t_c45 : (c == 45) = false := by simp; omega
                  clear hnd hN hdg Hnd Hdg hnew HcB p_c45
                  go_wp2_with (first | (go_at_call 42; with_reducible refine hwi.mono ?_; rintro e w' ⟨rfl, rfl⟩))
                  go_meet
                  exact ⟨by rw [HN.out], rfl⟩
                | true =>
                  by_cases p_k0 : k = 0
                  · by_cases p_c101 : c = 101
                    · have hN : nd = true := by rw [← hnd]; simp [p_c45, p_k0, p_c101]
                      have HN := Lib.hid hN
                      have t_c45 : (c == 45) = false := by simp; omega
                      have t_k0 : ((k : Int) == 0) = true := by simp; omega
                      have t_c101 : (c == 101) = true := by simp; omega
                      clear hnd hN hdg Hnd Hdg hnew HcB p_c45 p_k0 p_c101
                      go_wp2_with (first | (go_at_call 42; with_reducible refine hwi.mono ?_; rintro e w' ⟨rfl, rfl⟩))
                      go_meet
                      exact ⟨by rw [HN.out], rfl⟩
                    · by_cases p_c69 : c = 69
                      · have hN : nd = true := by rw [← hnd]; simp [p_c45, p_k0, p_c101, p_c69]
                        have HN := Lib.hid hN
                        have t_c45 : (c == 45) = false := by simp; omega
                        have t_k0 : ((k : Int) == 0) = true := by simp; omega
                        have t_c101 : (c == 101) = false := by simp; omega
                        have t_c69 : (c == 69) = true := by simp; omega
                        clear hnd hN hdg Hnd Hdg hnew HcB p_c45 p_k0 p_c101 p_c69
                        go_wp2_with (first | (go_at_call 42; with_reducible refine hwi.mono ?_; rintro e w' ⟨rfl, rfl⟩))
                        go_meet
                        exact ⟨by rw [HN.out], rfl⟩
                      · have hN : nd = false := by rw [← hnd]; simp [p_c45, p_k0, p_c101, p_c69]
                        have HN := Lib.hid hN
                        have t_c45 : (c == 45) = false := by simp; omega
                        have t_k0 : ((k : Int) == 0) = true := by simp; omega
                        have t_c101 : (c == 101) = false := by simp; omega
                        have t_c69 : (c == 69) = false := by simp; omega
                        clear hnd hN hdg Hnd Hdg hnew HcB p_c45 p_k0 p_c101 p_c69
                        go_wp2_with (first | (go_at_call 42; with_reducible refine hwi.mono ?_; rintro e w' ⟨rfl, rfl⟩))
                        go_meet
                        exact ⟨by rw [HN.out], rfl⟩
                  · have hN : nd = false := by rw [← hnd]; simp [p_c45, p_k0]
                    have HN := Lib.hid hN
                    have t_c45 : (c == 45) = false := by simp; omega
                    have t_k0 : ((k : Int) == 0) = false := by simp; omega
                    clear hnd hN hdg Hnd Hdg hnew HcB p_c45 p_k0
                    go_wp2_with (first | (go_at_call 42; with_reducible refine hwi.mono ?_; rintro e w' ⟨rfl, rfl⟩))
                    go_meet
                    exact ⟨by rw [HN.out], rfl⟩
        case rest =>
          obtain ⟨rfl, rfl⟩ := hcut
          clear Hnd Hdg hwi
          have hbs := hb.size
          cases nd with
          | true =>
            have hes := rp_escape c.toNat wr (by omega)
            rw [show ((c.toNat : Nat) : Int) = c by omega] at hes
            have hp : partP c true = escP c := rfl
            rw [hp] at hpz hpl10 hnew
            generalize escP c = E at *
            go_wp2_with fail
            refine hes.mono ?_
            rintro e w1 ⟨rfl, hb1⟩
            go_wp2_with fail
            go_roundw
            case rel => exact ⟨k + 1, out ++ E, by omega, hnew, by simp; omega, by rw [bytesOf_append], by go_num, hb.trans (hb1.mono hbs)⟩
            case measure => simp [intOf]; omega
          | false =>
            have hle := rp_letter c wr HcB.out
            have hp : partP c false = Lib.encodeRune c := rfl
            rw [hp] at hpz hpl10 hnew
            generalize Lib.encodeRune c = E at *
            go_wp2_with fail
            refine hle.mono ?_
            rintro e w1 ⟨rfl, hb1⟩
            go_wp2_with fail
            go_roundw
            case rel => exact ⟨k + 1, out ++ E, by omega, hnew, by simp; omega, by rw [bytesOf_append], by go_num, hb.trans (hb1.mono hbs)⟩
            case measure => simp [intOf]; omega
    · obtain rfl : k = n := by omega
      have dk : decide ((k : Int) < (k : Int)) = false := by simp
      have hfin : out = nameP cs dim := by
        have := hrun.out
        rw [← Hlen.out, List.drop_length] at this
        simpa [nameF] using this
      have HF := Lib.hid hfin
      clear hrun hlt hfin
      go_wp2
      go_ret
      exact ⟨by rw [HF.out]; rfl, hb⟩
end Go.Proofs.YthimfoonalfoeaaDoor
/- Layer 4, the document: a printed text: its quoted is walked. -/
set_option linter.unusedVariables false
set_option linter.unusedSimpArgs false
namespace Go.Proofs.YthimfoonalfoeaaDoor
open Go.RowKit Rn Tp
theorem quote_in (c : Int) : decide (c ∈ ([34, 92, 10, 12, 13] : List Int)) = quoteB c := by
  unfold quoteB; rw [Bool.eq_iff_iff]; simp
set_option maxRecDepth 100000 in
set_option maxHeartbeats 8000000 in
theorem rp_quoted (cs : List Int) (A : Option Addr) (n cap : Nat) (w : World) (hr : Reads w w.heap.size 1 A n (cs.map n64)) (hv : ∀ c ∈ cs, isB c = true) (hn : n ≤ 1000000) :
    Calls Tryd.prog 24 #[.slice A n cap] w fun e w' => e = .returned (.string (bytesOf (quotedP cs))) ∧ Below w.heap.size w w' := by
  have hlen : cs.length = n := by simpa using hr.len
  have Hlen := Lib.hid hlen
  have Hv := Lib.hid hv
  clear hlen hv
  have h34 := rp_letter 34 w (by decide)
  rw [show Lib.encodeRune 34 = [34] from by decide] at h34
  go_enter Tryd.func24, Tryd.ntmps24
  go_wp2_with fail
  refine h34.mono ?_
  rintro e w1 ⟨rfl, hb0⟩
  go_wp2_with fail
  go_loopw [3, 4] (fun o i wr => ∃ (k : Nat) (out : List UInt8), k ≤ n ∧ Hid (out ++ (cs.drop k).flatMap (fun c => partP c (quoteB c)) = quotedP cs) ∧ out.length ≤ 10 * k + 1 ∧ o = .string (bytesOf out) ∧ i = .int .i64 k ∧ Below w.heap.size w wr) (fun _ i _ => n - (intOf i).toNat)
  case atStart => exact ⟨0, [34], Nat.zero_le _, rfl, by simp, rfl, rfl, hb0⟩
  case round =>
    obtain ⟨k, out, hk, hrun, hol, rfl, rfl, hb⟩ := hrel
    have hoz := bytesOf_size out
    have hrw := hr.below hb
    by_cases hlt : k < n
    · obtain ⟨b, off, u, hA, hbw, hu, hcell⟩ := hrw.at_ hlt
      subst hA
      obtain ⟨c, hc⟩ : ∃ c, cs[k]? = some c := ⟨_, List.getElem?_eq_getElem (by rw [Hlen.out]; omega)⟩
      rw [List.getElem?_map, hc] at hu
      obtain rfl : u = n64 c := by simpa using hu.symm
      unfold n64 at hcell
      have dk : decide ((k : Int) < (n : Int)) = true := by simp; omega
      have hcB := Hv.out c (List.mem_of_getElem? hc)
      have hcr := isB_range' hcB
      have hdrop : cs.drop k = c :: cs.drop (k + 1) := by
        have hl2 : k < cs.length := by rw [Hlen.out]; omega
        rw [List.drop_eq_getElem_cons hl2]
        rw [List.getElem?_eq_getElem hl2] at hc
        injection hc with hc
        rw [hc]
      obtain ⟨nd, hnd⟩ : ∃ nd, quoteB c = nd := ⟨_, rfl⟩
      have hnew : Hid ((out ++ partP c nd) ++ (cs.drop (k + 1)).flatMap (fun c => partP c (quoteB c)) = quotedP cs) := by
        show _ = _
        rw [← hrun.out, hdrop, ← hnd, List.append_assoc]; rfl
      have hpl10 := part_len hcB nd
      have hpz := bytesOf_size (partP c nd)
      have HcB := Lib.hid hcB
      have hbs := hb.size
      obtain ⟨WA, hWA⟩ : ∃ WA, wr.alloc (.cells #[.int .i64 34, .int .i64 92, .int .i64 10, .int .i64 12, .int .i64 13] 3) = WA := ⟨_, rfl⟩
      have bA : Below wr.heap.size wr WA := by rw [← hWA]; exact (Below.refl _ _).alloc (Nat.le_refl _) _
      have rA : RowAt WA wr.heap.size (([34, 92, 10, 12, 13] : List Int).map n64) := by rw [← hWA]; exact RowAt.new _ _ _
      have hin := rp_in [34, 92, 10, 12, 13] (some ⟨wr.heap.size, 0, none⟩) 5 5 c WA (rA.reads rA.1) (by omega)
      rw [quote_in, hnd] at hin
      have bB := hb.trans (bA.mono hbs)
      have hcl : WA.cell? ⟨b, off + k, none⟩ = some (.int .i64 c) := (bA.cell (p := ⟨b, off + k, none⟩) (by simp; omega)).trans hcell
      have hes := rp_escape c.toNat WA (by omega)
      rw [show ((c.toNat : Nat) : Int) = c by omega] at hes
      have hle := rp_letter c WA hcB
      have hp1 : partP c true = escP c := rfl
      have hp2 : partP c false = Lib.encodeRune c := rfl
      clear hrun hdrop hc hnd hu hcB rA
      go_wp2_with fail
      refine hin.mono ?_
      rintro e w2 ⟨rfl, rfl⟩
      cases nd with
      | true =>
        rw [hp1] at hpz hpl10 hnew
        generalize escP c = E at *
        go_wp2_with fail
        refine hes.mono ?_
        rintro e w3 ⟨rfl, hb1⟩
        go_wp2_with fail
        go_roundw
        case rel => exact ⟨k + 1, out ++ E, by omega, hnew, by simp; omega, by rw [bytesOf_append], by go_num, bB.trans (hb1.mono bB.size)⟩
        case measure => simp [intOf]; omega
      | false =>
        rw [hp2] at hpz hpl10 hnew
        generalize Lib.encodeRune c = E at *
        go_wp2_with fail
        refine hle.mono ?_
        rintro e w3 ⟨rfl, hb1⟩
        go_wp2_with fail
        go_roundw
        case rel => exact ⟨k + 1, out ++ E, by omega, hnew, by simp; omega, by rw [bytesOf_append], by go_num, bB.trans (hb1.mono bB.size)⟩
        case measure => simp [intOf]; omega
    · obtain rfl : k = n := by omega
      have dk : decide ((k : Int) < (k : Int)) = false := by simp
      have hfin : out = quotedP cs := by
        have := hrun.out
        rw [← Hlen.out, List.drop_length] at this
        simpa using this
      have HF := Lib.hid hfin
      clear hrun hlt hfin
      go_wp2
      go_ret
      exact ⟨by rw [HF.out]; rfl, hb⟩
end Go.Proofs.YthimfoonalfoeaaDoor
/- Layer 4, the document: a token's text: its Token is walked. -/
set_option linter.unusedVariables false
set_option linter.unusedSimpArgs false
namespace Go.Proofs.YthimfoonalfoeaaDoor
open Go.RowKit Rn Tp Fx
set_option maxRecDepth 100000 in
set_option maxHeartbeats 16000000 in
theorem rp_token (t : GTok) (w : World) (hl : t.text.length ≤ 1000000) (hn : -9223372036854775808 ≤ t.n ∧ t.n ≤ 9223372036854775807) :
    Calls Tryd.prog 9 #[tokG t] w fun e w' => e = .returned (.string (bytesOf (tokenP t))) ∧ Below w.heap.size w w' := by
  obtain ⟨wA, hwA⟩ : ∃ wA, w.alloc (.cells #[.int .i64 t.kind, .string (bytesOf t.text), .int .i64 t.n] 26) = wA := ⟨_, rfl⟩
  have bA : Below w.heap.size w wA := by rw [← hwA]; exact (Below.refl _ _).alloc (Nat.le_refl _) _
  have rA : RowAt wA w.heap.size [.int .i64 t.kind, .string (bytesOf t.text), .int .i64 t.n] := by rw [← hwA]; exact RowAt.new _ _ _
  obtain ⟨x0, _⟩ := rA.2 0 _ rfl
  obtain ⟨x1, _⟩ := rA.2 1 _ rfl
  obtain ⟨x2, _⟩ := rA.2 2 _ rfl
  have hR := rp_one t wA hl hn
  cases hO : oneB t with
  | false =>
    have htp : tokenP t = [] := by unfold tokenP; rw [if_neg (by rw [hO]; decide)]
    rw [hO] at hR
    have HT := Lib.hid htp
    clear htp hO
    go_enter Tryd.func9, Tryd.ntmps9
    go_wp2_with fail
    refine hR.mono ?_
    rintro e w1 ⟨rfl, hb⟩
    go_wp2
    go_ret
    exact ⟨by rw [HT.out]; rfl, bA.trans (hb.mono bA.size)⟩
  | true =>
    obtain ⟨e1, e2, e3, e4, e5⟩ := one_facts hO
    obtain ⟨k1, k2⟩ := kind_range hO
    have htp : tokenP t = tokenP t := rfl
    conv at htp =>
      rhs
      unfold tokenP
      rw [if_pos hO]
    have hx : (utfP t.text).getD [] = textC t := rfl
    simp only [hx] at htp
    have htx : 11 ≤ t.kind → (14 ≤ t.kind → t.text = []) := by
      intro _ h14
      have hl : textC t = [] := by
        have := e5
        unfold kindB at this
        rw [if_neg (by omega), if_neg (by omega), if_neg (by omega), if_neg (by omega), if_neg (by omega)] at this
        exact (of_decide_eq_true this).2.2
      rw [← e3, hl]; simp [writeP]
    obtain ⟨R, hRR⟩ : ∃ R, tokenP t = R := ⟨_, rfl⟩
    rw [hRR] at htp ⊢
    rw [hO] at hR
    have cC := fun (W : World) => rp_chars t.text W hl
    rw [e1] at cC
    obtain ⟨kind, text, n⟩ := t
    simp only [] at *
    generalize textC ⟨kind, text, n⟩ = cs at *
    have hv : ∀ c ∈ cs, isB c = true := fun c hc => (e2 c hc).1
    have hcl : cs.length ≤ 1000000 := by
      have := posU_ge cs cs.length (Nat.le_refl _)
      rw [posU_end, e3] at this; omega
    clear hRR hO hx e1 e2 e4 e5
    subst e3
    have HP := Lib.hid htp
    have HX := Lib.hid htx
    clear htp htx
    have cN := fun (dim : Bool) (W : World) (A : Option Addr) (co : Nat) (h : Reads W W.heap.size 1 A cs.length (cs.map n64)) => rp_name cs A cs.length co dim W h hv hcl
    have cQ := fun (W : World) (A : Option Addr) (co : Nat) (h : Reads W W.heap.size 1 A cs.length (cs.map n64)) => rp_quoted cs A cs.length co W h hv hcl
    have cF := fun (W : World) => rfx_print n W hn.1 hn.2
    have hK : kind = 1 ∨ kind = 2 ∨ kind = 3 ∨ kind = 4 ∨ kind = 5 ∨ kind = 6 ∨ kind = 7 ∨ kind = 8 ∨ kind = 9 ∨ kind = 10 ∨ (kind = 11 ∨ kind = 12 ∨ kind = 13) ∨ kind = 14 ∨ kind = 15 ∨ kind = 16 := by omega
    have hNz0 := bytesOf_size (nameP cs false)
    have hNl0 := nameP_len (l := cs) false hv
    have hNz1 := bytesOf_size (nameP cs true)
    have hNl1 := nameP_len (l := cs) true hv
    have hQz := bytesOf_size (quotedP cs)
    have hQl := quotedP_len (l := cs) hv
    have hFz := bytesOf_size (Fx.printP n)
    have hFl := printP_len n
    have hTz := bytesOf_size (writeP cs)
    have base : ∀ {W1 : World}, Below wA.heap.size wA W1 → Below w.heap.size w W1 := fun h => bA.trans (h.mono bA.size)
    have cells : ∀ {W1 : World}, Below wA.heap.size wA W1 → W1.cell? ⟨w.heap.size, 0, none⟩ = some (.int .i64 kind) ∧ W1.cell? ⟨w.heap.size, 1, none⟩ = some (.string (bytesOf (writeP cs))) ∧ W1.cell? ⟨w.heap.size, 2, none⟩ = some (.int .i64 n) := fun h =>
      ⟨(h.cell (p := ⟨w.heap.size, 0, none⟩) rA.1).trans x0, (h.cell (p := ⟨w.heap.size, 1, none⟩) rA.1).trans x1, (h.cell (p := ⟨w.heap.size, 2, none⟩) rA.1).trans x2⟩
    rcases hK with rfl | rfl | rfl | rfl | rfl | rfl | rfl | rfl | rfl | rfl | hK | rfl | rfl | rfl
    · go_enter Tryd.func9, Tryd.ntmps9
      go_wp2_with fail
      refine hR.mono ?_
      rintro e w1 ⟨rfl, hb⟩
      obtain ⟨y0, y1, y2⟩ := cells hb
      go_wp2_with fail
      refine (cC _).mono ?_
      rintro e w2 ⟨⟨v, rfl, hown⟩, hb2⟩
      obtain ⟨A, co, rfl, hco, hcm⟩ := own_form hown
      have hrd := Reads.of_own hown
      have hB2 := hb.trans (hb2.mono hb.size)
      obtain ⟨z0, z1, z2⟩ := cells hB2
      clear hown x0 x1 x2 y0 y1 y2 cells
      go_wp2_with fail
      refine (rp_letter 10 w2 (by decide)).mono ?_
      rintro e w3 ⟨rfl, hb3⟩
      have hB3 := hB2.trans (hb3.mono hB2.size)
      go_wp2
      go_ret
      refine ⟨congrArg (fun b => Ending.returned (Value.string b)) ?_, base hB3⟩
      rw [HP.out]
      rfl
    · go_enter Tryd.func9, Tryd.ntmps9
      go_wp2_with fail
      refine hR.mono ?_
      rintro e w1 ⟨rfl, hb⟩
      obtain ⟨y0, y1, y2⟩ := cells hb
      go_wp2_with fail
      refine (cC _).mono ?_
      rintro e w2 ⟨⟨v, rfl, hown⟩, hb2⟩
      obtain ⟨A, co, rfl, hco, hcm⟩ := own_form hown
      have hrd := Reads.of_own hown
      have hB2 := hb.trans (hb2.mono hb.size)
      obtain ⟨z0, z1, z2⟩ := cells hB2
      clear hown x0 x1 x2 y0 y1 y2 cells
      go_wp2_with fail
      refine (cN false w2 A co hrd).mono ?_
      rintro e w3 ⟨rfl, hb3⟩
      have hB3 := hB2.trans (hb3.mono hB2.size)
      go_wp2
      go_ret
      refine ⟨congrArg (fun b => Ending.returned (Value.string b)) ?_, base hB3⟩
      rw [HP.out]
      rfl
    · go_enter Tryd.func9, Tryd.ntmps9
      go_wp2_with fail
      refine hR.mono ?_
      rintro e w1 ⟨rfl, hb⟩
      obtain ⟨y0, y1, y2⟩ := cells hb
      go_wp2_with fail
      refine (cC _).mono ?_
      rintro e w2 ⟨⟨v, rfl, hown⟩, hb2⟩
      obtain ⟨A, co, rfl, hco, hcm⟩ := own_form hown
      have hrd := Reads.of_own hown
      have hB2 := hb.trans (hb2.mono hb.size)
      obtain ⟨z0, z1, z2⟩ := cells hB2
      clear hown x0 x1 x2 y0 y1 y2 cells
      go_wp2_with fail
      refine (cN false w2 A co hrd).mono ?_
      rintro e w3 ⟨rfl, hb3⟩
      have hB3 := hB2.trans (hb3.mono hB2.size)
      go_wp2
      go_ret
      refine ⟨congrArg (fun b => Ending.returned (Value.string b)) ?_, base hB3⟩
      rw [HP.out]
      exact bytesOf_append (nameP cs false) [40]
    · go_enter Tryd.func9, Tryd.ntmps9
      go_wp2_with fail
      refine hR.mono ?_
      rintro e w1 ⟨rfl, hb⟩
      obtain ⟨y0, y1, y2⟩ := cells hb
      go_wp2_with fail
      refine (cC _).mono ?_
      rintro e w2 ⟨⟨v, rfl, hown⟩, hb2⟩
      obtain ⟨A, co, rfl, hco, hcm⟩ := own_form hown
      have hrd := Reads.of_own hown
      have hB2 := hb.trans (hb2.mono hb.size)
      obtain ⟨z0, z1, z2⟩ := cells hB2
      clear hown x0 x1 x2 y0 y1 y2 cells
      go_wp2_with fail
      refine (cN false w2 A co hrd).mono ?_
      rintro e w3 ⟨rfl, hb3⟩
      have hB3 := hB2.trans (hb3.mono hB2.size)
      go_wp2
      go_ret
      refine ⟨congrArg (fun b => Ending.returned (Value.string b)) ?_, base hB3⟩
      rw [HP.out]
      exact bytesOf_append [64] (nameP cs false)
    · go_enter Tryd.func9, Tryd.ntmps9
      go_wp2_with fail
      refine hR.mono ?_
      rintro e w1 ⟨rfl, hb⟩
      obtain ⟨y0, y1, y2⟩ := cells hb
      go_wp2_with fail
      refine (cC _).mono ?_
      rintro e w2 ⟨⟨v, rfl, hown⟩, hb2⟩
      obtain ⟨A, co, rfl, hco, hcm⟩ := own_form hown
      have hrd := Reads.of_own hown
      have hB2 := hb.trans (hb2.mono hb.size)
      obtain ⟨z0, z1, z2⟩ := cells hB2
      clear hown x0 x1 x2 y0 y1 y2 cells
      go_wp2_with fail
      refine (cN false w2 A co hrd).mono ?_
      rintro e w3 ⟨rfl, hb3⟩
      have hB3 := hB2.trans (hb3.mono hB2.size)
      go_wp2
      go_ret
      refine ⟨congrArg (fun b => Ending.returned (Value.string b)) ?_, base hB3⟩
      rw [HP.out]
      exact bytesOf_append [35] (nameP cs false)
    · go_enter Tryd.func9, Tryd.ntmps9
      go_wp2_with fail
      refine hR.mono ?_
      rintro e w1 ⟨rfl, hb⟩
      obtain ⟨y0, y1, y2⟩ := cells hb
      go_wp2_with fail
      refine (cC _).mono ?_
      rintro e w2 ⟨⟨v, rfl, hown⟩, hb2⟩
      obtain ⟨A, co, rfl, hco, hcm⟩ := own_form hown
      have hrd := Reads.of_own hown
      have hB2 := hb.trans (hb2.mono hb.size)
      obtain ⟨z0, z1, z2⟩ := cells hB2
      clear hown x0 x1 x2 y0 y1 y2 cells
      go_wp2_with fail
      refine (cQ w2 A co hrd).mono ?_
      rintro e w3 ⟨rfl, hb3⟩
      have hB3 := hB2.trans (hb3.mono hB2.size)
      go_wp2_with fail
      have s34 : (bytesOf [34]).size = 1 := by rw [bytesOf_size]; rfl
      have hle := rp_letter 34 w3 (by decide)
      rw [show Lib.encodeRune 34 = [34] from by decide] at hle
      refine hle.mono ?_
      rintro e w4 ⟨rfl, hb4⟩
      have hB4 := hB3.trans (hb4.mono hB3.size)
      go_wp2
      go_ret
      refine ⟨congrArg (fun b => Ending.returned (Value.string b)) ?_, base hB4⟩
      rw [HP.out]
      exact bytesOf_append (quotedP cs) [34]
    · go_enter Tryd.func9, Tryd.ntmps9
      go_wp2_with fail
      refine hR.mono ?_
      rintro e w1 ⟨rfl, hb⟩
      obtain ⟨y0, y1, y2⟩ := cells hb
      go_wp2_with fail
      refine (cC _).mono ?_
      rintro e w2 ⟨⟨v, rfl, hown⟩, hb2⟩
      obtain ⟨A, co, rfl, hco, hcm⟩ := own_form hown
      have hrd := Reads.of_own hown
      have hB2 := hb.trans (hb2.mono hb.size)
      obtain ⟨z0, z1, z2⟩ := cells hB2
      clear hown x0 x1 x2 y0 y1 y2 cells
      go_wp2_with fail
      refine (cQ w2 A co hrd).mono ?_
      rintro e w3 ⟨rfl, hb3⟩
      have hB3 := hB2.trans (hb3.mono hB2.size)
      go_wp2
      go_ret
      refine ⟨congrArg (fun b => Ending.returned (Value.string b)) ?_, base hB3⟩
      rw [HP.out]
      rfl
    · go_enter Tryd.func9, Tryd.ntmps9
      go_wp2_with fail
      refine hR.mono ?_
      rintro e w1 ⟨rfl, hb⟩
      obtain ⟨y0, y1, y2⟩ := cells hb
      go_wp2_with fail
      refine (cC _).mono ?_
      rintro e w2 ⟨⟨v, rfl, hown⟩, hb2⟩
      obtain ⟨A, co, rfl, hco, hcm⟩ := own_form hown
      have hrd := Reads.of_own hown
      have hB2 := hb.trans (hb2.mono hb.size)
      obtain ⟨z0, z1, z2⟩ := cells hB2
      clear hown x0 x1 x2 y0 y1 y2 cells
      go_wp2_with fail
      refine (cF w2).mono ?_
      rintro e w3 ⟨rfl, hb3⟩
      have hB3 := hB2.trans (hb3.mono hB2.size)
      go_wp2
      go_ret
      refine ⟨congrArg (fun b => Ending.returned (Value.string b)) ?_, base hB3⟩
      rw [HP.out]
      rfl
    · go_enter Tryd.func9, Tryd.ntmps9
      go_wp2_with fail
      refine hR.mono ?_
      rintro e w1 ⟨rfl, hb⟩
      obtain ⟨y0, y1, y2⟩ := cells hb
      go_wp2_with fail
      refine (cC _).mono ?_
      rintro e w2 ⟨⟨v, rfl, hown⟩, hb2⟩
      obtain ⟨A, co, rfl, hco, hcm⟩ := own_form hown
      have hrd := Reads.of_own hown
      have hB2 := hb.trans (hb2.mono hb.size)
      obtain ⟨z0, z1, z2⟩ := cells hB2
      clear hown x0 x1 x2 y0 y1 y2 cells
      go_wp2_with fail
      refine (cF w2).mono ?_
      rintro e w3 ⟨rfl, hb3⟩
      have hB3 := hB2.trans (hb3.mono hB2.size)
      go_wp2
      go_ret
      refine ⟨congrArg (fun b => Ending.returned (Value.string b)) ?_, base hB3⟩
      rw [HP.out]
      exact bytesOf_append (Fx.printP n) [37]
    · go_enter Tryd.func9, Tryd.ntmps9
      go_wp2_with fail
      refine hR.mono ?_
      rintro e w1 ⟨rfl, hb⟩
      obtain ⟨y0, y1, y2⟩ := cells hb
      go_wp2_with fail
      refine (cC _).mono ?_
      rintro e w2 ⟨⟨v, rfl, hown⟩, hb2⟩
      obtain ⟨A, co, rfl, hco, hcm⟩ := own_form hown
      have hrd := Reads.of_own hown
      have hB2 := hb.trans (hb2.mono hb.size)
      obtain ⟨z0, z1, z2⟩ := cells hB2
      clear hown x0 x1 x2 y0 y1 y2 cells
      go_wp2_with fail
      refine (cF w2).mono ?_
      rintro e w3 ⟨rfl, hb3⟩
      have hB3 := hB2.trans (hb3.mono hB2.size)
      go_wp2_with fail
      refine (cN true w3 A co ((hrd.below hb3).more hb3.size)).mono ?_
      rintro e w4 ⟨rfl, hb4⟩
      have hB4 := hB3.trans (hb4.mono hB3.size)
      go_wp2
      go_ret
      refine ⟨congrArg (fun b => Ending.returned (Value.string b)) ?_, base hB4⟩
      rw [HP.out]
      exact bytesOf_append (Fx.printP n) (nameP cs true)
    · have hfin : R = writeP cs := by
        rw [HP.out]
        rcases hK with rfl | rfl | rfl <;> rfl
      have hks : (kind == 1) = false ∧ (kind == 2) = false ∧ (kind == 3) = false ∧ (kind == 4) = false ∧ (kind == 5) = false ∧ (kind == 6) = false ∧ (kind == 7) = false ∧ (kind == 8) = false ∧ (kind == 9) = false ∧ (kind == 10) = false ∧ (kind == 14) = false ∧ (kind == 15) = false ∧ (kind == 16) = false := by rcases hK with rfl | rfl | rfl <;> decide
      obtain ⟨q1, q2, q3, q4, q5, q6, q7, q8, q9, q10, q11, q12, q13⟩ := hks
      have HF := Lib.hid hfin
      clear hfin HP HX hK
      go_enter Tryd.func9, Tryd.ntmps9
      go_wp2_with fail
      refine hR.mono ?_
      rintro e w1 ⟨rfl, hb⟩
      obtain ⟨y0, y1, y2⟩ := cells hb
      go_wp2_with fail
      refine (cC _).mono ?_
      rintro e w2 ⟨⟨v, rfl, hown⟩, hb2⟩
      obtain ⟨A, co, rfl, hco, hcm⟩ := own_form hown
      have hrd := Reads.of_own hown
      have hB2 := hb.trans (hb2.mono hb.size)
      obtain ⟨z0, z1, z2⟩ := cells hB2
      clear hown x0 x1 x2 y0 y1 y2 cells
      go_wp2
      go_ret
      refine ⟨congrArg (fun b => Ending.returned (Value.string b)) ?_, base hB2⟩
      rw [HF.out]
    · go_enter Tryd.func9, Tryd.ntmps9
      go_wp2_with fail
      refine hR.mono ?_
      rintro e w1 ⟨rfl, hb⟩
      obtain ⟨y0, y1, y2⟩ := cells hb
      go_wp2_with fail
      refine (cC _).mono ?_
      rintro e w2 ⟨⟨v, rfl, hown⟩, hb2⟩
      obtain ⟨A, co, rfl, hco, hcm⟩ := own_form hown
      have hrd := Reads.of_own hown
      have hB2 := hb.trans (hb2.mono hb.size)
      obtain ⟨z0, z1, z2⟩ := cells hB2
      clear hown x0 x1 x2 y0 y1 y2 cells
      go_wp2
      go_ret
      refine ⟨congrArg (fun b => Ending.returned (Value.string b)) ?_, base hB2⟩
      rw [HP.out]
      rfl
    · go_enter Tryd.func9, Tryd.ntmps9
      go_wp2_with fail
      refine hR.mono ?_
      rintro e w1 ⟨rfl, hb⟩
      obtain ⟨y0, y1, y2⟩ := cells hb
      go_wp2_with fail
      refine (cC _).mono ?_
      rintro e w2 ⟨⟨v, rfl, hown⟩, hb2⟩
      obtain ⟨A, co, rfl, hco, hcm⟩ := own_form hown
      have hrd := Reads.of_own hown
      have hB2 := hb.trans (hb2.mono hb.size)
      obtain ⟨z0, z1, z2⟩ := cells hB2
      clear hown x0 x1 x2 y0 y1 y2 cells
      go_wp2
      go_ret
      refine ⟨congrArg (fun b => Ending.returned (Value.string b)) ?_, base hB2⟩
      rw [HP.out]
      rfl
    · go_enter Tryd.func9, Tryd.ntmps9
      go_wp2_with fail
      refine hR.mono ?_
      rintro e w1 ⟨rfl, hb⟩
      obtain ⟨y0, y1, y2⟩ := cells hb
      go_wp2_with fail
      refine (cC _).mono ?_
      rintro e w2 ⟨⟨v, rfl, hown⟩, hb2⟩
      obtain ⟨A, co, rfl, hco, hcm⟩ := own_form hown
      have hrd := Reads.of_own hown
      have hB2 := hb.trans (hb2.mono hb.size)
      obtain ⟨z0, z1, z2⟩ := cells hB2
      clear hown x0 x1 x2 y0 y1 y2 cells
      go_wp2
      go_ret
      refine ⟨congrArg (fun b => Ending.returned (Value.string b)) ?_, base hB2⟩
      rw [HP.out]
      rfl
end Go.Proofs.YthimfoonalfoeaaDoor
/- Layer 4, the document: the text of tokens: its Print is walked. -/
set_option linter.unusedVariables false
set_option linter.unusedSimpArgs false
namespace Go.Proofs.YthimfoonalfoeaaDoor
open Go.RowKit Rn Tp Fx
set_option maxRecDepth 100000 in
set_option maxHeartbeats 16000000 in
theorem rp_print (l : List GTok) (A : Option Addr) (n cap : Nat) (w : World) (hr : TokRow w w.heap.size A n l) :
    Calls Tryd.prog 13 #[.slice A n cap] w fun e w' => e = .returned (.string (bytesOf (printL l))) ∧ Below w.heap.size w w' := by
  have hlen : l.length = n := hr.rd.len
  have hn := hr.hn
  have Hlen := Lib.hid hlen
  clear hlen
  have cR := rp_rights l A n cap w hr
  cases hri : rightB l with
  | false =>
    have hp : printL l = [] := by unfold printL; rw [if_neg (by rw [hri]; decide)]
    rw [hri] at cR
    rw [hp]
    clear hp hri
    go_enter Tryd.func13, Tryd.ntmps13
    go_wp2_with fail
    refine cR.mono ?_
    rintro e w1 ⟨rfl, hb⟩
    go_wp2
    go_ret
    exact ⟨rfl, hb⟩
  | true =>
    have hp : printL l = runP none l := by unfold printL; rw [if_pos hri, run_all]
    rw [hri] at cR
    rw [hp]
    clear hp hri
    go_enter Tryd.func13, Tryd.ntmps13
    go_wp2_with fail
    refine cR.mono ?_
    rintro e w1 ⟨rfl, hb1⟩
    go_wp2_with fail
    go_loopw [3, 4] (fun o i wr => ∃ (k : Nat) (acc : List UInt8), k ≤ n ∧ o = .string (bytesOf acc) ∧ i = .int .i64 k ∧ Hid (acc ++ runP (prevT l k) (l.drop k) = runP none l) ∧ acc.length ≤ 10000104 * k ∧ Below w.heap.size w wr) (fun _ i _ => n - (intOf i).toNat)
    case atStart => exact ⟨0, [], by omega, rfl, rfl, rfl, by simp, hb1⟩
    case round =>
      obtain ⟨k, acc, hk, rfl, rfl, hrun, hal, hb⟩ := hrel
      have hrw := hr.below hb
      have hbs := hb.size
      have haz := bytesOf_size acc
      by_cases hlt : k < n
      · obtain ⟨b, off, t, hA, hbl, ht, c0, c1, c2⟩ := hrw.rd.at_ hlt
        subst hA
        have hsm := hr.small t (List.mem_of_getElem? ht)
        have hstep := run_step ht
        have dk : decide ((k : Int) < (n : Int)) = true := by simp; omega
        have hTl := tokenP_len (t := t) hsm.1
        have hTz := bytesOf_size (tokenP t)
        obtain ⟨ap, hap⟩ : ∃ ap : Bool, (gapP (prevT l k) t = if ap = true then [47, 42, 42, 47] else []) ∧ ((k = 0 ∧ ap = false) ∨ ∃ (j : Nat) (u : GTok), k = j + 1 ∧ ap = apartB u.kind t.kind ∧ wr.cell? ⟨b, off + j * 3, none⟩ = some (.int .i64 u.kind)) := by
          cases k with
          | zero => exact ⟨false, rfl, .inl ⟨rfl, rfl⟩⟩
          | succ j =>
            obtain ⟨b', off', u, hA', _, hu, d0, _, _⟩ := hrw.rd.at_ (show j < n by omega)
            injection hA' with hA'
            injection hA' with e1 e2
            subst e1 e2
            refine ⟨apartB u.kind t.kind, ?_, .inr ⟨j, u, rfl, rfl, d0⟩⟩
            have : prevT l (j + 1) = some u := by unfold prevT; rw [if_neg (by omega)]; exact hu
            rw [this]; rfl
        obtain ⟨hgap, hap2⟩ := hap
        have hnew : Hid ((acc ++ (if ap = true then [47, 42, 42, 47] else [])) ++ tokenP t ++ runP (prevT l (k + 1)) (l.drop (k + 1)) = runP none l) := by
          show _ = _
          rw [← hrun.out, hstep, hgap]; simp
        have HAP := Lib.hid hap2
        have hblt : b < wr.heap.size := Nat.lt_of_lt_of_le hbl hbs
        clear hrun hstep hgap hap2 ht
        go_upto_region 7 with (fail)
        go_cut [36] (fun x wx => x = .bool ap ∧ Below wr.heap.size wr wx)
        case first =>
          have hun : (undef : Value) = .tuple #[] := rfl
          rcases HAP.out with ⟨hk0, hap⟩ | ⟨j, u, hkj, hap, d0⟩
          · have tk : decide ((0 : Int) < (k : Int)) = false := by simp; omega
            have tk2 : decide (0 < k) = false := by simp; omega
            have HN := Lib.hid hap
            clear hk0 hap HAP hnew
            go_wp2_with fail
            go_meet
            exact ⟨by rw [HN.out], Below.refl _ _⟩
          · have tk : decide ((0 : Int) < (k : Int)) = true := by simp; omega
            have tk2 : decide (0 < k) = true := by simp; omega
            have hwj : IntKind.i64.wrap ((k : Int) - 1) = (j : Int) := by rw [IntKind.wrap_i64]; omega
            have hj1 : (k : Int) - 1 = (j : Int) := by omega
            have hjn : (j : Int) < (n : Int) := by omega
            obtain ⟨WA, hWA⟩ : ∃ WA, wr.alloc (.cells #[.int .i64 1, .int .i64 3, .int .i64 12, .int .i64 13, .int .i64 6, .int .i64 14, .int .i64 15, .int .i64 16] 3) = WA := ⟨_, rfl⟩
            have bA : Below wr.heap.size wr WA := by rw [← hWA]; exact (Below.refl _ _).alloc (Nat.le_refl _) _
            have rA : RowAt WA wr.heap.size (([1, 3, 12, 13, 6, 14, 15, 16] : List Int).map n64) := by rw [← hWA]; exact RowAt.new _ _ _
            have hi1 := rp_in [1, 3, 12, 13, 6, 14, 15, 16] (some ⟨wr.heap.size, 0, none⟩) 8 8 u.kind WA (rA.reads rA.1) (by omega)
            have z1 := (bA.cell (p := ⟨b, off + j * 3, none⟩) hblt).trans d0
            obtain ⟨q, hq⟩ : ∃ q, decide (u.kind ∈ ([1, 3, 12, 13, 6, 14, 15, 16] : List Int)) = q := ⟨_, rfl⟩
            rw [hq] at hi1
            cases q with
            | true =>
              have hap2 : ap = false := by
                rw [hap]; unfold apartB
                simp only [decide_eq_true_eq, List.mem_cons, List.not_mem_nil, or_false] at hq
                simp; omega
              have HN := Lib.hid hap2
              clear hkj hap hap2 HAP hnew d0 rA hq
              go_wp2_with fail
              refine hi1.mono ?_
              rintro e w2 ⟨rfl, rfl⟩
              go_wp2_with fail
              go_meet
              exact ⟨by rw [HN.out], bA⟩
            | false =>
              obtain ⟨WB, hWB⟩ : ∃ WB, WA.alloc (.cells #[.int .i64 1, .int .i64 13, .int .i64 6, .int .i64 14, .int .i64 15, .int .i64 16] 3) = WB := ⟨_, rfl⟩
              have bB : Below WA.heap.size WA WB := by rw [← hWB]; exact (Below.refl _ _).alloc (Nat.le_refl _) _
              have rB : RowAt WB WA.heap.size (([1, 13, 6, 14, 15, 16] : List Int).map n64) := by rw [← hWB]; exact RowAt.new _ _ _
              have hi2 := rp_in [1, 13, 6, 14, 15, 16] (some ⟨WA.heap.size, 0, none⟩) 6 6 t.kind WB (rB.reads rB.1) (by omega)
              have bAB := bA.trans (bB.mono bA.size)
              have z2 := (bAB.cell (p := ⟨b, off + k * 3, none⟩) hblt).trans c0
              obtain ⟨q2, hq2⟩ : ∃ q2, decide (t.kind ∈ ([1, 13, 6, 14, 15, 16] : List Int)) = q2 := ⟨_, rfl⟩
              rw [hq2] at hi2
              have hap2 : ap = !q2 := by
                rw [hap, ← hq2]; unfold apartB
                simp only [decide_eq_false_iff_not, List.mem_cons, List.not_mem_nil, or_false] at hq
                rw [Bool.eq_iff_iff]
                simp; omega
              have HN := Lib.hid hap2
              clear hkj hap hap2 HAP hnew d0 rA rB hq hq2
              go_wp2_with fail
              refine hi1.mono ?_
              rintro e w2 ⟨rfl, rfl⟩
              go_wp2_with fail
              refine hi2.mono ?_
              rintro e w3 ⟨rfl, rfl⟩
              go_wp2_with fail
              go_meet
              exact ⟨by rw [HN.out], bAB⟩
        case rest =>
          obtain ⟨rfl, hbc⟩ := hcut
          have y0 := (hbc.cell (p := ⟨b, off + k * 3, none⟩) hblt).trans c0
          have y1 := (hbc.cell (p := ⟨b, off + k * 3 + 1, none⟩) hblt).trans c1
          have y2 := (hbc.cell (p := ⟨b, off + k * 3 + 2, none⟩) hblt).trans c2
          have hTk := rp_token t wc hsm.1 hsm.2
          have hbwc := hb.trans (hbc.mono hbs)
          clear HAP c0 c1 c2 hrw
          cases ap with
          | true =>
            rw [if_pos rfl] at hnew
            generalize tokenP t = E at *
            go_wp2_with fail
            refine hTk.mono ?_
            rintro e w4 ⟨rfl, hb4⟩
            go_wp2_with fail
            go_roundw
            case rel => exact ⟨k + 1, acc ++ [47, 42, 42, 47] ++ E, by omega, by show Value.string (bytesOf acc ++ bytesOf [47, 42, 42, 47] ++ bytesOf E) = _; rw [bytesOf_append, bytesOf_append], by go_num, hnew, by simp; omega, hbwc.trans (hb4.mono hbwc.size)⟩
            case measure => simp [intOf]; omega
          | false =>
            rw [if_neg (by decide), List.append_nil] at hnew
            generalize tokenP t = E at *
            go_wp2_with fail
            refine hTk.mono ?_
            rintro e w4 ⟨rfl, hb4⟩
            go_wp2_with fail
            go_roundw
            case rel => exact ⟨k + 1, acc ++ E, by omega, by rw [bytesOf_append], by go_num, hnew, by simp; omega, hbwc.trans (hb4.mono hbwc.size)⟩
            case measure => simp [intOf]; omega
      · obtain rfl : k = n := by omega
        have dk : decide ((k : Int) < (k : Int)) = false := by simp
        have hfin : acc = runP none l := by
          have := hrun.out
          rw [← Hlen.out, List.drop_length] at this
          simpa [runP] using this
        have HF := Lib.hid hfin
        clear hrun hlt hfin
        go_wp2
        go_ret
        exact ⟨by rw [HF.out]; rfl, hb⟩
end Go.Proofs.YthimfoonalfoeaaDoor
set_option linter.unusedVariables false
set_option linter.unusedSimpArgs false
namespace Go.Proofs.YthimfoonalfoeaaDoor
open Go.RowKit Rn Tp Tk Fx
set_option maxRecDepth 100000 in
set_option maxHeartbeats 8000000 in
theorem walk_PrintTells (l : List GTok) (A : Option Addr) (n cap : Nat) (w : World)
    (hr : ReadsT w w.heap.size A n l) (hm : n ≤ cap) (hcap : cap ≤ maxLen) (hs : ∀ t ∈ l, t.text.length ≤ maxLen ∧ -9223372036854775808 ≤ t.n ∧ t.n ≤ 9223372036854775807) (hT : Tabs w) (hE : Env w) (hD : Db w) :
    Calls Tryd.prog 3 #[.slice A n cap] w fun e w' => e = .returned (.bool true) ∧ Below w.heap.size w w' := by
  unfold maxLen at hcap
  have cF := tp_few l A n cap w hr (by omega) (fun t ht => (hs t ht).1)
  have cAw := fun (W : World) (h : Below w.heap.size w W) => tp_awake W (hT.below h) (hE.below h) (hD.below h)
  cases hf : fewB l with
  | false =>
    rw [hf] at cF
    go_enter Tryd.func3, Tryd.ntmps3
    go_wp2_with fail
    refine cF.mono ?_
    rintro e w1 ⟨rfl, rfl⟩
    go_wp2_with fail
    refine (cAw _ (Below.refl _ _)).mono ?_
    rintro e w2 ⟨rfl, hb2⟩
    go_wp2
    go_ret
    exact ⟨rfl, hb2⟩
  | true =>
    rw [hf] at cF
    have ra := row_few hr hs hf
    have hn := ra.hn
    have cR := fun (W : World) (h : Below w.heap.size w W) => tp_rights l A n cap W (ra.more h) (hT.below h)
    have cR' := fun (W : World) (h : Below w.heap.size w W) => rp_rights l A n cap W (ra.more h)
    have cP := fun (W : World) (h : Below w.heap.size w W) => tp_print l A n cap W (ra.more h) (hT.below h) (hE.below h) (hD.below h)
    have cP' := fun (W : World) (h : Below w.heap.size w W) => rp_print l A n cap W (ra.more h)
    obtain ⟨R, hR⟩ : ∃ R, rightB l = R := ⟨_, rfl⟩
    obtain ⟨S, hS⟩ : ∃ S, printL l = S := ⟨_, rfl⟩
    simp only [hR, hS] at cR cR' cP cP'
    clear hs hf hR hS
    go_enter Tryd.func3, Tryd.ntmps3
    go_wp2_with fail
    refine cF.mono ?_
    rintro e w1 ⟨rfl, rfl⟩
    go_wp2_with fail
    go_loopw [11] (fun i wr => ∃ k : Nat, k ≤ n ∧ i = .int .i64 k ∧ Below w.heap.size w wr) (fun i _ => n - (intOf i).toNat)
    case atStart => exact ⟨0, by omega, rfl, Below.refl _ _⟩
    case round =>
      obtain ⟨k, hk, rfl, hb⟩ := hrel
      have hrw := (ra.below hb).rd
      by_cases hlt : k < n
      · obtain ⟨b, off, t, hA, hbw, ht, c0, c1, c2⟩ := hrw.at_ hlt
        subst hA
        have hsm := ra.small t (List.mem_of_getElem? ht)
        have dk : decide ((k : Int) < (n : Int)) = true := by simp; omega
        have hbs := hb.size
        obtain ⟨WA, hWA⟩ : ∃ WA, wr.alloc (.cells #[.int .i64 t.kind, .string (bytesOf t.text), .int .i64 t.n] 26) = WA := ⟨_, rfl⟩
        have bA : Below wr.heap.size wr WA := by rw [← hWA]; exact (Below.refl _ _).alloc (Nat.le_refl _) _
        have rA : RowAt WA wr.heap.size [.int .i64 t.kind, .string (bytesOf t.text), .int .i64 t.n] := by rw [← hWA]; exact RowAt.new _ _ _
        have bA' := hb.trans (bA.mono hbs)
        have z0 := bw_cell (B := WA.heap.size) (rA.2 0 _ rfl).1 rA.1
        have z1 := bw_cell (B := WA.heap.size) (rA.2 1 _ rfl).1 rA.1
        have z2 := bw_cell (B := WA.heap.size) (rA.2 2 _ rfl).1 rA.1
        have cT := fun (W : World) (h : Below WA.heap.size WA W) => tp_token t W hsm.1 hsm.2 (hT.below (bA'.trans (h.mono bA'.size))) (hE.below (bA'.trans (h.mono bA'.size))) (hD.below (bA'.trans (h.mono bA'.size)))
        have cT' := fun (W : World) => rp_token t W hsm.1 hsm.2
        generalize tokenP t = E at *
        have HWA := Lib.hid hWA
        clear ht
        go_upto_region 6 with (fail)
        refine wp_region_bw WA.heap.size (by kernel_rfl) (by kernel_rfl) ?_
        repeat (go_big_quiet_step (first | (go_at_call 8; rename_i W; exact calls_bw (Nat.le_refl _) (cT W.val W.is)) | (go_at_call 9; rename_i W; exact calls_bw (Nat.le_refl _) (cT' W.val))))
        refine wpQuiet_nil ?_
        intro _ hw'
        obtain ⟨W, rfl⟩ := hw'
        have bW := bA'.trans (W.is.mono bA'.size)
        go_wp2_with fail
        go_roundw
        case rel => exact ⟨k + 1, by omega, by go_num, bW⟩
        case measure => simp [intOf]; omega
      · obtain rfl : k = n := by omega
        have dk : decide ((k : Int) < (k : Int)) = false := by simp
        go_wp2_with fail
        refine (cR _ hb).mono ?_
        rintro e w2 ⟨rfl, hb2⟩
        have hB2 := hb.trans (hb2.mono hb.size)
        go_wp2_with fail
        refine (cR' _ hB2).mono ?_
        rintro e w3 ⟨rfl, hb3⟩
        have hB3 := hB2.trans (hb3.mono hB2.size)
        go_wp2_with fail
        refine (cP _ hB3).mono ?_
        rintro e w4 ⟨rfl, hb4⟩
        have hB4 := hB3.trans (hb4.mono hB3.size)
        go_wp2_with fail
        refine (cP' _ hB4).mono ?_
        rintro e w5 ⟨rfl, hb5⟩
        have hB5 := hB4.trans (hb5.mono hB4.size)
        go_wp2_with fail
        refine (cAw _ hB5).mono ?_
        rintro e w6 ⟨rfl, hb6⟩
        go_wp2
        go_ret
        exact ⟨rfl, hB5.trans (hb6.mono hB5.size)⟩
end Go.Proofs.YthimfoonalfoeaaDoor
