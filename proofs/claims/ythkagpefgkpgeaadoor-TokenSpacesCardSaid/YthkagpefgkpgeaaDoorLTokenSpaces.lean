/- The law TokenSpaces is walked: each token that the scanner tells is one that may be, and stands where it may. -/
import Derived.Test.YthkagpefgkpgeaaDoorB10
set_option linter.unusedVariables false
set_option linter.unusedSimpArgs false
namespace Go.Proofs.YthkagpefgkpgeaaDoor
open Go.RowKit Rn Tk
/-- the kind behind a token -/
def nextK (TS : List Tok) (k : Nat) : Nat := ((TS[k + 1]?).map (·.kind)).getD 0
theorem chain_facts {TS : List Tok} {k : Nat} {t : Tok} (hc : chainOk TS) (h : TS[k]? = some t) : TokOk t ∧ (t.kind = 1 → nextK TS k ≠ 1) ∧ (t.kind = 7 → nextK TS k = 1) := by
  have := chain_at TS k t hc h
  rw [head_at] at this
  exact this
set_option maxRecDepth 100000 in
set_option maxHeartbeats 20000000 in
theorem walk_TokenSpaces (bs : List UInt8) (A : Option Addr) (n cap : Nat) (w : World) (hr : Reads w w.heap.size 1 A n (bs.map b8)) (hm : n ≤ cap) (hcap : cap ≤ maxLen) (hT : Tabs w) (hE : Env w) :
    Calls Tryd.prog 3 #[.slice A n cap] w fun e w' => e = .returned (.bool true) ∧ Below w.heap.size w w' := by
  have hlen : bs.length = n := by simpa using hr.len
  have hcap' := hcap
  unfold maxLen at hcap'
  by_cases hn : n ≤ 2000
  · have d1 : decide ((2000 : Int) < (n : Int)) = false := by simp; omega
    have hl := scan_len (readP bs)
    have hl2 : (readP bs).length ≤ bs.length := readF_len bs.length bs
    have hch := scan_chain (readP bs)
    obtain ⟨TS, hTS⟩ : ∃ T, scanT (readP bs) = T := ⟨_, rfl⟩
    have hc1 := tk_scan bs A n cap w hr hm hcap hT hE
    rw [hTS] at hc1 hl hch
    have hTl : TS.length ≤ n := by omega
    clear hTS hl hl2 hlen
    go_enter Tryd.func3, Tryd.ntmps3
    go_wp2_with fail
    refine hc1.mono ?_
    rintro e w1 ⟨hb1, hret⟩
    unfold ScanRet at hret
    rw [if_neg (by omega)] at hret
    obtain ⟨v, rfl, hown1⟩ := hret
    obtain ⟨A1, c1, rfl, hr1⟩ := toks_reads hown1
    obtain ⟨m, hm1⟩ : ∃ m, TS.length = m := ⟨_, rfl⟩
    rw [hm1] at hr1 hTl ⊢
    have Hm1 := Lib.hid hm1
    have Hch := Lib.hid hch
    clear hm1 hown1 hch hc1
    have tw := hT.below hb1
    have ew := hE.below hb1
    have d2 : decide ((m : Int) ≤ (n : Int)) = true := by simp; omega
    go_wp2_with fail
    go_loopw [20] (fun i wr => ∃ k : Nat, k ≤ m ∧ i = .int .i64 k ∧ Below w1.heap.size w1 wr) (fun i _ => m - (intOf i).toNat)
    case atStart => exact ⟨0, by omega, rfl, Below.refl _ _⟩
    case round =>
      obtain ⟨k, hk, rfl, hb⟩ := hrel
      by_cases hlt : k < m
      · obtain ⟨b, off, x, hA, hbl, hxk, f0, f1, f2⟩ := hr1.at_ hlt
        obtain ⟨t, htk, rfl⟩ : ∃ t, TS[k]? = some t ∧ t.g = x := by
          rw [List.getElem?_map] at hxk
          cases h : TS[k]? with
          | none => rw [h] at hxk; cases hxk
          | some t => rw [h] at hxk; exact ⟨t, rfl, by simpa using hxk⟩
        obtain ⟨ok, ok1, ok7⟩ := chain_facts Hch.out htk
        have hnx : k + 1 < m → ∃ t2, TS[k + 1]? = some t2 ∧ w1.cell? ⟨b, off + (k + 1) * 3, none⟩ = some (.int .i64 (t2.kind : Int)) := by
          intro h
          obtain ⟨b2, off2, x2, hA2, _, hxk2, e0, _, _⟩ := hr1.at_ h
          rw [hA] at hA2
          injection hA2 with hA2
          injection hA2 with h1 h2
          subst h1 h2
          rw [List.getElem?_map] at hxk2
          cases h : TS[k + 1]? with
          | none => rw [h] at hxk2; cases hxk2
          | some t2 => rw [h] at hxk2; refine ⟨t2, rfl, ?_⟩; simp at hxk2; rw [e0, ← hxk2]; rfl
        have hnone : ¬ k + 1 < m → nextK TS k = 0 := by
          intro h
          unfold nextK
          rw [List.getElem?_eq_none (by rw [Hm1.out]; omega)]; rfl
        have hsome : ∀ t2, TS[k + 1]? = some t2 → nextK TS k = t2.kind := fun t2 h => by unfold nextK; rw [h]; rfl
        obtain ⟨nx, hnxe⟩ : ∃ x, nextK TS k = x := ⟨_, rfl⟩
        rw [hnxe] at hnone hsome ok1 ok7
        subst hA
        have hki : (k : Int) < (m : Int) := by omega
        have hk0 : (0 : Int) ≤ (k : Int) := by omega
        obtain ⟨kd, tx, N⟩ := t
        have f0' : wr.cell? ⟨b, off + k * 3, none⟩ = some (.int .i64 (kd : Int)) := (hb.cell (p := ⟨b, off + k * 3, none⟩) hbl).trans f0
        have f1' : wr.cell? ⟨b, off + k * 3 + 1, none⟩ = some (.string (bytesOf tx)) := (hb.cell (p := ⟨b, off + k * 3 + 1, none⟩) hbl).trans f1
        have f2' : wr.cell? ⟨b, off + k * 3 + 2, none⟩ = some (.int .i64 N) := (hb.cell (p := ⟨b, off + k * 3 + 2, none⟩) hbl).trans f2
        have Hok := Lib.hid ok
        have Hok1 := Lib.hid ok1
        have Hok7 := Lib.hid ok7
        have Hnx := Lib.hid hnx
        have Hnone := Lib.hid hnone
        have Hsome := Lib.hid hsome
        clear ok ok1 ok7 hnx hnone hsome hnxe htk hxk f0 f1 f2
        go_upto_if 29 with (fail)
        go_cut [7] (fun x wx => x = .int .i64 (nx : Int) ∧ RowAt wx wr.heap.size [.int .i64 (kd : Int), .string (bytesOf tx), .int .i64 N] ∧ Below w1.heap.size w1 wx)
        case first =>
          have hrow := RowAt.new wr 29 #[.int .i64 (kd : Int), .string (bytesOf tx), .int .i64 N]
          have hB3 : Below w1.heap.size w1 (wr.alloc (.cells #[.int .i64 (kd : Int), .string (bytesOf tx), .int .i64 N] 29)) := hb.alloc hb.size _
          by_cases h1 : k + 1 < m
          · obtain ⟨t2, ht2, hcell⟩ := Hnx.out h1
            have hnk := Hsome.out t2 ht2
            have g0 : wr.cell? ⟨b, off + (k + 1) * 3, none⟩ = some (.int .i64 (t2.kind : Int)) := (hb.cell (p := ⟨b, off + (k + 1) * 3, none⟩) hbl).trans hcell
            have hbw : b < wr.heap.size := Nat.lt_of_lt_of_le hbl hb.size
            have g1 : (wr.alloc (.cells #[.int .i64 (kd : Int), .string (bytesOf tx), .int .i64 N] 29)).cell? ⟨b, off + (k + 1) * 3, none⟩ = some (.int .i64 (t2.kind : Int)) := (World.cell?_alloc_lt wr _ ⟨b, off + (k + 1) * 3, none⟩ hbw).trans g0
            have dk1 : (k : Int) + 1 < (m : Int) := by omega
            have dk2 : (0 : Int) ≤ (k : Int) + 1 := by omega
            have dk3 : ((k : Int) + 1).toNat = k + 1 := by omega
            have Hnk := Lib.hid hnk
            clear hnk ht2 hcell g0
            generalize wr.alloc (.cells #[.int .i64 (kd : Int), .string (bytesOf tx), .int .i64 N] 29) = W at hrow hB3 g1 ⊢
            go_wp2_with fail
            go_meet
            exact ⟨by rw [Hnk.out], hrow, hB3⟩
          · have dk : ¬ ((k : Int) + 1 < (m : Int)) := by omega
            have hnk := Lib.hid (Hnone.out h1)
            clear h1
            go_wp2_with fail
            go_meet
            exact ⟨by rw [hnk.out]; rfl, hrow, hB3⟩
        case rest =>
          obtain ⟨rfl, hrow, hB3⟩ := hcut
          clear f0' f1' f2'
          obtain ⟨c0, z0⟩ := hrow.2 0 _ rfl
          obtain ⟨c1', z1⟩ := hrow.2 1 _ rfl
          obtain ⟨c2, z2⟩ := hrow.2 2 _ rfl
          obtain ⟨nm, hnm⟩ : ∃ b, decide (2 ≤ kd ∧ kd ≤ 5 ∨ kd = 10 ∨ 11 ≤ kd ∧ kd ≤ 13) = b := ⟨_, rfl⟩
          have hun : (undef : Value) = .tuple #[] := rfl
          go_upto_region 10 with (fail)
          go_cut [8] (fun x wx => x = .bool nm ∧ wx = wc)
          case first =>
            obtain ⟨o1, o2, o3, o4, o5⟩ := Hok.out
            simp only at o1 o2 o3 o4 o5
            have hkd : kd = 1 ∨ (2 ≤ kd ∧ kd ≤ 5) ∨ kd = 6 ∨ kd = 7 ∨ (8 ≤ kd ∧ kd ≤ 9) ∨ kd = 10 ∨ (11 ≤ kd ∧ kd ≤ 13) ∨ (14 ≤ kd ∧ kd ≤ 16) := by omega
            rcases hkd with hkd | hkd | hkd | hkd | hkd | hkd | hkd | hkd
            -- kinds 1
            · obtain rfl : false = nm := by rw [← hnm]; simp; omega
              have q0 : decide ((2 : Int) ≤ (kd : Int)) = false := by simp; omega
              have q1 : decide ((kd : Int) ≤ 5) = true := by simp; omega
              have q2 : ((kd : Int) == 10) = false := by simp; omega
              have q3 : decide ((11 : Int) ≤ (kd : Int)) = false := by simp; omega
              have q4 : decide ((kd : Int) ≤ 13) = true := by simp; omega
              clear o1 o2 o3 o4 o5 hrow Hok1 Hok7 Hok Hnx Hnone Hsome hkd
              go_wp2_with fail
              go_meet
              exact ⟨rfl, rfl⟩
            · obtain rfl : true = nm := by rw [← hnm]; simp; omega
              have q0 : decide ((2 : Int) ≤ (kd : Int)) = true := by simp; omega
              have q1 : decide ((kd : Int) ≤ 5) = true := by simp; omega
              have q2 : ((kd : Int) == 10) = false := by simp; omega
              have q3 : decide ((11 : Int) ≤ (kd : Int)) = false := by simp; omega
              have q4 : decide ((kd : Int) ≤ 13) = true := by simp; omega
              clear o1 o2 o3 o4 o5 hrow Hok1 Hok7 Hok Hnx Hnone Hsome hkd
              go_wp2_with fail
              go_meet
              exact ⟨rfl, rfl⟩
            · obtain rfl : false = nm := by rw [← hnm]; simp; omega
              have q0 : decide ((2 : Int) ≤ (kd : Int)) = true := by simp; omega
              have q1 : decide ((kd : Int) ≤ 5) = false := by simp; omega
              have q2 : ((kd : Int) == 10) = false := by simp; omega
              have q3 : decide ((11 : Int) ≤ (kd : Int)) = false := by simp; omega
              have q4 : decide ((kd : Int) ≤ 13) = true := by simp; omega
              clear o1 o2 o3 o4 o5 hrow Hok1 Hok7 Hok Hnx Hnone Hsome hkd
              go_wp2_with fail
              go_meet
              exact ⟨rfl, rfl⟩
            · obtain rfl : false = nm := by rw [← hnm]; simp; omega
              have q0 : decide ((2 : Int) ≤ (kd : Int)) = true := by simp; omega
              have q1 : decide ((kd : Int) ≤ 5) = false := by simp; omega
              have q2 : ((kd : Int) == 10) = false := by simp; omega
              have q3 : decide ((11 : Int) ≤ (kd : Int)) = false := by simp; omega
              have q4 : decide ((kd : Int) ≤ 13) = true := by simp; omega
              clear o1 o2 o3 o4 o5 hrow Hok1 Hok7 Hok Hnx Hnone Hsome hkd
              go_wp2_with fail
              go_meet
              exact ⟨rfl, rfl⟩
            · obtain rfl : false = nm := by rw [← hnm]; simp; omega
              have q0 : decide ((2 : Int) ≤ (kd : Int)) = true := by simp; omega
              have q1 : decide ((kd : Int) ≤ 5) = false := by simp; omega
              have q2 : ((kd : Int) == 10) = false := by simp; omega
              have q3 : decide ((11 : Int) ≤ (kd : Int)) = false := by simp; omega
              have q4 : decide ((kd : Int) ≤ 13) = true := by simp; omega
              clear o1 o2 o3 o4 o5 hrow Hok1 Hok7 Hok Hnx Hnone Hsome hkd
              go_wp2_with fail
              go_meet
              exact ⟨rfl, rfl⟩
            · obtain rfl : true = nm := by rw [← hnm]; simp; omega
              have q0 : decide ((2 : Int) ≤ (kd : Int)) = true := by simp; omega
              have q1 : decide ((kd : Int) ≤ 5) = false := by simp; omega
              have q2 : ((kd : Int) == 10) = true := by simp; omega
              have q3 : decide ((11 : Int) ≤ (kd : Int)) = false := by simp; omega
              have q4 : decide ((kd : Int) ≤ 13) = true := by simp; omega
              clear o1 o2 o3 o4 o5 hrow Hok1 Hok7 Hok Hnx Hnone Hsome hkd
              go_wp2_with fail
              go_meet
              exact ⟨rfl, rfl⟩
            · obtain rfl : true = nm := by rw [← hnm]; simp; omega
              have q0 : decide ((2 : Int) ≤ (kd : Int)) = true := by simp; omega
              have q1 : decide ((kd : Int) ≤ 5) = false := by simp; omega
              have q2 : ((kd : Int) == 10) = false := by simp; omega
              have q3 : decide ((11 : Int) ≤ (kd : Int)) = true := by simp; omega
              have q4 : decide ((kd : Int) ≤ 13) = true := by simp; omega
              clear o1 o2 o3 o4 o5 hrow Hok1 Hok7 Hok Hnx Hnone Hsome hkd
              go_wp2_with fail
              go_meet
              exact ⟨rfl, rfl⟩
            · obtain rfl : false = nm := by rw [← hnm]; simp; omega
              have q0 : decide ((2 : Int) ≤ (kd : Int)) = true := by simp; omega
              have q1 : decide ((kd : Int) ≤ 5) = false := by simp; omega
              have q2 : ((kd : Int) == 10) = false := by simp; omega
              have q3 : decide ((11 : Int) ≤ (kd : Int)) = true := by simp; omega
              have q4 : decide ((kd : Int) ≤ 13) = false := by simp; omega
              clear o1 o2 o3 o4 o5 hrow Hok1 Hok7 Hok Hnx Hnone Hsome hkd
              go_wp2_with fail
              go_meet
              exact ⟨rfl, rfl⟩
            -- end of kinds 1
          case rest =>
            obtain ⟨rfl, rfl⟩ := hcut
            go_upto_region 11 with (fail)
            go_cut [126] (fun x wx => x = .bool false ∧ wx = wc)
            case first =>
              obtain ⟨o1, o2, o3, o4, o5⟩ := Hok.out
              simp only at o1 o2 o3 o4 o5
              have hkd : kd = 1 ∨ (2 ≤ kd ∧ kd ≤ 5) ∨ kd = 6 ∨ kd = 7 ∨ (8 ≤ kd ∧ kd ≤ 9) ∨ kd = 10 ∨ (11 ≤ kd ∧ kd ≤ 13) ∨ (14 ≤ kd ∧ kd ≤ 16) := by omega
              rcases hkd with hkd | hkd | hkd | hkd | hkd | hkd | hkd | hkd
              -- kinds 2
              · obtain rfl : false = nm := by rw [← hnm]; simp; omega
                obtain rfl := o4 (by omega) (by omega) (by omega)
                obtain ⟨hx1, hx2⟩ := str_none
                have hn1 : ((nx : Int) == 1) = false := by have := Hok1.out hkd; simp; omega
                have q0 : decide ((kd : Int) < 1) = false := by simp; omega
                have q1 : decide ((16 : Int) < (kd : Int)) = false := by simp; omega
                have q2 : ((kd : Int) == 1) = true := by simp; omega
                have q3 : ((kd : Int) == 7) = false := by simp; omega
                have q4 : ((kd : Int) != 6) = true := by simp; omega
                have q5 : ((kd : Int) != 7) = true := by simp; omega
                obtain rfl : N = 0 := by rcases Int.decEq N 0 with h | h; exact absurd (o5 h) (by omega); exact h
                clear o1 o2 o3 o4 o5 hrow Hok1 Hok7 Hok Hnx Hnone Hsome hkd
                go_wp2_with fail
                go_meet
                exact ⟨rfl, rfl⟩
              · obtain rfl : true = nm := by rw [← hnm]; simp; omega
                have hx := str_some (o3 (by omega))
                obtain ⟨hx1, hx2⟩ := hx
                have q0 : decide ((kd : Int) < 1) = false := by simp; omega
                have q1 : decide ((16 : Int) < (kd : Int)) = false := by simp; omega
                have q2 : ((kd : Int) == 1) = false := by simp; omega
                have q3 : ((kd : Int) == 7) = false := by simp; omega
                have q4 : ((kd : Int) != 6) = true := by simp; omega
                have q5 : ((kd : Int) != 7) = true := by simp; omega
                obtain rfl : N = 0 := by rcases Int.decEq N 0 with h | h; exact absurd (o5 h) (by omega); exact h
                clear o1 o2 o3 o4 o5 hrow Hok1 Hok7 Hok Hnx Hnone Hsome hkd
                go_wp2_with fail
                go_meet
                exact ⟨rfl, rfl⟩
              · obtain rfl : false = nm := by rw [← hnm]; simp; omega
                have q0 : decide ((kd : Int) < 1) = false := by simp; omega
                have q1 : decide ((16 : Int) < (kd : Int)) = false := by simp; omega
                have q2 : ((kd : Int) == 1) = false := by simp; omega
                have q3 : ((kd : Int) == 7) = false := by simp; omega
                have q4 : ((kd : Int) != 6) = false := by simp; omega
                have q5 : ((kd : Int) != 7) = true := by simp; omega
                obtain rfl : N = 0 := by rcases Int.decEq N 0 with h | h; exact absurd (o5 h) (by omega); exact h
                clear o1 o2 o3 o4 o5 hrow Hok1 Hok7 Hok Hnx Hnone Hsome hkd
                go_wp2_with fail
                go_meet
                exact ⟨rfl, rfl⟩
              · obtain rfl : false = nm := by rw [← hnm]; simp; omega
                obtain rfl := Hok7.out hkd
                have hn1 : (((1 : Nat) : Int) != 1) = false := rfl
                have q0 : decide ((kd : Int) < 1) = false := by simp; omega
                have q1 : decide ((16 : Int) < (kd : Int)) = false := by simp; omega
                have q2 : ((kd : Int) == 1) = false := by simp; omega
                have q3 : ((kd : Int) == 7) = true := by simp; omega
                have q4 : ((kd : Int) != 6) = true := by simp; omega
                have q5 : ((kd : Int) != 7) = false := by simp; omega
                obtain rfl : N = 0 := by rcases Int.decEq N 0 with h | h; exact absurd (o5 h) (by omega); exact h
                clear o1 o2 o3 o4 o5 hrow Hok1 Hok7 Hok Hnx Hnone Hsome hkd
                go_wp2_with fail
                go_meet
                exact ⟨rfl, rfl⟩
              · obtain rfl : false = nm := by rw [← hnm]; simp; omega
                obtain rfl := o4 (by omega) (by omega) (by omega)
                obtain ⟨hx1, hx2⟩ := str_none
                have q0 : decide ((kd : Int) < 1) = false := by simp; omega
                have q1 : decide ((16 : Int) < (kd : Int)) = false := by simp; omega
                have q2 : ((kd : Int) == 1) = false := by simp; omega
                have q3 : ((kd : Int) == 7) = false := by simp; omega
                have q4 : ((kd : Int) != 6) = true := by simp; omega
                have q5 : ((kd : Int) != 7) = true := by simp; omega
                have q6 : decide ((kd : Int) < 8) = false := by simp; omega
                have q7 : decide ((10 : Int) < (kd : Int)) = false := by simp; omega
                by_cases h0 : N = 0
                · subst h0
                  clear o1 o2 o3 o4 o5 hrow Hok1 Hok7 Hok Hnx Hnone Hsome hkd
                  go_wp2_with fail
                  go_meet
                  exact ⟨rfl, rfl⟩
                · have hN : (N != 0) = true := by simp; exact h0
                  clear h0
                  clear o1 o2 o3 o4 o5 hrow Hok1 Hok7 Hok Hnx Hnone Hsome hkd
                  go_wp2_with fail
                  go_meet
                  exact ⟨rfl, rfl⟩
              · obtain rfl : true = nm := by rw [← hnm]; simp; omega
                have hx := str_some (o3 (by omega))
                obtain ⟨hx1, hx2⟩ := hx
                have q0 : decide ((kd : Int) < 1) = false := by simp; omega
                have q1 : decide ((16 : Int) < (kd : Int)) = false := by simp; omega
                have q2 : ((kd : Int) == 1) = false := by simp; omega
                have q3 : ((kd : Int) == 7) = false := by simp; omega
                have q4 : ((kd : Int) != 6) = true := by simp; omega
                have q5 : ((kd : Int) != 7) = true := by simp; omega
                have q6 : decide ((kd : Int) < 8) = false := by simp; omega
                have q7 : decide ((10 : Int) < (kd : Int)) = false := by simp; omega
                by_cases h0 : N = 0
                · subst h0
                  clear o1 o2 o3 o4 o5 hrow Hok1 Hok7 Hok Hnx Hnone Hsome hkd
                  go_wp2_with fail
                  go_meet
                  exact ⟨rfl, rfl⟩
                · have hN : (N != 0) = true := by simp; exact h0
                  clear h0
                  clear o1 o2 o3 o4 o5 hrow Hok1 Hok7 Hok Hnx Hnone Hsome hkd
                  go_wp2_with fail
                  go_meet
                  exact ⟨rfl, rfl⟩
              · obtain rfl : true = nm := by rw [← hnm]; simp; omega
                have hx := str_some (o3 (by omega))
                obtain ⟨hx1, hx2⟩ := hx
                have q0 : decide ((kd : Int) < 1) = false := by simp; omega
                have q1 : decide ((16 : Int) < (kd : Int)) = false := by simp; omega
                have q2 : ((kd : Int) == 1) = false := by simp; omega
                have q3 : ((kd : Int) == 7) = false := by simp; omega
                have q4 : ((kd : Int) != 6) = true := by simp; omega
                have q5 : ((kd : Int) != 7) = true := by simp; omega
                obtain rfl : N = 0 := by rcases Int.decEq N 0 with h | h; exact absurd (o5 h) (by omega); exact h
                clear o1 o2 o3 o4 o5 hrow Hok1 Hok7 Hok Hnx Hnone Hsome hkd
                go_wp2_with fail
                go_meet
                exact ⟨rfl, rfl⟩
              · obtain rfl : false = nm := by rw [← hnm]; simp; omega
                obtain rfl := o4 (by omega) (by omega) (by omega)
                obtain ⟨hx1, hx2⟩ := str_none
                have q0 : decide ((kd : Int) < 1) = false := by simp; omega
                have q1 : decide ((16 : Int) < (kd : Int)) = false := by simp; omega
                have q2 : ((kd : Int) == 1) = false := by simp; omega
                have q3 : ((kd : Int) == 7) = false := by simp; omega
                have q4 : ((kd : Int) != 6) = true := by simp; omega
                have q5 : ((kd : Int) != 7) = true := by simp; omega
                obtain rfl : N = 0 := by rcases Int.decEq N 0 with h | h; exact absurd (o5 h) (by omega); exact h
                clear o1 o2 o3 o4 o5 hrow Hok1 Hok7 Hok Hnx Hnone Hsome hkd
                go_wp2_with fail
                go_meet
                exact ⟨rfl, rfl⟩
              -- end of kinds 2
            case rest =>
              obtain ⟨rfl, rfl⟩ := hcut
              clear c0 c1' c2 z0 z1 z2 hrow
              go_wp2_with fail
              go_roundw
              case rel => exact ⟨k + 1, by omega, by go_num, hB3⟩
              case measure => simp [intOf]; omega
      · obtain rfl : k = m := by omega
        have dk : decide ((k : Int) < (k : Int)) = false := by simp
        go_wp2_with fail
        refine (tk_awake wr (tw.below hb) (ew.below hb)).mono ?_
        rintro e w4 ⟨rfl, hb4⟩
        go_wp2
        go_ret
        exact ⟨rfl, hb1.trans ((hb.trans (hb4.mono hb.size)).mono hb1.size)⟩
  · have d1 : decide ((2000 : Int) < (n : Int)) = true := by simp; omega
    go_enter Tryd.func3, Tryd.ntmps3
    go_wp2_with fail
    refine (tk_awake w hT hE).mono ?_
    rintro e w4 ⟨rfl, hb4⟩
    go_wp2
    go_ret
    exact ⟨rfl, hb4⟩
end Go.Proofs.YthkagpefgkpgeaaDoor
