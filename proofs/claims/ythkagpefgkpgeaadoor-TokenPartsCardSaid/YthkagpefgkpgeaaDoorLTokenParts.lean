/- The law TokenParts is walked: two sheets with a white space between are the tokens of both. -/
import Derived.Test.YthkagpefgkpgeaaDoorB10
import Derived.Test.YthkagpefgkpgeaaDoorB11
import Derived.Deep.DeepCutAuto
set_option linter.unusedVariables false
set_option linter.unusedSimpArgs false
namespace Go.Proofs.YthkagpefgkpgeaaDoor
open Go.RowKit Rn Tk
def NiceB (l : List UInt8) : Prop := ∀ x ∈ l, x.toNat ≠ 34 ∧ x.toNat ≠ 39 ∧ x.toNat ≠ 92 ∧ x.toNat ≠ 47 ∧ x.toNat ≠ 13 ∧ x.toNat < 128
theorem cells_one (l : List GTok) : ∀ u ∈ cellsG l, u.oneCell' = true := by
  intro u hu
  obtain ⟨t, _, hu⟩ := List.mem_flatMap.1 hu
  simp [cells1] at hu
  rcases hu with rfl | rfl | rfl <;> rfl
theorem cellsG_app (a b : List GTok) : cellsG a ++ cellsG b = cellsG (a ++ b) := by simp [cellsG]
theorem idxA_0 (A B : Option Addr) (n c m d : Nat) (w : World) : (Instr.index 31 (.agg #[.slice A n c, .slice B m d]) (.int .i64 0)).run Tryd.prog w = .ok (.slice A n c) w := by kernel_rfl
theorem idxA_1 (A B : Option Addr) (n c m d : Nat) (w : World) : (Instr.index 31 (.agg #[.slice A n c, .slice B m d]) (.int .i64 1)).run Tryd.prog w = .ok (.slice B m d) w := by kernel_rfl
theorem byte_info8 : (Tryd.prog.info? 5).map (fun i => (i.zero, i.size, i.bytes)) = some (some (.int .u8 0), 1, 1) := by kernel_rfl
theorem parts_g (xs ys : List UInt8) (ha : NiceB xs) : (scanT (readP (xs ++ [32] ++ ys))).map Tok.g = (scanT (readP xs)).map Tok.g ++ (if lastK (scanT (readP xs)) = 1 then [] else [⟨1, [], 0⟩]) ++ (if headK (scanT (readP ys)) = 1 then ((scanT (readP ys)).map Tok.g).tail else (scanT (readP ys)).map Tok.g) := by
  have h := parts_plain xs ys (fun x hx => by have := ha x hx; omega)
  rw [List.append_assoc, List.singleton_append, h]
  split <;> split <;> simp [sp, Tok.g]
theorem ReadsT.cut1 {w : World} {B n c : Nat} {A : Option Addr} {l : List GTok} (h : ReadsT w B A n l) (hn : 1 ≤ n) (hc : n ≤ c) : ReadsT w B (cutAt A c 1 3) (n - 1) l.tail := by
  have hl := h.len
  obtain ⟨t, r, rfl⟩ := List.exists_cons_of_length_pos (l := l) (by omega)
  simp only [List.length_cons] at hl
  refine ⟨by rw [cellsG_len, List.tail_cons]; omega, fun hp => ?_⟩
  obtain ⟨b, off, rfl, hb, hcell⟩ := h.2 (by omega)
  have e : cutAt (some ⟨b, off, none⟩) c 1 3 = some ⟨b, off + 3, none⟩ := by
    unfold cutAt
    rw [if_neg (by omega)]
    show some ((⟨b, off, none⟩ : Addr).add 3) = _
    congr 1
  refine ⟨b, off + 3, e, hb, fun j u hu => ?_⟩
  have hx : (cellsG (t :: r))[3 + j]? = some u := by
    have e2 : cellsG (t :: r) = cells1 t ++ cellsG r := rfl
    rw [e2, List.getElem?_append_right (by simp [cells1])]
    simpa [cells1] using hu
  have := hcell (3 + j) u hx
  rw [← Nat.add_assoc] at this
  exact this
theorem last_at (X : List Tok) (j : Nat) (h : X.length = j + 1) : ∃ t, X[j]? = some t ∧ lastK X = t.kind := by
  refine ⟨X[j]'(by omega), List.getElem?_eq_getElem (by omega), ?_⟩
  unfold lastK
  have e : X.length - 1 = j := by omega
  rw [List.getLast?_eq_getElem?, e, List.getElem?_eq_getElem (show j < X.length by omega)]; rfl
theorem tok_size (W : World) : (sizeOf 29).run Tryd.prog W = .ok 3 W := by kernel_rfl
set_option maxRecDepth 100000 in
set_option maxHeartbeats 20000000 in
theorem walk_TokenParts (xs : List UInt8) (A : Option Addr) (n cap : Nat) (ys : List UInt8) (A' : Option Addr) (m cap' : Nat) (w : World)
    (hr : Reads w w.heap.size 1 A n (xs.map b8)) (hm : n ≤ cap) (hcap : cap ≤ maxLen) (hr' : Reads w w.heap.size 1 A' m (ys.map b8)) (hm' : m ≤ cap') (hcap' : cap' ≤ maxLen) (hT : Tabs w) (hE : Env w) :
    Calls Tryd.prog 4 #[.slice A n cap, .slice A' m cap'] w fun e w' => e = .returned (.bool true) ∧ Below w.heap.size w w' := by
  have hlen : xs.length = n := by simpa using hr.len
  have hlen' : ys.length = m := by simpa using hr'.len
  have hc1 := hcap
  have hc2 := hcap'
  unfold maxLen at hc1 hc2
  by_cases hn : n ≤ 1000
  · have d1 : decide ((1000 : Int) < (n : Int)) = false := by simp; omega
    by_cases hn2 : m ≤ 1000
    · have d2 : decide ((1000 : Int) < (m : Int)) = false := by simp; omega
      have Hlen := Lib.hid hlen
      have Hlen' := Lib.hid hlen'
      clear hlen hlen'
      go_enter Tryd.func4, Tryd.ntmps4
      go_wp2_with fail
      go_loopw [28] (fun i wr => ∃ k : Nat, k ≤ 2 ∧ i = .int .i64 k ∧ w = wr ∧ (1 ≤ k → Hid (NiceB xs)) ∧ (2 ≤ k → Hid (NiceB ys))) (fun i _ => 2 - (intOf i).toNat)
      case atStart => exact ⟨0, by omega, rfl, rfl, fun h => absurd h (by omega), fun h => absurd h (by omega)⟩
      case round =>
        obtain ⟨k, hk, rfl, rfl, h1, h2⟩ := hrel
        have hk2 : k = 0 ∨ k = 1 ∨ k = 2 := by omega
        have hlen := Hlen.out
        have hlen' := Hlen'.out
        rcases hk2 with rfl | rfl | rfl
        · have hix := fun W => idxA_0 A A' n cap m cap' W
          clear h1 h2
          go_wp2_with fail
          go_loopw [33] (fun i wr => ∃ j : Nat, j ≤ n ∧ i = .int .i64 j ∧ w = wr ∧ Hid (NiceB (xs.take j))) (fun i _ => n - (intOf i).toNat)
          case atStart => exact ⟨0, by omega, rfl, rfl, (by show NiceB _; intro x h; simp at h)⟩
          case round =>
            obtain ⟨j, hj, rfl, rfl, hx⟩ := hrel
            by_cases hlt : j < n
            · obtain ⟨b, off, u, hA, hbw, hxu, hcell⟩ := hr.at_ hlt
              subst hA
              obtain ⟨y, hy, rfl⟩ : ∃ y, xs[j]? = some y ∧ b8 y = u := by
                rw [List.getElem?_map] at hxu
                cases h : xs[j]? with
                | none => rw [h] at hxu; cases hxu
                | some y => rw [h] at hxu; exact ⟨y, rfl, by simpa using hxu⟩
              unfold b8 at hcell
              have hji : (j : Int) < (n : Int) := by omega
              have hj0 : (0 : Int) ≤ (j : Int) := by omega
              have y256 := y.toNat_lt
              obtain ⟨g, hg⟩ : ∃ g, decide (y.toNat = 34 ∨ y.toNat = 39 ∨ y.toNat = 92 ∨ y.toNat = 47 ∨ y.toNat = 13 ∨ 128 ≤ y.toNat) = g := ⟨_, rfl⟩
              have hnew : g = false → Hid (NiceB (xs.take (j + 1))) := by
                intro h
                rw [h] at hg
                have hg := of_decide_eq_false hg
                show NiceB _
                rw [take_snoc _ _ _ hy]
                intro z hz
                rcases List.mem_append.1 hz with h | h
                · exact hx.out z h
                · obtain rfl : z = y := by simpa using h
                  omega
              have Hnew := Lib.hid hnew
              have hun : (undef : Value) = .tuple #[] := rfl
              clear hnew hy hxu hx
              go_upto_region 9 with (fail)
              go_cut [58] (fun x wx => x = .bool g ∧ w = wx)
              case first =>
                by_cases h34 : y.toNat = 34
                · have e34 : ((y.toNat : Int) == 34) = true := by simp; omega
                  obtain rfl : true = g := by rw [← hg]; simp [h34]
                  clear hg h34
                  go_wp2_with fail
                  all_goals go_meet
                  all_goals exact ⟨rfl, rfl⟩
                have e34 : ((y.toNat : Int) == 34) = false := by simp; omega
                by_cases h39 : y.toNat = 39
                · have e39 : ((y.toNat : Int) == 39) = true := by simp; omega
                  obtain rfl : true = g := by rw [← hg]; simp [h39]
                  clear hg h34 h39
                  go_wp2_with fail
                  all_goals go_meet
                  all_goals exact ⟨rfl, rfl⟩
                have e39 : ((y.toNat : Int) == 39) = false := by simp; omega
                by_cases h92 : y.toNat = 92
                · have e92 : ((y.toNat : Int) == 92) = true := by simp; omega
                  obtain rfl : true = g := by rw [← hg]; simp [h92]
                  clear hg h34 h39 h92
                  go_wp2_with fail
                  all_goals go_meet
                  all_goals exact ⟨rfl, rfl⟩
                have e92 : ((y.toNat : Int) == 92) = false := by simp; omega
                by_cases h47 : y.toNat = 47
                · have e47 : ((y.toNat : Int) == 47) = true := by simp; omega
                  obtain rfl : true = g := by rw [← hg]; simp [h47]
                  clear hg h34 h39 h92 h47
                  go_wp2_with fail
                  all_goals go_meet
                  all_goals exact ⟨rfl, rfl⟩
                have e47 : ((y.toNat : Int) == 47) = false := by simp; omega
                by_cases h13 : y.toNat = 13
                · have e13 : ((y.toNat : Int) == 13) = true := by simp; omega
                  obtain rfl : true = g := by rw [← hg]; simp [h13]
                  clear hg h34 h39 h92 h47 h13
                  go_wp2_with fail
                  all_goals go_meet
                  all_goals exact ⟨rfl, rfl⟩
                have e13 : ((y.toNat : Int) == 13) = false := by simp; omega
                by_cases h128 : 128 ≤ y.toNat
                · have e128 : decide ((128 : Int) ≤ (y.toNat : Int)) = true := by simp; omega
                  obtain rfl : true = g := by rw [← hg]; simp [h128]
                  clear hg h128 h34 h39 h92 h47 h13
                  go_wp2_with fail
                  all_goals go_meet
                  all_goals exact ⟨rfl, rfl⟩
                have e128 : decide ((128 : Int) ≤ (y.toNat : Int)) = false := by simp; omega
                obtain rfl : false = g := by rw [← hg]; simp [*]
                clear hg h128 h34 h39 h92 h47 h13
                go_wp2_with fail
                all_goals go_meet
                all_goals exact ⟨rfl, rfl⟩
              case rest =>
                obtain ⟨rfl, rfl⟩ := hcut
                clear hun
                cases g with
                | true =>
                  clear hg Hnew
                  go_wp2_with fail
                  refine (tk_awake w hT hE).mono ?_
                  rintro e w4 ⟨rfl, hb4⟩
                  go_wp2
                  go_ret
                  exact ⟨rfl, hb4⟩
                | false =>
                  have hn2 := Hnew.out rfl
                  clear hg Hnew
                  go_wp2_with fail
                  go_roundw
                  case rel => exact ⟨j + 1, by omega, by go_num, trivial, hn2⟩
                  case measure => simp [intOf]; omega
            · obtain rfl : j = n := by omega
              have hy := hx.out
              rw [List.take_of_length_le (by omega)] at hy
              have Hy := Lib.hid hy
              clear hx hy hlt hj
              go_wp2_with fail
              go_roundw
              case rel => exact ⟨1, by omega, rfl, trivial, fun _ => Hy, fun h => absurd h (by omega)⟩
              case measure => simp [intOf]
        · have hix := fun W => idxA_1 A A' n cap m cap' W
          clear h2
          go_wp2_with fail
          go_loopw [33] (fun i wr => ∃ j : Nat, j ≤ m ∧ i = .int .i64 j ∧ w = wr ∧ Hid (NiceB (ys.take j))) (fun i _ => m - (intOf i).toNat)
          case atStart => exact ⟨0, by omega, rfl, rfl, (by show NiceB _; intro x h; simp at h)⟩
          case round =>
            obtain ⟨j, hj, rfl, rfl, hx⟩ := hrel
            by_cases hlt : j < m
            · obtain ⟨b, off, u, hA, hbw, hxu, hcell⟩ := hr'.at_ hlt
              subst hA
              obtain ⟨y, hy, rfl⟩ : ∃ y, ys[j]? = some y ∧ b8 y = u := by
                rw [List.getElem?_map] at hxu
                cases h : ys[j]? with
                | none => rw [h] at hxu; cases hxu
                | some y => rw [h] at hxu; exact ⟨y, rfl, by simpa using hxu⟩
              unfold b8 at hcell
              have hji : (j : Int) < (m : Int) := by omega
              have hj0 : (0 : Int) ≤ (j : Int) := by omega
              have y256 := y.toNat_lt
              obtain ⟨g, hg⟩ : ∃ g, decide (y.toNat = 34 ∨ y.toNat = 39 ∨ y.toNat = 92 ∨ y.toNat = 47 ∨ y.toNat = 13 ∨ 128 ≤ y.toNat) = g := ⟨_, rfl⟩
              have hnew : g = false → Hid (NiceB (ys.take (j + 1))) := by
                intro h
                rw [h] at hg
                have hg := of_decide_eq_false hg
                show NiceB _
                rw [take_snoc _ _ _ hy]
                intro z hz
                rcases List.mem_append.1 hz with h | h
                · exact hx.out z h
                · obtain rfl : z = y := by simpa using h
                  omega
              have Hnew := Lib.hid hnew
              have hun : (undef : Value) = .tuple #[] := rfl
              clear hnew hy hxu hx
              go_upto_region 9 with (fail)
              go_cut [58] (fun x wx => x = .bool g ∧ w = wx)
              case first =>
                by_cases h34 : y.toNat = 34
                · have e34 : ((y.toNat : Int) == 34) = true := by simp; omega
                  obtain rfl : true = g := by rw [← hg]; simp [h34]
                  clear hg h34
                  go_wp2_with fail
                  all_goals go_meet
                  all_goals exact ⟨rfl, rfl⟩
                have e34 : ((y.toNat : Int) == 34) = false := by simp; omega
                by_cases h39 : y.toNat = 39
                · have e39 : ((y.toNat : Int) == 39) = true := by simp; omega
                  obtain rfl : true = g := by rw [← hg]; simp [h39]
                  clear hg h34 h39
                  go_wp2_with fail
                  all_goals go_meet
                  all_goals exact ⟨rfl, rfl⟩
                have e39 : ((y.toNat : Int) == 39) = false := by simp; omega
                by_cases h92 : y.toNat = 92
                · have e92 : ((y.toNat : Int) == 92) = true := by simp; omega
                  obtain rfl : true = g := by rw [← hg]; simp [h92]
                  clear hg h34 h39 h92
                  go_wp2_with fail
                  all_goals go_meet
                  all_goals exact ⟨rfl, rfl⟩
                have e92 : ((y.toNat : Int) == 92) = false := by simp; omega
                by_cases h47 : y.toNat = 47
                · have e47 : ((y.toNat : Int) == 47) = true := by simp; omega
                  obtain rfl : true = g := by rw [← hg]; simp [h47]
                  clear hg h34 h39 h92 h47
                  go_wp2_with fail
                  all_goals go_meet
                  all_goals exact ⟨rfl, rfl⟩
                have e47 : ((y.toNat : Int) == 47) = false := by simp; omega
                by_cases h13 : y.toNat = 13
                · have e13 : ((y.toNat : Int) == 13) = true := by simp; omega
                  obtain rfl : true = g := by rw [← hg]; simp [h13]
                  clear hg h34 h39 h92 h47 h13
                  go_wp2_with fail
                  all_goals go_meet
                  all_goals exact ⟨rfl, rfl⟩
                have e13 : ((y.toNat : Int) == 13) = false := by simp; omega
                by_cases h128 : 128 ≤ y.toNat
                · have e128 : decide ((128 : Int) ≤ (y.toNat : Int)) = true := by simp; omega
                  obtain rfl : true = g := by rw [← hg]; simp [h128]
                  clear hg h128 h34 h39 h92 h47 h13
                  go_wp2_with fail
                  all_goals go_meet
                  all_goals exact ⟨rfl, rfl⟩
                have e128 : decide ((128 : Int) ≤ (y.toNat : Int)) = false := by simp; omega
                obtain rfl : false = g := by rw [← hg]; simp [*]
                clear hg h128 h34 h39 h92 h47 h13
                go_wp2_with fail
                all_goals go_meet
                all_goals exact ⟨rfl, rfl⟩
              case rest =>
                obtain ⟨rfl, rfl⟩ := hcut
                clear hun
                cases g with
                | true =>
                  clear hg Hnew
                  go_wp2_with fail
                  refine (tk_awake w hT hE).mono ?_
                  rintro e w4 ⟨rfl, hb4⟩
                  go_wp2
                  go_ret
                  exact ⟨rfl, hb4⟩
                | false =>
                  have hn2 := Hnew.out rfl
                  clear hg Hnew
                  go_wp2_with fail
                  go_roundw
                  case rel => exact ⟨j + 1, by omega, by go_num, trivial, hn2⟩
                  case measure => simp [intOf]; omega
            · obtain rfl : j = m := by omega
              have hy := hx.out
              rw [List.take_of_length_le (by omega)] at hy
              have Hy := Lib.hid hy
              clear hx hy hlt hj
              go_wp2_with fail
              go_roundw
              case rel => exact ⟨2, by omega, rfl, trivial, fun _ => h1 (by omega), fun _ => Hy⟩
              case measure => simp [intOf]
        · have Hx := h1 (by omega)
          clear h1 h2
          have hpl := parts_g xs ys Hx.out
          have hlx := scan_len (readP xs)
          have hly := scan_len (readP ys)
          have hlz := scan_len (readP (xs ++ [32] ++ ys))
          have hrx : (readP xs).length ≤ xs.length := readF_len xs.length xs
          have hry : (readP ys).length ≤ ys.length := readF_len ys.length ys
          have hrz : (readP (xs ++ [32] ++ ys)).length ≤ (xs ++ [32] ++ ys).length := readF_len _ _
          rw [List.length_append, List.length_append, hlen, hlen', List.length_singleton] at hrz
          rw [hlen] at hrx
          rw [hlen'] at hry
          have hsx := tk_scan xs A n cap w hr hm hcap hT hE
          have hsy := fun w' (hb : Below w.heap.size w w') => tk_scan ys A' m cap' w' ((hr'.below hb).more hb.size) hm' hcap' (hT.below hb) (hE.below hb)
          have hsz := fun (A2 : Option Addr) (c2 : Nat) (w' : World) (hb : Below w.heap.size w w') (h1 : Reads w' w'.heap.size 1 A2 (n + 1 + m) ((xs ++ [32] ++ ys).map b8)) (h2 : n + 1 + m ≤ c2) (h3 : c2 ≤ maxLen) => tk_scan (xs ++ [32] ++ ys) A2 (n + 1 + m) c2 w' h1 h2 h3 (hT.below hb) (hE.below hb)
          obtain ⟨X, hX⟩ : ∃ T, scanT (readP xs) = T := ⟨_, rfl⟩
          obtain ⟨Y, hY⟩ : ∃ T, scanT (readP ys) = T := ⟨_, rfl⟩
          obtain ⟨Z, hZ⟩ : ∃ T, scanT (readP (xs ++ [32] ++ ys)) = T := ⟨_, rfl⟩
          rw [hX] at hpl hlx hsx
          rw [hY] at hpl hly
          rw [hZ] at hpl hlz
          simp only [hY] at hsy
          simp only [hZ] at hsz
          have Hpl := Lib.hid hpl
          have hX1 : X.length ≤ 1000 := by omega
          have hY1 : Y.length ≤ 1000 := by omega
          have hZ1 : Z.length ≤ 2001 := by omega
          obtain ⟨i0, hi, hz0, hz1, hz2⟩ := info_got byte_info8
          obtain ⟨i1, hi1, hy0, hy1, hy2⟩ := info_got tok_info
          obtain ⟨lx, hlx2⟩ : ∃ k, X.length = k := ⟨_, rfl⟩
          obtain ⟨ly, hly2⟩ : ∃ k, Y.length = k := ⟨_, rfl⟩
          have Hlx := Lib.hid hlx2
          have Hly := Lib.hid hly2
          rw [hlx2] at hX1
          rw [hly2] at hY1
          clear hX hY hZ hpl hlx hly hlz hrx hry hrz hlen hlen' hlx2 hly2
          go_wp2_with fail
          refine hsx.mono ?_
          rintro e w1 ⟨hb1, hret⟩
          unfold ScanRet at hret
          rw [if_neg (by rw [Hlx.out]; omega)] at hret
          obtain ⟨v, rfl, hown⟩ := hret
          obtain ⟨Ax, cx, rfl, hrX⟩ := toks_reads hown
          rw [Hlx.out] at hrX ⊢
          clear hown hsx
          go_wp2_with fail
          refine (hsy w1 hb1).mono ?_
          rintro e w2 ⟨hb2, hret⟩
          unfold ScanRet at hret
          rw [if_neg (by rw [Hly.out]; omega)] at hret
          obtain ⟨v, rfl, hown⟩ := hret
          obtain ⟨Ay, cy, hv, hrY⟩ := toks_reads hown
          have hcyy : ly ≤ cy := by
            obtain ⟨A0, c0, h0, h1, _⟩ := own_form hown
            rw [hv] at h0; injection h0 with _ _ h0; rw [h0, ← Hly.out]; exact h1
          subst hv
          rw [Hly.out] at hrY ⊢
          have hrX2 := hrX.below hb2
          have hB2 := hb1.trans (hb2.mono hb1.size)
          clear hown hsy hb1 hb2 hrX
          have hrA := (hr.below hB2).more hB2.size
          have hrB := (hr'.below hB2).more hB2.size
          have hown0 := World.ownsRow_lit (base := w2.heap.size) (e := 5) (size := 1) w2 #[] 0 (Nat.le_refl _) (Nat.zero_le _) rfl
          have hb0 : Below w2.heap.size w2 (w2.alloc (.cells #[] 5)) := (Below.refl _ _).alloc (Nat.le_refl _) _
          have hs0 := hb0.size
          go_wp2_with (at_builtin; refine wpList_append_reads _ rfl (.tmp 73) (.tmp 74) _ rfl w2.heap.size 5 i0 (.int .u8 0) 1 1 Tryd.underlying22 hi hz0 hz1 hz2 rfl (by decide) _ 0 [] rfl hown0 w2.heap.size A n cap (xs.map b8) rfl (hrA.alloc (Nat.le_refl _) _) ?c1 ?c2 ?c3 ?c4 ?_)
          case c1 => (intro u hu; first | rfl | (simp at hu; obtain ⟨x, _, rfl⟩ := hu; rfl))
          case c2 => unfold maxLen; omega
          case c3 => omega
          all_goals try (case c4 => first | exact hs0 | omega | (simp; omega))
          intro v3 w3 hown3 hg3
          try simp only [List.nil_append, Nat.zero_add] at hown3
          have hb3 := grow_below hb0 hs0 hown0 hg3
          have hs3 := hb3.size
          clear hg3 hown0 hb0 hs0
          have hb3' := hb3.alloc hs3 (.cells #[.int .u8 32] 5)
          have hs3' := hb3'.size
          have hrow := (RowAt.new w3 5 #[.int .u8 32]).reads (B := (w3.alloc (.cells #[.int .u8 32] 5)).heap.size) (RowAt.new w3 5 #[.int .u8 32]).1
          go_wp2_with (at_builtin; refine wpList_append_reads _ rfl (.tmp 75) (.tmp 76) _ rfl w2.heap.size 5 i0 (.int .u8 0) 1 1 Tryd.underlying22 hi hz0 hz1 hz2 rfl (by decide) _ n (xs.map b8) rfl (hown3.alloc _) _ (some ⟨w3.heap.size, 0, none⟩) 1 1 ([32].map b8) rfl hrow ?d1 ?d2 ?d3 ?d4 ?_)
          case d1 => first | rfl | (intro u hu; simp at hu; subst hu; rfl)
          case d2 => unfold maxLen; omega
          case d3 => omega
          all_goals try (case d4 => first | exact hs3' | omega | (simp; omega))
          intro v4 w4 hown4 hg4
          replace hown4 : w4.ownsRow w2.heap.size 5 1 v4 (n + 1) ((xs ++ [32]).map b8) := by simpa using hown4
          have hb4 := grow_below hb3' hs3' (hown3.alloc _) hg4
          have hs4 := hb4.size
          clear hg4 hown3 hb3 hs3 hb3' hs3' hrow
          have hrB4 := hrB.below hb4
          go_wp2_with (at_builtin; refine wpList_append_reads _ rfl (.tmp 77) (.tmp 78) _ rfl w2.heap.size 5 i0 (.int .u8 0) 1 1 Tryd.underlying22 hi hz0 hz1 hz2 rfl (by decide) v4 (n + 1) _ rfl hown4 w2.heap.size A' m cap' (ys.map b8) rfl hrB4 ?f1 ?f2 ?f3 ?f4 ?_)
          case f1 => (intro u hu; first | rfl | (simp at hu; obtain ⟨x, _, rfl⟩ := hu; rfl))
          case f2 => unfold maxLen; omega
          case f3 => omega
          all_goals try (case f4 => first | exact hs4 | omega | (simp; omega))
          intro v5 w5 hown5 hg5
          replace hown5 : w5.ownsRow w2.heap.size 5 1 v5 (n + 1 + m) ((xs ++ [32] ++ ys).map b8) := by simpa using hown5
          have hb5 := grow_below hb4 hs4 hown4 hg5
          have hs5 := hb5.size
          obtain ⟨A5, c5, rfl, h51, h52⟩ := own_form hown5
          have hr5 := Reads.of_own hown5
          clear hg5 hown4 hb4 hs4 hrB4 hown5 hrA hrB
          have hB5 := hB2.trans (hb5.mono hB2.size)
          have hsz5 := hsz A5 c5 w5 hB5 hr5 h51 h52
          have hrX5 := hrX2.below hb5
          have hrY5 := hrY.below hb5
          clear hsz hr5 hrX2 hrY hb5 hs5
          go_wp2_with fail
          refine hsz5.mono ?_
          rintro e w6 ⟨hb6, hret⟩
          unfold ScanRet at hret
          rw [if_neg (by omega)] at hret
          obtain ⟨v, rfl, hown⟩ := hret
          obtain ⟨Az, cz, rfl, hrZ⟩ := toks_reads hown
          have hrX6 := hrX5.below hb6
          have hrY6 := hrY5.below hb6
          have hB6 := hB5.trans (hb6.mono hB5.size)
          obtain ⟨lz, hlz⟩ : ∃ k, Z.length = k := ⟨_, rfl⟩
          rw [hlz] at hrZ hZ1 ⊢
          have hrZ6 := hrZ
          have Hlz := Lib.hid hlz
          clear hsz5 hrX5 hrY5 hb6 hB5 hown hlz
          have hown0 := World.ownsRow_lit (base := w6.heap.size) (e := 29) (size := 3) w6 #[] 0 (Nat.le_refl _) (Nat.zero_le _) rfl
          have hb0 : Below w6.heap.size w6 (w6.alloc (.cells #[] 29)) := (Below.refl _ _).alloc (Nat.le_refl _) _
          have hs0 := hb0.size
          go_wp2_with (at_builtin; refine wpList_append_reads _ rfl (.tmp 93) (.tmp 94) _ rfl w6.heap.size 29 i1 (.agg #[.int .i64 0, .string ⟨#[]⟩, .int .i64 0]) 3 32 Tryd.underlying24 hi1 hy0 hy1 hy2 rfl (by decide) _ 0 [] rfl hown0 w6.heap.size Ax lx cx (cellsG (X.map Tok.g)) rfl (Reads.alloc hrX6 (Nat.le_refl _) _) ?g1 ?g2 ?g3 ?g4 ?_)
          case g1 => exact cells_one _
          case g2 => unfold maxLen; omega
          case g3 => omega
          all_goals try (case g4 => first | exact hs0 | omega | (simp; omega))
          intro v7 w7 hown7 hg7
          try simp only [List.nil_append, Nat.zero_add] at hown7
          have hb7 := grow_below hb0 hs0 hown0 hg7
          have hs7 := hb7.size
          obtain ⟨A7, c7, rfl, _, _⟩ := own_form hown7
          have hr7 : ReadsT w7 w7.heap.size A7 lx (X.map Tok.g) := Reads.of_own hown7
          clear hg7 hown0 hb0 hs0
          obtain ⟨SP, hSP⟩ : ∃ l : List GTok, (if lastK X = 1 then [] else [⟨1, [], 0⟩]) = l := ⟨_, rfl⟩
          obtain ⟨YP, hYP⟩ : ∃ l : List GTok, (if headK Y = 1 then (Y.map Tok.g).tail else Y.map Tok.g) = l := ⟨_, rfl⟩
          have hpl := Hpl.out
          rw [hSP, hYP] at hpl
          have Hpl := Lib.hid hpl
          have HSP := Lib.hid hSP
          have HYP := Lib.hid hYP
          clear hpl hSP hYP
          obtain ⟨b1, hb1⟩ : ∃ b, decide (lastK X ≠ 1) = b := ⟨_, rfl⟩
          obtain ⟨b2, hb2⟩ : ∃ b, decide (headK Y = 1) = b := ⟨_, rfl⟩
          have Hb1 := Lib.hid hb1
          have Hb2 := Lib.hid hb2
          have hun : (undef : Value) = .tuple #[] := rfl
          clear hb1 hb2
          go_upto_region 19 with (fail)
          go_cut [108] (fun x wx => x = .bool b1 ∧ w7 = wx)
          case first =>
            by_cases h0 : lx = 0
            · subst h0
              have hX0 : X = [] := List.eq_nil_of_length_eq_zero Hlx.out
              obtain rfl : true = b1 := by rw [← Hb1.out, hX0]; rfl
              clear hX0 Hb1 Hpl
              go_wp2_with fail
              all_goals go_meet
              all_goals exact ⟨rfl, rfl⟩
            · obtain ⟨j, rfl⟩ : ∃ j, lx = j + 1 := ⟨lx - 1, by omega⟩
              obtain ⟨t, ht, hk⟩ := last_at X j Hlx.out
              obtain ⟨b, off, x, hA, hbl, hxk, f0, _, _⟩ := hr7.at_ (k := j) (by omega)
              subst hA
              have hx : x = t.g := by rw [List.getElem?_map, ht] at hxk; simpa using hxk.symm
              subst hx
              have f0' : w7.cell? ⟨b, off + j * 3, none⟩ = some (.int .i64 (t.kind : Int)) := f0
              have q0 : (((j + 1 : Nat) : Int) == 0) = false := by simp; omega
              have q0' : (((j : Int) + 1) == 0) = false := by simp; omega
              have q1 : (0 : Int) ≤ (j : Int) := by omega
              have q2 : (j : Int) < (j : Int) + 1 := by omega
              have hb1 := Hb1.out
              rw [hk] at hb1
              clear hxk hr7 ht hk Hb1 Hpl f0
              by_cases h1 : t.kind = 1
              · have e1 : ((t.kind : Int) != 1) = false := by simp; omega
                obtain rfl : false = b1 := by rw [← hb1]; simp [h1]
                clear h1 hb1 h0
                go_wp2_with fail
                all_goals go_meet
                all_goals exact ⟨rfl, rfl⟩
              · have e1 : ((t.kind : Int) != 1) = true := by simp; omega
                obtain rfl : true = b1 := by rw [← hb1]; simp [h1]
                clear h1 hb1 h0
                go_wp2_with fail
                all_goals go_meet
                all_goals exact ⟨rfl, rfl⟩
          case rest =>
            obtain ⟨rfl, rfl⟩ := hcut
            clear hun
            go_upto_if 108 with (fail)
            go_cut [15] (fun v wx => ∃ A8 c8 l8, v = .slice A8 l8 c8 ∧ l8 ≤ 1001 ∧ wx.ownsRow w6.heap.size 29 3 (.slice A8 l8 c8) l8 (cellsG (X.map Tok.g ++ SP)) ∧ Below w6.heap.size w6 wx)
            case first =>
              cases b1 with
              | false =>
                have h1 : lastK X = 1 := by have := of_decide_eq_false Hb1.out; omega
                have hs := HSP.out
                rw [if_pos h1] at hs
                subst hs
                clear h1 Hb1 Hpl
                go_wp2_with fail
                go_meet
                exact ⟨A7, c7, lx, rfl, by omega, by rw [List.append_nil]; exact hown7, hb7⟩
              | true =>
                have h1 : ¬ lastK X = 1 := of_decide_eq_true Hb1.out
                have hs := HSP.out
                rw [if_neg h1] at hs
                subst hs
                clear h1 Hb1 Hpl hr7
                have hb7' := hb7.alloc hs7 (.cells #[.int .i64 1, .string ⟨#[]⟩, .int .i64 0] 29)
                have hs7' := hb7'.size
                have hl7 := lit_tok w7 ⟨1, [], 0⟩ #[.int .i64 1, .string ⟨#[]⟩, .int .i64 0] 29 rfl
                go_wp2_with (at_builtin; refine wpList_append_reads _ rfl (.tmp 109) (.tmp 111) _ rfl w6.heap.size 29 i1 (.agg #[.int .i64 0, .string ⟨#[]⟩, .int .i64 0]) 3 32 Tryd.underlying24 hi1 hy0 hy1 hy2 rfl (by decide) (.slice A7 lx c7) lx _ rfl (hown7.alloc _) _ (some ⟨w7.heap.size, 0, none⟩) 1 1 (cellsG [⟨1, [], 0⟩]) rfl hl7 ?h1 ?h2 ?h3 ?h4 ?_)
                case h1 => first | exact cells_one _ | exact ⟨rfl, rfl, rfl⟩
                case h2 => unfold maxLen; omega
                case h3 => omega
                all_goals try (case h4 => first | exact hs7' | omega | (simp; omega))
                intro v8 w8 hown8 hg8
                replace hown8 : w8.ownsRow w6.heap.size 29 3 v8 (lx + 1) (cellsG (X.map Tok.g ++ [⟨1, [], 0⟩])) := by rw [← cellsG_app]; exact hown8
                have hb8 := grow_below hb7' hs7' (hown7.alloc _) hg8
                obtain ⟨A8, c8, rfl, _, _⟩ := own_form hown8
                go_wp2_with fail
                go_meet
                exact ⟨A8, c8, lx + 1, rfl, by omega, hown8, hb8⟩
            case rest =>
              obtain ⟨A8, c8, l8, rfl, hl8, hown8, hb8⟩ := hcut
              clear hown7 hb7 hs7 hr7 Hb1
              have hs8 := hb8.size
              have hrY8 := hrY6.below hb8
              have hun : (undef : Value) = .tuple #[] := rfl
              clear hrY6 hrZ hrX6
              go_upto_region 21 with (fail)
              go_cut [122] (fun x wx => x = .bool b2 ∧ wc = wx)
              case first =>
                by_cases h0 : ly = 0
                · subst h0
                  have hY0 : Y = [] := List.eq_nil_of_length_eq_zero Hly.out
                  obtain rfl : false = b2 := by rw [← Hb2.out, hY0]; rfl
                  clear hY0 Hb2 Hpl
                  go_wp2_with fail
                  all_goals go_meet
                  all_goals exact ⟨rfl, rfl⟩
                · obtain ⟨b, off, x, hA, hbl, hxk, f0, _, _⟩ := hrY8.at_ (k := 0) (by omega)
                  subst hA
                  obtain ⟨t, r, rfl⟩ := List.exists_cons_of_length_pos (l := Y) (by rw [Hly.out]; omega)
                  have hx : x = t.g := by simpa using hxk.symm
                  subst hx
                  have f0' : wc.cell? ⟨b, off, none⟩ = some (.int .i64 (t.kind : Int)) := by have h := f0; rw [Nat.zero_mul, Nat.add_zero] at h; exact h
                  have q0 : decide ((0 : Int) < (ly : Int)) = true := by simp; omega
                  have q1 : (0 : Int) < (ly : Int) := by omega
                  have hb2 : decide (t.kind = 1) = b2 := Hb2.out
                  clear hxk f0 hrY8 Hb2 Hpl Hly
                  by_cases h1 : t.kind = 1
                  · have e1 : ((t.kind : Int) == 1) = true := by simp; omega
                    obtain rfl : true = b2 := by rw [← hb2]; simp [h1]
                    clear h1 hb2 h0
                    go_wp2_with fail
                    all_goals go_meet
                    all_goals exact ⟨rfl, rfl⟩
                  · have e1 : ((t.kind : Int) == 1) = false := by simp; omega
                    obtain rfl : false = b2 := by rw [← hb2]; simp [h1]
                    clear h1 hb2 h0
                    go_wp2_with fail
                    all_goals go_meet
                    all_goals exact ⟨rfl, rfl⟩
              case rest =>
                obtain ⟨rfl, rfl⟩ := hcut
                clear hun
                go_upto_if 122 with (fail)
                go_cut [11] (fun v wx => ∃ A9 c9 l9, v = .slice A9 l9 c9 ∧ l9 ≤ 1000 ∧ ReadsT wc wc.heap.size A9 l9 YP ∧ wc = wx)
                case first =>
                  cases b2 with
                  | false =>
                    have h1 : ¬ headK Y = 1 := of_decide_eq_false Hb2.out
                    have hs := HYP.out
                    rw [if_neg h1] at hs
                    subst hs
                    clear h1 Hb2 Hpl
                    go_wp2_with fail
                    go_meet
                    exact ⟨Ay, cy, ly, rfl, hY1, hrY8, rfl⟩
                  | true =>
                    have h1 : headK Y = 1 := of_decide_eq_true Hb2.out
                    have hs := HYP.out
                    rw [if_pos h1] at hs
                    subst hs
                    have hy1 : 1 ≤ ly := by
                      rcases Nat.eq_zero_or_pos ly with h | h
                      · have : Y = [] := List.eq_nil_of_length_eq_zero (by rw [Hly.out]; exact h)
                        rw [this] at h1; exact absurd h1 (by decide)
                      · exact h
                    clear h1 Hb2 Hpl
                    have hcy : ly ≤ cy := hcyy
                    have hr9 := hrY8.cut1 hy1 hcy
                    obtain ⟨A9, hA9⟩ : ∃ A, cutAt Ay cy 1 3 = A := ⟨_, rfl⟩
                    have hcut : ∀ W, (Instr.slice 24 (.slice Ay ly cy) (some (.int .i64 1)) none none).run Tryd.prog W = .ok (.slice A9 (ly - 1) (cy - 1)) W := fun W => by
                      rw [← hA9]; exact run_cut (P := Tryd.prog) (T := 24) Tryd.underlying24 (by kernel_rfl) tok_size Ay ly cy .i64 1 hy1 W
                    rw [hA9] at hr9
                    clear hA9
                    go_wp2_with fail
                    go_meet
                    exact ⟨_, _, ly - 1, rfl, by omega, hr9, rfl⟩
                case rest =>
                  obtain ⟨A9, c9, l9, rfl, hl9, hr9, rfl⟩ := hcut
                  clear hrY8 Hb2
                  go_wp2_with (at_builtin; refine wpList_append_reads _ rfl (.tmp 126) (.tmp 127) _ rfl w6.heap.size 29 i1 (.agg #[.int .i64 0, .string ⟨#[]⟩, .int .i64 0]) 3 32 Tryd.underlying24 hi1 hy0 hy1 hy2 rfl (by decide) (.slice A8 l8 c8) l8 _ rfl hown8 _ A9 l9 c9 _ rfl hr9 ?k1 ?k2 ?k3 ?k4 ?_)
                  case k1 => exact cells_one _
                  case k2 => unfold maxLen; omega
                  case k3 => omega
                  all_goals try (case k4 => first | exact hs8 | omega | (simp; omega))
                  intro v10 w10 hown10 hg10
                  rw [cellsG_app, ← Hpl.out] at hown10
                  have hb10 := grow_below hb8 hs8 hown8 hg10
                  obtain ⟨A10, c10, rfl, _, _⟩ := own_form hown10
                  have hr10 : ReadsT w10 w10.heap.size A10 (l8 + l9) (Z.map Tok.g) := Reads.of_own hown10
                  have hrZ10 := hrZ6.below hb10
                  have hB10 := hB6.trans (hb10.mono hB6.size)
                  clear hg10 hown8 hown10 hr9 hb8 hs8
                  go_wp2_with fail
                  refine (toks_same _ _ _ _ _ _ _ _ _ hrZ10 hr10 (by omega)).mono ?_
                  rintro e w11 ⟨rfl, hb11⟩
                  rw [decide_eq_true rfl]
                  have hB11 := hB10.trans (hb11.mono hB10.size)
                  go_wp2_with fail
                  refine (tk_awake w11 (hT.below hB11) (hE.below hB11)).mono ?_
                  rintro e w12 ⟨rfl, hb12⟩
                  go_wp2
                  go_ret
                  exact ⟨rfl, hB11.trans (hb12.mono hB11.size)⟩
    · have d2 : decide ((1000 : Int) < (m : Int)) = true := by simp; omega
      go_enter Tryd.func4, Tryd.ntmps4
      go_wp2_with fail
      refine (tk_awake w hT hE).mono ?_
      rintro e w4 ⟨rfl, hb4⟩
      go_wp2
      go_ret
      exact ⟨rfl, hb4⟩
  · have d1 : decide ((1000 : Int) < (n : Int)) = true := by simp; omega
    go_enter Tryd.func4, Tryd.ntmps4
    go_wp2_with fail
    refine (tk_awake w hT hE).mono ?_
    rintro e w4 ⟨rfl, hb4⟩
    go_wp2
    go_ret
    exact ⟨rfl, hb4⟩
end Go.Proofs.YthkagpefgkpgeaaDoor
