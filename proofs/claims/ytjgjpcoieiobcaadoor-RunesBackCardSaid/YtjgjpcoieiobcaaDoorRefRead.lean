/- The reference's Read of layer 2 is walked; it answers what runes.Read answers. -/
import Derived.Test.YtjgjpcoieiobcaaDoorRefNext
set_option linter.unusedVariables false
set_option linter.unusedSimpArgs false
namespace Go.Proofs.YtjgjpcoieiobcaaDoor
open Go.RowKit Rn
namespace Rn
def refC (c : Int) : Int := if c = 13 ∨ c = 12 then 10 else if c = 0 then 65533 else c
def refN (bs : List UInt8) : Nat := if nextC bs = 13 ∧ bs[1]? = some 10 then 2 else nextN bs
def refF : Nat → List UInt8 → List Int
  | 0, _ => []
  | f + 1, bs => if bs = [] then [] else refC (nextC bs) :: refF f (bs.drop (refN bs))
end Rn
theorem nextC_small (bs : List UInt8) (h : nextC bs < 128) : nextN bs = 1 ∧ ((bs[0]?.getD 0).toNat : Int) = nextC bs := by
  have hb := UInt8.toNat_lt (bs[0]?.getD 0)
  have key : bN (bs[0]?.getD 0).toNat = 1 → nextN bs = 1 ∧ ((bs[0]?.getD 0).toNat : Int) = nextC bs := by
    intro h1
    have hst : stopP bs = 1 := by simp only [stopP, h1]; rfl
    have hx := next_full (bs := bs) (by omega) (by rw [hst, h1])
    rw [h1] at hx
    exact ⟨hx.2, by rw [hx.1]; simp [val]⟩
  by_cases h1 : bN (bs[0]?.getD 0).toNat = 1
  · exact key h1
  · exfalso
    by_cases h0 : bN (bs[0]?.getD 0).toNat = 0
    · simp [nextC, h0] at h
    · by_cases hs : stopP bs < bN (bs[0]?.getD 0).toNat
      · simp [nextC, h0, hs] at h
      · have hN : bN (bs[0]?.getD 0).toNat ≤ 4 := by unfold bN; (repeat' split) <;> omega
        have hok := (stop_ge bs (bN (bs[0]?.getD 0).toNat) (Nat.le_refl _) (by omega)).1 (by omega)
        obtain ⟨b1, g1, l1, u1⟩ := okAt_mem (hok 1 (by omega) (by omega))
        have hval : 128 ≤ val bs (bN (bs[0]?.getD 0).toNat) := by
          have hN2 : bN (bs[0]?.getD 0).toNat = 2 ∨ bN (bs[0]?.getD 0).toNat = 3 ∨ bN (bs[0]?.getD 0).toNat = 4 := by omega
          revert l1 u1
          generalize hc : (bs[0]?.getD 0).toNat = c at *
          simp only [val, hc, g1, Option.getD_some]
          rcases hN2 with e | e | e
          · have : 194 ≤ c ∧ c < 224 := by revert e; unfold bN; (repeat' split) <;> omega
            rw [e]; simp only [if_neg (show ¬ (2 = 1) from by omega), if_true]
            omega
          · have : 224 ≤ c ∧ c < 240 := by revert e; unfold bN; (repeat' split) <;> omega
            rw [e]; simp only [if_neg (show ¬ (3 = 1) from by omega), if_neg (show ¬ (3 = 2) from by omega), if_true]
            unfold loAt hiAt bLo bHi
            (repeat' split) <;> omega
          · have : 240 ≤ c ∧ c ≤ 244 := by revert e; unfold bN; (repeat' split) <;> omega
            rw [e]; simp only [if_neg (show ¬ (4 = 1) from by omega), if_neg (show ¬ (4 = 2) from by omega), if_neg (show ¬ (4 = 3) from by omega)]
            unfold loAt hiAt bLo bHi
            (repeat' split) <;> omega
        simp [nextC, h0, hs] at h
        omega
theorem drop_nil_len {α : Type} (l : List α) (n : Nat) (h : 1 ≤ n) (hl : l ≠ []) : (l.drop n).length < l.length := by
  have := List.length_pos_iff.2 hl
  rw [List.length_drop]; omega
theorem readF_fuel : ∀ (g : Nat) (bs : List UInt8), bs.length ≤ g → readF (g + 1) bs = readF g bs
  | 0, bs, h => by
    have : bs = [] := List.eq_nil_of_length_eq_zero (by omega)
    simp [readF, this]
  | g + 1, bs, h => by
    by_cases h0 : bs = []
    · simp [readF, h0]
    · have ih := readF_fuel g (bs.drop (nextN bs)) (by have := drop_nil_len bs (nextN bs) (nextN_pos bs) h0; omega)
      rw [readF, readF]
      simp only [h0, ih]
theorem refF_eq : ∀ (f : Nat) (bs : List UInt8), bs.length ≤ f → refF f bs = readF f bs
  | 0, bs, h => by
    have : bs = [] := List.eq_nil_of_length_eq_zero (by omega)
    simp [readF, refF, this]
  | f + 1, bs, h => by
    by_cases h0 : bs = []
    · simp [readF, refF, h0]
    · have hd := drop_nil_len bs (nextN bs) (nextN_pos bs) h0
      have ih := refF_eq f (bs.drop (nextN bs)) (by omega)
      rw [refF, if_neg h0]
      by_cases c0 : nextC bs = 0
      · rw [readF_zero f h0 c0, refN, if_neg (by omega), ih, refC, if_neg (by omega), if_pos c0]
      · by_cases c1 : nextC bs = 13
        · obtain ⟨hn1, _⟩ := nextC_small bs (by omega)
          have hsnd : (bs.drop (nextN bs))[0]? = bs[1]? := by rw [hn1, List.getElem?_drop]
          by_cases h10 : bs[1]? = some 10
          · have hl2 : 2 ≤ bs.length := by
              rcases Nat.lt_or_ge 1 bs.length with h | h
              · exact h
              · rw [List.getElem?_eq_none h] at h10; cases h10
            obtain ⟨g, rfl⟩ : ∃ g, f = g + 1 := ⟨f - 1, by omega⟩
            rw [readF_skip _ h0 c1 (by rw [hsnd]; exact h10), refN, if_pos ⟨c1, h10⟩, refC, if_pos (.inl c1)]
            have hne : bs.drop (nextN bs) ≠ [] := by intro e; rw [e] at hsnd; rw [h10] at hsnd; cases hsnd
            have hg0 : ((bs.drop (nextN bs))[0]?.getD 0).toNat = 10 := by rw [hsnd, h10]; rfl
            have hbn : bN ((bs.drop (nextN bs))[0]?.getD 0).toNat = 1 := by rw [hg0]; rfl
            have hst : stopP (bs.drop (nextN bs)) = 1 := by simp only [stopP, hbn]; rfl
            have hx := next_full (bs := bs.drop (nextN bs)) (by omega) (by rw [hst, hbn])
            rw [hbn] at hx
            have hc10 : nextC (bs.drop (nextN bs)) = 10 := by rw [hx.1]; simp only [val, if_true, hg0]; rfl
            rw [readF_char g hne (by omega) (by omega) (by omega), hx.2, hc10, List.drop_drop, hn1]
            rw [refF_eq (g + 1) (bs.drop 2) (by rw [List.length_drop]; omega), readF_fuel g (bs.drop 2) (by rw [List.length_drop]; omega)]
          · rw [readF_line f h0 (.inl ⟨c1, by rw [hsnd]; exact h10⟩), refN, if_neg (by intro h; exact h10 h.2), ih, refC, if_pos (.inl c1)]
        · by_cases c2 : nextC bs = 12
          · rw [readF_line f h0 (.inr c2), refN, if_neg (by intro h; exact c1 h.1), ih, refC, if_pos (.inr c2)]
          · rw [readF_char f h0 c0 c1 c2, refN, if_neg (by intro h; exact c1 h.1), ih, refC, if_neg (by omega), if_neg c0]

theorem int_info : (Tryd.prog.info? 3).map (fun i => (i.zero, i.size, i.bytes)) = some (some (.int .i64 0), 1, 8) := by kernel_rfl

set_option maxRecDepth 100000 in
set_option maxHeartbeats 2000000 in
theorem ref_read (bs : List UInt8) (A : Option Addr) (n cap : Nat) (w : World) (hr : Reads w w.heap.size 1 A n (bs.map b8)) (hm : n ≤ cap) (hcap : cap ≤ maxLen) (hn : n ≤ 1000000) :
    Calls Tryd.prog 14 #[.slice A n cap] w fun e w' => ∃ v, e = .returned v ∧ w'.ownsRow w.heap.size 3 1 v (readP bs).length ((readP bs).map n64) ∧ Below w.heap.size w w' := by
  have hcap' := hcap
  unfold maxLen at hcap
  have hlen : bs.length = n := by simpa using hr.len
  have hP : refF bs.length bs = readP bs := refF_eq _ bs (Nat.le_refl _)
  obtain ⟨i0, hi, hz0, hz1, hz2⟩ := info_parts int_info
  have Hlen := Lib.hid hlen
  have HP := Lib.hid hP
  clear hlen hP
  go_enter Tryd.func14, Tryd.ntmps14
  go_wp2
  go_loopw [0, 3] (fun b o wr => ∃ (rest : List UInt8) (A : Option Addr) (m c : Nat) (done : List Int) (f : Nat), b = .slice A m c ∧ Reads wr w.heap.size 1 A m (rest.map b8) ∧ m ≤ c ∧ c ≤ 9223372036854775807 ∧ m + done.length ≤ n
      ∧ wr.ownsRow w.heap.size 3 1 o done.length (done.map n64) ∧ Below w.heap.size w wr ∧ Hid (rest.length ≤ f) ∧ Hid (done ++ refF f rest = readP bs)) (fun b _ _ => match b with | .slice _ m _ => m | _ => 0)
  case atStart => exact ⟨bs, A, n, cap, [], bs.length, rfl, hr, hm, by omega, by simp, World.ownsRow_nil _ _ _ _, Below.refl _ _, Nat.le_refl _, HP.out⟩
  case round =>
    obtain ⟨rest, A', m, c, done, f, rfl, hr', hmc, hc, hdm, hown, hb, hf, hd⟩ := hrel
    by_cases h0 : 0 < m
    · have hrl : rest.length = m := by simpa using hr'.len
      have hne : rest ≠ [] := by intro e0; rw [e0] at hrl; simp at hrl; omega
      have hN0 : nextN rest ≤ rest.length := nextN_le rest hne
      have hN1 : 1 ≤ refN rest := by unfold refN; split; · omega
                                     exact nextN_pos rest
      have hN2 : refN rest ≤ m := by
        unfold refN; split
        · rename_i h
          rcases Nat.lt_or_ge 1 rest.length with h1 | h1
          · omega
          · rw [List.getElem?_eq_none h1] at h; cases h.2
        · omega
      have hNp := nextN_pos rest
      have hsl := fun (kd : IntKind) W => run_cut (P := Tryd.prog) Tryd.underlying22 (by kernel_rfl) (s := 1) (fun W => by kernel_rfl) A' m c kd (refN rest) hN2 W
      have hcut := hr'.cutA (k := refN rest) (c := c) hN2 hmc
      rw [← List.map_drop] at hcut
      have hs2 := hb.size
      have hcall := ref_next rest A' m c _ wr hr' h0 hmc (by omega)
      obtain ⟨f, hff⟩ : ∃ g, Hid (f = g + 1) := ⟨f - 1, by have := hf.out; show f = f - 1 + 1; omega⟩
      rw [hff.out] at hf hd
      have hf' : Hid ((rest.drop (refN rest)).length ≤ f) := by have := hf.out; show (rest.drop (refN rest)).length ≤ f; rw [List.length_drop]; omega
      have step : (done ++ [refC (nextC rest)]) ++ refF f (rest.drop (refN rest)) = readP bs := by
        have := hd.out; rw [refF, if_neg hne] at this; rw [← this]; simp
      have Hstep := Lib.hid step
      have Hcall := Lib.hid hcall
      have Hrl := Lib.hid hrl
      have Hne := Lib.hid hne
      have hsz : m - refN rest + (done.length + 1) ≤ n := by omega
      clear step hff hcall hrl hne hd hf
      generalize hA2 : cutAt A' c (refN rest) 1 = A2 at *
      clear hA2
      by_cases c1 : nextC rest = 13
      · have c1' : (nextC rest == 13) = true := by simp [c1]
        by_cases hmore : 1 < m
        · obtain ⟨b, off, u, hA, _, hx, hcell⟩ := hr'.at_ (k := 1) hmore
          subst hA
          obtain ⟨b', hx'⟩ : ∃ b', rest[1]? = some b' := ⟨_, List.getElem?_eq_getElem (by rw [Hrl.out]; omega)⟩
          rw [List.getElem?_map, hx'] at hx
          obtain rfl : u = b8 b' := by simpa using hx.symm
          unfold b8 at hcell
          by_cases h10 : b' = 10
          · have h10' : ((b'.toNat : Int) == 10) = true := by simp [h10]
            have hrN : refN rest = 2 := by rw [refN, if_pos ⟨c1, by rw [hx', h10]⟩]
            rw [hrN] at hN1 hN2 hsl hcut hf' Hstep hsz
            have HC1 := Lib.hid c1
            have hsl2 : ∀ (kd : IntKind) W, (Instr.slice 22 (.slice (some ⟨b, off, none⟩) m c) (some (.int kd 2)) none none).run Tryd.prog W = .ok (.slice A2 (m - 2) (c - 2)) W := hsl
            clear c1 hx' hx h10 hrN hsl
            have hx : refC (nextC rest) = 10 := by
              simp only [refC]; (repeat' split) <;> simp_all [Hid] <;> omega
            rw [hx] at Hstep
            clear hx
            have Hstep2 := Hstep
            clear Hstep
            go_wp2_with (first | (go_at_call 29; refine (Hcall.out).mono ?_; rintro e w' ⟨rfl, rfl⟩) | (at_builtin; refine wpList_append_own _ rfl _ _ 25 rfl w.heap.size 3 i0 (.int .i64 0) 1 8 Tryd.underlying25 hi hz0 hz1 hz2 rfl (by decide) _ _ _ rfl (hown.alloc _) ⟨wr.heap.size, 0, none⟩ 1 1 [.int .i64 10] rfl rfl ?c1 ?c2 ?c3 ?c4 ?c5 ?_))
            case c1 => exact cell_one_new _ _ _
            case c2 => intro u hu; simp at hu; subst hu; rfl
            case c3 => unfold maxLen; omega
            case c4 => omega
            case c5 => simp; omega
            intro v' w2 hown' hgrow _
            have hbn := push_below hb hs2 hown hgrow
            have hrn := push_reads hcut hs2 hown hgrow
            clear hgrow hown hcut hb
            go_wp2
            go_roundw
            case rel => exact ⟨_, A2, _, _, done ++ [10], f, rfl, hrn, by omega, by omega, by simpa using hsz, by simpa [n64] using hown', hbn, hf', Hstep2.out⟩
            case measure => simp; omega
          · have h10' : ((b'.toNat : Int) == 10) = false := by
              simp only [beq_eq_false_iff_ne]
              intro e
              exact h10 (UInt8.toNat_inj.1 (by simpa using Int.ofNat.inj e))
            have hrN : refN rest = nextN rest := by rw [refN, if_neg (by intro h; rw [hx'] at h; exact h10 (by simpa using h.2))]
            rw [hrN] at hN1 hN2 hsl hcut hf' Hstep hsz
            have HC1 := Lib.hid c1
            clear c1 hx' hx h10 hrN
            have hx : refC (nextC rest) = 10 := by
              simp only [refC]; (repeat' split) <;> simp_all [Hid] <;> omega
            rw [hx] at Hstep
            clear hx
            have Hstep2 := Hstep
            clear Hstep
            go_wp2_with (first | (go_at_call 29; refine (Hcall.out).mono ?_; rintro e w' ⟨rfl, rfl⟩) | (at_builtin; refine wpList_append_own _ rfl _ _ 25 rfl w.heap.size 3 i0 (.int .i64 0) 1 8 Tryd.underlying25 hi hz0 hz1 hz2 rfl (by decide) _ _ _ rfl (hown.alloc _) ⟨wr.heap.size, 0, none⟩ 1 1 [.int .i64 10] rfl rfl ?c1 ?c2 ?c3 ?c4 ?c5 ?_))
            case c1 => exact cell_one_new _ _ _
            case c2 => intro u hu; simp at hu; subst hu; rfl
            case c3 => unfold maxLen; omega
            case c4 => omega
            case c5 => simp; omega
            intro v' w2 hown' hgrow _
            have hbn := push_below hb hs2 hown hgrow
            have hrn := push_reads hcut hs2 hown hgrow
            clear hgrow hown hcut hb
            go_wp2
            go_roundw
            case rel => exact ⟨_, A2, _, _, done ++ [10], f, rfl, hrn, by omega, by omega, by simpa using hsz, by simpa [n64] using hown', hbn, hf', Hstep2.out⟩
            case measure => simp; omega
        · have hrN : refN rest = nextN rest := by rw [refN, if_neg (by intro h; rw [List.getElem?_eq_none (by rw [Hrl.out]; omega)] at h; cases h.2)]
          rw [hrN] at hN1 hN2 hsl hcut hf' Hstep hsz
          have HC1 := Lib.hid c1
          have hm1 : ¬ (1 : Int) < (m : Int) := by omega
          have hm2 : (m : Int) ≤ 1 := by omega
          have hmb : decide ((1 : Int) < (m : Int)) = false := by simp; omega
          clear c1 hrN hmore
          have hx : refC (nextC rest) = 10 := by
            simp only [refC]; (repeat' split) <;> simp_all [Hid] <;> omega
          rw [hx] at Hstep
          clear hx
          have Hstep2 := Hstep
          clear Hstep
          go_wp2_with (first | (go_at_call 29; refine (Hcall.out).mono ?_; rintro e w' ⟨rfl, rfl⟩) | (at_builtin; refine wpList_append_own _ rfl _ _ 25 rfl w.heap.size 3 i0 (.int .i64 0) 1 8 Tryd.underlying25 hi hz0 hz1 hz2 rfl (by decide) _ _ _ rfl (hown.alloc _) ⟨wr.heap.size, 0, none⟩ 1 1 [.int .i64 10] rfl rfl ?c1 ?c2 ?c3 ?c4 ?c5 ?_))
          case c1 => exact cell_one_new _ _ _
          case c2 => intro u hu; simp at hu; subst hu; rfl
          case c3 => unfold maxLen; omega
          case c4 => omega
          case c5 => simp; omega
          intro v' w2 hown' hgrow _
          have hbn := push_below hb hs2 hown hgrow
          have hrn := push_reads hcut hs2 hown hgrow
          clear hgrow hown hcut hb
          go_wp2
          go_roundw
          case rel => exact ⟨_, A2, _, _, done ++ [10], f, rfl, hrn, by omega, by omega, by simpa using hsz, by simpa [n64] using hown', hbn, hf', Hstep2.out⟩
          case measure => simp; omega
      · have c1' : (nextC rest == 13) = false := by simp [c1]
        have hrN : refN rest = nextN rest := by rw [refN, if_neg (by intro h; exact c1 h.1)]
        rw [hrN] at hN1 hN2 hsl hcut hf' Hstep hsz
        have HC1 := Lib.hid c1
        clear c1 hrN
        by_cases c2 : nextC rest = 12
        · have c2' : (nextC rest == 12) = true := by simp [c2]
          have HC2 := Lib.hid c2
          clear c2
          have hx : refC (nextC rest) = 10 := by
            simp only [refC]; (repeat' split) <;> simp_all [Hid] <;> omega
          rw [hx] at Hstep
          clear hx
          have Hstep2 := Hstep
          clear Hstep
          go_wp2_with (first | (go_at_call 29; refine (Hcall.out).mono ?_; rintro e w' ⟨rfl, rfl⟩) | (at_builtin; refine wpList_append_own _ rfl _ _ 25 rfl w.heap.size 3 i0 (.int .i64 0) 1 8 Tryd.underlying25 hi hz0 hz1 hz2 rfl (by decide) _ _ _ rfl (hown.alloc _) ⟨wr.heap.size, 0, none⟩ 1 1 [.int .i64 10] rfl rfl ?c1 ?c2 ?c3 ?c4 ?c5 ?_))
          case c1 => exact cell_one_new _ _ _
          case c2 => intro u hu; simp at hu; subst hu; rfl
          case c3 => unfold maxLen; omega
          case c4 => omega
          case c5 => simp; omega
          intro v' w2 hown' hgrow _
          have hbn := push_below hb hs2 hown hgrow
          have hrn := push_reads hcut hs2 hown hgrow
          clear hgrow hown hcut hb
          go_wp2
          go_roundw
          case rel => exact ⟨_, A2, _, _, done ++ [10], f, rfl, hrn, by omega, by omega, by simpa using hsz, by simpa [n64] using hown', hbn, hf', Hstep2.out⟩
          case measure => simp; omega
        · have c2' : (nextC rest == 12) = false := by simp [c2]
          have HC2 := Lib.hid c2
          clear c2
          by_cases c0 : nextC rest = 0
          · have c0' : (nextC rest == 0) = true := by simp [c0]
            have HC0 := Lib.hid c0
            clear c0
            have hx : refC (nextC rest) = 65533 := by
              simp only [refC]; (repeat' split) <;> simp_all [Hid] <;> omega
            rw [hx] at Hstep
            clear hx
            have Hstep2 := Hstep
            clear Hstep
            go_wp2_with (first | (go_at_call 29; refine (Hcall.out).mono ?_; rintro e w' ⟨rfl, rfl⟩) | (at_builtin; refine wpList_append_own _ rfl _ _ 25 rfl w.heap.size 3 i0 (.int .i64 0) 1 8 Tryd.underlying25 hi hz0 hz1 hz2 rfl (by decide) _ _ _ rfl (hown.alloc _) ⟨wr.heap.size, 0, none⟩ 1 1 [.int .i64 65533] rfl rfl ?c1 ?c2 ?c3 ?c4 ?c5 ?_))
            case c1 => exact cell_one_new _ _ _
            case c2 => intro u hu; simp at hu; subst hu; rfl
            case c3 => unfold maxLen; omega
            case c4 => omega
            case c5 => simp; omega
            intro v' w2 hown' hgrow _
            have hbn := push_below hb hs2 hown hgrow
            have hrn := push_reads hcut hs2 hown hgrow
            clear hgrow hown hcut hb
            go_wp2
            go_roundw
            case rel => exact ⟨_, A2, _, _, done ++ [65533], f, rfl, hrn, by omega, by omega, by simpa using hsz, by simpa [n64] using hown', hbn, hf', Hstep2.out⟩
            case measure => simp; omega
          · have c0' : (nextC rest == 0) = false := by simp [c0]
            have HC0 := Lib.hid c0
            clear c0
            have hx : refC (nextC rest) = (nextC rest) := by
              simp only [refC]; (repeat' split) <;> simp_all [Hid] <;> omega
            rw [hx] at Hstep
            clear hx
            have Hstep2 := Hstep
            clear Hstep
            go_wp2_with (first | (go_at_call 29; refine (Hcall.out).mono ?_; rintro e w' ⟨rfl, rfl⟩) | (at_builtin; refine wpList_append_own _ rfl _ _ 25 rfl w.heap.size 3 i0 (.int .i64 0) 1 8 Tryd.underlying25 hi hz0 hz1 hz2 rfl (by decide) _ _ _ rfl (hown.alloc _) ⟨wr.heap.size, 0, none⟩ 1 1 [.int .i64 (nextC rest)] rfl rfl ?c1 ?c2 ?c3 ?c4 ?c5 ?_))
            case c1 => exact cell_one_new _ _ _
            case c2 => intro u hu; simp at hu; subst hu; rfl
            case c3 => unfold maxLen; omega
            case c4 => omega
            case c5 => simp; omega
            intro v' w2 hown' hgrow _
            have hbn := push_below hb hs2 hown hgrow
            have hrn := push_reads hcut hs2 hown hgrow
            clear hgrow hown hcut hb
            go_wp2
            go_roundw
            case rel => exact ⟨_, A2, _, _, done ++ [(nextC rest)], f, rfl, hrn, by omega, by omega, by simpa using hsz, by simpa [n64] using hown', hbn, hf', Hstep2.out⟩
            case measure => simp; omega
    · have hm0 : m = 0 := by omega
      subst hm0
      go_wp2
      go_ret
      have hrl : rest = [] := by simpa using hr'.len
      have hdn : done = readP bs := by have := hd.out; rw [hrl] at this; rw [← this]; cases f <;> simp [refF]
      rw [hdn] at hown
      exact ⟨_, rfl, hown, hb⟩
end Go.Proofs.YtjgjpcoieiobcaaDoor
