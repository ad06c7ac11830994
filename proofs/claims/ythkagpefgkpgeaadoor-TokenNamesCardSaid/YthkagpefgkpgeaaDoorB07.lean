/- The reference's span and begins of layer 2 are walked: which characters a length's bytes can begin. -/
import Derived.Test.YthkagpefgkpgeaaDoorB01
/- runes.Read is walked: the characters of a slice of bytes, in a new list. -/
set_option linter.unusedVariables false
namespace Go.Proofs.YthkagpefgkpgeaaDoor
open Go.RowKit Rn
namespace Rn
def readF : Nat → List UInt8 → List Int
  | 0, _ => []
  | f + 1, bs => if bs = [] then [] else
    let c := nextC bs
    let rest := bs.drop (nextN bs)
    if c = 0 then 65533 :: readF f rest
    else if c = 13 ∧ rest[0]? = some 10 then readF f rest
    else if c = 13 ∨ c = 12 then 10 :: readF f rest
    else c :: readF f rest
def readP (bs : List UInt8) : List Int := readF bs.length bs
end Rn
section
variable {rest : List UInt8} (f : Nat) (h : rest ≠ [])
include h
theorem readF_zero (hc : nextC rest = 0) : readF (f + 1) rest = 65533 :: readF f (rest.drop (nextN rest)) := by simp [readF, h, hc]
theorem readF_skip (hc : nextC rest = 13) (hn : (rest.drop (nextN rest))[0]? = some 10) : readF (f + 1) rest = readF f (rest.drop (nextN rest)) := by
  simp only [readF, h, hc, hn]; simp
theorem readF_line (hc : nextC rest = 13 ∧ ¬ (rest.drop (nextN rest))[0]? = some 10 ∨ nextC rest = 12) : readF (f + 1) rest = 10 :: readF f (rest.drop (nextN rest)) := by
  rcases hc with ⟨hc, hn⟩ | hc
  · simp only [readF, h, hc, hn]; simp
  · simp only [readF, h, hc]; simp
theorem readF_char (h0 : ¬ nextC rest = 0) (h1 : ¬ nextC rest = 13) (h2 : ¬ nextC rest = 12) : readF (f + 1) rest = nextC rest :: readF f (rest.drop (nextN rest)) := by
  simp [readF, h, h0, h1, h2]
end
theorem scan_ge (bs : List UInt8) (lo hi : Nat) : ∀ f k, k ≤ scan bs lo hi f k
  | 0, k => Nat.le_refl _
  | f + 1, k => by
    unfold scan; split
    · exact Nat.le_trans (Nat.le_succ _) (scan_ge bs lo hi f (k + 1))
    · exact Nat.le_refl _
theorem scan_le (bs : List UInt8) (lo hi : Nat) : ∀ f k, k ≤ bs.length → scan bs lo hi f k ≤ bs.length
  | 0, k, h => h
  | f + 1, k, h => by
    unfold scan; split
    · rename_i hk
      refine scan_le bs lo hi f (k + 1) ?_
      rcases Nat.lt_or_ge k bs.length with h1 | h1
      · exact h1
      · rw [okAt_none h1] at hk; cases hk
    · exact h
theorem nextN_pos (bs : List UInt8) : 1 ≤ nextN bs := by
  unfold nextN
  simp only
  have := scan_ge bs (bLo (bs[0]?.getD 0).toNat) (bHi (bs[0]?.getD 0).toNat) (bN (bs[0]?.getD 0).toNat - 1) 1
  have h2 : 1 ≤ stopP bs := this
  (repeat' split) <;> omega
theorem nextN_le (bs : List UInt8) (h : bs ≠ []) : nextN bs ≤ bs.length := by
  have hl : 1 ≤ bs.length := List.length_pos_iff.2 h
  have h1 : stopP bs ≤ bs.length := scan_le bs _ _ _ 1 hl
  have h3 : stopP bs ≤ 1 + (bN (bs[0]?.getD 0).toNat - 1) := by
    unfold stopP
    simp only
    generalize bLo (bs[0]?.getD 0).toNat = lo
    generalize bHi (bs[0]?.getD 0).toNat = hi
    have : ∀ f k, scan bs lo hi f k ≤ k + f := by
      intro f
      induction f with
      | zero => intro k; exact Nat.le_refl _
      | succ f ih =>
        intro k; unfold scan; split
        · exact Nat.le_trans (ih (k + 1)) (by omega)
        · omega
    exact this _ 1
  unfold nextN
  simp only
  (repeat' split) <;> omega

theorem i32_info : (Tryd.prog.info? 21).map (fun i => (i.zero, i.size, i.bytes)) = some (some (.int .i32 0), 1, 4) := by kernel_rfl

set_option maxRecDepth 100000 in
set_option maxHeartbeats 1000000 in
theorem rn_read (bs : List UInt8) (A : Option Addr) (n cap : Nat) (w : World) (hr : Reads w w.heap.size 1 A n (bs.map b8)) (hm : n ≤ cap) (hcap : cap ≤ maxLen) (hn : n ≤ 1000000) (hT : Tabs w) :
    Calls Tryd.prog 11 #[.slice A n cap] w fun e w' => ∃ v, e = .returned v ∧ w'.ownsRow w.heap.size 21 1 v (readP bs).length ((readP bs).map r32) ∧ Below w.heap.size w w' := by
  have hcap' := hcap
  unfold maxLen at hcap
  have hlen : bs.length = n := by simpa using hr.len
  obtain ⟨i0, hi, hz0, hz1, hz2⟩ := info_parts i32_info
  have Hlen := Lib.hid hlen
  clear hlen
  go_enter Tryd.func11, Tryd.ntmps11
  go_wp2
  go_loopw [0, 3] (fun b o wr => ∃ (rest : List UInt8) (A : Option Addr) (m c : Nat) (done : List Int) (f : Nat), b = .slice A m c ∧ Reads wr w.heap.size 1 A m (rest.map b8) ∧ m ≤ c ∧ c ≤ 9223372036854775807 ∧ m + done.length ≤ n
      ∧ wr.ownsRow w.heap.size 21 1 o done.length (done.map r32) ∧ Below w.heap.size w wr ∧ Hid (rest.length ≤ f) ∧ Hid (done ++ readF f rest = readP bs)) (fun b _ _ => match b with | .slice _ m _ => m | _ => 0)
  case atStart => exact ⟨bs, A, n, cap, [], bs.length, rfl, hr, hm, by omega, by simp, World.ownsRow_nil _ _ _ _, Below.refl _ _, Nat.le_refl _, rfl⟩
  case round =>
    obtain ⟨rest, A', m, c, done, f, rfl, hr', hmc, hc, hdm, hown, hb, hf, hd⟩ := hrel
    by_cases h0 : 0 < m
    · have hT' := hT.below hb
      have hr'' := hr'.more hb.size
      have hrl : rest.length = m := by simpa using hr'.len
      have hN1 := nextN_pos rest
      have hN2 : nextN rest ≤ m := by rw [← hrl]; exact nextN_le rest (by intro e; rw [e] at hrl; simp at hrl; omega)
      have hsl := fun (kd : IntKind) W => run_cut (P := Tryd.prog) Tryd.underlying22 (by kernel_rfl) (s := 1) (fun W => by kernel_rfl) A' m c kd (nextN rest) hN2 W
      have Hrl := Lib.hid hrl
      clear hrl
      go_wp2_with fail
      refine (rn_next_any rest A' m c _ _ hr'' h0 hmc (by unfold maxLen; omega) hT').mono ?_
      rintro e w1 ⟨rfl, hb1⟩
      have hb2 := hb.trans (hb1.mono hb.size)
      have hs2 := hb2.size
      have hcut := (hr'.below (hb1.mono hb.size)).cutA (k := nextN rest) (c := c) hN2 hmc
      rw [← List.map_drop] at hcut
      have hown1 := own_below hown hb1
      have hne : Hid (rest ≠ []) := by intro e0; have := Hrl.out; rw [e0] at this; simp at this; omega
      obtain ⟨f, hff⟩ : ∃ g, Hid (f = g + 1) := ⟨f - 1, by have := hf.out; have := Hrl.out; show f = f - 1 + 1; omega⟩
      rw [hff.out] at hf hd
      have hf' : Hid ((rest.drop (nextN rest)).length ≤ f) := by have := hf.out; show (rest.drop (nextN rest)).length ≤ f; rw [List.length_drop]; omega
      have step : ∀ (x : Int), readF (f + 1) rest = x :: readF f (rest.drop (nextN rest)) → Hid ((done ++ [x]) ++ readF f (rest.drop (nextN rest)) = readP bs) := fun x hx => by
        have := hd.out; rw [hx] at this; show _ = _; rw [← this]; simp
      have Hstep := Lib.hid step
      clear step hff
      generalize hA2 : cutAt A' c (nextN rest) 1 = A2 at *
      clear hA2 hr' hr'' hT' hb hown
      have hsz : m - nextN rest + (done.length + 1) ≤ n := by omega
      by_cases c0 : nextC rest = 0
      · have c0' : (nextC rest == 0) = true := by simp [c0]
        have HC0 := Lib.hid c0
        clear c0
        go_wp2_with (at_builtin; refine wpList_append_own _ rfl _ _ 41 rfl w.heap.size 21 i0 (.int .i32 0) 1 4 Tryd.underlying41 hi hz0 hz1 hz2 rfl (by decide) _ _ _ rfl (hown1.alloc _) ⟨w1.heap.size, 0, none⟩ 1 1 [.int .i32 65533] rfl rfl ?c1 ?c2 ?c3 ?c4 ?c5 ?_)
        case c1 => exact cell_one_new _ _ _
        case c2 => intro u hu; simp at hu; subst hu; rfl
        case c3 => unfold maxLen; omega
        case c4 => omega
        case c5 => simp; omega
        intro v' w2 hown' hgrow _
        have hbn := push_below hb2 hs2 hown1 hgrow
        have hrn := push_reads hcut hs2 hown1 hgrow
        have hnew := Hstep.out _ (readF_zero f hne.out HC0.out)
        clear hgrow hown1 hcut hb2 hb1
        go_wp2
        go_roundw
        case rel => exact ⟨rest.drop (nextN rest), A2, m - nextN rest, c - nextN rest, done ++ [65533], f, rfl, hrn, by omega, by omega, by simpa using hsz, by simpa [r32] using hown', hbn, hf', hnew⟩
        case measure => simp; omega
      · have c0' : (nextC rest == 0) = false := by simp [c0]
        have HC0 := Lib.hid c0
        clear c0
        by_cases c1 : nextC rest = 13
        · have c1' : (nextC rest == 13) = true := by simp [c1]
          have c1'' : (nextC rest == 12) = false := by simp [c1]
          have HC1 := Lib.hid c1
          clear c1
          by_cases hmore : nextN rest < m
          · obtain ⟨b, off, u, hA, _, hx, hcell⟩ := hcut.at_ (k := 0) (by omega)
            subst hA
            rw [Nat.add_zero] at hcell
            obtain ⟨b', hx'⟩ : ∃ b', (rest.drop (nextN rest))[0]? = some b' := by
              rw [List.getElem?_map] at hx
              cases h : (rest.drop (nextN rest))[0]? with
              | none => rw [h] at hx; cases hx
              | some b' => exact ⟨b', rfl⟩
            rw [List.getElem?_map, hx'] at hx
            obtain rfl : u = b8 b' := by simpa using hx.symm
            unfold b8 at hcell
            have Hx := Lib.hid hx'
            clear hx hx'
            by_cases h10 : b' = 10
            · have h10' : ((b'.toNat : Int) == 10) = true := by simp [h10]
              have H10 := Lib.hid h10
              clear h10
              have hnew : Hid (done ++ readF f (rest.drop (nextN rest)) = readP bs) := by
                rw [← readF_skip f hne.out HC1.out (by rw [Hx.out, H10.out])]; exact hd
              go_wp2
              go_roundw
              case rel => exact ⟨rest.drop (nextN rest), _, m - nextN rest, c - nextN rest, done, f, rfl, hcut, by omega, by omega, by omega, hown1, hb2, hf', hnew⟩
              case measure => simp; omega
            · have h10' : ((b'.toNat : Int) == 10) = false := by
                simp only [beq_eq_false_iff_ne]
                intro e
                exact h10 (UInt8.toNat_inj.1 (by simpa using Int.ofNat.inj e))
              have H10 := Lib.hid h10
              clear h10
              go_wp2_with (at_builtin; refine wpList_append_own _ rfl _ _ 41 rfl w.heap.size 21 i0 (.int .i32 0) 1 4 Tryd.underlying41 hi hz0 hz1 hz2 rfl (by decide) _ _ _ rfl (hown1.alloc _) ⟨w1.heap.size, 0, none⟩ 1 1 [.int .i32 10] rfl rfl ?c1 ?c2 ?c3 ?c4 ?c5 ?_)
              case c1 => exact cell_one_new _ _ _
              case c2 => intro u hu; simp at hu; subst hu; rfl
              case c3 => unfold maxLen; omega
              case c4 => omega
              case c5 => simp; omega
              intro v' w2 hown' hgrow _
              have hbn := push_below hb2 hs2 hown1 hgrow
              have hrn := push_reads hcut hs2 hown1 hgrow
              have hnew := Hstep.out _ (readF_line f hne.out (.inl ⟨HC1.out, by rw [Hx.out]; simpa using H10.out⟩))
              clear hgrow hown1 hcut hb2 hb1
              go_wp2
              go_roundw
              case rel => exact ⟨rest.drop (nextN rest), _, m - nextN rest, c - nextN rest, done ++ [10], f, rfl, hrn, by omega, by omega, by simpa using hsz, by simpa [r32] using hown', hbn, hf', hnew⟩
              case measure => simp; omega
          · have hmN : ¬ nextN rest < m := hmore
            have hzero : ((m - nextN rest : Nat) : Int) = 0 := by omega
            have hnil : (rest.drop (nextN rest))[0]? = none := by
              rw [List.getElem?_eq_none]; rw [List.length_drop, Hrl.out]; omega
            have Hnil := Lib.hid hnil
            clear hnil hzero
            have hgt : ¬ 0 < m - nextN rest := by omega
            go_wp2_with (at_builtin; refine wpList_append_own _ rfl _ _ 41 rfl w.heap.size 21 i0 (.int .i32 0) 1 4 Tryd.underlying41 hi hz0 hz1 hz2 rfl (by decide) _ _ _ rfl (hown1.alloc _) ⟨w1.heap.size, 0, none⟩ 1 1 [.int .i32 10] rfl rfl ?c1 ?c2 ?c3 ?c4 ?c5 ?_)
            case c1 => exact cell_one_new _ _ _
            case c2 => intro u hu; simp at hu; subst hu; rfl
            case c3 => unfold maxLen; omega
            case c4 => omega
            case c5 => simp; omega
            intro v' w2 hown' hgrow _
            have hbn := push_below hb2 hs2 hown1 hgrow
            have hrn := push_reads hcut hs2 hown1 hgrow
            have hnew := Hstep.out _ (readF_line f hne.out (.inl ⟨HC1.out, by rw [Hnil.out]; simp⟩))
            clear hgrow hown1 hcut hb2 hb1
            go_wp2
            go_roundw
            case rel => exact ⟨rest.drop (nextN rest), A2, m - nextN rest, c - nextN rest, done ++ [10], f, rfl, hrn, by omega, by omega, by simpa using hsz, by simpa [r32] using hown', hbn, hf', hnew⟩
            case measure => simp; omega
        · have c1' : (nextC rest == 13) = false := by simp [c1]
          have HC1 := Lib.hid c1
          clear c1
          by_cases c2 : nextC rest = 12
          · have c2' : (nextC rest == 12) = true := by simp [c2]
            have HC2 := Lib.hid c2
            clear c2
            go_wp2_with (at_builtin; refine wpList_append_own _ rfl _ _ 41 rfl w.heap.size 21 i0 (.int .i32 0) 1 4 Tryd.underlying41 hi hz0 hz1 hz2 rfl (by decide) _ _ _ rfl (hown1.alloc _) ⟨w1.heap.size, 0, none⟩ 1 1 [.int .i32 10] rfl rfl ?c1 ?c2 ?c3 ?c4 ?c5 ?_)
            case c1 => exact cell_one_new _ _ _
            case c2 => intro u hu; simp at hu; subst hu; rfl
            case c3 => unfold maxLen; omega
            case c4 => omega
            case c5 => simp; omega
            intro v' w2 hown' hgrow _
            have hbn := push_below hb2 hs2 hown1 hgrow
            have hrn := push_reads hcut hs2 hown1 hgrow
            have hnew := Hstep.out _ (readF_line f hne.out (.inr HC2.out))
            clear hgrow hown1 hcut hb2 hb1
            go_wp2
            go_roundw
            case rel => exact ⟨rest.drop (nextN rest), A2, m - nextN rest, c - nextN rest, done ++ [10], f, rfl, hrn, by omega, by omega, by simpa using hsz, by simpa [r32] using hown', hbn, hf', hnew⟩
            case measure => simp; omega
          · have c2' : (nextC rest == 12) = false := by simp [c2]
            have HC2 := Lib.hid c2
            clear c2
            go_wp2_with (at_builtin; refine wpList_append_own _ rfl _ _ 41 rfl w.heap.size 21 i0 (.int .i32 0) 1 4 Tryd.underlying41 hi hz0 hz1 hz2 rfl (by decide) _ _ _ rfl (hown1.alloc _) ⟨w1.heap.size, 0, none⟩ 1 1 [.int .i32 (nextC rest)] rfl rfl ?c1 ?c2 ?c3 ?c4 ?c5 ?_)
            case c1 => exact cell_one_new _ _ _
            case c2 => intro u hu; simp at hu; subst hu; rfl
            case c3 => unfold maxLen; omega
            case c4 => omega
            case c5 => simp; omega
            intro v' w2 hown' hgrow _
            have hbn := push_below hb2 hs2 hown1 hgrow
            have hrn := push_reads hcut hs2 hown1 hgrow
            have hnew := Hstep.out _ (readF_char f hne.out HC0.out HC1.out HC2.out)
            clear hgrow hown1 hcut hb2 hb1
            go_wp2
            go_roundw
            case rel => exact ⟨rest.drop (nextN rest), A2, m - nextN rest, c - nextN rest, done ++ [(nextC rest)], f, rfl, hrn, by omega, by omega, by simpa using hsz, by simpa [r32] using hown', hbn, hf', hnew⟩
            case measure => simp; omega
    · have hm0 : m = 0 := by omega
      subst hm0
      go_wp2
      go_ret
      have hrl : rest = [] := by simpa using hr'.len
      have hdn : done = readP bs := by have := hd.out; rw [hrl] at this; rw [← this]; cases f <;> simp [readF]
      rw [hdn] at hown
      exact ⟨_, rfl, hown, hb⟩
end Go.Proofs.YthkagpefgkpgeaaDoor
set_option linter.unusedVariables false
namespace Go.Proofs.YthkagpefgkpgeaaDoor
open Go.RowKit Rn
namespace Rn
def spanF (bs : List UInt8) : Nat → Nat → Int → Int → Int × Int
  | 0, _, lo, hi => (lo, hi)
  | f + 1, k, lo, hi => match bs[k]? with
    | some b => if b.toNat < 128 ∨ 191 < b.toNat then (-1, -1) else spanF bs f (k + 1) (lo * 64 + b.toNat - 128) (hi * 64 + b.toNat - 128)
    | none => spanF bs f (k + 1) (lo * 64) (hi * 64 + 63)
def lowOf (c long : Nat) : Int :=
  if long = 2 ∧ 192 ≤ c ∧ c < 224 then c - 192 else if long = 3 ∧ 224 ≤ c ∧ c < 240 then c - 224 else if long = 4 ∧ 240 ≤ c ∧ c < 248 then c - 240 else -1
def spanR (bs : List UInt8) (long : Nat) : Int × Int :=
  let l := lowOf (bs[0]?.getD 0).toNat long
  if l < 0 then (-1, -1) else spanF bs (long - 1) 1 l l
/-- a bound of the sums, place by place -/
def most : Nat → Int
  | 1 => 31
  | 2 => 2047
  | 3 => 131071
  | _ => 8388607
end Rn
/-- what holds at the head of span's loop -/
def SpanRel (bs : List UInt8) (L : Nat) (lo hi k : Value) : Prop :=
  ∃ (j : Nat) (l h : Int), 1 ≤ j ∧ j ≤ L ∧ k = .int .i64 j ∧ lo = .int .i64 l ∧ hi = .int .i64 h ∧ 0 ≤ l ∧ l ≤ h ∧ h ≤ most j ∧ spanF bs (L - j) j l h = spanR bs L
theorem most_le (k : Nat) : most k ≤ 8388607 := by unfold most; split <;> omega
theorem most_step (k : Nat) (h1 : 1 ≤ k) (h3 : k ≤ 3) : most k * 64 + 63 ≤ most (k + 1) := by
  obtain rfl | rfl | rfl : k = 1 ∨ k = 2 ∨ k = 3 := by omega
  all_goals (simp [most])
theorem spanF_some {bs : List UInt8} {b : UInt8} {k : Nat} (f : Nat) (lo hi : Int) (h : bs[k]? = some b) (h1 : ¬ b.toNat < 128) (h2 : ¬ 191 < b.toNat) : spanF bs (f + 1) k lo hi = spanF bs f (k + 1) (lo * 64 + b.toNat - 128) (hi * 64 + b.toNat - 128) := by
  simp [spanF, h, h1, h2]
theorem spanF_bad {bs : List UInt8} {b : UInt8} {k : Nat} (f : Nat) (lo hi : Int) (h : bs[k]? = some b) (h1 : b.toNat < 128 ∨ 191 < b.toNat) : spanF bs (f + 1) k lo hi = (-1, -1) := by
  simp [spanF, h, h1]
theorem spanF_none {bs : List UInt8} {k : Nat} (f : Nat) (lo hi : Int) (h : bs[k]? = none) : spanF bs (f + 1) k lo hi = spanF bs f (k + 1) (lo * 64) (hi * 64 + 63) := by
  simp [spanF, h]

end Go.Proofs.YthkagpefgkpgeaaDoor
