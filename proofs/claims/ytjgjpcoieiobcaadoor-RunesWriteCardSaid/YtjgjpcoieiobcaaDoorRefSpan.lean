/- The reference's span and begins of layer 2 are walked: which characters a length's bytes can begin. -/
import Derived.Test.YtjgjpcoieiobcaaDoorRnRead
set_option linter.unusedVariables false
namespace Go.Proofs.YtjgjpcoieiobcaaDoor
open Go.RowKit Rn
namespace Rn
def spanF (bs : List UInt8) : Nat → Nat → Int → Int → Int × Int
  | 0, _, lo, hi => (lo, hi)
  | f + 1, k, lo, hi => match bs[k]? with
    | some b => if b.toNat < 128 ∨ 191 < b.toNat then (-1, -1) else spanF bs f (k + 1) (lo * 64 + b.toNat - 128) (hi * 64 + b.toNat - 128)
    | none => spanF bs f (k + 1) (lo * 64) (hi * 64 + 63)
def lowOf (c long : Nat) : Int :=
  if long = 2 ∧ 192 ≤ c ∧ c < 224 then c - 192 else if long = 3 ∧ 224 ≤ c ∧ c < 240 then c - 224 else if long = 4 ∧ 240 ≤ c ∧ c < 248 then c - 240 else -1
def spanR (bs : List UInt8) (long : Nat) : Int × Int :=
  let l := lowOf (bs[0]?.getD 0).toNat long
  if l < 0 then (-1, -1) else spanF bs (long - 1) 1 l l
/-- a bound of the sums, place by place -/
def most : Nat → Int
  | 1 => 31
  | 2 => 2047
  | 3 => 131071
  | _ => 8388607
end Rn
/-- what holds at the head of span's loop -/
def SpanRel (bs : List UInt8) (L : Nat) (lo hi k : Value) : Prop :=
  ∃ (j : Nat) (l h : Int), 1 ≤ j ∧ j ≤ L ∧ k = .int .i64 j ∧ lo = .int .i64 l ∧ hi = .int .i64 h ∧ 0 ≤ l ∧ l ≤ h ∧ h ≤ most j ∧ spanF bs (L - j) j l h = spanR bs L
theorem most_le (k : Nat) : most k ≤ 8388607 := by unfold most; split <;> omega
theorem most_step (k : Nat) (h1 : 1 ≤ k) (h3 : k ≤ 3) : most k * 64 + 63 ≤ most (k + 1) := by
  obtain rfl | rfl | rfl : k = 1 ∨ k = 2 ∨ k = 3 := by omega
  all_goals (simp [most])
theorem spanF_some {bs : List UInt8} {b : UInt8} {k : Nat} (f : Nat) (lo hi : Int) (h : bs[k]? = some b) (h1 : ¬ b.toNat < 128) (h2 : ¬ 191 < b.toNat) : spanF bs (f + 1) k lo hi = spanF bs f (k + 1) (lo * 64 + b.toNat - 128) (hi * 64 + b.toNat - 128) := by
  simp [spanF, h, h1, h2]
theorem spanF_bad {bs : List UInt8} {b : UInt8} {k : Nat} (f : Nat) (lo hi : Int) (h : bs[k]? = some b) (h1 : b.toNat < 128 ∨ 191 < b.toNat) : spanF bs (f + 1) k lo hi = (-1, -1) := by
  simp [spanF, h, h1]
theorem spanF_none {bs : List UInt8} {k : Nat} (f : Nat) (lo hi : Int) (h : bs[k]? = none) : spanF bs (f + 1) k lo hi = spanF bs f (k + 1) (lo * 64) (hi * 64 + 63) := by
  simp [spanF, h]

set_option maxRecDepth 100000 in
set_option maxHeartbeats 1000000 in
theorem ref_span (bs : List UInt8) (A : Option Addr) (n cap B long : Nat) (w : World) (hr : Reads w B 1 A n (bs.map b8)) (hn : 0 < n) (hcap : n ≤ 9223372036854775807) (hl2 : 2 ≤ long) (hl4 : long ≤ 4) :
    Calls Tryd.prog 37 #[.slice A n cap, .int .i64 long] w fun e w' => e = .returned (.tuple #[.int .i64 (spanR bs long).1, .int .i64 (spanR bs long).2]) ∧ w = w' := by
  have hlen : bs.length = n := by simpa using hr.len
  obtain ⟨b, off, rfl, hb, hcell⟩ := hr.open_ hn
  obtain ⟨b0, rest, rfl⟩ := List.exists_cons_of_length_pos (l := bs) (by omega)
  have h0 : w.cell? ⟨b, off, none⟩ = some (.int .u8 b0.toNat) := hcell 0 _ rfl
  have hb0 : b0.toNat < 256 := b0.toNat_lt
  have hcb : ∀ k b', (b0 :: rest)[k]? = some b' → w.cell? ⟨b, off + k, none⟩ = some (.int .u8 b'.toNat) := fun k b' h => hcell k _ (by rw [List.getElem?_map, h]; rfl)
  have Hcb := Lib.hid hcb
  have Hlen := Lib.hid hlen
  clear hcell hcb hlen hr
  by_cases hv : (long = 2 ∧ 192 ≤ b0.toNat ∧ b0.toNat < 224) ∨ (long = 3 ∧ 224 ≤ b0.toNat ∧ b0.toNat < 240) ∨ (long = 4 ∧ 240 ≤ b0.toNat ∧ b0.toNat < 248)
  · have hsp : Hid (∀ l : Int, l = lowOf b0.toNat long → 0 ≤ l → spanF (b0 :: rest) (long - 1) 1 l l = spanR (b0 :: rest) long) := by
      intro l hl h0
      unfold spanR
      simp only [List.getElem?_cons_zero, Option.getD_some]
      rw [← hl, if_neg (by omega)]
    rcases hv with ⟨rfl, h1, h2⟩ | ⟨rfl, h1, h2⟩ | ⟨rfl, h1, h2⟩
    · go_enter Tryd.func37, Tryd.ntmps37
      go_wp2
      go_loop [7, 8, 9] (fun lo hi k => SpanRel (b0 :: rest) 2 lo hi k) (fun _ _ k => 2 - (intOf k).toNat)
      case atStart => exact ⟨1, _, _, by omega, by omega, rfl, rfl, rfl, by omega, by omega, by simp only [most]; omega, hsp.out _ (by simp [lowOf]; omega) (by omega)⟩
      case round =>
        obtain ⟨j, l, h, hj1, hj2, rfl, rfl, rfl, hl0, hlh, hhm, hs'⟩ := hrel
        have hs := Lib.hid hs'
        clear hs'
        by_cases hjL : j < 2
        · have hm1 := most_le j
          have hm2 := most_step j hj1 (by omega)
          have Hm2 := Lib.hid hm2
          have Hsucc : Hid (2 - j = (2 - (j + 1)) + 1) := by show 2 - j = (2 - (j + 1)) + 1; omega
          clear hm2
          by_cases hjn : j < n
          · obtain ⟨b', hb'⟩ : ∃ b', (b0 :: rest)[j]? = some b' := ⟨_, List.getElem?_eq_getElem (by rw [Hlen.out]; omega)⟩
            have hbc := Hcb.out j b' hb'
            have hb256 : b'.toNat < 256 := b'.toNat_lt
            have Hb' := Lib.hid hb'
            clear hb'
            by_cases hlo : b'.toNat < 128
            · go_wp2
              go_ret2
              have hx := spanF_bad (2 - (j + 1)) l h Hb'.out (.inl hlo)
              rw [← Hsucc.out, hs.out] at hx
              exact ⟨ret2 (by rw [hx]) (by rw [hx]), rfl⟩
            · by_cases hhi : 191 < b'.toNat
              · go_wp2
                go_ret2
                have hx := spanF_bad (2 - (j + 1)) l h Hb'.out (.inr hhi)
                rw [← Hsucc.out, hs.out] at hx
                exact ⟨ret2 (by rw [hx]) (by rw [hx]), rfl⟩
              · go_wp2
                first
                | refine ⟨⟨_, _, _, _, _, ?rel, rfl, rfl, rfl, rfl, rfl⟩, ?measure⟩
                | go_round
                case rel =>
                  have hx := spanF_some (2 - (j + 1)) l h Hb'.out hlo hhi
                  rw [← Hsucc.out, hs.out] at hx
                  have := Hm2.out
                  exact ⟨j + 1, l * 64 + b'.toNat - 128, h * 64 + b'.toNat - 128, by omega, by omega, by go_num, rfl, rfl, by omega, by omega, by omega, hx.symm⟩
                case measure => simp [intOf]; omega
          · have hnone : Hid ((b0 :: rest)[j]? = none) := by show _ = _; rw [List.getElem?_eq_none]; rw [Hlen.out]; omega
            go_wp2
            go_round
            case rel =>
              have hx := spanF_none (2 - (j + 1)) l h hnone.out
              rw [← Hsucc.out, hs.out] at hx
              have := Hm2.out
              exact ⟨j + 1, l * 64, h * 64 + 63, by omega, by omega, by go_num, rfl, rfl, by omega, by omega, by omega, hx.symm⟩
            case measure => simp [intOf]; omega
        · go_wp2
          go_ret2
          obtain rfl : j = 2 := by omega
          have hx := hs.out
          simp only [Nat.sub_self, spanF] at hx
          exact ⟨ret2 (by rw [← hx]) (by rw [← hx]), rfl⟩
    · go_enter Tryd.func37, Tryd.ntmps37
      go_wp2
      go_loop [7, 8, 9] (fun lo hi k => SpanRel (b0 :: rest) 3 lo hi k) (fun _ _ k => 3 - (intOf k).toNat)
      case atStart => exact ⟨1, _, _, by omega, by omega, rfl, rfl, rfl, by omega, by omega, by simp only [most]; omega, hsp.out _ (by simp [lowOf]; omega) (by omega)⟩
      case round =>
        obtain ⟨j, l, h, hj1, hj2, rfl, rfl, rfl, hl0, hlh, hhm, hs'⟩ := hrel
        have hs := Lib.hid hs'
        clear hs'
        by_cases hjL : j < 3
        · have hm1 := most_le j
          have hm2 := most_step j hj1 (by omega)
          have Hm2 := Lib.hid hm2
          have Hsucc : Hid (3 - j = (3 - (j + 1)) + 1) := by show 3 - j = (3 - (j + 1)) + 1; omega
          clear hm2
          by_cases hjn : j < n
          · obtain ⟨b', hb'⟩ : ∃ b', (b0 :: rest)[j]? = some b' := ⟨_, List.getElem?_eq_getElem (by rw [Hlen.out]; omega)⟩
            have hbc := Hcb.out j b' hb'
            have hb256 : b'.toNat < 256 := b'.toNat_lt
            have Hb' := Lib.hid hb'
            clear hb'
            by_cases hlo : b'.toNat < 128
            · go_wp2
              go_ret2
              have hx := spanF_bad (3 - (j + 1)) l h Hb'.out (.inl hlo)
              rw [← Hsucc.out, hs.out] at hx
              exact ⟨ret2 (by rw [hx]) (by rw [hx]), rfl⟩
            · by_cases hhi : 191 < b'.toNat
              · go_wp2
                go_ret2
                have hx := spanF_bad (3 - (j + 1)) l h Hb'.out (.inr hhi)
                rw [← Hsucc.out, hs.out] at hx
                exact ⟨ret2 (by rw [hx]) (by rw [hx]), rfl⟩
              · go_wp2
                first
                | refine ⟨⟨_, _, _, _, _, ?rel, rfl, rfl, rfl, rfl, rfl⟩, ?measure⟩
                | go_round
                case rel =>
                  have hx := spanF_some (3 - (j + 1)) l h Hb'.out hlo hhi
                  rw [← Hsucc.out, hs.out] at hx
                  have := Hm2.out
                  exact ⟨j + 1, l * 64 + b'.toNat - 128, h * 64 + b'.toNat - 128, by omega, by omega, by go_num, rfl, rfl, by omega, by omega, by omega, hx.symm⟩
                case measure => simp [intOf]; omega
          · have hnone : Hid ((b0 :: rest)[j]? = none) := by show _ = _; rw [List.getElem?_eq_none]; rw [Hlen.out]; omega
            go_wp2
            go_round
            case rel =>
              have hx := spanF_none (3 - (j + 1)) l h hnone.out
              rw [← Hsucc.out, hs.out] at hx
              have := Hm2.out
              exact ⟨j + 1, l * 64, h * 64 + 63, by omega, by omega, by go_num, rfl, rfl, by omega, by omega, by omega, hx.symm⟩
            case measure => simp [intOf]; omega
        · go_wp2
          go_ret2
          obtain rfl : j = 3 := by omega
          have hx := hs.out
          simp only [Nat.sub_self, spanF] at hx
          exact ⟨ret2 (by rw [← hx]) (by rw [← hx]), rfl⟩
    · go_enter Tryd.func37, Tryd.ntmps37
      go_wp2
      go_loop [7, 8, 9] (fun lo hi k => SpanRel (b0 :: rest) 4 lo hi k) (fun _ _ k => 4 - (intOf k).toNat)
      case atStart => exact ⟨1, _, _, by omega, by omega, rfl, rfl, rfl, by omega, by omega, by simp only [most]; omega, hsp.out _ (by simp [lowOf]; omega) (by omega)⟩
      case round =>
        obtain ⟨j, l, h, hj1, hj2, rfl, rfl, rfl, hl0, hlh, hhm, hs'⟩ := hrel
        have hs := Lib.hid hs'
        clear hs'
        by_cases hjL : j < 4
        · have hm1 := most_le j
          have hm2 := most_step j hj1 (by omega)
          have Hm2 := Lib.hid hm2
          have Hsucc : Hid (4 - j = (4 - (j + 1)) + 1) := by show 4 - j = (4 - (j + 1)) + 1; omega
          clear hm2
          by_cases hjn : j < n
          · obtain ⟨b', hb'⟩ : ∃ b', (b0 :: rest)[j]? = some b' := ⟨_, List.getElem?_eq_getElem (by rw [Hlen.out]; omega)⟩
            have hbc := Hcb.out j b' hb'
            have hb256 : b'.toNat < 256 := b'.toNat_lt
            have Hb' := Lib.hid hb'
            clear hb'
            by_cases hlo : b'.toNat < 128
            · go_wp2
              go_ret2
              have hx := spanF_bad (4 - (j + 1)) l h Hb'.out (.inl hlo)
              rw [← Hsucc.out, hs.out] at hx
              exact ⟨ret2 (by rw [hx]) (by rw [hx]), rfl⟩
            · by_cases hhi : 191 < b'.toNat
              · go_wp2
                go_ret2
                have hx := spanF_bad (4 - (j + 1)) l h Hb'.out (.inr hhi)
                rw [← Hsucc.out, hs.out] at hx
                exact ⟨ret2 (by rw [hx]) (by rw [hx]), rfl⟩
              · go_wp2
                first
                | refine ⟨⟨_, _, _, _, _, ?rel, rfl, rfl, rfl, rfl, rfl⟩, ?measure⟩
                | go_round
                case rel =>
                  have hx := spanF_some (4 - (j + 1)) l h Hb'.out hlo hhi
                  rw [← Hsucc.out, hs.out] at hx
                  have := Hm2.out
                  exact ⟨j + 1, l * 64 + b'.toNat - 128, h * 64 + b'.toNat - 128, by omega, by omega, by go_num, rfl, rfl, by omega, by omega, by omega, hx.symm⟩
                case measure => simp [intOf]; omega
          · have hnone : Hid ((b0 :: rest)[j]? = none) := by show _ = _; rw [List.getElem?_eq_none]; rw [Hlen.out]; omega
            go_wp2
            go_round
            case rel =>
              have hx := spanF_none (4 - (j + 1)) l h hnone.out
              rw [← Hsucc.out, hs.out] at hx
              have := Hm2.out
              exact ⟨j + 1, l * 64, h * 64 + 63, by omega, by omega, by go_num, rfl, rfl, by omega, by omega, by omega, hx.symm⟩
            case measure => simp [intOf]; omega
        · go_wp2
          go_ret2
          obtain rfl : j = 4 := by omega
          have hx := hs.out
          simp only [Nat.sub_self, spanF] at hx
          exact ⟨ret2 (by rw [← hx]) (by rw [← hx]), rfl⟩
  · have hsp : spanR (b0 :: rest) long = (-1, -1) := by
      have : lowOf b0.toNat long = -1 := by unfold lowOf; rw [if_neg (by omega), if_neg (by omega), if_neg (by omega)]
      simp [spanR, this]
    have Hsp := Lib.hid hsp
    clear hsp
    obtain rfl | rfl | rfl : long = 2 ∨ long = 3 ∨ long = 4 := by omega
    all_goals
      go_enter Tryd.func37, Tryd.ntmps37
      go_wp2
      all_goals (first | (exfalso; omega) | (go_ret2; exact ⟨ret2 (by rw [Hsp.out]) (by rw [Hsp.out]), rfl⟩))
end Go.Proofs.YtjgjpcoieiobcaaDoor
