/- The law TokenTexts is walked: a text in quotes is one token. -/
import Derived.Test.YthkagpefgkpgeaaDoorB10
import Derived.Test.YthkagpefgkpgeaaDoorB11
import Derived.Laws.RangeAny
import Derived.Deep.DeepCutAuto
set_option linter.unusedVariables false
set_option linter.unusedSimpArgs false
namespace Go.Proofs.YthkagpefgkpgeaaDoor
open Go.RowKit Rn Tk
/-- a character of such a text -/
def TextC (c : Int) : Prop := isB c = true ∧ c ≠ 34 ∧ c ≠ 39 ∧ c ≠ 92 ∧ c ≠ 0 ∧ c ≠ 10 ∧ c ≠ 12 ∧ c ≠ 13
def TextUpto (sl : List UInt8) (pos : Nat) : Prop := ∃ l : List Int, sl.take pos = writeP l ∧ ∀ c ∈ l, TextC c
theorem text_step {sl : List UInt8} {pos : Nat} (h : TextUpto sl pos) (hlt : pos < sl.length) {c : Int} (hc : ((Utf8.decode (bytesOf sl) pos).1 : Int) = c) (h1 : c ≠ 34) (h2 : c ≠ 39) (h3 : c ≠ 92) (h4 : c ≠ 0) (h5 : c ≠ 10) (h6 : c ≠ 12) (h7 : c ≠ 13) (h8 : c ≠ 65533) :
    TextUpto sl (pos + (Utf8.decode (bytesOf sl) pos).2) ∧ pos + (Utf8.decode (bytesOf sl) pos).2 ≤ sl.length ∧ pos < pos + (Utf8.decode (bytesOf sl) pos).2 := by
  obtain ⟨l, e, hl⟩ := h
  obtain ⟨d1, d2, d3⟩ := decode_enc sl pos hlt (fun h => h8 (by rw [← hc, h]; rfl))
  rw [hc] at d1 d3
  have hlen := congrArg List.length d3
  rw [List.length_take, List.length_drop] at hlen
  have h1e := (encode_len c).1
  refine ⟨⟨l ++ [c], ?_, fun x hx => ?_⟩, d2, by omega⟩
  · rw [writeP_snoc, ← e, ← d3, List.take_add]
  · rcases List.mem_append.1 hx with hx | hx
    · exact hl x hx
    · obtain rfl : x = c := by simpa using hx
      exact ⟨d1, h1, h2, h3, h4, h5, h6, h7⟩
theorem text_scan {sl : List UInt8} (h : TextUpto sl sl.length) (q : UInt8) (hq : q = 34 ∨ q = 39) : scanT (readP (q :: (sl ++ [q]))) = [⟨6, sl, 0⟩] := by
  obtain ⟨l, e, hl⟩ := h
  rw [List.take_length] at e
  have hqn : (q.toNat : Int) = 34 ∨ (q.toNat : Int) = 39 := by rcases hq with rfl | rfl <;> decide
  have hqp : Plain (q.toNat : Int) := by rcases hq with rfl | rfl <;> exact ⟨by decide, by decide, by decide, by decide⟩
  have hqe : Lib.encodeRune (q.toNat : Int) = [q] := enc_low q (by rcases hq with rfl | rfl <;> decide)
  have hr : readP (q :: (sl ++ [q])) = (q.toNat : Int) :: (l ++ [(q.toNat : Int)]) := by
    have h1 := read_write ((q.toNat : Int) :: (l ++ [(q.toNat : Int)])) (fun c hc => by
      rcases List.mem_cons.1 hc with rfl | hc
      · exact hqp
      · rcases List.mem_append.1 hc with hc | hc
        · have := hl c hc; exact ⟨this.1, this.2.2.2.2.1, this.2.2.2.2.2.2.1, this.2.2.2.2.2.2.2⟩
        · obtain rfl : c = (q.toNat : Int) := by simpa using hc
          exact hqp)
    rw [write_cons, write_app, write_cons, hqe, ← e] at h1
    simpa [writeP] using h1
  rw [hr]
  have := scan_text (q.toNat : Int) hqn l (fun c hc => by have := hl c hc; exact ⟨this.2.1, this.2.2.1, this.2.2.2.1, this.2.2.2.2.2.1⟩)
  rw [List.cons_append] at this
  rw [this, ← e]
theorem idx2_0 (a b : ByteArray) (w : World) : (Instr.index 38 (.agg #[.string a, .string b]) (.int .i64 0)).run Tryd.prog w = .ok (.string a) w := by kernel_rfl
theorem idx2_1 (a b : ByteArray) (w : World) : (Instr.index 38 (.agg #[.string a, .string b]) (.int .i64 1)).run Tryd.prog w = .ok (.string b) w := by kernel_rfl
set_option maxRecDepth 100000 in
set_option maxHeartbeats 8000000 in
theorem walk_TokenTexts (s : ByteArray) (w : World) (hs : s.size ≤ maxLen) (hT : Tabs w) (hE : Env w) :
    Calls Tryd.prog 7 #[.string s] w fun e w' => e = .returned (.bool true) ∧ Below w.heap.size w w' := by
  obtain ⟨sl, rfl⟩ : ∃ sl, s = bytesOf sl := ⟨s.data.toList, (bytesOf_eta s).symm⟩
  have hsz := bytesOf_size sl
  unfold maxLen at hs
  by_cases hn : sl.length ≤ 500
  · have d1 : decide ((500 : Int) < ((bytesOf sl).size : Int)) = false := by rw [hsz]; simp; omega
    go_enter Tryd.func7, Tryd.ntmps7
    go_wp2_with fail
    go_loopw [4] (fun _ w' => ∃ (pos : Nat), w' = w.iter (bytesOf sl) pos ∧ pos ≤ sl.length ∧ Hid (TextUpto sl pos)) (fun _ w' => sl.length - w'.iterPos w.heap.size)
    case atStart => exact ⟨0, rfl, by omega, ⟨[], by simp [writeP], by simp⟩⟩
    case round =>
      obtain ⟨pos, rfl, hp, htx⟩ := hrel
      by_cases hlt : pos < sl.length
      · have hnx : ∀ ty, (Instr.next (.pointer (some ⟨w.heap.size, 0, none⟩)) true ty).run Tryd.prog (w.iter (bytesOf sl) pos) = _ := fun ty => run_next_any w (bytesOf sl) pos ty (by rw [hsz]; exact hlt)
        obtain ⟨c, hc⟩ : ∃ c, ((Utf8.decode (bytesOf sl) pos).1 : Int) = c := ⟨_, rfl⟩
        have hcr := decode_le (bytesOf sl) pos
        have hstep := text_step htx.out hlt hc
        rw [hc] at hnx
        have hun : (undef : Value) = .tuple #[] := rfl
        obtain ⟨g, hg⟩ : ∃ g, decide (c = 34 ∨ c = 39 ∨ c = 92 ∨ c = 0 ∨ c = 10 ∨ c = 12 ∨ c = 13 ∨ c = 65533) = g := ⟨_, rfl⟩
        have Hstep := Lib.hid hstep
        obtain ⟨p2, hp2⟩ : ∃ p, pos + (Utf8.decode (bytesOf sl) pos).2 = p := ⟨_, rfl⟩
        rw [hp2] at hnx hstep
        have Hs := Lib.hid hstep
        clear hstep hc Hstep hp2 htx
        go_upto_region 6 with (fail)
        go_cut [47] (fun x wx => x = .bool g ∧ wx = w.iter (bytesOf sl) p2)
        case first =>
          by_cases h34 : c = 34
          · have e34 := eq_t h34
            obtain rfl : true = g := by rw [← hg]; simp [h34]
            clear hg h34 
            go_wp2_with fail
            all_goals go_meet
            all_goals exact ⟨rfl, rfl⟩
          have e34 := eq_f h34
          by_cases h39 : c = 39
          · have e39 := eq_t h39
            obtain rfl : true = g := by rw [← hg]; simp [h39]
            clear hg h39 h34
            go_wp2_with fail
            all_goals go_meet
            all_goals exact ⟨rfl, rfl⟩
          have e39 := eq_f h39
          by_cases h92 : c = 92
          · have e92 := eq_t h92
            obtain rfl : true = g := by rw [← hg]; simp [h92]
            clear hg h92 h34 h39
            go_wp2_with fail
            all_goals go_meet
            all_goals exact ⟨rfl, rfl⟩
          have e92 := eq_f h92
          by_cases h0 : c = 0
          · have e0 := eq_t h0
            obtain rfl : true = g := by rw [← hg]; simp [h0]
            clear hg h0 h34 h39 h92
            go_wp2_with fail
            all_goals go_meet
            all_goals exact ⟨rfl, rfl⟩
          have e0 := eq_f h0
          by_cases h10 : c = 10
          · have e10 := eq_t h10
            obtain rfl : true = g := by rw [← hg]; simp [h10]
            clear hg h10 h34 h39 h92 h0
            go_wp2_with fail
            all_goals go_meet
            all_goals exact ⟨rfl, rfl⟩
          have e10 := eq_f h10
          by_cases h12 : c = 12
          · have e12 := eq_t h12
            obtain rfl : true = g := by rw [← hg]; simp [h12]
            clear hg h12 h34 h39 h92 h0 h10
            go_wp2_with fail
            all_goals go_meet
            all_goals exact ⟨rfl, rfl⟩
          have e12 := eq_f h12
          by_cases h13 : c = 13
          · have e13 := eq_t h13
            obtain rfl : true = g := by rw [← hg]; simp [h13]
            clear hg h13 h34 h39 h92 h0 h10 h12
            go_wp2_with fail
            all_goals go_meet
            all_goals exact ⟨rfl, rfl⟩
          have e13 := eq_f h13
          by_cases h65533 : c = 65533
          · have e65533 := eq_t h65533
            obtain rfl : true = g := by rw [← hg]; simp [h65533]
            clear hg h65533 h34 h39 h92 h0 h10 h12 h13
            go_wp2_with fail
            all_goals go_meet
            all_goals exact ⟨rfl, rfl⟩
          have e65533 := eq_f h65533
          obtain rfl : false = g := by rw [← hg]; simp [*]
          clear hg h34 h39 h92 h0 h10 h12 h13 h65533
          go_wp2_with fail
          all_goals go_meet
          all_goals exact ⟨rfl, rfl⟩
        case rest =>
          obtain ⟨rfl, rfl⟩ := hcut
          cases g with
          | true =>
            have hb0 : Below w.heap.size w (w.iter (bytesOf sl) p2) := (Below.refl _ _).alloc (Nat.le_refl _) _
            clear hg
            go_wp2_with fail
            refine (tk_awake _ (hT.below hb0) (hE.below hb0)).mono ?_
            rintro e w4 ⟨rfl, hb4⟩
            go_wp2
            go_ret
            exact ⟨rfl, hb0.trans (hb4.mono hb0.size)⟩
          | false =>
            have hg := of_decide_eq_false hg
            obtain ⟨s1, s2, s3⟩ := Hs.out (fun h => hg (by simp [h])) (fun h => hg (by simp [h])) (fun h => hg (by simp [h])) (fun h => hg (by simp [h])) (fun h => hg (by simp [h])) (fun h => hg (by simp [h])) (fun h => hg (by simp [h])) (fun h => hg (by simp [h]))
            have S1 := Lib.hid s1
            clear hg s1
            go_wp2_with fail
            go_roundw
            case rel => exact ⟨p2, rfl, s2, S1⟩
            case measure => simp; omega
      · obtain rfl : pos = sl.length := by omega
        have hnx : ∀ ty, (Instr.next (.pointer (some ⟨w.heap.size, 0, none⟩)) true ty).run Tryd.prog (w.iter (bytesOf sl) sl.length) = _ := fun ty => run_next_end w (bytesOf sl) sl.length ty (by rw [hsz]; omega)
        have Hscan := Lib.hid (fun q hq => text_scan htx.out q hq)
        have hb0 : Below w.heap.size w (w.iter (bytesOf sl) sl.length) := (Below.refl _ _).alloc (Nat.le_refl _) _
        clear htx
        go_wp2_with fail
        go_loopw [50] (fun i wr => ∃ k : Nat, k ≤ 2 ∧ i = .int .i64 k ∧ Below w.heap.size w wr) (fun i _ => 2 - (intOf i).toNat)
        case atStart => exact ⟨0, by omega, rfl, hb0⟩
        case round =>
          obtain ⟨k, hk, rfl, hb⟩ := hrel
          have hk2 : k = 0 ∨ k = 1 ∨ k = 2 := by omega
          rcases hk2 with rfl | rfl | rfl
          · have hw0 : ((0 : Nat) : Int) = 0 := rfl
            have hix := fun W => idx2_0 ⟨#[34]⟩ ⟨#[39]⟩ W
            have hlen3 : (34 :: (sl ++ [34])).length = sl.length + 2 := by simp
            obtain ⟨cc, W1, hconv, hc1, hc2, hb1, hrd⟩ := conv_text (P := Tryd.prog) Tryd.underlying9 Tryd.underlying22 Tryd.underlying5 wr (⟨#[34]⟩ ++ bytesOf sl ++ ⟨#[34]⟩) (34 :: (sl ++ [34])) (by
              rw [show (⟨#[34]⟩ : ByteArray) = bytesOf [34] from rfl, bytesOf_append, bytesOf_append]; rfl) (by rw [hlen3]; unfold maxLen; omega)
            have htx := Hscan.out 34 (by decide)
            have hB1 := hb.trans (hb1.mono hb.size)
            have hct := tk_scan (34 :: (sl ++ [34])) _ _ cc W1 hrd hc1 hc2 (hT.below hB1) (hE.below hB1)
            rw [htx] at hct
            rw [hlen3] at hct hconv
            clear htx hrd hc1 hc2 hlen3
            go_wp2_with fail
            refine hct.mono ?_
            rintro e w2 ⟨hb2, hret⟩
            unfold ScanRet at hret
            rw [if_neg (by simp; omega)] at hret
            obtain ⟨v, rfl, hown⟩ := hret
            obtain ⟨A2, c2, rfl, hr2⟩ := toks_reads hown
            have hB2 := hB1.trans (hb2.mono hB1.size)
            clear hown hct
            have hB3 := hB2.alloc (Nat.le_trans (by omega) hB2.size) (.cells #[.int .i64 6, .string (bytesOf sl), .int .i64 0] 29)
            have hr3 := hr2.below ((Below.refl _ _).alloc (Nat.le_refl _) (.cells #[.int .i64 6, .string (bytesOf sl), .int .i64 0] 29))
            have hl3 := lit_tok w2 ⟨6, sl, 0⟩ #[.int .i64 6, .string (bytesOf sl), .int .i64 0] 29 rfl
            go_wp2_with fail
            refine (toks_same _ _ _ _ _ _ _ _ _ hr3 hl3 (by simp)).mono ?_
            rintro e w3 ⟨rfl, hb3⟩
            rw [show decide ([(⟨6, sl, 0⟩ : Tok)].map Tok.g = [⟨6, sl, 0⟩]) = true by rw [decide_eq_true_iff]; rfl]
            have hB4 := hB3.trans (hb3.mono hB3.size)
            go_wp2_with fail
            go_roundw
            case rel => exact ⟨1, by omega, rfl, hB4⟩
            case measure => simp [intOf]
          · have hw0 : ((1 : Nat) : Int) = 1 := rfl
            have hix := fun W => idx2_1 ⟨#[34]⟩ ⟨#[39]⟩ W
            have hlen3 : (39 :: (sl ++ [39])).length = sl.length + 2 := by simp
            obtain ⟨cc, W1, hconv, hc1, hc2, hb1, hrd⟩ := conv_text (P := Tryd.prog) Tryd.underlying9 Tryd.underlying22 Tryd.underlying5 wr (⟨#[39]⟩ ++ bytesOf sl ++ ⟨#[39]⟩) (39 :: (sl ++ [39])) (by
              rw [show (⟨#[39]⟩ : ByteArray) = bytesOf [39] from rfl, bytesOf_append, bytesOf_append]; rfl) (by rw [hlen3]; unfold maxLen; omega)
            have htx := Hscan.out 39 (by decide)
            have hB1 := hb.trans (hb1.mono hb.size)
            have hct := tk_scan (39 :: (sl ++ [39])) _ _ cc W1 hrd hc1 hc2 (hT.below hB1) (hE.below hB1)
            rw [htx] at hct
            rw [hlen3] at hct hconv
            clear htx hrd hc1 hc2 hlen3
            go_wp2_with fail
            refine hct.mono ?_
            rintro e w2 ⟨hb2, hret⟩
            unfold ScanRet at hret
            rw [if_neg (by simp; omega)] at hret
            obtain ⟨v, rfl, hown⟩ := hret
            obtain ⟨A2, c2, rfl, hr2⟩ := toks_reads hown
            have hB2 := hB1.trans (hb2.mono hB1.size)
            clear hown hct
            have hB3 := hB2.alloc (Nat.le_trans (by omega) hB2.size) (.cells #[.int .i64 6, .string (bytesOf sl), .int .i64 0] 29)
            have hr3 := hr2.below ((Below.refl _ _).alloc (Nat.le_refl _) (.cells #[.int .i64 6, .string (bytesOf sl), .int .i64 0] 29))
            have hl3 := lit_tok w2 ⟨6, sl, 0⟩ #[.int .i64 6, .string (bytesOf sl), .int .i64 0] 29 rfl
            go_wp2_with fail
            refine (toks_same _ _ _ _ _ _ _ _ _ hr3 hl3 (by simp)).mono ?_
            rintro e w3 ⟨rfl, hb3⟩
            rw [show decide ([(⟨6, sl, 0⟩ : Tok)].map Tok.g = [⟨6, sl, 0⟩]) = true by rw [decide_eq_true_iff]; rfl]
            have hB4 := hB3.trans (hb3.mono hB3.size)
            go_wp2_with fail
            go_roundw
            case rel => exact ⟨2, by omega, rfl, hB4⟩
            case measure => simp [intOf]
          · have hw0 : ((2 : Nat) : Int) = 2 := rfl
            go_wp2_with fail
            refine (tk_awake wr (hT.below hb) (hE.below hb)).mono ?_
            rintro e w4 ⟨rfl, hb4⟩
            go_wp2
            go_ret
            exact ⟨rfl, hb.trans (hb4.mono hb.size)⟩
  · have d1 : decide ((500 : Int) < ((bytesOf sl).size : Int)) = true := by rw [hsz]; simp; omega
    go_enter Tryd.func7, Tryd.ntmps7
    go_wp2_with fail
    refine (tk_awake w hT hE).mono ?_
    rintro e w4 ⟨rfl, hb4⟩
    go_wp2
    go_ret
    exact ⟨rfl, hb4⟩
end Go.Proofs.YthkagpefgkpgeaaDoor
