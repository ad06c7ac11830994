/- The law TokenComments is walked: a comment between tokens changes nothing; white space is one token. -/
import Derived.Test.YthkagpefgkpgeaaDoorB10
set_option linter.unusedVariables false
set_option linter.unusedSimpArgs false
namespace Go.Proofs.YthkagpefgkpgeaaDoor
open Go.RowKit Rn Tk
def LowN (nl : List UInt8) : Prop := ∀ x ∈ nl, 97 ≤ x.toNat ∧ x.toNat ≤ 122
theorem low_name {nl : List UInt8} (h : LowN nl) (hne : nl ≠ []) : ∃ c l, chr nl = c :: l ∧ letterB c = true ∧ (∀ d ∈ l, withinB d = true) ∧ writeP (c :: l) = nl := by
  obtain ⟨b, r, rfl⟩ := List.exists_cons_of_ne_nil hne
  have hl : ∀ x : UInt8, 97 ≤ x.toNat ∧ x.toNat ≤ 122 → letterB (x.toNat : Int) = true := fun x hx => by unfold letterB; simp; omega
  refine ⟨_, _, rfl, hl b (h b (by simp)), fun d hd => ?_, ?_⟩
  · obtain ⟨x, hx, rfl⟩ := List.mem_map.1 hd
    exact (letter_facts (hl x (h x (by simp [hx])))).2.2.2.2.2.2.2.2
  · exact write_chr (b :: r) (fun x hx => by have := h x hx; omega)
theorem low_read {nl : List UInt8} (h : LowN nl) : ∀ b ∈ nl, b.toNat < 128 ∧ b.toNat ≠ 0 ∧ b.toNat ≠ 12 ∧ b.toNat ≠ 13 := fun b hb => by have := h b hb; omega
theorem chr_pos (nl : List UInt8) : ∀ c ∈ chr nl, 0 ≤ c := fun c hc => by
  obtain ⟨b, _, rfl⟩ := List.mem_map.1 hc
  omega
theorem star_free {cl : List UInt8} (h : ∀ x ∈ cl, x ≠ 42) : ∀ c ∈ readP cl, c ≠ 42 := by
  intro c hc e
  subst e
  rcases readP_low cl 42 hc (by decide) with e | ⟨b, hb, e⟩
  · exact absurd e (by decide)
  · exact h b hb (UInt8.toNat_inj.1 (by show b.toNat = 42; omega))
theorem scan_ab {nl : List UInt8} (h : LowN nl) (hne : nl ≠ []) : scanT (58 :: chr nl) = [⟨14, [], 0⟩, ⟨2, nl, 0⟩] := by
  obtain ⟨c, l, e, hc, hl, hw⟩ := low_name h hne
  rw [scan_colon _ (chr_pos nl), e, scan_ident hc hl, hw]
theorem comment_a {nl cl : List UInt8} (h : LowN nl) (hne : nl ≠ []) (hc : ∀ x ∈ cl, x ≠ 42) : scanT (readP (nl ++ ([47, 42] ++ (cl ++ ([42, 47, 58] ++ nl))))) = [⟨2, nl, 0⟩, ⟨14, [], 0⟩, ⟨2, nl, 0⟩] := by
  have e1 : readP ([42, 47, 58] ++ nl) = [42, 47, 58] ++ chr nl := by
    rw [read_low [42, 47, 58] (by decide), read_chr nl (low_read h)]; rfl
  have e2 : readP (cl ++ ([42, 47, 58] ++ nl)) = readP cl ++ ([42, 47, 58] ++ chr nl) := by
    rw [← e1]; exact read_parts cl 42 (47 :: 58 :: nl) (by decide) (by decide)
  rw [read_low nl (low_read h), read_low [47, 42] (by decide), e2]
  obtain ⟨c, l, e, hlc, hl, hw⟩ := low_name h hne
  have hpos : ∀ d ∈ chr [47, 42] ++ (readP cl ++ ([42, 47, 58] ++ chr nl)), 0 ≤ d := fun d hd => by
    rcases List.mem_append.1 hd with hd | hd
    · exact chr_pos _ d hd
    · rcases List.mem_append.1 hd with hd | hd
      · exact readP_pos cl d hd
      · rcases List.mem_append.1 hd with hd | hd
        · simp at hd; omega
        · exact chr_pos _ d hd
  have := scan_name (rest := chr [47, 42] ++ (readP cl ++ ([42, 47, 58] ++ chr nl))) hlc hl hpos (esc_cons (by decide) _) (show withinB 47 = false by decide)
  rw [← e] at this
  have hwn : writeP (chr nl) = nl := by rw [e]; exact hw
  rw [this, if_neg (show ¬ pk (chr [47, 42] ++ (readP cl ++ ([42, 47, 58] ++ chr nl))) 0 = 40 from show ¬ (47 : Int) = 40 by decide), hwn]
  have e3 : chr [47, 42] ++ (readP cl ++ ([42, 47, 58] ++ chr nl)) = 47 :: 42 :: (readP cl ++ 42 :: 47 :: (58 :: chr nl)) := by simp [chr]
  rw [e3, scan_of_spaces (spaces_comment _ (star_free hc) _), scan_ab h hne]
theorem comment_b {nl : List UInt8} (h : LowN nl) (hne : nl ≠ []) : scanT (readP (nl ++ ([58] ++ nl))) = [⟨2, nl, 0⟩, ⟨14, [], 0⟩, ⟨2, nl, 0⟩] := by
  rw [read_low nl (low_read h), read_low [58] (by decide), read_chr nl (low_read h)]
  obtain ⟨c, l, e, hlc, hl, hw⟩ := low_name h hne
  have hpos : ∀ d ∈ chr [58] ++ chr nl, 0 ≤ d := fun d hd => by
    rcases List.mem_append.1 hd with hd | hd
    · exact chr_pos _ d hd
    · exact chr_pos _ d hd
  have := scan_name (rest := chr [58] ++ chr nl) hlc hl hpos (esc_cons (by decide) _) (show withinB 58 = false by decide)
  rw [← e] at this
  have hwn : writeP (chr nl) = nl := by rw [e]; exact hw
  rw [this, if_neg (show ¬ pk (chr [58] ++ chr nl) 0 = 40 from show ¬ (58 : Int) = 40 by decide), hwn]
  have e3 : chr [58] ++ chr nl = 58 :: chr nl := by simp [chr]
  rw [e3, scan_ab h hne]
theorem comment_c {nl cl : List UInt8} (h : LowN nl) (hne : nl ≠ []) (hc : ∀ x ∈ cl, x ≠ 42) : scanT (readP (nl ++ ([9, 47, 42] ++ (cl ++ ([42, 47, 32, 10] ++ nl))))) = [⟨2, nl, 0⟩, ⟨1, [], 0⟩, ⟨2, nl, 0⟩] := by
  have e1 : readP ([42, 47, 32, 10] ++ nl) = [42, 47, 32, 10] ++ chr nl := by
    rw [read_low [42, 47, 32, 10] (by decide), read_chr nl (low_read h)]; rfl
  have e2 : readP (cl ++ ([42, 47, 32, 10] ++ nl)) = readP cl ++ ([42, 47, 32, 10] ++ chr nl) := by
    rw [← e1]; exact read_parts cl 42 (47 :: 32 :: 10 :: nl) (by decide) (by decide)
  rw [read_low nl (low_read h), read_low [9, 47, 42] (by decide), e2]
  obtain ⟨c, l, e, hlc, hl, hw⟩ := low_name h hne
  have hpos : ∀ d ∈ chr [9, 47, 42] ++ (readP cl ++ ([42, 47, 32, 10] ++ chr nl)), 0 ≤ d := fun d hd => by
    rcases List.mem_append.1 hd with hd | hd
    · exact chr_pos _ d hd
    · rcases List.mem_append.1 hd with hd | hd
      · exact readP_pos cl d hd
      · rcases List.mem_append.1 hd with hd | hd
        · simp at hd; omega
        · exact chr_pos _ d hd
  have := scan_name (rest := chr [9, 47, 42] ++ (readP cl ++ ([42, 47, 32, 10] ++ chr nl))) hlc hl hpos (esc_cons (by decide) _) (show withinB 9 = false by decide)
  rw [← e] at this
  have hwn : writeP (chr nl) = nl := by rw [e]; exact hw
  rw [this, if_neg (show ¬ pk (chr [9, 47, 42] ++ (readP cl ++ ([42, 47, 32, 10] ++ chr nl))) 0 = 40 from show ¬ (9 : Int) = 40 by decide), hwn]
  have e3 : chr [9, 47, 42] ++ (readP cl ++ ([42, 47, 32, 10] ++ chr nl)) = 9 :: 47 :: 42 :: (readP cl ++ 42 :: 47 :: (32 :: 10 :: chr nl)) := by simp [chr]
  rw [e3, scan_white (by decide), spaces_comment _ (star_free hc), spaces_white (by decide), spaces_white (by decide), e, spaces_none (letter_facts hlc).1 (letter_facts hlc).2.1, scan_ident hlc hl, hw]
set_option maxRecDepth 100000 in
set_option maxHeartbeats 8000000 in
theorem walk_TokenComments (s t : ByteArray) (w : World) (hs : s.size ≤ maxLen) (ht : t.size ≤ maxLen) (hT : Tabs w) (hE : Env w) :
    Calls Tryd.prog 5 #[.string s, .string t] w fun e w' => e = .returned (.bool true) ∧ Below w.heap.size w w' := by
  obtain ⟨nl, rfl⟩ : ∃ nl, s = bytesOf nl := ⟨s.data.toList, (bytesOf_eta s).symm⟩
  obtain ⟨cl, rfl⟩ : ∃ cl, t = bytesOf cl := ⟨t.data.toList, (bytesOf_eta t).symm⟩
  have hz1 := bytesOf_size nl
  have hz2 := bytesOf_size cl
  unfold maxLen at hs ht
  by_cases hn : nl.length ≤ 200
  · have d1 : decide ((200 : Int) < ((bytesOf nl).size : Int)) = false := by rw [hz1]; simp; omega
    by_cases hn2 : cl.length ≤ 200
    · have d2 : decide ((200 : Int) < ((bytesOf cl).size : Int)) = false := by rw [hz2]; simp; omega
      go_enter Tryd.func5, Tryd.ntmps5
      go_wp2_with fail
      go_loopw [24] (fun i wr => ∃ k : Nat, k ≤ cl.length ∧ i = .int .i64 k ∧ w = wr ∧ Hid (∀ x ∈ cl.take k, x ≠ 42)) (fun i _ => cl.length - (intOf i).toNat)
      case atStart => exact ⟨0, by omega, rfl, rfl, (by show ∀ x ∈ _, _; simp)⟩
      case round =>
        obtain ⟨k, hk, rfl, rfl, hx⟩ := hrel
        by_cases hlt : k < cl.length
        · obtain ⟨b, hb⟩ : ∃ b, cl[k]? = some b := ⟨_, List.getElem?_eq_getElem hlt⟩
          have hix := str_at (P := Tryd.prog) (T := 9) Tryd.underlying9 cl .i64 k b hb
          have dk : decide ((k : Int) < ((bytesOf cl).size : Int)) = true := by rw [hz2]; simp; omega
          by_cases h42 : b.toNat = 42
          · have hb42 : ((b.toNat : Int) == 42) = true := by simp; omega
            clear h42 hb
            go_wp2_with fail
            refine (tk_awake w hT hE).mono ?_
            rintro e w4 ⟨rfl, hb4⟩
            go_wp2
            go_ret
            exact ⟨rfl, hb4⟩
          · have hb42 : ((b.toNat : Int) == 42) = false := by simp; omega
            have hnew : Hid (∀ x ∈ cl.take (k + 1), x ≠ 42) := by
              show ∀ x ∈ _, _
              rw [take_snoc _ _ _ hb]
              intro x hx2
              rcases List.mem_append.1 hx2 with h | h
              · exact hx.out x h
              · obtain rfl : x = b := by simpa using h
                intro e; exact h42 (by rw [e]; rfl)
            clear h42 hb hx
            go_wp2_with fail
            go_roundw
            case rel => exact ⟨k + 1, by omega, by go_num, trivial, hnew⟩
            case measure => simp [intOf]; omega
        · obtain rfl : k = cl.length := by omega
          have dk : decide (((cl.length : Nat) : Int) < ((bytesOf cl).size : Int)) = false := by rw [hz2]; simp
          have hx' : Hid (∀ x ∈ cl, x ≠ 42) := by have := hx.out; rw [List.take_length] at this; exact this
          clear hx hlt hk
          go_wp2_with fail
          go_loopw [35] (fun i wr => ∃ k : Nat, k ≤ nl.length ∧ i = .int .i64 k ∧ w = wr ∧ Hid (LowN (nl.take k))) (fun i _ => nl.length - (intOf i).toNat)
          case atStart => exact ⟨0, by omega, rfl, rfl, (by show LowN _; intro x h; simp at h)⟩
          case round =>
            obtain ⟨k, hk, rfl, rfl, hx⟩ := hrel
            by_cases hlt : k < nl.length
            · obtain ⟨b, hb⟩ : ∃ b, nl[k]? = some b := ⟨_, List.getElem?_eq_getElem hlt⟩
              have hix := str_at (P := Tryd.prog) (T := 9) Tryd.underlying9 nl .i64 k b hb
              have dk : decide ((k : Int) < ((bytesOf nl).size : Int)) = true := by rw [hz1]; simp; omega
              by_cases h97 : b.toNat < 97
              · have e97 : decide ((b.toNat : Int) < 97) = true := by simp; omega
                clear hb hx
                go_wp2_with fail
                refine (tk_awake w hT hE).mono ?_
                rintro e w4 ⟨rfl, hb4⟩
                go_wp2
                go_ret
                exact ⟨rfl, hb4⟩
              · have e97 : decide ((b.toNat : Int) < 97) = false := by simp; omega
                by_cases h122 : 122 < b.toNat
                · have e122 : decide ((122 : Int) < (b.toNat : Int)) = true := by simp; omega
                  clear hb hx h97
                  go_wp2_with fail
                  refine (tk_awake w hT hE).mono ?_
                  rintro e w4 ⟨rfl, hb4⟩
                  go_wp2
                  go_ret
                  exact ⟨rfl, hb4⟩
                · have e122 : decide ((122 : Int) < (b.toNat : Int)) = false := by simp; omega
                  have hnew : Hid (LowN (nl.take (k + 1))) := by
                    show LowN _
                    rw [take_snoc _ _ _ hb]
                    intro x hx2
                    rcases List.mem_append.1 hx2 with h | h
                    · exact hx.out x h
                    · obtain rfl : x = b := by simpa using h
                      omega
                  clear hb hx h97 h122
                  go_wp2_with fail
                  go_roundw
                  case rel => exact ⟨k + 1, by omega, by go_num, trivial, hnew⟩
                  case measure => simp [intOf]; omega
            · obtain rfl : k = nl.length := by omega
              have dk : decide (((nl.length : Nat) : Int) < ((bytesOf nl).size : Int)) = false := by rw [hz1]; simp
              have hy := hx.out
              rw [List.take_length] at hy
              have Hy := Lib.hid hy
              clear hx hlt hk hy
              by_cases hne : nl = []
              · have hnil := str_none
                obtain ⟨hn1, hn2⟩ := hnil
                subst hne
                go_wp2_with fail
                refine (tk_awake w hT hE).mono ?_
                rintro e w4 ⟨rfl, hb4⟩
                go_wp2
                go_ret
                exact ⟨rfl, hb4⟩
              · obtain ⟨hn1, hn2⟩ := str_some hne
                have ta := comment_a Hy.out hne hx'.out
                have tb := comment_b Hy.out hne
                have tc := comment_c Hy.out hne hx'.out
                have k47 : (⟨#[47, 42]⟩ : ByteArray) = bytesOf [47, 42] := rfl
                have k58 : (⟨#[42, 47, 58]⟩ : ByteArray) = bytesOf [42, 47, 58] := rfl
                have j58 : (⟨#[58]⟩ : ByteArray) = bytesOf [58] := rfl
                have k9 : (⟨#[9, 47, 42]⟩ : ByteArray) = bytesOf [9, 47, 42] := rfl
                have k32 : (⟨#[42, 47, 32, 10]⟩ : ByteArray) = bytesOf [42, 47, 32, 10] := rfl
                obtain ⟨xa, hxa⟩ : ∃ x, nl ++ ([47, 42] ++ (cl ++ ([42, 47, 58] ++ nl))) = x := ⟨_, rfl⟩
                obtain ⟨xb, hxb⟩ : ∃ x, nl ++ ([58] ++ nl) = x := ⟨_, rfl⟩
                obtain ⟨xc, hxc⟩ : ∃ x, nl ++ ([9, 47, 42] ++ (cl ++ ([42, 47, 32, 10] ++ nl))) = x := ⟨_, rfl⟩
                have la : xa.length ≤ 1000 := by rw [← hxa]; simp; omega
                have lb : xb.length ≤ 1000 := by rw [← hxb]; simp; omega
                have lc : xc.length ≤ 1000 := by rw [← hxc]; simp; omega
                have sa : bytesOf nl ++ ⟨#[47, 42]⟩ ++ bytesOf cl ++ ⟨#[42, 47, 58]⟩ ++ bytesOf nl = bytesOf xa := by
                  rw [k47, k58, bytesOf_append, bytesOf_append, bytesOf_append, bytesOf_append, ← hxa]; simp
                have sb : bytesOf nl ++ ⟨#[58]⟩ ++ bytesOf nl = bytesOf xb := by
                  rw [j58, bytesOf_append, bytesOf_append, ← hxb]; simp
                have sc : bytesOf nl ++ ⟨#[9, 47, 42]⟩ ++ bytesOf cl ++ ⟨#[42, 47, 32, 10]⟩ ++ bytesOf nl = bytesOf xc := by
                  rw [k9, k32, bytesOf_append, bytesOf_append, bytesOf_append, bytesOf_append, ← hxc]; simp
                rw [hxa] at ta
                rw [hxb] at tb
                rw [hxc] at tc
                have hmx : 1000 ≤ maxLen := by unfold maxLen; omega
                obtain ⟨ca, Wa, hca, hca1, hca2, hba, hra⟩ := conv_text (P := Tryd.prog) Tryd.underlying9 Tryd.underlying22 Tryd.underlying5 w _ xa sa (by omega)
                have hsa := tk_scan xa _ _ ca Wa hra hca1 hca2 (hT.below hba) (hE.below hba)
                rw [ta] at hsa
                clear ta hra hca1 hca2 sa hxa hxb hxc k47 k58 j58 k9 k32 dk hne hx' Hy
                go_wp2_with fail
                refine hsa.mono ?_
                rintro e w1 ⟨hb1, hret⟩
                unfold ScanRet at hret
                rw [if_neg (by simp; omega)] at hret
                obtain ⟨v, rfl, hown⟩ := hret
                obtain ⟨A1, c1, rfl, hr1⟩ := toks_reads hown
                have hB1 := hba.trans (hb1.mono hba.size)
                clear hown hsa hca hba hb1
                obtain ⟨cb, Wb, hcb, hcb1, hcb2, hbb, hrb⟩ := conv_text (P := Tryd.prog) Tryd.underlying9 Tryd.underlying22 Tryd.underlying5 w1 _ xb sb (by omega)
                have hr1b := hr1.below hbb
                have hBb := hB1.trans (hbb.mono hB1.size)
                have hsb := tk_scan xb _ _ cb Wb hrb hcb1 hcb2 (hT.below hBb) (hE.below hBb)
                rw [tb] at hsb
                clear tb hrb hcb1 hcb2 sb hr1
                go_wp2_with fail
                refine hsb.mono ?_
                rintro e w2 ⟨hb2, hret⟩
                unfold ScanRet at hret
                rw [if_neg (by simp; omega)] at hret
                obtain ⟨v, rfl, hown⟩ := hret
                obtain ⟨A2, c2, rfl, hr2⟩ := toks_reads hown
                have hr1c := hr1b.below hb2
                have hB2 := hBb.trans (hb2.mono hBb.size)
                clear hown hsb hcb hbb hb2 hBb hB1 hr1b
                obtain ⟨cc, Wc, hcc, hcc1, hcc2, hbc, hrc⟩ := conv_text (P := Tryd.prog) Tryd.underlying9 Tryd.underlying22 Tryd.underlying5 w2 _ xc sc (by omega)
                have hBc := hB2.trans (hbc.mono hB2.size)
                have hsc := tk_scan xc _ _ cc Wc hrc hcc1 hcc2 (hT.below hBc) (hE.below hBc)
                rw [tc] at hsc
                have hr1d := hr1c.below hbc
                have hr2d := hr2.below hbc
                clear tc hrc hcc1 hcc2 sc hr2 hr1c
                go_wp2_with fail
                refine hsc.mono ?_
                rintro e w3 ⟨hb3, hret⟩
                unfold ScanRet at hret
                rw [if_neg (by simp; omega)] at hret
                obtain ⟨v, rfl, hown⟩ := hret
                obtain ⟨A3, c3, rfl, hr3⟩ := toks_reads hown
                have hr1e := hr1d.below hb3
                have hr2e := hr2d.below hb3
                have hB3 := hBc.trans (hb3.mono hBc.size)
                clear hown hsc hcc hbc hb3 hBc hB2 hr1d hr2d
                go_wp2_with fail
                refine (toks_same _ _ _ _ _ _ _ _ _ hr1e hr2e (by simp)).mono ?_
                rintro e w4 ⟨rfl, hb4⟩
                rw [decide_eq_true rfl]
                have hr3e := hr3.below hb4
                have hB4 := hB3.trans (hb4.mono hB3.size)
                obtain ⟨g, off, rfl, _, hc⟩ := hr3e.open_ (by simp)
                have x3 : w4.cell? ⟨g, off + 3, none⟩ = some (.int .i64 1) := hc 3 _ rfl
                have x7 : w4.cell? ⟨g, off + 7, none⟩ = some (.string (bytesOf nl)) := hc 7 _ rfl
                clear hc hr3e hr3 hr1e hr2e hb4 hB3
                go_wp2_with fail
                refine (tk_awake w4 (hT.below hB4) (hE.below hB4)).mono ?_
                rintro e w5 ⟨rfl, hb5⟩
                go_wp2
                go_ret
                exact ⟨rfl, hB4.trans (hb5.mono hB4.size)⟩
    · have d2 : decide ((200 : Int) < ((bytesOf cl).size : Int)) = true := by rw [hz2]; simp; omega
      go_enter Tryd.func5, Tryd.ntmps5
      go_wp2_with fail
      refine (tk_awake w hT hE).mono ?_
      rintro e w4 ⟨rfl, hb4⟩
      go_wp2
      go_ret
      exact ⟨rfl, hb4⟩
  · have d1 : decide ((200 : Int) < ((bytesOf nl).size : Int)) = true := by rw [hz1]; simp; omega
    go_enter Tryd.func5, Tryd.ntmps5
    go_wp2_with fail
    refine (tk_awake w hT hE).mono ?_
    rintro e w4 ⟨rfl, hb4⟩
    go_wp2
    go_ret
    exact ⟨rfl, hb4⟩
end Go.Proofs.YthkagpefgkpgeaaDoor
