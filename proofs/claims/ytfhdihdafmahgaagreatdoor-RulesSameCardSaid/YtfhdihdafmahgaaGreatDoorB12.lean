/- Layer 4, the document: a number in hex digits, an escape, a letter, a search in a list, are walked; and what two tokens must be kept apart. -/
import Derived.Test.YtfhdihdafmahgaaGreatDoorB04
import Derived.Test.YtfhdihdafmahgaaGreatDoorB09
import Derived.Lib.SlBytesConst
import Derived.Test.YtfhdihdafmahgaaGreatDoorB11
import Derived.Test.YtfhdihdafmahgaaGreatDoorB10
import Derived.Test.YtfhdihdafmahgaaGreatDoorB05
import Derived.Laws.EntriesVeiled
import Derived.Test.YtfhdihdafmahgaaGreatDoorB02
import Derived.Test.YtfhdihdafmahgaaGreatDoorB03
import Derived.WalkMore
import Derived.Deep.RegionWith
/- The laws' own helpers of layer 2 are walked: ints, same, awake. -/
set_option linter.unusedVariables false
set_option linter.unusedSimpArgs false
namespace Go.Proofs.YtfhdihdafmahgaaGreatDoor
open Go.RowKit Rn

theorem RowAt.mark (w : World) (e : TypeId) (cs : Array Value) (k : Nat) (hk : cs.size ≤ k) : RowAt (w.alloc (.cells cs e (k, k + 1))) w.heap.size cs.toList := by
  refine ⟨by simp, fun j u hu => ?_⟩
  have hj : j < cs.size := by
    have := (List.getElem?_eq_some_iff.1 hu).1
    simpa using this
  have h := heap_alloc_new w (.cells cs e (k, k + 1))
  constructor
  · unfold World.cell?
    rw [h]
    simpa using hu
  · unfold World.frozen?
    rw [h]
    simp
    omega
theorem own_open {w : World} {base : Nat} {e : TypeId} {v : Value} {n : Nat} {xs : List Value} (h : w.ownsRow base e 1 v n xs) (hn : 0 < n) :
    ∃ g c, v = .slice (some ⟨g, 0, none⟩) n c ∧ base ≤ g ∧ g < w.heap.size ∧ n ≤ c ∧ c ≤ maxLen ∧ ∀ j u, xs[j]? = some u → w.cell? ⟨g, j, none⟩ = some u := by
  have hrd : ∀ A c, v = .slice A n c → Reads w w.heap.size 1 A n xs := fun A c e => Reads.of_own (c := c) (by rw [← e]; exact h)
  obtain ⟨h0, ⟨rfl, rfl⟩ | ⟨g, cap, cur, rfl, h1, h2, h3, h4, _⟩⟩ := id h
  · omega
  · obtain ⟨b, off, e, hb, hc⟩ := (hrd _ _ rfl).open_ hn
    injection e with e
    injection e with e1 e2
    subst e1 e2
    exact ⟨_, _, rfl, h1, hb, h3, h4, fun j u hu => by have := hc j u hu; rwa [Nat.zero_add] at this⟩
theorem awake_read : readP [240, 159, 152, 65, 13, 10] = [65533, 65, 10] := by decide +kernel
theorem awake_hex : hexI 102 = 15 := by decide
theorem awake_begins : beginsB 95 = true := by decide
end Go.Proofs.YtfhdihdafmahgaaGreatDoor
/- Layer 3: what the laws ask of one sheet. -/
set_option linter.unusedVariables false
set_option linter.unusedSimpArgs false
namespace Go.Proofs.YtfhdihdafmahgaaGreatDoor
open Go.RowKit Rn Tk
theorem awake_len : (scanT (readP [97, 58, 49, 46, 53, 101, 109, 47, 42, 42, 47, 98])).length = 4 := by rw [awake_scan]; rfl
end Go.Proofs.YtfhdihdafmahgaaGreatDoor
/- What the walks of layer 3's laws have in common. -/
set_option linter.unusedVariables false
set_option linter.unusedSimpArgs false
namespace Go.Proofs.YtfhdihdafmahgaaGreatDoor
open Go.RowKit Rn Tk
theorem toks_reads {w : World} {b n : Nat} {v : Value} {l : List Tok} (h : w.ownsRow b 58 3 v n (toksV l)) : ∃ A c, v = .slice A n c ∧ ReadsT w w.heap.size A n (l.map Tok.g) := by
  obtain ⟨A, c, rfl, _, _⟩ := own_form h
  exact ⟨A, c, rfl, Reads.of_own h⟩
theorem ReadsT.below {w w' : World} {A : Option Addr} {n : Nat} {l : List GTok} (h : ReadsT w w.heap.size A n l) (hb : Below w.heap.size w w') : ReadsT w' w'.heap.size A n l := (Reads.below h hb).more hb.size
/-- []byte(s): a new block that reads as the text. -/
theorem conv_text {P : Program} {src dst e : TypeId} (hs : P.underlying src = some .string) (hd : P.underlying dst = some (.slice e)) (he : P.underlying e = some (.int .u8)) (w : World) (s : ByteArray) (l : List UInt8) (h : s = bytesOf l) (hl : l.length ≤ maxLen) :
    ∃ c W1, (convert src dst (.string s)).run P w = .ok (.slice (some ⟨w.heap.size, 0, none⟩) l.length c) W1 ∧ l.length ≤ c ∧ c ≤ maxLen ∧ Below w.heap.size w W1 ∧ Reads W1 W1.heap.size 1 (some ⟨w.heap.size, 0, none⟩) l.length (l.map b8) := by
  subst h
  have hsz := bytesOf_size l
  obtain ⟨c, W1, h1, h2, h3, h4⟩ := conv_bytes hs hd he w (bytesOf l)
  have hc : c ≤ maxLen := by
    have h5 := run_bytes_of_string w src dst e (bytesOf l) hs hd he
    rw [h1] at h5
    injection h5 with h5 _
    injection h5 with _ _ h5
    rw [h5]; exact grownCap_le_maxLen _ _ _ _ (by rw [hsz]; exact hl)
  rw [hsz] at h1 h2
  rw [bytesOf_list] at h4
  have := h4.reads (B := W1.heap.size) h4.1
  rw [List.length_map] at this
  exact ⟨c, W1, h1, h2, hc, h3, this⟩
/-- tokens of a literal -/
theorem lit_tok (w : World) (t : GTok) (cs : Array Value) (e : TypeId) (h : cs.toList = cells1 t) : ReadsT (w.alloc (.cells cs e)) (w.alloc (.cells cs e)).heap.size (some ⟨w.heap.size, 0, none⟩) 1 [t] := by
  have r := RowAt.new w e cs
  rw [h] at r
  refine ⟨by rw [cellsG_len]; rfl, fun _ => ⟨w.heap.size, 0, rfl, r.1, fun j u hu => ?_⟩⟩
  have hu' : (cells1 t)[j]? = some u := by simpa [cellsG] using hu
  rw [Nat.zero_add]; exact (r.2 j u hu').1
end Go.Proofs.YtfhdihdafmahgaaGreatDoor
/- Layer 6: the program's Parse is walked. -/
set_option linter.unusedVariables false
set_option linter.unusedSimpArgs false
namespace Go.Proofs.YtfhdihdafmahgaaGreatDoor
open Go.RowKit Rn Tp Ru
set_option maxRecDepth 100000 in
set_option maxHeartbeats 8000000 in
theorem ru_parse (bs : List UInt8) (A0 : Option Addr) (n0 cap0 : Nat) (w : World) (hr : Reads w w.heap.size 1 A0 n0 (bs.map b8)) (hm : n0 ≤ cap0) (hcap : cap0 ≤ maxLen) (hT : Tabs w) (hE : Env w) (hB : Boxed w) :
    Calls Tryz.prog 9 #[.slice A0 n0 cap0] w (ParseRet n0 (Tk.scanT (readP bs)) w) := by
  have hlen0 : bs.length = n0 := by simpa using hr.len
  have cS := tk_scan bs A0 n0 cap0 w hr hm hcap hT hE
  obtain ⟨T, hTT⟩ : ∃ T, Tk.scanT (readP bs) = T := ⟨_, rfl⟩
  rw [hTT] at cS ⊢
  have HTT := Lib.hid hTT
  have Hlen0 := Lib.hid hlen0
  clear hTT hlen0
  go_enter Tryz.func9, Tryz.ntmps9
  go_wp2_with fail
  refine cS.mono ?_
  rintro e w1 ⟨hb1, hret⟩
  clear cS
  unfold ScanRet at hret
  by_cases hbig : 65536 < n0 ∨ 16384 < T.length
  · rw [if_pos hbig] at hret
    subst hret
    have Hbig := Lib.hid hbig
    clear hbig
    go_wp2_with fail
    go_ret2
    unfold ParseRet
    rw [if_pos Hbig.out]
    exact ⟨hb1, rfl⟩
  · rw [if_neg hbig] at hret
    obtain ⟨v, rfl, hown⟩ := hret
    obtain ⟨A, c, rfl, hnc, hcm⟩ := own_form hown
    obtain ⟨l, hl⟩ : ∃ l, T.map Tk.Tok.g = l := ⟨_, rfl⟩
    have hnl : T.length = l.length := by rw [← hl, List.length_map]
    have hR : ReadsS w1 (· < w1.heap.size) 3 A l.length (cellsG l) := by
      have := ReadsS.of_own hown (S := (· < w1.heap.size)) (fun b hb => (hown.lt b hb).2)
      rw [← hnl, ← hl]; exact this
    rw [hnl] at hown hnc hbig ⊢
    have hsm : ∀ t ∈ l, smallT t := by
      rw [← hl, ← HTT.out]
      exact sheet_small (by rw [Hlen0.out]; omega)
    have hret : ∀ e w', Below w.heap.size w w' → (if (parseT l).1 = 0 then ∃ A c, e = .returned (.tuple #[.slice A (parseT l).2.length c, .int .i64 0]) ∧ RulesS w' (Fresh w w') A (parseT l).2.length (parseT l).2 else e = .returned (.tuple #[.slice none 0 0, .int .i64 (parseT l).1])) → ParseRet n0 T w e w' := fun e w' h1 h2 => by
      unfold ParseRet
      rw [if_neg (by rw [hnl]; exact hbig), hl]
      exact ⟨h1, h2⟩
    have Hret := Lib.hid hret
    obtain ⟨n, hn⟩ : ∃ n, l.length = n := ⟨_, rfl⟩
    rw [hn] at hown hR hnc hbig ⊢
    have hn16 : n ≤ 16384 := by omega
    have Hn := Lib.hid hn
    have Hhl := Lib.hid hl
    have Hbig := Lib.hid hbig
    clear hnl hn hl hret hown HTT hbig
    go_wp2_with fail
    refine (nest_ends l A n c w1 hR (by omega)).mono ?_
    rintro e w2 ⟨hb2, hret2⟩
    have hB2 : Below w.heap.size w w2 := hb1.trans (hb2.mono hb1.size)
    unfold EndsRet at hret2
    cases hd : deepB l with
    | false =>
      rw [hd, if_neg (by decide)] at hret2
      subst hret2
      have hf : parseT l = (3, []) := by unfold parseT; rw [if_pos hd]
      have HF := Lib.hid hf
      clear hf hd
      go_wp2_with fail
      go_ret2
      refine Hret.out _ _ hB2 ?_
      rw [HF.out, if_neg (by decide)]
      rfl
    | true =>
      rw [hd, if_pos rfl] at hret2
      obtain ⟨rfl, he2, hlt2⟩ := hret2
      have Hd := Lib.hid hd
      clear hd
      go_wp2_with fail
      have b1 := hb1.size
      have b2 := hb2.size
      obtain ⟨w3, hw3⟩ : ∃ w3, w2.alloc (.cells #[.slice A n c, .slice (some ⟨w1.heap.size, 0, none⟩) n n] 56) = w3 := ⟨_, rfl⟩
      have b23 : Below w2.heap.size w2 w3 := by rw [← hw3]; exact (Below.refl _ _).alloc (Nat.le_refl _) _
      have r3 : RowAt w3 w2.heap.size [.slice A n c, .slice (some ⟨w1.heap.size, 0, none⟩) n n] := by rw [← hw3]; exact RowAt.new _ _ _
      have hB3 : Below w.heap.size w w3 := hB2.trans (b23.mono hB2.size)
      have hP : Par w3 w2.heap.size l A n c (some ⟨w1.heap.size, 0, none⟩) n :=
        ⟨r3.1, (r3.2 0 _ rfl).1, (r3.2 1 _ rfl).1, (hR.below hb2).below b23, (he2.keep (Kept.of_below b23 (fun b hb => by rw [hb]; exact hlt2))).more (fun b hb => by rw [hb]; exact Nat.lt_trans hlt2 r3.1), by omega, hnc, hsm⟩
      rw [hw3]
      clear hw3 r3 he2 hR
      go_loopw [8, 9] (fun v i wr => ∃ (k : Nat) (A1 : Option Addr) (n1 c1 : Nat) (mr : List MRule), k ≤ n + 1 ∧ i = .int .i64 (k : Int) ∧ v = .slice A1 n1 c1 ∧ Hid (n1 = mr.length) ∧ RJ l w3 wr k (.slice A1 n1 c1) mr) (fun _ i _ => n - (intOf i).toNat)
      case atStart => exact ⟨0, none, 0, 0, [], by omega, rfl, rfl, rfl, RJ.start l w3⟩
      case round =>
        obtain ⟨k, A1, n1, c1, mr, hk, rfl, rfl, hnn, hJ⟩ := hrel
        have hb := hJ.bel
        have Pw := hP.below hb
        have hbs := hb.size
        by_cases hlt : k < n
        · obtain ⟨b, off, t, hA, hbl, ht, x0, x1, x2⟩ := Pw.tk.tok (k := k) hlt
          subst hA
          have dk : (k : Int) < (n : Int) := by omega
          have hst := hsm t (List.mem_of_getElem? ht)
          obtain ⟨WA, hWA⟩ : ∃ WA, wr.alloc (.cells #[.int .i64 t.kind, .string (bytesOf t.text), .int .i64 t.n] 58) = WA := ⟨_, rfl⟩
          have bA : Below wr.heap.size wr WA := by rw [← hWA]; exact (Below.refl _ _).alloc (Nat.le_refl _) _
          have rA : RowAt WA wr.heap.size [.int .i64 t.kind, .string (bytesOf t.text), .int .i64 t.n] := by rw [← hWA]; exact RowAt.new _ _ _
          have hJA := hJ.below bA
          have PA := Pw.below bA
          have hbA := hJA.bel
          have hltA := rA.1
          have w1' : IntKind.i64.wrap ((k : Int) + 1) = (k : Int) + 1 := by rw [IntKind.wrap_i64]; omega
          obtain ⟨a0, _⟩ := rA.2 0 _ rfl
          obtain ⟨a1, _⟩ := rA.2 1 _ rfl
          obtain ⟨a2, _⟩ := rA.2 2 _ rfl
          by_cases h1k : t.kind = 1
          · have k1 : (t.kind == 1) = true := by simpa using h1k
            have hJ2 := hJA.to (rules_sp ht h1k)
            clear h1k ht hJ hJA
            go_wp2_with fail
            go_roundw
            case rel => exact ⟨k + 1, A1, n1, c1, mr, by omega, by go_num, rfl, hnn, hJ2⟩
            case measure => simp [intOf]; omega
          · have k1 : (t.kind == 1) = false := by simpa using h1k
            have hitem := rules_item ht h1k
            have hln := Hn.out
            obtain ⟨e, he⟩ : ∃ e, ruleEnd l t k = e := ⟨_, rfl⟩
            have hbd := end_ge (l := l) (t := t) (k := k) (by omega)
            have hnx := rule_next (l := l) (t := t) (k := k) (by omega)
            rw [he] at hitem hbd hnx
            have hle : e ≤ n := by omega
            have hsk : skipP l e ≤ n + 1 := by
              by_cases hen : e < n
              · have a := skip_le (l := l) (k := e) (by omega)
                omega
              · rw [skip_past (by omega)]; omega
            obtain ⟨F, isF, hF4, hF0, hAs, hen, hfe⟩ : ∃ (F : Nat) (isF : GTok → Bool), (t.kind = 4 → F = 24) ∧ (t.kind ≠ 4 → F = 23) ∧ (∀ t (W : World), Calls Tryz.prog F #[gtokV t] W fun e W' => e = .returned (.bool (isF t)) ∧ Below W.heap.size W W') ∧ (∀ (args : Array Value) (W : World), (callFunc F args).run Tryz.prog W = .ok (.enter F args) W) ∧ e = findP l isF (fromP t k) n := by
              by_cases h4 : t.kind = 4
              · refine ⟨24, eitherB, fun _ => rfl, fun h => absurd h4 h, fun t W => ru_either_parse t W, ru_enter_parse, ?_⟩
                rw [← he, ← hln]; unfold ruleEnd fromP; rw [if_pos h4, if_pos h4]
              · refine ⟨23, braceB, fun h => absurd h h4, fun _ => rfl, fun t W => ru_brace t W, ru_enter_brace, ?_⟩
                rw [← he, ← hln]; unfold ruleEnd fromP; rw [if_neg h4, if_neg h4]
            have hfr : fromP t k ≤ n := by unfold fromP; split <;> omega
            have cF := ru_find l isF F w2.heap.size _ n c _ n (fromP t k) n WA PA hfr (Nat.le_refl _) (fun t _ W _ => hAs t W) hen
            rw [← hfe] at cF
            have hfe2 : fromP t k ≤ e := by
              rw [hfe]; exact (find_bounds (l := l) isF (k := fromP t k) (z := n) (by omega) hfr).1
            obtain ⟨fr, hfr0⟩ : ∃ fr, fromP t k = fr := ⟨_, rfl⟩
            rw [hfr0] at cF hfr hfe2
            have Hitem := Lib.hid hitem
            have Hfr0 := Lib.hid hfr0
            have HF4 := Lib.hid hF4
            have HF0 := Lib.hid hF0
            have Ht := Lib.hid ht
            clear hitem he hfe hAs hen hfr0 hF4 hF0 ht h1k hJ hln
            go_upto_if 51 with (fail)
            go_cut [11, 12] (fun f s wx => f = .int .i64 (fr : Int) ∧ s = .func (.func F) #[] #[] ∧ WA = wx)
            case first =>
              by_cases h4 : t.kind = 4
              · have k4 : (t.kind == 4) = true := by simpa using h4
                have e1 : F = 24 := HF4.out h4
                have e2 : (fr : Int) = (k : Int) + 1 := by rw [← Hfr0.out]; unfold fromP; rw [if_pos h4]; omega
                have E1 := Lib.hid e1
                have E2 := Lib.hid e2
                clear e1 e2 h4 cF
                go_wp2_with fail
                go_meet
                exact ⟨by rw [E2.out], by rw [E1.out], rfl⟩
              · have k4 : (t.kind == 4) = false := by simpa using h4
                have e1 : F = 23 := HF0.out h4
                have e2 : (fr : Int) = (k : Int) := by rw [← Hfr0.out]; unfold fromP; rw [if_neg h4]
                have E1 := Lib.hid e1
                have E2 := Lib.hid e2
                clear e1 e2 h4 cF
                go_wp2_with fail
                go_meet
                exact ⟨by rw [E2.out], by rw [E1.out], rfl⟩
            case rest =>
              obtain ⟨rfl, rfl, rfl⟩ := hcut
              go_wp2_with fail
              refine cF.mono ?_
              rintro e1 w5 ⟨rfl, hb5⟩
              have hJ5 := hJA.below hb5
              have P5 := PA.below hb5
              clear cF hJA
              go_wp2_with fail
              refine (nest_skip l (· < w5.heap.size) _ n n e w5 P5.en (by omega) (by omega)).mono ?_
              rintro e2 w6 ⟨rfl, rfl⟩
              have a0' := (hb5.cell (p := ⟨wr.heap.size, 0, none⟩) hltA).trans a0
              have a1' := (hb5.cell (p := ⟨wr.heap.size, 1, none⟩) hltA).trans a1
              have b5 := hb5.size
              obtain ⟨g, hg⟩ : ∃ g, ruleG l t e = g := ⟨_, rfl⟩
              have Hg := Lib.hid hg
              have hgB : g = (decide (e < n) && ((l[e]?.map braceB).getD false) && !(decide (t.kind = 4) && !decide (lowerP t.text = pageS))) := by rw [← hg, ← Hn.out]; rfl
              have HgB := Lib.hid hgB
              clear hg hgB
              go_upto_region 19 with (fail)
              go_cut [85] (fun x wx => x = .bool (!g) ∧ Below w6.heap.size w6 wx)
              case first =>
                have hun : (undef : Value) = .tuple #[] := rfl
                have cL := fun W => rn_lower (bytesOf t.text) W (by rw [bytesOf_size]; exact hst.1)
                rw [show (bytesOf t.text).data.toList = t.text by simp [bytesOf]] at cL
                by_cases hen : e = n
                · have dn : ((e : Int) == (n : Int)) = true := by simp [hen]
                  have e0 : g = false := by rw [HgB.out, decide_eq_false (by omega)]; rfl
                  have HE := Lib.hid e0
                  clear e0 hen cL
                  go_wp2_with fail
                  go_meet
                  exact ⟨by rw [HE.out]; rfl, Below.refl _ _⟩
                · have dn : ((e : Int) == (n : Int)) = false := by simp; omega
                  have dn2 : (e : Int) < (n : Int) := by omega
                  obtain ⟨b', off', u, hA, _, hu, y0, y1, y2⟩ := P5.tk.tok (k := e) (by omega)
                  injection hA with hA
                  injection hA with q1 q2
                  subst q1 q2
                  have cB := fun W => ru_brace u W
                  obtain ⟨q, hq⟩ : ∃ q, braceB u = q := ⟨_, rfl⟩
                  simp only [hq] at cB
                  have hg1 : g = (q && !(decide (t.kind = 4) && !decide (lowerP t.text = pageS))) := by
                    rw [HgB.out, hu, decide_eq_true (show e < n by omega)]; simp [hq]
                  have HG1 := Lib.hid hg1
                  clear hg1 hu hq hen
                  go_wp2_with fail
                  refine (cB _).mono ?_
                  rintro e2 w7 ⟨rfl, hb7⟩
                  have a0'' := (hb7.cell (p := ⟨wr.heap.size, 0, none⟩) (Nat.lt_of_lt_of_le hltA b5)).trans a0'
                  have a1'' := (hb7.cell (p := ⟨wr.heap.size, 1, none⟩) (Nat.lt_of_lt_of_le hltA b5)).trans a1'
                  clear cB
                  cases q with
                  | false =>
                    have e0 : g = false := by rw [HG1.out]; rfl
                    have HE := Lib.hid e0
                    clear e0
                    go_wp2_with fail
                    go_meet
                    exact ⟨by rw [HE.out]; rfl, hb7⟩
                  | true =>
                    cases k4 : (t.kind == 4) with
                    | false =>
                      have h4 : ¬ t.kind = 4 := by simpa using k4
                      have e0 : g = true := by rw [HG1.out, decide_eq_false h4]; rfl
                      have HE := Lib.hid e0
                      clear e0 h4
                      go_wp2_with fail
                      go_meet
                      exact ⟨by rw [HE.out]; rfl, hb7⟩
                    | true =>
                      have h4 : t.kind = 4 := by simpa using k4
                      by_cases hpg : lowerP t.text = pageS
                      · have e0 : g = true := by rw [HG1.out, decide_eq_true hpg]; simp
                        have HE := Lib.hid e0
                        obtain ⟨s1, s2⟩ := txt_is (c := [112, 97, 103, 101]) hpg
                        clear e0 h4 hpg
                        go_wp2_with fail
                        refine (cL _).mono ?_
                        rintro e3 w8 ⟨rfl, hb8⟩
                        go_wp2_with fail
                        go_meet
                        exact ⟨by rw [HE.out]; rfl, hb7.trans (hb8.mono hb7.size)⟩
                      · have e0 : g = false := by rw [HG1.out, decide_eq_true h4, decide_eq_false hpg]; rfl
                        have HE := Lib.hid e0
                        obtain ⟨s1, s2⟩ := txt_not (c := [112, 97, 103, 101]) hpg
                        have s3 : (!((bytesOf (lowerP t.text)).toList == [112, 97, 103, 101])) = true := by rw [s2]; rfl
                        clear e0 h4 hpg
                        go_wp2_with fail
                        refine (cL _).mono ?_
                        rintro e3 w8 ⟨rfl, hb8⟩
                        go_wp2_with fail
                        go_meet
                        exact ⟨by rw [HE.out]; rfl, hb7.trans (hb8.mono hb7.size)⟩
              case rest =>
                obtain ⟨rfl, hbc⟩ := hcut
                obtain ⟨u6, hu6⟩ : ∃ x, x = wc := ⟨_, rfl⟩
                subst hu6
                have hJc := hJ5.below hbc
                have Pc := P5.below hbc
                have bc := hbc.size
                cases g with
                | false =>
                  have hJf := hJc.to (k' := skipP l e) (by rw [Hitem.out, rule_no Hg.out]; rfl)
                  clear hJ5 hJc
                  go_wp2_with fail
                  go_roundw
                  case rel => exact ⟨skipP l e, A1, n1, c1, mr, hsk, rfl, rfl, hnn, hJf⟩
                  case measure => simp [intOf]; omega
                | true =>
                  obtain ⟨hen, hbr, hrl⟩ := rule_yes (k := k) Hg.out
                  obtain ⟨E, hE, hE1, hE2⟩ := brace_end hbr
                  have hln := Hn.out
                  have hen2 : e < n := by omega
                  have hEn : E ≤ n := by omega
                  have cC := ru_cut l w2.heap.size _ n c _ n fr e u6 Pc hfe2 (by omega)
                  rw [Hfr0.out] at hrl
                  obtain ⟨pv, hpv⟩ : ∃ pv, trimL (segP l fr e) = pv := ⟨_, rfl⟩
                  have hpl : pv.length ≤ n := by
                    have h2 : (trimL (segP l fr e)).length ≤ (segP l fr e).length := by
                      unfold trimL rtrim
                      rw [List.length_reverse]
                      exact Nat.le_trans (dropS_len _) (by rw [List.length_reverse]; exact dropS_len _)
                    rw [seg_length] at h2
                    rw [← hpv]; omega
                  have hps : ∀ x ∈ pv, smallT x := fun x hx => hsm x (seg_mem (trim_mem (by rw [hpv]; exact hx)))
                  rw [hpv] at cC hrl
                  rw [hE] at hrl
                  rw [show ((E : Int)).toNat = E by omega] at hrl
                  have Hrl := Lib.hid hrl
                  have HE := Lib.hid hE
                  have hlt6 : wr.heap.size < w6.heap.size := Nat.lt_of_lt_of_le hltA b5
                  have a0c := (hbc.cell (p := ⟨wr.heap.size, 0, none⟩) hlt6).trans a0'
                  clear hrl hE hbr hpv hln hJ5
                  go_wp2_with fail
                  refine cC.mono ?_
                  rintro e3 w7 ⟨⟨A6, c6, rfl, hc6, hR6⟩, hb7⟩
                  have b7 := hb7.size
                  have a0d := (hb7.cell (p := ⟨wr.heap.size, 0, none⟩) (Nat.lt_of_lt_of_le hlt6 bc)).trans a0c
                  obtain ⟨Wz, hWz⟩ : ∃ Wz, w7.alloc (.cells #[.int .i64 0, .slice none 0 0, .slice none 0 0, .slice none 0 0] 39) = Wz := ⟨_, rfl⟩
                  have bWz : Below w7.heap.size w7 Wz := by rw [← hWz]; exact (Below.refl _ _).alloc (Nat.le_refl _) _
                  have rWz : RowAt Wz w7.heap.size [.int .i64 0, .slice none 0 0, .slice none 0 0, .slice none 0 0] := by rw [← hWz]; exact RowAt.new _ _ _
                  obtain ⟨v0, g0⟩ := rWz.2 0 _ rfl
                  obtain ⟨v1, g1⟩ := rWz.2 1 _ rfl
                  obtain ⟨v2, g2⟩ := rWz.2 2 _ rfl
                  obtain ⟨v3, g3⟩ := rWz.2 3 _ rfl
                  obtain ⟨W7, hW7⟩ : ∃ W7, (((Wz.setCell ⟨w7.heap.size, 0, none⟩ (.int .i64 1)).setCell ⟨w7.heap.size, 1, none⟩ (.slice A6 pv.length c6)).setCell ⟨w7.heap.size, 2, none⟩ (.slice none 0 0)).setCell ⟨w7.heap.size, 3, none⟩ (.slice none 0 0) = W7 := ⟨_, rfl⟩
                  have bW7 : Below w7.heap.size w7 W7 := by
                    rw [← hW7]
                    exact (((bWz.setCell (p := ⟨w7.heap.size, 0, none⟩) (Nat.le_refl _) _).setCell (p := ⟨w7.heap.size, 1, none⟩) (Nat.le_refl _) _).setCell (p := ⟨w7.heap.size, 2, none⟩) (Nat.le_refl _) _).setCell (p := ⟨w7.heap.size, 3, none⟩) (Nat.le_refl _) _
                  have rW7 : RowAt W7 w7.heap.size [.int .i64 1, .slice A6 pv.length c6, .slice none 0 0, .slice none 0 0] := by
                    rw [← hW7]
                    exact (((rWz.store 0 (.int .i64 1)).store 1 (.slice A6 pv.length c6)).store 2 (.slice none 0 0)).store 3 (.slice none 0 0)
                  clear cC
                  obtain ⟨kd, hkd⟩ : ∃ kd : Int, (if t.kind = 4 then (2 : Int) else 1) = kd := ⟨_, rfl⟩
                  have Hkd := Lib.hid hkd
                  clear hkd
                  have hlt7 : wr.heap.size < w7.heap.size := Nat.lt_of_lt_of_le hlt6 (Nat.le_trans bc b7)
                  have a0e := (bW7.cell (p := ⟨wr.heap.size, 0, none⟩) hlt7).trans a0d
                  obtain ⟨z0, f0⟩ := rW7.2 0 _ rfl
                  go_upto_if 93 with (fail)
                  go_cut [14] (fun x wx => x = .pointer (some ⟨w7.heap.size, 0, none⟩) ∧ RowAt wx w7.heap.size [.int .i64 kd, .slice A6 pv.length c6, .slice none 0 0, .slice none 0 0] ∧ Below w7.heap.size w7 wx)
                  case first =>
                    by_cases h4 : t.kind = 4
                    · have k4 : (t.kind == 4) = true := by simpa using h4
                      have rX := rW7.store 0 (.int .i64 2)
                      have bX := bW7.setCell (p := ⟨w7.heap.size, 0, none⟩) (Nat.le_refl _) (.int .i64 2)
                      have e2 : kd = 2 := by rw [← Hkd.out, if_pos h4]
                      have E2 := Lib.hid e2
                      clear e2 h4
                      go_wp2_with fail
                      go_meet
                      exact ⟨rfl, by rw [E2.out]; exact rX, bX⟩
                    · have k4 : (t.kind == 4) = false := by simpa using h4
                      have e2 : kd = 1 := by rw [← Hkd.out, if_neg h4]
                      have E2 := Lib.hid e2
                      clear e2 h4
                      go_wp2_with fail
                      go_meet
                      exact ⟨rfl, by rw [E2.out]; exact rW7, bW7⟩
                  case rest =>
                    obtain ⟨rfl, rX, bX⟩ := hcut
                    obtain ⟨wX, huX⟩ : ∃ x, x = wc := ⟨_, rfl⟩
                    subst huX
                    have hB7 : Below u6.heap.size u6 wX := hb7.trans (bX.mono b7)
                    have PX := Pc.below hB7
                    obtain ⟨b3, off3, hA3, hl3, y3⟩ := PX.en.at_ (k := e) (by omega)
                    injection hA3 with hA3
                    injection hA3 with q1 q2
                    subst q1 q2
                    rw [HE.out] at y3
                    have hln := Hn.out
                    have hbXw : Below w3.heap.size w3 wX := hJc.bel.trans (hB7.mono hJc.bel.size)
                    have cR := ru_block (kd == 2) l w2.heap.size _ n c _ n (e + 1) E wX.drew (PX.below (Below.refl _ _).drew) (by omega) (by omega) (((hT.below hB3).below hbXw).below (Below.refl _ _).drew) (((hB.below hB3).below hbXw).below (Below.refl _ _).drew)
                    have we1 : IntKind.i64.wrap ((e : Int) + 1) = (e : Int) + 1 := by rw [IntKind.wrap_i64]; omega
                    have de : (e : Int) < (n : Int) := by omega
                    have de0 : (0 : Int) ≤ (e : Int) := by omega
                    push_cast at cR
                    obtain ⟨r0, rf0⟩ := rX.2 0 _ rfl
                    have hgX := rX.1
                    have rXd : RowAt wX.drew w7.heap.size [.int .i64 kd, .slice A6 pv.length c6, .slice none 0 0, .slice none 0 0] := rX
                    rw [Nat.zero_add] at y3
                    clear hln
                    go_upto_region 23 with (fail)
                    go_cut [14] (fun x wx => x = .pointer (some ⟨w7.heap.size, 0, none⟩) ∧ RegRet l (e + 1) E (kd == 2) w7.heap.size kd (.slice A6 pv.length c6) wX wx)
                    case first =>
                      rename_i hKK
                      refine Code.wp_mono ?_ (ru_fill _ _ _ _ _ _ _ _ _ _ _ _ _ _ _ _ _ _ _ _ _ _ _ _ _ _ _ _ _ _ _ _ _ _ _ _ _ _ _ _ _ _ _ _ _ _ _ _ _ _ _ _ _ _ _ _ _ _ _ _ _ _ _ _ _ _ _ _ _ _ _ _ _ _ _ _ _ _ _ _ _ _ _ _ _ _ _ _ _ _ _ _ _ _ _ _ _ _ _ _ _ _ _ _ _ _ _ _ _ _ _ _ _ _ _ _ _ _ y3 de de0 we1 hgX rX cR)
                      intro e' a W hQ
                      cases e' <;> first | exact hQ.elim | skip
                      obtain ⟨⟨v95, v96, v97, v98, v99, v100, v101, v102, v103, v104, v105, v106, v107, v108, v109, v110, rfl⟩, hRR⟩ := hQ
                      refine hKK _ _ ?_
                      go_meet
                      exact ⟨rfl, hRR⟩
                    case rest =>
                      obtain ⟨rfl, hRR⟩ := hcut
                      obtain ⟨wF, huF⟩ : ∃ x, x = wc := ⟨_, rfl⟩
                      subst huF
                      obtain ⟨ds, ms, B1, d1, B2, d2, rF, hds, hms, hD, hM, hbF⟩ := hRR
                      have l0 := hJc.own.lt
                      have s3 := hJc.bel.size
                      have sX := bX.size
                      have sF := hbF.size
                      have hBF : Below u6.heap.size u6 wF := hB7.trans (hbF.mono b7)
                      have hJF := hJc.below hBF
                      have hbFw : Below w3.heap.size w3 wF := hJF.bel
                      have hRX := hR6.keep (Kept.of_below bX (fun b hb => hb.2))
                      have hRF := hRX.keep (Kept.of_below hbF (fun b hb => hb.2))
                      have hRS : ReadsS wF (· < wF.heap.size) 3 A6 pv.length (cellsG pv) := hRF.more (fun b hb => by have := hb.2; omega)
                      have cSo := ru_sound pv A6 pv.length c6 wF hRS (by omega) hps ((hT.below hB3).below hbFw)
                      obtain ⟨y1, yf1⟩ := rF.2 1 _ rfl
                      have hgF := rF.1
                      have Hds := Lib.hid hds
                      have Hms := Lib.hid hms
                      clear hds hms hJc cR hRX
                      go_wp2_with fail
                      refine cSo.mono ?_
                      rintro e9 w9 ⟨rfl, hb9⟩
                      have hJ9 := hJF.below hb9
                      have s9 := hb9.size
                      have r9 := rF.below hb9 hgF
                      have hR9 := hRF.keep (Kept.of_below hb9 (fun b hb => by have := hb.2; omega))
                      have hD9 := hD.keep (Kept.of_below hb9 (fun b hb => hb.2))
                      have hM9 := hM.keep (Kept.of_below hb9 (fun b hb => hb.2))
                      obtain ⟨z0', _⟩ := r9.2 0 _ rfl
                      obtain ⟨z1', _⟩ := r9.2 1 _ rfl
                      obtain ⟨z2', _⟩ := r9.2 2 _ rfl
                      obtain ⟨z3', _⟩ := r9.2 3 _ rfl
                      clear hJF cSo rF hRF hD hM
                      cases hso : soundP pv with
                      | false =>
                        have hJf := hJ9.to (k' := skipP l e) (by rw [Hitem.out, Hrl.out, hso]; rfl)
                        clear hJ9
                        go_wp2_with fail
                        go_roundw
                        case rel => exact ⟨skipP l e, A1, n1, c1, mr, hsk, rfl, rfl, hnn, hJf⟩
                        case measure => simp [intOf]; omega
                      | true =>
                        have hru : rulesP l k = (⟨kd, pv, ds, ms⟩ : Rule) :: rulesP l (skipP l e) := by
                          rw [Hitem.out, Hrl.out, hso, if_pos rfl]
                          have hk2 : ((kd == 2) = true) = (t.kind = 4) := by
                            rw [← Hkd.out]
                            by_cases h4 : t.kind = 4 <;> simp [h4]
                          rw [Hkd.out, Hds.out, Hms.out]
                          by_cases h4 : t.kind = 4
                          · rw [if_pos h4, if_pos (by rw [hk2]; exact h4)]; rfl
                          · rw [if_neg h4, if_neg (by rw [hk2]; exact h4)]; rfl
                        have hnl : mr.length ≤ 1000000 := by
                          have h1 := congrArg List.length hJ9.e1
                          rw [List.length_append, List.length_map] at h1
                          have h2 := rules_len l
                          have := Hn.out
                          omega
                        have hwB : w3.heap.size ≤ w9.heap.size := hJ9.bel.size
                        have hm : MRule.Reads w9 (RS w3 w9 (.slice A1 n1 c1)) ⟨⟨kd, pv, ds, ms⟩, A6, c6, B1, d1, B2, d2⟩ :=
                          ⟨hR9.more (fun b hb => ⟨by have := hb.1; omega, by have := hb.2; omega, fun e => by have := (l0 b e).2; have := hb.1; omega⟩),
                            hD9.more (fun b hb => ⟨by have := hb.1; omega, by have := hb.2; omega, fun e => by have := (l0 b e).2; have := hb.1; omega⟩),
                            hM9.more (fun b hb => ⟨by have := hb.1; omega, by have := hb.2; omega, fun e => by have := (l0 b e).2; have := hb.1; omega⟩)⟩
                        obtain ⟨ri0, ri, rz0, rz1, rz2⟩ := info_take ru_rule_info
                        have ho9 := hJ9.own
                        have HJ9 := Lib.hid hJ9
                        have Hru := Lib.hid hru
                        clear hru hR9 hD9 hM9 hJ9 r9 hso
                        go_wp2_with (at_builtin; refine wpList_append_own_at _ rfl _ _ 24 rfl w3.heap.size 39 ri0 _ 4 80 Tryz.underlying24 ri rz0 rz1 rz2 rfl (by decide) _ mr.length (cellsR mr) rfl (ho9.alloc _) ⟨w9.heap.size, 0, none⟩ 1 1 [.int .i64 kd, .slice A6 pv.length c6, .slice B1 ds.length d1, .slice B2 ms.length d2] rfl rfl (cells_new4 _ _ _ _ _ _) ?h2 ?h3 ?h4 ?h5 ?_)
                        case h2 => intro u hu; simp at hu; rcases hu with rfl | rfl | rfl | rfl <;> rfl
                        case h3 => unfold maxLen; omega
                        case h4 => omega
                        case h5 => simp; omega
                        intro v' w10 hown10 hg10 _ hat
                        have hJ10 := HJ9.out.push (m := ⟨⟨kd, pv, ds, ms⟩, A6, c6, B1, d1, B2, d2⟩) (k' := skipP l e) hm hwB hown10 hg10 hat Hru.out
                        obtain ⟨A4, c4, rfl, _, _⟩ := own_form hown10
                        clear hown10 hg10 hat hm ho9 HJ9
                        go_wp2_with fail
                        go_roundw
                        case rel => exact ⟨skipP l e, A4, mr.length + 1, c4, _, hsk, rfl, rfl, by show _ = _; simp, hJ10⟩
                        case measure => simp [intOf]; omega
        · have dk : ¬ (k : Int) < (n : Int) := by omega
          obtain ⟨hl1, hl2⟩ := hJ.done hnn.out (by rw [Hn.out]; omega)
          have hbF := hB3.trans (hb.mono hB3.size)
          by_cases hgt : 1024 < n1
          · have hf : parseT l = (2, []) := by unfold parseT; rw [Hd.out, if_neg (by decide), if_pos (by omega)]
            have HF := Lib.hid hf
            have dg : (1024 : Int) < (n1 : Int) := by omega
            clear hf hl1 hl2 hJ
            go_wp2_with fail
            go_ret2
            refine Hret.out _ _ hbF ?_
            rw [HF.out, if_neg (by decide)]
            rfl
          · have hf : parseT l = (0, rulesP l 0) := by unfold parseT; rw [Hd.out, if_neg (by decide), if_neg (by omega)]
            have HF := Lib.hid hf
            have dg : ¬ (1024 : Int) < (n1 : Int) := by omega
            have hfin : Hid (RulesS wr (Fresh w wr) A1 (rulesP l 0).length (rulesP l 0)) := hl2.more (fun b hb => ⟨by have := hb.1; have := hB3.size; omega, hb.2⟩)
            have Hl1 := Lib.hid hl1
            clear hf hl1 hl2 hJ
            go_wp2_with fail
            go_ret2
            refine Hret.out _ _ hbF ?_
            rw [HF.out, if_pos rfl]
            exact ⟨A1, c1, by rw [Hl1.out]; rfl, hfin.out⟩
end Go.Proofs.YtfhdihdafmahgaaGreatDoor
/- Layer 6: what the laws ask of one sheet: Boxes and awake are walked. -/
set_option linter.unusedVariables false
set_option linter.unusedSimpArgs false
namespace Go.Proofs.YtfhdihdafmahgaaGreatDoor
open Go.RowKit Rn Tp Ru
namespace Ru
/-- the sheet -/
def awS : List UInt8 := [97, 123, 98, 58, 99, 33, 105, 109, 112, 111, 114, 116, 97, 110, 116, 59, 100, 125, 64, 120, 32, 121, 59, 64, 112, 97, 103, 101, 32, 58, 108, 101, 102, 116, 123, 109, 97, 114, 103, 105, 110, 58, 49, 101, 109, 59, 64, 116, 111, 112, 45, 108, 101, 102, 116, 123, 99, 111, 110, 116, 101, 110, 116, 58, 39, 120, 39, 125, 125]
def awT : List Tk.Tok := [⟨2, [97], 0⟩, ⟨12, [123], 0⟩, ⟨2, [98], 0⟩, ⟨14, [], 0⟩, ⟨2, [99], 0⟩, ⟨11, [33], 0⟩, ⟨2, importantS, 0⟩, ⟨15, [], 0⟩, ⟨2, [100], 0⟩, ⟨13, [125], 0⟩, ⟨4, [120], 0⟩, ⟨1, [], 0⟩, ⟨2, [121], 0⟩, ⟨15, [], 0⟩,
  ⟨4, pageS, 0⟩, ⟨1, [], 0⟩, ⟨14, [], 0⟩, ⟨2, [108, 101, 102, 116], 0⟩, ⟨12, [123], 0⟩, ⟨2, [109, 97, 114, 103, 105, 110], 0⟩, ⟨14, [], 0⟩, ⟨10, [101, 109], 1000⟩, ⟨15, [], 0⟩, ⟨4, [116, 111, 112, 45, 108, 101, 102, 116], 0⟩, ⟨12, [123], 0⟩,
  ⟨2, [99, 111, 110, 116, 101, 110, 116], 0⟩, ⟨14, [], 0⟩, ⟨6, [120], 0⟩, ⟨13, [125], 0⟩, ⟨13, [125], 0⟩]
def awR : List Rule := [⟨1, [⟨2, [97], 0⟩], [⟨[98], [⟨2, [99], 0⟩], true⟩], []⟩, ⟨2, [⟨14, [], 0⟩, ⟨2, [108, 101, 102, 116], 0⟩], [⟨[109, 97, 114, 103, 105, 110], [⟨10, [101, 109], 1000⟩], false⟩], [⟨[116, 111, 112, 45, 108, 101, 102, 116], [⟨[99, 111, 110, 116, 101, 110, 116], [⟨6, [120], 0⟩], false⟩]⟩]⟩]
end Ru
theorem aw_scan : Tk.scanT (readP awS) = awT := by rw [scan_run]; decide +kernel
theorem aw_parse : parseT (awT.map Tk.Tok.g) = (0, awR) := by decide +kernel
theorem aw_box : boxP [76, 101, 102, 116, 45, 84, 111, 112] = 15 := by decide +kernel
theorem ru_string_info : (Tryz.prog.info? 9).map (fun i => (i.zero, i.size, i.bytes)) = some (some (.string ⟨#[]⟩), 1, 16) := by kernel_rfl
abbrev strV (s : List UInt8) : Value := .string (bytesOf s)
def BoxesRet (w : World) (e : Ending) (w' : World) : Prop := (∃ A c, e = .returned (.slice A 16 c) ∧ ReadsS w' (Fresh w w') 1 A 16 (boxes.map strV)) ∧ Below w.heap.size w w'
set_option maxRecDepth 100000 in
set_option maxHeartbeats 4000000 in
theorem ru_boxes (w : World) (hB : Boxed w) :
    Calls Tryz.prog 20 #[] w (BoxesRet w) := by
  obtain b0 := hB 0 _ rfl
  obtain b1 := hB 1 _ rfl
  obtain b2 := hB 2 _ rfl
  obtain b3 := hB 3 _ rfl
  obtain b4 := hB 4 _ rfl
  obtain b5 := hB 5 _ rfl
  obtain b6 := hB 6 _ rfl
  obtain b7 := hB 7 _ rfl
  obtain b8 := hB 8 _ rfl
  obtain b9 := hB 9 _ rfl
  obtain b10 := hB 10 _ rfl
  obtain b11 := hB 11 _ rfl
  obtain b12 := hB 12 _ rfl
  obtain b13 := hB 13 _ rfl
  obtain b14 := hB 14 _ rfl
  obtain b15 := hB 15 _ rfl
  obtain ⟨si0, si, sz0, sz1, sz2⟩ := info_take ru_string_info
  go_enter Tryz.func20, Tryz.ntmps20
  go_wp2_with fail
  clear b0 b1 b2 b3 b4 b5 b6 b7 b8 b9 b10 b11 b12 b13 b14 b15
  go_loopw [1, 5] (fun v i wr => ∃ (k : Nat) (A1 : Option Addr) (n1 c1 : Nat), k ≤ 16 ∧ i = .int .i64 (k : Int) ∧ v = .slice A1 n1 c1 ∧ Hid (n1 = k) ∧ wr.ownsRow w.heap.size 9 1 (.slice A1 n1 c1) k ((boxes.map strV).take k) ∧ Below w.heap.size w wr) (fun _ i _ => 16 - (intOf i).toNat)
  case atStart => exact ⟨0, none, 0, 0, by omega, rfl, rfl, rfl, World.ownsRow_nil _ _ _ _, Below.refl _ _⟩
  case round =>
    obtain ⟨k, A1, n1, c1, hk, rfl, rfl, hnk, hown, hb⟩ := hrel
    by_cases hlt : k < 16
    · have dk : decide ((k : Int) < 16) = true := by simp; omega
      have dk2 : decide (k < 16) = true := by simp; omega
      obtain ⟨x, hx⟩ : ∃ x, boxes[k]? = some x := ⟨_, List.getElem?_eq_getElem (by rw [box_len]; exact hlt)⟩
      have hix := fun W => box_index W k x hx
      have htk : (boxes.map strV).take k ++ [strV x] = (boxes.map strV).take (k + 1) := by rw [List.take_add_one, List.getElem?_map, hx]; rfl
      have Htk := Lib.hid htk
      have hbs := hb.size
      have hlt2 := hown.lt
      clear hx htk
      go_wp2_with (at_builtin; refine wpList_append_own_at _ rfl _ _ 45 rfl w.heap.size 9 si0 _ 1 16 Tryz.underlying45 si sz0 sz1 sz2 rfl (by decide) _ k _ rfl (hown.alloc _) ⟨wr.heap.size, 0, none⟩ 1 1 [strV x] rfl rfl ?e1 ?e2 ?e3 ?e4 ?e5 ?_)
      case e1 => exact cell_one_new _ _ _
      case e2 => intro u hu; simp at hu; subst hu; rfl
      case e3 => unfold maxLen; omega
      case e4 => omega
      case e5 => simp; omega
      intro v' w3 hown3 hg3 _ hat
      rw [Htk.out] at hown3
      have hb3 := push_below hb hbs hown hg3
      obtain ⟨A4, c4, rfl, _, _⟩ := own_form hown3
      clear hown hg3 hat
      go_wp2_with fail
      go_roundw
      case rel => exact ⟨k + 1, A4, k + 1, c4, by omega, by go_num, rfl, rfl, hown3, hb3⟩
      case measure => simp [intOf]; omega
    · obtain rfl : k = 16 := by omega
      have dk : decide ((((16 : Nat) : Int)) < 16) = false := by simp
      have hfin : BoxesRet w (.returned (.slice A1 n1 c1)) wr := by
        have h1 := hnk.out
        subst h1
        exact ⟨⟨A1, c1, rfl, by
          have := ReadsS.of_own hown (S := Fresh w wr) (fun b hb => hown.lt b hb)
          rwa [List.take_of_length_le (by rw [List.length_map, box_len]; exact Nat.le_refl _)] at this⟩, hb⟩
      have HF := Lib.hid hfin
      clear hfin hown
      go_wp2_with fail
      go_ret
      exact HF.out
set_option maxRecDepth 100000 in
set_option maxHeartbeats 4000000 in
theorem ru_awake (w : World) (hT : Tabs w) (hE : Env w) (hB : Boxed w) :
    Calls Tryz.prog 8 #[] w fun e w' => e = .returned (.bool true) ∧ Below w.heap.size w w' := by
  have kc := fun (w : World) (C : Array Value) (n c : Nat) => Lib.run_convert_bytes_const (P := Tryz.prog) w 22 5 C n c Tryz.underlying22 Tryz.underlying5
  go_enter Tryz.func8, Tryz.ntmps8
  go_wp2_with fail
  have hrow := RowAt.mark w 5 (#[.int .u8 97, .int .u8 123, .int .u8 98, .int .u8 58, .int .u8 99, .int .u8 33, .int .u8 105, .int .u8 109, .int .u8 112, .int .u8 111, .int .u8 114, .int .u8 116, .int .u8 97, .int .u8 110, .int .u8 116, .int .u8 59, .int .u8 100, .int .u8 125, .int .u8 64, .int .u8 120, .int .u8 32, .int .u8 121, .int .u8 59, .int .u8 64, .int .u8 112, .int .u8 97, .int .u8 103, .int .u8 101, .int .u8 32, .int .u8 58, .int .u8 108, .int .u8 101, .int .u8 102, .int .u8 116, .int .u8 123, .int .u8 109, .int .u8 97, .int .u8 114, .int .u8 103, .int .u8 105, .int .u8 110, .int .u8 58, .int .u8 49, .int .u8 101, .int .u8 109, .int .u8 59, .int .u8 64, .int .u8 116, .int .u8 111, .int .u8 112, .int .u8 45, .int .u8 108, .int .u8 101, .int .u8 102, .int .u8 116, .int .u8 123, .int .u8 99, .int .u8 111, .int .u8 110, .int .u8 116, .int .u8 101, .int .u8 110, .int .u8 116, .int .u8 58, .int .u8 39, .int .u8 120, .int .u8 39, .int .u8 125, .int .u8 125]) 69 (by decide)
  have hsz : (w.alloc (.cells #[.int .u8 97, .int .u8 123, .int .u8 98, .int .u8 58, .int .u8 99, .int .u8 33, .int .u8 105, .int .u8 109, .int .u8 112, .int .u8 111, .int .u8 114, .int .u8 116, .int .u8 97, .int .u8 110, .int .u8 116, .int .u8 59, .int .u8 100, .int .u8 125, .int .u8 64, .int .u8 120, .int .u8 32, .int .u8 121, .int .u8 59, .int .u8 64, .int .u8 112, .int .u8 97, .int .u8 103, .int .u8 101, .int .u8 32, .int .u8 58, .int .u8 108, .int .u8 101, .int .u8 102, .int .u8 116, .int .u8 123, .int .u8 109, .int .u8 97, .int .u8 114, .int .u8 103, .int .u8 105, .int .u8 110, .int .u8 58, .int .u8 49, .int .u8 101, .int .u8 109, .int .u8 59, .int .u8 64, .int .u8 116, .int .u8 111, .int .u8 112, .int .u8 45, .int .u8 108, .int .u8 101, .int .u8 102, .int .u8 116, .int .u8 123, .int .u8 99, .int .u8 111, .int .u8 110, .int .u8 116, .int .u8 101, .int .u8 110, .int .u8 116, .int .u8 58, .int .u8 39, .int .u8 120, .int .u8 39, .int .u8 125, .int .u8 125] 5 (69, 70))).heap.size = w.heap.size + 1 := by simp
  have hb0 : Below w.heap.size w (w.alloc (.cells #[.int .u8 97, .int .u8 123, .int .u8 98, .int .u8 58, .int .u8 99, .int .u8 33, .int .u8 105, .int .u8 109, .int .u8 112, .int .u8 111, .int .u8 114, .int .u8 116, .int .u8 97, .int .u8 110, .int .u8 116, .int .u8 59, .int .u8 100, .int .u8 125, .int .u8 64, .int .u8 120, .int .u8 32, .int .u8 121, .int .u8 59, .int .u8 64, .int .u8 112, .int .u8 97, .int .u8 103, .int .u8 101, .int .u8 32, .int .u8 58, .int .u8 108, .int .u8 101, .int .u8 102, .int .u8 116, .int .u8 123, .int .u8 109, .int .u8 97, .int .u8 114, .int .u8 103, .int .u8 105, .int .u8 110, .int .u8 58, .int .u8 49, .int .u8 101, .int .u8 109, .int .u8 59, .int .u8 64, .int .u8 116, .int .u8 111, .int .u8 112, .int .u8 45, .int .u8 108, .int .u8 101, .int .u8 102, .int .u8 116, .int .u8 123, .int .u8 99, .int .u8 111, .int .u8 110, .int .u8 116, .int .u8 101, .int .u8 110, .int .u8 116, .int .u8 58, .int .u8 39, .int .u8 120, .int .u8 39, .int .u8 125, .int .u8 125] 5 (69, 70))) := (Below.refl _ _).alloc (Nat.le_refl _) _
  have hrd := hrow.reads (B := w.heap.size + 1) (by omega)
  refine (ru_parse awS _ 69 69 _ (by rw [hsz]; exact hrd) (Nat.le_refl _) (by unfold maxLen; omega) (hT.below hb0) (hE.below hb0) (hB.below hb0)).mono ?_
  rintro e w1 ⟨hb1, hret⟩
  have hb2 : Below w.heap.size w w1 := hb0.trans (hb1.mono (by rw [hsz]; omega))
  rw [aw_scan, if_neg (by decide), aw_parse, if_pos rfl] at hret
  have hret' : ∃ A c, e = .returned (.tuple #[.slice A 2 c, .int .i64 0]) ∧ RulesS w1 (· < w1.heap.size) A 2 awR := by
    obtain ⟨A, c, h1, h2⟩ := hret
    exact ⟨A, c, h1, h2.more (fun b hb => hb.2)⟩
  obtain ⟨A, c, rfl, hR1⟩ := hret'
  obtain ⟨b1, off1, A11, c11, A12, c12, A13, c13, r1, hA, _, h1r, x0, x1, x2, x3, _, hD1, _⟩ := hR1.at_ (k := 0) (by omega)
  subst hA
  have e1 : r1 = ⟨1, [⟨2, [97], 0⟩], [⟨[98], [⟨2, [99], 0⟩], true⟩], []⟩ := by have h2 := h1r; injection h2 with h2; exact h2.symm
  subst e1
  obtain ⟨b2, off2, A21, c21, A22, c22, A23, c23, r2, hA, _, h2r, y0, y1, y2, y3, _, _, _⟩ := hR1.at_ (k := 1) (by omega)
  injection hA with hA
  injection hA with q1 q2
  subst q1 q2
  have e2 : r2 = ⟨2, [⟨14, [], 0⟩, ⟨2, [108, 101, 102, 116], 0⟩], [⟨[109, 97, 114, 103, 105, 110], [⟨10, [101, 109], 1000⟩], false⟩], [⟨[116, 111, 112, 45, 108, 101, 102, 116], [⟨[99, 111, 110, 116, 101, 110, 116], [⟨6, [120], 0⟩], false⟩]⟩]⟩ := by have h2 := h2r; injection h2 with h2; exact h2.symm
  subst e2
  simp only [List.length_cons, List.length_nil] at x0 x1 x2 x3 y0 y1 y2 y3 hD1
  obtain ⟨b3, off3, A31, c31, d1, hA, _, h3r, z0, z1, z2, _⟩ := hD1.at_ (k := 0) (by omega)
  subst hA
  have e3 : d1 = ⟨[98], [⟨2, [99], 0⟩], true⟩ := by have h2 := h3r; injection h2 with h2; exact h2.symm
  subst e3
  have cX := fun W hb => ru_box [76, 101, 102, 116, 45, 84, 111, 112] W (by decide) (hB.below (w' := W) hb)
  rw [aw_box] at cX
  have cBs := fun W hb => ru_boxes W (hB.below (w' := W) hb)
  simp only [Nat.zero_mul, Nat.one_mul, Nat.add_zero, Nat.zero_add, Nat.reduceAdd] at x0 x1 x2 x3 y0 y1 y2 y3 z0 z1 z2
  clear hret hR1 hrow hrd h1r h2r h3r hD1 hb1 hb0 hsz
  go_wp2_with fail
  refine (cX w1 hb2).mono ?_
  rintro e w2 ⟨rfl, hb3⟩
  have hb3' := hb2.trans (hb3.mono hb2.size)
  have cB2 := cBs w2 hb3'
  clear cX cBs
  go_wp2_with fail
  refine cB2.mono ?_
  rintro e w3 ⟨⟨A5, c5, rfl, _⟩, hb4⟩
  have hb4' := hb3'.trans (hb4.mono hb3'.size)
  go_wp2_with fail
  go_ret
  exact ⟨rfl, hb4'⟩
end Go.Proofs.YtfhdihdafmahgaaGreatDoor
/- Layer 6: the program's Same is walked: slices.Equal, slices.EqualFunc at declarations, margin rules and rules. -/
set_option linter.unusedVariables false
set_option linter.unusedSimpArgs false
namespace Go.Proofs.YtfhdihdafmahgaaGreatDoor
open Go.RowKit Rn Tp Ru
set_option maxRecDepth 100000 in
set_option maxHeartbeats 1000000 in
theorem sl_equal (xs ys : List GTok) (A A' : Option Addr) (n m c c' : Nat) (w : World) (hx : ReadsT w w.heap.size A n xs) (hy : ReadsT w w.heap.size A' m ys) (hn : n ≤ 1000000) :
    Calls Tryz.prog 41 #[.slice A n c, .slice A' m c'] w fun e w' => e = .returned (.bool (decide (xs = ys))) ∧ Below w.heap.size w w' := by
  have hlx := hx.len
  have hly := hy.len
  have Hlx := Lib.hid hlx
  have Hly := Lib.hid hly
  clear hlx hly
  by_cases hnm : n = m
  · have hb0 : ((n : Int) != (m : Int)) = false := by simp [hnm]
    have Hnm := Lib.hid hnm
    clear hnm
    go_enter Tryz.func41, Tryz.ntmps41
    go_wp2
    go_loopw [13] (fun i wr => ∃ k : Nat, k ≤ n ∧ i = .int .i64 k ∧ Hid (xs.take k = ys.take k) ∧ Below w.heap.size w wr) (fun i _ => n - (intOf i).toNat)
    case atStart => exact ⟨0, by omega, rfl, rfl, Below.refl _ _⟩
    case round =>
      obtain ⟨k, hk, rfl, heq, hb⟩ := hrel
      by_cases hlt : k < n
      · obtain ⟨b, off, x, hA, hbl, hxk, f0, f1, f2⟩ := hx.at_ hlt
        obtain ⟨b', off', y, hA', hbl', hyk, g0, g1, g2⟩ := hy.at_ (k := k) (by have := Hnm.out; omega)
        subst hA hA'
        have hkm : k < m := by have := Hnm.out; omega
        have hki : (k : Int) < (n : Int) := by omega
        have hki' : (k : Int) < (m : Int) := by omega
        have hk0 : (0 : Int) ≤ (k : Int) := by omega
        replace f0 := (hb.cell (p := ⟨b, off + k * 3, none⟩) hbl).trans f0
        replace f1 := (hb.cell (p := ⟨b, off + k * 3 + 1, none⟩) hbl).trans f1
        replace f2 := (hb.cell (p := ⟨b, off + k * 3 + 2, none⟩) hbl).trans f2
        replace g0 := (hb.cell (p := ⟨b', off' + k * 3, none⟩) hbl').trans g0
        replace g1 := (hb.cell (p := ⟨b', off' + k * 3 + 1, none⟩) hbl').trans g1
        replace g2 := (hb.cell (p := ⟨b', off' + k * 3 + 2, none⟩) hbl').trans g2
        have Hxk := Lib.hid hxk
        have Hyk := Lib.hid hyk
        clear hxk hyk
        have hgu := tok_guard
        by_cases hxy : x = y
        · have hq := fun W => toks_neq x y W
          rw [show decide (x ≠ y) = false by simp [hxy]] at hq
          have Hxy := Lib.hid hxy
          clear hxy
          go_wp2
          go_quiet (fail)
          go_wp2
          go_roundw
          case rel => exact ⟨k + 1, by omega, by go_num, by show _ = _; rw [take_snoc _ _ _ Hxk.out, take_snoc _ _ _ Hyk.out, heq.out, Hxy.out], below_drewN hb _⟩
          case measure => simp [intOf]; omega
        · have hq := fun W => toks_neq x y W
          rw [show decide (x ≠ y) = true by simp [hxy]] at hq
          have Hxy := Lib.hid hxy
          clear hxy
          go_wp2
          go_quiet (fail)
          go_wp2
          go_ret
          refine ⟨ret_bool ?_, below_drewN hb _⟩
          have : ¬ xs = ys := by
            intro e
            have h1 := Hxk.out
            rw [e, Hyk.out] at h1
            injection h1 with h1
            exact Hxy.out h1.symm
          simp [this]
      · obtain rfl : k = n := by omega
        go_wp2
        go_ret
        refine ⟨ret_bool ?_, hb⟩
        have h1 := heq.out
        rw [List.take_of_length_le (by rw [Hlx.out]; omega), List.take_of_length_le (by rw [Hly.out, Hnm.out]; omega)] at h1
        simp [h1]
  · have hb0 : ((n : Int) != (m : Int)) = true := by simp; omega
    have Hnm := Lib.hid hnm
    clear hnm
    go_enter Tryz.func41, Tryz.ntmps41
    go_wp2
    go_ret
    refine ⟨ret_bool ?_, Below.refl _ _⟩
    have : ¬ xs = ys := by
      intro e
      exact Hnm.out (by rw [← Hlx.out, ← Hly.out, e])
    simp [this]
abbrev declV (x : Decl) (A : Option Addr) (c : Nat) : Value := .agg #[.string (bytesOf x.name), .slice A x.value.length c, .bool x.imp]
abbrev marginV (x : Margin) (A : Option Addr) (c : Nat) : Value := .agg #[.string (bytesOf x.name), .slice A x.decls.length c]
abbrev ruleV (x : Rule) (A1 : Option Addr) (c1 : Nat) (A2 : Option Addr) (c2 : Nat) (A3 : Option Addr) (c3 : Nat) : Value := .agg #[.int .i64 x.kind, .slice A1 x.prelude.length c1, .slice A2 x.decls.length c2, .slice A3 x.margins.length c3]
theorem str_cmp (a b : List UInt8) : ((bytesOf a).toList == (bytesOf b).toList) = decide (a = b) := by rw [bytesOf_toList, bytesOf_toList, Bool.eq_iff_iff]; simp
set_option maxRecDepth 100000 in
set_option maxHeartbeats 4000000 in
theorem ru_same1 (x y : Decl) (A1 A2 : Option Addr) (c1 c2 : Nat) (w : World) (hx : ReadsS w (· < w.heap.size) 3 A1 x.value.length (cellsG x.value)) (hy : ReadsS w (· < w.heap.size) 3 A2 y.value.length (cellsG y.value)) (hn : x.value.length ≤ 1000000) :
    Calls Tryz.prog 40 #[declV x A1 c1, declV y A2 c2] w fun e w' => e = .returned (.bool (decide (x = y))) ∧ Below w.heap.size w w' := by
  obtain ⟨xn, xv, xi⟩ := x
  obtain ⟨yn, yv, yi⟩ := y
  simp only [] at hx hy hn
  have hdec : decide ((⟨xn, xv, xi⟩ : Decl) = ⟨yn, yv, yi⟩) = (decide (xn = yn) && (xi == yi) && decide (xv = yv)) := by
    rw [Bool.eq_iff_iff]; simp [Decl.mk.injEq]
    constructor
    · rintro ⟨a, b, c⟩; exact ⟨⟨a, c⟩, b⟩
    · rintro ⟨⟨a, c⟩, b⟩; exact ⟨a, b, c⟩
  rw [hdec]
  obtain ⟨W1, hW1⟩ : ∃ W1, w.alloc (.cells #[.string (bytesOf xn), .slice A1 xv.length c1, .bool xi] 34) = W1 := ⟨_, rfl⟩
  have b1 : Below w.heap.size w W1 := by rw [← hW1]; exact (Below.refl _ _).alloc (Nat.le_refl _) _
  have r1 : RowAt W1 w.heap.size [.string (bytesOf xn), .slice A1 xv.length c1, .bool xi] := by rw [← hW1]; exact RowAt.new _ _ _
  have z1 : W1.heap.size = w.heap.size + 1 := by rw [← hW1]; simp
  obtain ⟨W2, hW2⟩ : ∃ W2, W1.alloc (.cells #[.string (bytesOf yn), .slice A2 yv.length c2, .bool yi] 34) = W2 := ⟨_, rfl⟩
  have b2 : Below W1.heap.size W1 W2 := by rw [← hW2]; exact (Below.refl _ _).alloc (Nat.le_refl _) _
  have r2 : RowAt W2 W1.heap.size [.string (bytesOf yn), .slice A2 yv.length c2, .bool yi] := by rw [← hW2]; exact RowAt.new _ _ _
  have r1' := r1.below b2 r1.1
  have hB2 := b1.trans (b2.mono b1.size)
  have cE := sl_equal xv yv A1 A2 _ _ c1 c2 W2 (hx.below hB2) (hy.below hB2) hn
  obtain ⟨x0, _⟩ := r1'.2 0 _ rfl
  obtain ⟨x1, _⟩ := r1'.2 1 _ rfl
  obtain ⟨x2, _⟩ := r1'.2 2 _ rfl
  obtain ⟨y0, _⟩ := r2.2 0 _ rfl
  obtain ⟨y1, _⟩ := r2.2 1 _ rfl
  obtain ⟨y2, _⟩ := r2.2 2 _ rfl
  have hs := str_cmp xn yn
  obtain ⟨p, hp⟩ : ∃ p, decide (xn = yn) = p := ⟨_, rfl⟩
  obtain ⟨r, hr⟩ : ∃ r, decide (xv = yv) = r := ⟨_, rfl⟩
  obtain ⟨q, hq⟩ : ∃ q, (xi == yi) = q := ⟨_, rfl⟩
  rw [hp] at hs ⊢
  rw [hr] at cE ⊢
  rw [hq]
  clear hdec hp hr r1 r2 r1' z1
  go_enter Tryz.func40, Tryz.ntmps40
  cases p with
  | false =>
    go_wp2_with fail
    go_ret
    exact ⟨rfl, hB2⟩
  | true =>
    cases q with
    | false =>
      go_wp2_with fail
      go_ret
      exact ⟨rfl, hB2⟩
    | true =>
      go_wp2_with fail
      refine cE.mono ?_
      rintro e w3 ⟨rfl, hb3⟩
      go_wp2_with fail
      go_ret
      exact ⟨by first | rfl | simp, hB2.trans (hb3.mono hB2.size)⟩
end Go.Proofs.YtfhdihdafmahgaaGreatDoor
/- Layer 6: slices.EqualFunc, at declarations, is walked. -/
set_option linter.unusedVariables false
set_option linter.unusedSimpArgs false
namespace Go.Proofs.YtfhdihdafmahgaaGreatDoor
open Go.RowKit Rn Tp Ru
set_option maxRecDepth 100000 in
set_option maxHeartbeats 4000000 in
theorem eqf_decl (xs ys : List Decl) (A A' : Option Addr) (n m c c' : Nat) (w : World) (hx : DeclsS w (· < w.heap.size) A n xs) (hy : DeclsS w (· < w.heap.size) A' m ys) (hn : n ≤ 1000000) (hss : ∀ d ∈ xs, d.value.length ≤ 1000000) :
    Calls Tryz.prog 43 #[.slice A n c, .slice A' m c', .func (.func 40) #[] #[]] w fun e w' => e = .returned (.bool (decide (xs = ys))) ∧ Below w.heap.size w w' := by
  have hlx := hx.len
  have hly := hy.len
  have Hlx := Lib.hid hlx
  have Hly := Lib.hid hly
  have Hss := Lib.hid hss
  clear hlx hly hss
  by_cases hnm : n = m
  · have hb0 : ((n : Int) != (m : Int)) = false := by simp [hnm]
    have Hnm := Lib.hid hnm
    clear hnm
    go_enter Tryz.func43, Tryz.ntmps43
    go_wp2_with fail
    go_loopw [17] (fun i wr => ∃ k : Nat, k ≤ n ∧ i = .int .i64 (k : Int) ∧ Hid (xs.take k = ys.take k) ∧ Below w.heap.size w wr) (fun i _ => n - (intOf i).toNat)
    case atStart => exact ⟨0, by omega, rfl, rfl, Below.refl _ _⟩
    case round =>
      obtain ⟨k, hk, rfl, heq, hb⟩ := hrel
      by_cases hlt : k < n
      · have hbs := hb.size
        obtain ⟨b, off, A1, c1, x, hA, hbl, hxk, f0, f1, f2, hX⟩ := hx.at_ hlt
        obtain ⟨b', off', A2, c2, y, hA', hbl', hyk, g0, g1, g2, hY⟩ := hy.at_ (k := k) (by have := Hnm.out; omega)
        subst hA hA'
        have hkm : k < m := by have := Hnm.out; omega
        have hki : (k : Int) < (n : Int) := by omega
        have hki' : (k : Int) < (m : Int) := by omega
        have hk0 : (0 : Int) ≤ (k : Int) := by omega
        replace f0 := (hb.cell (p := ⟨b, off + k * 3, none⟩) hbl).trans f0
        replace f1 := (hb.cell (p := ⟨b, off + k * 3 + 1, none⟩) hbl).trans f1
        replace f2 := (hb.cell (p := ⟨b, off + k * 3 + 2, none⟩) hbl).trans f2
        replace g0 := (hb.cell (p := ⟨b', off' + k * 3, none⟩) hbl').trans g0
        replace g1 := (hb.cell (p := ⟨b', off' + k * 3 + 1, none⟩) hbl').trans g1
        replace g2 := (hb.cell (p := ⟨b', off' + k * 3 + 2, none⟩) hbl').trans g2
        have hxx := Hss.out x (List.mem_of_getElem? hxk)
        have Hxk := Lib.hid hxk
        have Hyk := Lib.hid hyk
        obtain ⟨W1, hW1⟩ : ∃ W1, wr.alloc (.cells #[.string (bytesOf x.name), .slice A1 x.value.length c1, .bool x.imp] 34) = W1 := ⟨_, rfl⟩
        have b1 : Below wr.heap.size wr W1 := by rw [← hW1]; exact (Below.refl _ _).alloc (Nat.le_refl _) _
        have r1 : RowAt W1 wr.heap.size [.string (bytesOf x.name), .slice A1 x.value.length c1, .bool x.imp] := by rw [← hW1]; exact RowAt.new _ _ _
        obtain ⟨W2, hW2⟩ : ∃ W2, W1.alloc (.cells #[.string (bytesOf y.name), .slice A2 y.value.length c2, .bool y.imp] 34) = W2 := ⟨_, rfl⟩
        have b2 : Below W1.heap.size W1 W2 := by rw [← hW2]; exact (Below.refl _ _).alloc (Nat.le_refl _) _
        have r2 : RowAt W2 W1.heap.size [.string (bytesOf y.name), .slice A2 y.value.length c2, .bool y.imp] := by rw [← hW2]; exact RowAt.new _ _ _
        have r1' := r1.below b2 r1.1
        have hB1 := hb.trans (b1.mono hbs)
        have hB2 := hB1.trans (b2.mono hB1.size)
        have cE := ru_same1 x y A1 A2 c1 c2 W2 (hX.below hB2) (hY.below hB2) hxx
        have R1 := Lib.hid r1'
        have R2 := Lib.hid r2
        replace R1 := R1.out
        replace R2 := R2.out
        have hcmp : decide (x = y) = false → decide (xs = ys) = false := fun h => by
          have h0 := of_decide_eq_false h
          refine decide_eq_false (fun e => h0 ?_)
          have h1 := Hxk.out
          rw [e, Hyk.out] at h1
          injection h1 with h1
          exact h1.symm
        obtain ⟨q, hq⟩ : ∃ q, decide (x = y) = q := ⟨_, rfl⟩
        rw [hq] at hcmp cE
        have Hq := Lib.hid hq
        have Hcmp : Hid (q = false → decide (xs = ys) = false) := hcmp
        clear hq hcmp hxk hyk r1 r2 r1' hX hY
        -- the cells of W1 (y is read there)
        replace g0 := (b1.cell (p := ⟨b', off' + k * 3, none⟩) (Nat.lt_of_lt_of_le hbl' hbs)).trans g0
        replace g1 := (b1.cell (p := ⟨b', off' + k * 3 + 1, none⟩) (Nat.lt_of_lt_of_le hbl' hbs)).trans g1
        replace g2 := (b1.cell (p := ⟨b', off' + k * 3 + 2, none⟩) (Nat.lt_of_lt_of_le hbl' hbs)).trans g2
        obtain ⟨p0, _⟩ := R1.2 0 _ rfl
        obtain ⟨q0, _⟩ := R2.2 0 _ rfl
        obtain ⟨p1, _⟩ := R1.2 1 _ rfl
        obtain ⟨q1, _⟩ := R2.2 1 _ rfl
        obtain ⟨p2, _⟩ := R1.2 2 _ rfl
        obtain ⟨q2, _⟩ := R2.2 2 _ rfl
        go_wp2_with fail
        refine cE.mono ?_
        rintro e w3 ⟨rfl, hb3⟩
        have hB3 := hB2.trans (hb3.mono hB2.size)
        cases q with
        | true =>
          have hxy := of_decide_eq_true Hq.out
          have hnew : Hid (xs.take (k + 1) = ys.take (k + 1)) := by show _ = _; rw [take_snoc _ _ _ Hxk.out, take_snoc _ _ _ Hyk.out, heq.out, hxy]
          clear hxy heq
          go_wp2_with fail
          go_roundw
          case rel => exact ⟨k + 1, by omega, by go_num, hnew, hB3⟩
          case measure => simp [intOf]; omega
        | false =>
          have hf := Hcmp.out rfl
          have HF := Lib.hid hf
          clear hf heq
          go_wp2_with fail
          go_ret
          exact ⟨ret_bool HF.out.symm, hB3⟩
      · obtain rfl : k = n := by omega
        have dk : ¬ (k : Int) < (k : Int) := by omega
        have hf : decide (xs = ys) = true := by
          have h1 := heq.out
          rw [List.take_of_length_le (by rw [Hlx.out]; omega), List.take_of_length_le (by rw [Hly.out, Hnm.out]; omega)] at h1
          exact decide_eq_true h1
        have HF := Lib.hid hf
        clear hf heq
        go_wp2_with fail
        go_ret
        exact ⟨ret_bool HF.out.symm, hb⟩
  · have hb0 : ((n : Int) != (m : Int)) = true := by simp; omega
    have hf : decide (xs = ys) = false := decide_eq_false (fun e => hnm (by rw [← Hlx.out, ← Hly.out, e]))
    have HF := Lib.hid hf
    clear hnm hf
    go_enter Tryz.func43, Tryz.ntmps43
    go_wp2_with fail
    go_ret
    exact ⟨ret_bool HF.out.symm, Below.refl _ _⟩
end Go.Proofs.YtfhdihdafmahgaaGreatDoor
/- Layer 6: Same's closures at margin rules and at rules are walked. -/
set_option linter.unusedVariables false
set_option linter.unusedSimpArgs false
namespace Go.Proofs.YtfhdihdafmahgaaGreatDoor
open Go.RowKit Rn Tp Ru
theorem DeclsS.below {w w' : World} {n : Nat} {A : Option Addr} {l : List Decl} (h : DeclsS w (· < w.heap.size) A n l) (hb : Below w.heap.size w w') : DeclsS w' (· < w'.heap.size) A n l := (h.keep (Kept.of_below hb (fun b h => h))).more (fun b h => Nat.lt_of_lt_of_le h hb.size)
theorem MarginsS.below {w w' : World} {n : Nat} {A : Option Addr} {l : List Margin} (h : MarginsS w (· < w.heap.size) A n l) (hb : Below w.heap.size w w') : MarginsS w' (· < w'.heap.size) A n l := (h.keep (Kept.of_below hb (fun b h => h))).more (fun b h => Nat.lt_of_lt_of_le h hb.size)
theorem RulesS.below {w w' : World} {n : Nat} {A : Option Addr} {l : List Rule} (h : RulesS w (· < w.heap.size) A n l) (hb : Below w.heap.size w w') : RulesS w' (· < w'.heap.size) A n l := (h.keep (Kept.of_below hb (fun b h => h))).more (fun b h => Nat.lt_of_lt_of_le h hb.size)
abbrev same1V : Value := .func (.func 40) #[] #[]
set_option maxRecDepth 100000 in
set_option maxHeartbeats 4000000 in
theorem ru_same2 (x y : Margin) (A1 A2 : Option Addr) (c1 c2 q : Nat) (w : World) (hx : DeclsS w (· < w.heap.size) A1 x.decls.length x.decls) (hy : DeclsS w (· < w.heap.size) A2 y.decls.length y.decls) (hn : x.decls.length ≤ 1000000) (hss : ∀ d ∈ x.decls, d.value.length ≤ 1000000)
    (hq : w.cell? ⟨q, 0, none⟩ = some same1V) :
    Calls Tryz.prog 42 #[marginV x A1 c1, marginV y A2 c2, .pointer (some ⟨q, 0, none⟩)] w fun e w' => e = .returned (.bool (decide (x = y))) ∧ Below w.heap.size w w' := by
  obtain ⟨xn, xv⟩ := x
  obtain ⟨yn, yv⟩ := y
  simp only [] at hx hy hn hss
  have hlq : q < w.heap.size := World.block_lt_of_cell? _ _ hq
  have hdec : decide ((⟨xn, xv⟩ : Margin) = ⟨yn, yv⟩) = (decide (xn = yn) && decide (xv = yv)) := by
    rw [Bool.eq_iff_iff]; simp [Margin.mk.injEq]
  rw [hdec]
  obtain ⟨W1, hW1⟩ : ∃ W1, w.alloc (.cells #[.string (bytesOf xn), .slice A1 xv.length c1] 41) = W1 := ⟨_, rfl⟩
  have b1 : Below w.heap.size w W1 := by rw [← hW1]; exact (Below.refl _ _).alloc (Nat.le_refl _) _
  have r1 : RowAt W1 w.heap.size [.string (bytesOf xn), .slice A1 xv.length c1] := by rw [← hW1]; exact RowAt.new _ _ _
  obtain ⟨W2, hW2⟩ : ∃ W2, W1.alloc (.cells #[.string (bytesOf yn), .slice A2 yv.length c2] 41) = W2 := ⟨_, rfl⟩
  have b2 : Below W1.heap.size W1 W2 := by rw [← hW2]; exact (Below.refl _ _).alloc (Nat.le_refl _) _
  have r2 : RowAt W2 W1.heap.size [.string (bytesOf yn), .slice A2 yv.length c2] := by rw [← hW2]; exact RowAt.new _ _ _
  have r1' := r1.below b2 r1.1
  have hB2 := b1.trans (b2.mono b1.size)
  have hq2 := (hB2.cell (p := ⟨q, 0, none⟩) hlq).trans hq
  have cE := eqf_decl xv yv A1 A2 _ _ c1 c2 W2 (hx.below hB2) (hy.below hB2) hn hss
  obtain ⟨x0, _⟩ := r1'.2 0 _ rfl
  obtain ⟨x1, _⟩ := r1'.2 1 _ rfl
  obtain ⟨y0, _⟩ := r2.2 0 _ rfl
  obtain ⟨y1, _⟩ := r2.2 1 _ rfl
  have hs := str_cmp xn yn
  obtain ⟨p, hp⟩ : ∃ p, decide (xn = yn) = p := ⟨_, rfl⟩
  obtain ⟨r, hr⟩ : ∃ r, decide (xv = yv) = r := ⟨_, rfl⟩
  rw [hp] at hs ⊢
  rw [hr] at cE ⊢
  clear hdec hp hr r1 r2 r1' hss
  go_enter Tryz.func42, Tryz.ntmps42
  cases p with
  | false =>
    go_wp2_with fail
    go_ret
    exact ⟨rfl, hB2⟩
  | true =>
    go_wp2_with fail
    refine cE.mono ?_
    rintro e w3 ⟨rfl, hb3⟩
    go_wp2_with fail
    go_ret
    exact ⟨by first | rfl | simp, hB2.trans (hb3.mono hB2.size)⟩
set_option maxRecDepth 100000 in
set_option maxHeartbeats 4000000 in
theorem eqf_margin (xs ys : List Margin) (A A' : Option Addr) (n m c c' : Nat) (w : World) (hx : MarginsS w (· < w.heap.size) A n xs) (hy : MarginsS w (· < w.heap.size) A' m ys) (hn : n ≤ 1000000) (hss : ∀ d ∈ xs, d.decls.length ≤ 1000000 ∧ ∀ e ∈ d.decls, e.value.length ≤ 1000000) (q0 : Nat) (hq0 : w.cell? ⟨q0, 0, none⟩ = some same1V) :
    Calls Tryz.prog 46 #[.slice A n c, .slice A' m c', .func (.func 42) #[] #[.pointer (some ⟨q0, 0, none⟩)]] w fun e w' => e = .returned (.bool (decide (xs = ys))) ∧ Below w.heap.size w w' := by
  have hlx := hx.len
  have hly := hy.len
  have Hlx := Lib.hid hlx
  have Hly := Lib.hid hly
  have Hss := Lib.hid hss
  clear hlx hly hss
  by_cases hnm : n = m
  · have hb0 : ((n : Int) != (m : Int)) = false := by simp [hnm]
    have Hnm := Lib.hid hnm
    clear hnm
    go_enter Tryz.func46, Tryz.ntmps46
    go_wp2_with fail
    go_loopw [17] (fun i wr => ∃ k : Nat, k ≤ n ∧ i = .int .i64 (k : Int) ∧ Hid (xs.take k = ys.take k) ∧ Below w.heap.size w wr) (fun i _ => n - (intOf i).toNat)
    case atStart => exact ⟨0, by omega, rfl, rfl, Below.refl _ _⟩
    case round =>
      obtain ⟨k, hk, rfl, heq, hb⟩ := hrel
      by_cases hlt : k < n
      · have hbs := hb.size
        obtain ⟨b, off, A1, c1, x, hA, hbl, hxk, f0, f1, hX⟩ := hx.at_ hlt
        obtain ⟨b', off', A2, c2, y, hA', hbl', hyk, g0, g1, hY⟩ := hy.at_ (k := k) (by have := Hnm.out; omega)
        subst hA hA'
        have hkm : k < m := by have := Hnm.out; omega
        have hki : (k : Int) < (n : Int) := by omega
        have hki' : (k : Int) < (m : Int) := by omega
        have hk0 : (0 : Int) ≤ (k : Int) := by omega
        replace f0 := (hb.cell (p := ⟨b, off + k * 2, none⟩) hbl).trans f0
        replace f1 := (hb.cell (p := ⟨b, off + k * 2 + 1, none⟩) hbl).trans f1
        replace g0 := (hb.cell (p := ⟨b', off' + k * 2, none⟩) hbl').trans g0
        replace g1 := (hb.cell (p := ⟨b', off' + k * 2 + 1, none⟩) hbl').trans g1
        have hxx := Hss.out x (List.mem_of_getElem? hxk)
        have Hxk := Lib.hid hxk
        have Hyk := Lib.hid hyk
        obtain ⟨W1, hW1⟩ : ∃ W1, wr.alloc (.cells #[.string (bytesOf x.name), .slice A1 x.decls.length c1] 41) = W1 := ⟨_, rfl⟩
        have b1 : Below wr.heap.size wr W1 := by rw [← hW1]; exact (Below.refl _ _).alloc (Nat.le_refl _) _
        have r1 : RowAt W1 wr.heap.size [.string (bytesOf x.name), .slice A1 x.decls.length c1] := by rw [← hW1]; exact RowAt.new _ _ _
        obtain ⟨W2, hW2⟩ : ∃ W2, W1.alloc (.cells #[.string (bytesOf y.name), .slice A2 y.decls.length c2] 41) = W2 := ⟨_, rfl⟩
        have b2 : Below W1.heap.size W1 W2 := by rw [← hW2]; exact (Below.refl _ _).alloc (Nat.le_refl _) _
        have r2 : RowAt W2 W1.heap.size [.string (bytesOf y.name), .slice A2 y.decls.length c2] := by rw [← hW2]; exact RowAt.new _ _ _
        have r1' := r1.below b2 r1.1
        have hB1 := hb.trans (b1.mono hbs)
        have hB2 := hB1.trans (b2.mono hB1.size)
        have hlq : q0 < w.heap.size := World.block_lt_of_cell? _ _ hq0
        have cE := ru_same2 x y A1 A2 c1 c2 q0 W2 (hX.below hB2) (hY.below hB2) hxx.1 hxx.2 ((hB2.cell (p := ⟨q0, 0, none⟩) hlq).trans hq0)
        have R1 := Lib.hid r1'
        have R2 := Lib.hid r2
        replace R1 := R1.out
        replace R2 := R2.out
        have hcmp : decide (x = y) = false → decide (xs = ys) = false := fun h => by
          have h0 := of_decide_eq_false h
          refine decide_eq_false (fun e => h0 ?_)
          have h1 := Hxk.out
          rw [e, Hyk.out] at h1
          injection h1 with h1
          exact h1.symm
        obtain ⟨q, hq⟩ : ∃ q, decide (x = y) = q := ⟨_, rfl⟩
        rw [hq] at hcmp cE
        have Hq := Lib.hid hq
        have Hcmp : Hid (q = false → decide (xs = ys) = false) := hcmp
        clear hq hcmp hxk hyk r1 r2 r1' hX hY
        -- the cells of W1 (y is read there)
        replace g0 := (b1.cell (p := ⟨b', off' + k * 2, none⟩) (Nat.lt_of_lt_of_le hbl' hbs)).trans g0
        replace g1 := (b1.cell (p := ⟨b', off' + k * 2 + 1, none⟩) (Nat.lt_of_lt_of_le hbl' hbs)).trans g1
        obtain ⟨p0, _⟩ := R1.2 0 _ rfl
        obtain ⟨q0, _⟩ := R2.2 0 _ rfl
        obtain ⟨p1, _⟩ := R1.2 1 _ rfl
        obtain ⟨q1, _⟩ := R2.2 1 _ rfl
        go_wp2_with fail
        refine cE.mono ?_
        rintro e w3 ⟨rfl, hb3⟩
        have hB3 := hB2.trans (hb3.mono hB2.size)
        cases q with
        | true =>
          have hxy := of_decide_eq_true Hq.out
          have hnew : Hid (xs.take (k + 1) = ys.take (k + 1)) := by show _ = _; rw [take_snoc _ _ _ Hxk.out, take_snoc _ _ _ Hyk.out, heq.out, hxy]
          clear hxy heq
          go_wp2_with fail
          go_roundw
          case rel => exact ⟨k + 1, by omega, by go_num, hnew, hB3⟩
          case measure => simp [intOf]; omega
        | false =>
          have hf := Hcmp.out rfl
          have HF := Lib.hid hf
          clear hf heq
          go_wp2_with fail
          go_ret
          exact ⟨ret_bool HF.out.symm, hB3⟩
      · obtain rfl : k = n := by omega
        have dk : ¬ (k : Int) < (k : Int) := by omega
        have hf : decide (xs = ys) = true := by
          have h1 := heq.out
          rw [List.take_of_length_le (by rw [Hlx.out]; omega), List.take_of_length_le (by rw [Hly.out, Hnm.out]; omega)] at h1
          exact decide_eq_true h1
        have HF := Lib.hid hf
        clear hf heq
        go_wp2_with fail
        go_ret
        exact ⟨ret_bool HF.out.symm, hb⟩
  · have hb0 : ((n : Int) != (m : Int)) = true := by simp; omega
    have hf : decide (xs = ys) = false := decide_eq_false (fun e => hnm (by rw [← Hlx.out, ← Hly.out, e]))
    have HF := Lib.hid hf
    clear hnm hf
    go_enter Tryz.func46, Tryz.ntmps46
    go_wp2_with fail
    go_ret
    exact ⟨ret_bool HF.out.symm, Below.refl _ _⟩
end Go.Proofs.YtfhdihdafmahgaaGreatDoor
/- Layer 6: the program's Same is walked. -/
set_option linter.unusedVariables false
set_option linter.unusedSimpArgs false
namespace Go.Proofs.YtfhdihdafmahgaaGreatDoor
open Go.RowKit Rn Tp Ru
abbrev same2V (q : Nat) : Value := .func (.func 42) #[] #[.pointer (some ⟨q, 0, none⟩)]
/-- a rule that can be gone through -/
def bigR (r : Rule) : Prop := r.prelude.length ≤ 1000000 ∧ r.decls.length ≤ 1000000 ∧ r.margins.length ≤ 1000000 ∧ (∀ d ∈ r.decls, d.value.length ≤ 1000000) ∧ ∀ m ∈ r.margins, m.decls.length ≤ 1000000 ∧ ∀ d ∈ m.decls, d.value.length ≤ 1000000
set_option maxRecDepth 100000 in
set_option maxHeartbeats 4000000 in
theorem ru_same3 (x y : Rule) (A1 A2 A3 D1 D2 D3 : Option Addr) (c1 c2 c3 e1 e2 e3 q8 q9 : Nat) (w : World) (h1 : ReadsS w (· < w.heap.size) 3 A1 x.prelude.length (cellsG x.prelude)) (h2 : DeclsS w (· < w.heap.size) A2 x.decls.length x.decls) (h3 : MarginsS w (· < w.heap.size) A3 x.margins.length x.margins)
    (k1 : ReadsS w (· < w.heap.size) 3 D1 y.prelude.length (cellsG y.prelude)) (k2 : DeclsS w (· < w.heap.size) D2 y.decls.length y.decls) (k3 : MarginsS w (· < w.heap.size) D3 y.margins.length y.margins) (hb : bigR x) (hq8 : w.cell? ⟨q8, 0, none⟩ = some same1V) (hq9 : w.cell? ⟨q9, 0, none⟩ = some (same2V q8)) :
    Calls Tryz.prog 45 #[ruleV x A1 c1 A2 c2 A3 c3, ruleV y D1 e1 D2 e2 D3 e3, .pointer (some ⟨q8, 0, none⟩), .pointer (some ⟨q9, 0, none⟩)] w fun e w' => e = .returned (.bool (decide (x = y))) ∧ Below w.heap.size w w' := by
  obtain ⟨xk, xp, xd, xm⟩ := x
  obtain ⟨yk, yp, yd, ym⟩ := y
  obtain ⟨g1, g2, g3, g4, g5⟩ := hb
  simp only [] at h1 h2 h3 k1 k2 k3 g1 g2 g3 g4 g5
  have hl8 : q8 < w.heap.size := World.block_lt_of_cell? _ _ hq8
  have hl9 : q9 < w.heap.size := World.block_lt_of_cell? _ _ hq9
  have hdec : decide ((⟨xk, xp, xd, xm⟩ : Rule) = ⟨yk, yp, yd, ym⟩) = ((xk == yk) && decide (xp = yp) && decide (xd = yd) && decide (xm = ym)) := by
    rw [Bool.eq_iff_iff]; simp [Rule.mk.injEq, and_assoc]
  rw [hdec]
  obtain ⟨W1, hW1⟩ : ∃ W1, w.alloc (.cells #[.int .i64 xk, .slice A1 xp.length c1, .slice A2 xd.length c2, .slice A3 xm.length c3] 39) = W1 := ⟨_, rfl⟩
  have b1 : Below w.heap.size w W1 := by rw [← hW1]; exact (Below.refl _ _).alloc (Nat.le_refl _) _
  have r1 : RowAt W1 w.heap.size [.int .i64 xk, .slice A1 xp.length c1, .slice A2 xd.length c2, .slice A3 xm.length c3] := by rw [← hW1]; exact RowAt.new _ _ _
  obtain ⟨W2, hW2⟩ : ∃ W2, W1.alloc (.cells #[.int .i64 yk, .slice D1 yp.length e1, .slice D2 yd.length e2, .slice D3 ym.length e3] 39) = W2 := ⟨_, rfl⟩
  have b2 : Below W1.heap.size W1 W2 := by rw [← hW2]; exact (Below.refl _ _).alloc (Nat.le_refl _) _
  have r2 : RowAt W2 W1.heap.size [.int .i64 yk, .slice D1 yp.length e1, .slice D2 yd.length e2, .slice D3 ym.length e3] := by rw [← hW2]; exact RowAt.new _ _ _
  have r1' := r1.below b2 r1.1
  have hB2 := b1.trans (b2.mono b1.size)
  have hqa := (hB2.cell (p := ⟨q8, 0, none⟩) hl8).trans hq8
  have hqb := (hB2.cell (p := ⟨q9, 0, none⟩) hl9).trans hq9
  have cP := sl_equal xp yp A1 D1 _ _ c1 e1 W2 (h1.below hB2) (k1.below hB2) g1
  have cD := fun (W : World) (hW : Below W2.heap.size W2 W) => eqf_decl xd yd A2 D2 _ _ c2 e2 W ((h2.below hB2).below hW) ((k2.below hB2).below hW) g2 g4
  have cM := fun (W : World) (hW : Below W2.heap.size W2 W) => eqf_margin xm ym A3 D3 _ _ c3 e3 W ((h3.below hB2).below hW) ((k3.below hB2).below hW) g3 g5 q8 ((hW.cell (p := ⟨q8, 0, none⟩) (Nat.lt_of_lt_of_le hl8 hB2.size)).trans hqa)
  obtain ⟨pp, hpp⟩ : ∃ p, decide (xp = yp) = p := ⟨_, rfl⟩
  obtain ⟨pd, hpd⟩ : ∃ p, decide (xd = yd) = p := ⟨_, rfl⟩
  obtain ⟨pm, hpm⟩ : ∃ p, decide (xm = ym) = p := ⟨_, rfl⟩
  obtain ⟨pk, hpk⟩ : ∃ p, (xk == yk) = p := ⟨_, rfl⟩
  rw [hpp] at cP ⊢
  simp only [hpd] at cD
  simp only [hpm] at cM
  rw [hpd, hpm, hpk]
  have hz1 : w.heap.size < W2.heap.size := r1'.1
  have hz2 : W1.heap.size < W2.heap.size := r2.1
  obtain ⟨x0, _⟩ := r1'.2 0 _ rfl
  obtain ⟨x1, _⟩ := r1'.2 1 _ rfl
  obtain ⟨x2, _⟩ := r1'.2 2 _ rfl
  obtain ⟨x3, _⟩ := r1'.2 3 _ rfl
  obtain ⟨y0, _⟩ := r2.2 0 _ rfl
  obtain ⟨y1, _⟩ := r2.2 1 _ rfl
  obtain ⟨y2, _⟩ := r2.2 2 _ rfl
  obtain ⟨y3, _⟩ := r2.2 3 _ rfl
  clear hdec hpp hpd hpm h1 h2 h3 k1 k2 k3 r1 g1 g2 g3 g4 g5
  go_enter Tryz.func45, Tryz.ntmps45
  cases pk with
  | false =>
    go_wp2_with fail
    go_ret
    exact ⟨rfl, hB2⟩
  | true =>
    go_wp2_with fail
    refine cP.mono ?_
    rintro e w3 ⟨rfl, hb3⟩
    have hB3 := hB2.trans (hb3.mono hB2.size)
    have r13 := r1'.below hb3 hz1
    have r23 := r2.below hb3 hz2
    cases pp with
    | false =>
      go_wp2_with fail
      go_ret
      exact ⟨by first | rfl | simp, hB3⟩
    | true =>
      obtain ⟨x2', _⟩ := r13.2 2 _ rfl
      obtain ⟨y2', _⟩ := r23.2 2 _ rfl
      have hqc := (hb3.cell (p := ⟨q8, 0, none⟩) (Nat.lt_of_lt_of_le hl8 hB2.size)).trans hqa
      have cD3 := cD w3 hb3
      clear cP cD
      go_wp2_with fail
      refine cD3.mono ?_
      rintro e w4 ⟨rfl, hb4⟩
      have hb24 := hb3.trans (hb4.mono hb3.size)
      have hB4 := hB3.trans (hb4.mono hB3.size)
      have r14 := r1'.below hb24 hz1
      have r24 := r2.below hb24 hz2
      cases pd with
      | false =>
        go_wp2_with fail
        go_ret
        exact ⟨by first | rfl | simp, hB4⟩
      | true =>
        obtain ⟨x3', _⟩ := r14.2 3 _ rfl
        obtain ⟨y3', _⟩ := r24.2 3 _ rfl
        have hqd := (hb24.cell (p := ⟨q9, 0, none⟩) (Nat.lt_of_lt_of_le hl9 hB2.size)).trans hqb
        have cM4 := cM w4 hb24
        clear cM cD3
        go_wp2_with fail
        refine cM4.mono ?_
        rintro e w5 ⟨rfl, hb5⟩
        go_wp2_with fail
        go_ret
        exact ⟨by first | rfl | simp, hB4.trans (hb5.mono hB4.size)⟩
set_option maxRecDepth 100000 in
set_option maxHeartbeats 4000000 in
theorem eqf_rule (xs ys : List Rule) (A A' : Option Addr) (n m c c' : Nat) (w : World) (hx : RulesS w (· < w.heap.size) A n xs) (hy : RulesS w (· < w.heap.size) A' m ys) (hn : n ≤ 1000000) (hss : ∀ r ∈ xs, bigR r) (q8 q9 : Nat) (hq8 : w.cell? ⟨q8, 0, none⟩ = some same1V) (hq9 : w.cell? ⟨q9, 0, none⟩ = some (same2V q8)) :
    Calls Tryz.prog 44 #[.slice A n c, .slice A' m c', .func (.func 45) #[] #[.pointer (some ⟨q8, 0, none⟩), .pointer (some ⟨q9, 0, none⟩)]] w fun e w' => e = .returned (.bool (decide (xs = ys))) ∧ Below w.heap.size w w' := by
  have hlx := hx.len
  have hly := hy.len
  have Hlx := Lib.hid hlx
  have Hly := Lib.hid hly
  have Hss := Lib.hid hss
  clear hlx hly hss
  by_cases hnm : n = m
  · have hb0 : ((n : Int) != (m : Int)) = false := by simp [hnm]
    have Hnm := Lib.hid hnm
    clear hnm
    go_enter Tryz.func44, Tryz.ntmps44
    go_wp2_with fail
    go_loopw [17] (fun i wr => ∃ k : Nat, k ≤ n ∧ i = .int .i64 (k : Int) ∧ Hid (xs.take k = ys.take k) ∧ Below w.heap.size w wr) (fun i _ => n - (intOf i).toNat)
    case atStart => exact ⟨0, by omega, rfl, rfl, Below.refl _ _⟩
    case round =>
      obtain ⟨k, hk, rfl, heq, hb⟩ := hrel
      by_cases hlt : k < n
      · have hbs := hb.size
        obtain ⟨b, off, A1, c1, A2, c2, A3, c3, x, hA, hbl, hxk, f0, f1, f2, f3, hX⟩ := hx.at_ hlt
        obtain ⟨b', off', D1, e1, D2, e2, D3, e3, y, hA', hbl', hyk, g0, g1, g2, g3, hY⟩ := hy.at_ (k := k) (by have := Hnm.out; omega)
        subst hA hA'
        have hkm : k < m := by have := Hnm.out; omega
        have hki : (k : Int) < (n : Int) := by omega
        have hki' : (k : Int) < (m : Int) := by omega
        have hk0 : (0 : Int) ≤ (k : Int) := by omega
        replace f0 := (hb.cell (p := ⟨b, off + k * 4, none⟩) hbl).trans f0
        replace f1 := (hb.cell (p := ⟨b, off + k * 4 + 1, none⟩) hbl).trans f1
        replace f2 := (hb.cell (p := ⟨b, off + k * 4 + 2, none⟩) hbl).trans f2
        replace f3 := (hb.cell (p := ⟨b, off + k * 4 + 3, none⟩) hbl).trans f3
        replace g0 := (hb.cell (p := ⟨b', off' + k * 4, none⟩) hbl').trans g0
        replace g1 := (hb.cell (p := ⟨b', off' + k * 4 + 1, none⟩) hbl').trans g1
        replace g2 := (hb.cell (p := ⟨b', off' + k * 4 + 2, none⟩) hbl').trans g2
        replace g3 := (hb.cell (p := ⟨b', off' + k * 4 + 3, none⟩) hbl').trans g3
        have hxx := Hss.out x (List.mem_of_getElem? hxk)
        have Hxk := Lib.hid hxk
        have Hyk := Lib.hid hyk
        obtain ⟨Za, hZa⟩ : ∃ Za, wr.alloc (.cells #[.int .i64 0, .slice none 0 0, .slice none 0 0, .slice none 0 0] 39) = Za := ⟨_, rfl⟩
        have bZa : Below wr.heap.size wr Za := by rw [← hZa]; exact (Below.refl _ _).alloc (Nat.le_refl _) _
        have rZa : RowAt Za wr.heap.size [.int .i64 0, .slice none 0 0, .slice none 0 0, .slice none 0 0] := by rw [← hZa]; exact RowAt.new _ _ _
        obtain ⟨mZa0, nZa0⟩ := rZa.2 0 _ rfl
        obtain ⟨mZa1, nZa1⟩ := rZa.2 1 _ rfl
        obtain ⟨mZa2, nZa2⟩ := rZa.2 2 _ rfl
        obtain ⟨mZa3, nZa3⟩ := rZa.2 3 _ rfl
        obtain ⟨W1, hW1⟩ : ∃ W1, ((((Za.setCell ⟨wr.heap.size, 0, none⟩ (.int .i64 x.kind)).setCell ⟨wr.heap.size, 1, none⟩ (.slice A1 x.prelude.length c1)).setCell ⟨wr.heap.size, 2, none⟩ (.slice A2 x.decls.length c2)).setCell ⟨wr.heap.size, 3, none⟩ (.slice A3 x.margins.length c3)) = W1 := ⟨_, rfl⟩
        have b1 : Below wr.heap.size wr W1 := by rw [← hW1]; exact ((((bZa.setCell (p := ⟨wr.heap.size, 0, none⟩) (Nat.le_refl _) _).setCell (p := ⟨wr.heap.size, 1, none⟩) (Nat.le_refl _) _).setCell (p := ⟨wr.heap.size, 2, none⟩) (Nat.le_refl _) _).setCell (p := ⟨wr.heap.size, 3, none⟩) (Nat.le_refl _) _)
        have r1 : RowAt W1 wr.heap.size [.int .i64 x.kind, .slice A1 x.prelude.length c1, .slice A2 x.decls.length c2, .slice A3 x.margins.length c3] := by rw [← hW1]; exact ((((rZa.store 0 (.int .i64 x.kind)).store 1 (.slice A1 x.prelude.length c1)).store 2 (.slice A2 x.decls.length c2)).store 3 (.slice A3 x.margins.length c3))
        obtain ⟨Zb, hZb⟩ : ∃ Zb, W1.alloc (.cells #[.int .i64 0, .slice none 0 0, .slice none 0 0, .slice none 0 0] 39) = Zb := ⟨_, rfl⟩
        have bZb : Below W1.heap.size W1 Zb := by rw [← hZb]; exact (Below.refl _ _).alloc (Nat.le_refl _) _
        have rZb : RowAt Zb W1.heap.size [.int .i64 0, .slice none 0 0, .slice none 0 0, .slice none 0 0] := by rw [← hZb]; exact RowAt.new _ _ _
        obtain ⟨mZb0, nZb0⟩ := rZb.2 0 _ rfl
        obtain ⟨mZb1, nZb1⟩ := rZb.2 1 _ rfl
        obtain ⟨mZb2, nZb2⟩ := rZb.2 2 _ rfl
        obtain ⟨mZb3, nZb3⟩ := rZb.2 3 _ rfl
        obtain ⟨W2, hW2⟩ : ∃ W2, ((((Zb.setCell ⟨W1.heap.size, 0, none⟩ (.int .i64 y.kind)).setCell ⟨W1.heap.size, 1, none⟩ (.slice D1 y.prelude.length e1)).setCell ⟨W1.heap.size, 2, none⟩ (.slice D2 y.decls.length e2)).setCell ⟨W1.heap.size, 3, none⟩ (.slice D3 y.margins.length e3)) = W2 := ⟨_, rfl⟩
        have b2 : Below W1.heap.size W1 W2 := by rw [← hW2]; exact ((((bZb.setCell (p := ⟨W1.heap.size, 0, none⟩) (Nat.le_refl _) _).setCell (p := ⟨W1.heap.size, 1, none⟩) (Nat.le_refl _) _).setCell (p := ⟨W1.heap.size, 2, none⟩) (Nat.le_refl _) _).setCell (p := ⟨W1.heap.size, 3, none⟩) (Nat.le_refl _) _)
        have r2 : RowAt W2 W1.heap.size [.int .i64 y.kind, .slice D1 y.prelude.length e1, .slice D2 y.decls.length e2, .slice D3 y.margins.length e3] := by rw [← hW2]; exact ((((rZb.store 0 (.int .i64 y.kind)).store 1 (.slice D1 y.prelude.length e1)).store 2 (.slice D2 y.decls.length e2)).store 3 (.slice D3 y.margins.length e3))
        have r1' := r1.below b2 r1.1
        have hB1 := hb.trans (b1.mono hbs)
        have hB2 := hB1.trans (b2.mono hB1.size)
        have hl8 : q8 < w.heap.size := World.block_lt_of_cell? _ _ hq8
        have hl9 : q9 < w.heap.size := World.block_lt_of_cell? _ _ hq9
        have cE := ru_same3 x y A1 A2 A3 D1 D2 D3 c1 c2 c3 e1 e2 e3 q8 q9 W2 (hX.1.below hB2) (hX.2.1.below hB2) (hX.2.2.below hB2) (hY.1.below hB2) (hY.2.1.below hB2) (hY.2.2.below hB2) hxx ((hB2.cell (p := ⟨q8, 0, none⟩) hl8).trans hq8) ((hB2.cell (p := ⟨q9, 0, none⟩) hl9).trans hq9)
        have R1 := Lib.hid r1'
        have R2 := Lib.hid r2
        replace R1 := R1.out
        replace R2 := R2.out
        have hcmp : decide (x = y) = false → decide (xs = ys) = false := fun h => by
          have h0 := of_decide_eq_false h
          refine decide_eq_false (fun e => h0 ?_)
          have h1 := Hxk.out
          rw [e, Hyk.out] at h1
          injection h1 with h1
          exact h1.symm
        obtain ⟨q, hq⟩ : ∃ q, decide (x = y) = q := ⟨_, rfl⟩
        rw [hq] at hcmp cE
        have Hq := Lib.hid hq
        have Hcmp : Hid (q = false → decide (xs = ys) = false) := hcmp
        clear hq hcmp hxk hyk r1 r2 r1' hX hY
        -- the cells of W1 (y is read there)
        replace g0 := (b1.cell (p := ⟨b', off' + k * 4, none⟩) (Nat.lt_of_lt_of_le hbl' hbs)).trans g0
        replace g1 := (b1.cell (p := ⟨b', off' + k * 4 + 1, none⟩) (Nat.lt_of_lt_of_le hbl' hbs)).trans g1
        replace g2 := (b1.cell (p := ⟨b', off' + k * 4 + 2, none⟩) (Nat.lt_of_lt_of_le hbl' hbs)).trans g2
        replace g3 := (b1.cell (p := ⟨b', off' + k * 4 + 3, none⟩) (Nat.lt_of_lt_of_le hbl' hbs)).trans g3
        obtain ⟨p0, _⟩ := R1.2 0 _ rfl
        obtain ⟨q0, _⟩ := R2.2 0 _ rfl
        obtain ⟨p1, _⟩ := R1.2 1 _ rfl
        obtain ⟨q1, _⟩ := R2.2 1 _ rfl
        obtain ⟨p2, _⟩ := R1.2 2 _ rfl
        obtain ⟨q2, _⟩ := R2.2 2 _ rfl
        obtain ⟨p3, _⟩ := R1.2 3 _ rfl
        obtain ⟨q3, _⟩ := R2.2 3 _ rfl
        go_wp2_with fail
        refine cE.mono ?_
        rintro e w3 ⟨rfl, hb3⟩
        have hB3 := hB2.trans (hb3.mono hB2.size)
        cases q with
        | true =>
          have hxy := of_decide_eq_true Hq.out
          have hnew : Hid (xs.take (k + 1) = ys.take (k + 1)) := by show _ = _; rw [take_snoc _ _ _ Hxk.out, take_snoc _ _ _ Hyk.out, heq.out, hxy]
          clear hxy heq
          go_wp2_with fail
          go_roundw
          case rel => exact ⟨k + 1, by omega, by go_num, hnew, hB3⟩
          case measure => simp [intOf]; omega
        | false =>
          have hf := Hcmp.out rfl
          have HF := Lib.hid hf
          clear hf heq
          go_wp2_with fail
          go_ret
          exact ⟨ret_bool HF.out.symm, hB3⟩
      · obtain rfl : k = n := by omega
        have dk : ¬ (k : Int) < (k : Int) := by omega
        have hf : decide (xs = ys) = true := by
          have h1 := heq.out
          rw [List.take_of_length_le (by rw [Hlx.out]; omega), List.take_of_length_le (by rw [Hly.out, Hnm.out]; omega)] at h1
          exact decide_eq_true h1
        have HF := Lib.hid hf
        clear hf heq
        go_wp2_with fail
        go_ret
        exact ⟨ret_bool HF.out.symm, hb⟩
  · have hb0 : ((n : Int) != (m : Int)) = true := by simp; omega
    have hf : decide (xs = ys) = false := decide_eq_false (fun e => hnm (by rw [← Hlx.out, ← Hly.out, e]))
    have HF := Lib.hid hf
    clear hnm hf
    go_enter Tryz.func44, Tryz.ntmps44
    go_wp2_with fail
    go_ret
    exact ⟨ret_bool HF.out.symm, Below.refl _ _⟩
set_option maxRecDepth 100000 in
set_option maxHeartbeats 4000000 in
theorem ru_same (xs ys : List Rule) (A A' : Option Addr) (n m c c' : Nat) (w : World) (hx : RulesS w (· < w.heap.size) A n xs) (hy : RulesS w (· < w.heap.size) A' m ys) (hn : n ≤ 1000000) (hss : ∀ r ∈ xs, bigR r) :
    Calls Tryz.prog 11 #[.slice A n c, .slice A' m c'] w fun e w' => e = .returned (.bool (decide (xs = ys))) ∧ Below w.heap.size w w' := by
  have hmf : ∀ (fn : Fn) (first cap : Array Value) (w : World), (Instr.makeFunc fn first cap).run Tryz.prog w = .ok (.func fn first cap) w := fun _ _ _ _ => rfl
  obtain ⟨Za, hZa⟩ : ∃ Za, w.alloc (.cells #[.nilFunc] 70) = Za := ⟨_, rfl⟩
  have bZa : Below w.heap.size w Za := by rw [← hZa]; exact (Below.refl _ _).alloc (Nat.le_refl _) _
  have rZa : RowAt Za w.heap.size [.nilFunc] := by rw [← hZa]; exact RowAt.new _ _ _
  obtain ⟨mZa, nZa⟩ := rZa.2 0 _ rfl
  obtain ⟨W1, hW1⟩ : ∃ W1, Za.setCell ⟨w.heap.size, 0, none⟩ (same1V) = W1 := ⟨_, rfl⟩
  have b1 : Below w.heap.size w W1 := by rw [← hW1]; exact bZa.setCell (p := ⟨w.heap.size, 0, none⟩) (Nat.le_refl _) _
  have r1 : RowAt W1 w.heap.size [same1V] := by rw [← hW1]; exact rZa.store 0 _
  obtain ⟨Zb, hZb⟩ : ∃ Zb, W1.alloc (.cells #[.nilFunc] 72) = Zb := ⟨_, rfl⟩
  have bZb : Below W1.heap.size W1 Zb := by rw [← hZb]; exact (Below.refl _ _).alloc (Nat.le_refl _) _
  have rZb : RowAt Zb W1.heap.size [.nilFunc] := by rw [← hZb]; exact RowAt.new _ _ _
  obtain ⟨mZb, nZb⟩ := rZb.2 0 _ rfl
  obtain ⟨W2, hW2⟩ : ∃ W2, Zb.setCell ⟨W1.heap.size, 0, none⟩ (same2V w.heap.size) = W2 := ⟨_, rfl⟩
  have b2 : Below W1.heap.size W1 W2 := by rw [← hW2]; exact bZb.setCell (p := ⟨W1.heap.size, 0, none⟩) (Nat.le_refl _) _
  have r2 : RowAt W2 W1.heap.size [same2V w.heap.size] := by rw [← hW2]; exact rZb.store 0 _
  have hB2 := b1.trans (b2.mono b1.size)
  have cE := eqf_rule xs ys A A' n m c c' W2 (hx.below hB2) (hy.below hB2) hn hss w.heap.size W1.heap.size ((r1.below b2 r1.1).2 0 _ rfl).1 (r2.2 0 _ rfl).1
  go_enter Tryz.func11, Tryz.ntmps11
  go_wp2_with fail
  refine cE.mono ?_
  rintro e w3 ⟨rfl, hb3⟩
  go_wp2_with fail
  go_ret
  exact ⟨rfl, hB2.trans (hb3.mono hB2.size)⟩
end Go.Proofs.YtfhdihdafmahgaaGreatDoor
/- The reference's Bytes and Write of layer 2 are walked; Write answers what runes.Write answers. -/
set_option linter.unusedVariables false
set_option linter.unusedSimpArgs false
namespace Go.Proofs.YtfhdihdafmahgaaGreatDoor
open Go.RowKit Rn
theorem byte_info : (Tryz.prog.info? 5).map (fun i => (i.zero, i.size, i.bytes)) = some (some (.int .u8 0), 1, 1) := by kernel_rfl

theorem enc_cells (c : Int) : ((Lib.encodeRune c).map b8).toArray = ((Lib.encodeRuneZ c).map (fun x => Value.int .u8 x)).toArray := by
  rw [← runeCells_b8]; rfl
set_option maxRecDepth 100000 in
set_option maxHeartbeats 1000000 in
theorem ref_bytes (c : Int) (w : World) (hc : isB c = true) :
    Calls Tryz.prog 162 #[.int .i64 c] w fun e w' => e = .returned (.slice (some ⟨w.heap.size, 0, none⟩) (Lib.encodeRune c).length (Lib.encodeRune c).length) ∧ w' = w.alloc (.cells ((Lib.encodeRune c).map b8).toArray 5) := by
  have hc' : 0 ≤ c ∧ c ≤ 1114111 ∧ (c < 55296 ∨ 57343 < c) := by simpa [isB] using hc
  clear hc
  obtain ⟨h0, h1, h2⟩ := hc'
  have hl : (Lib.encodeRune c).length = (Lib.encodeRuneZ c).length := by simp [Lib.encodeRune]
  rw [hl]
  by_cases c1 : c < 128
  · have hz := Lib.hid (Lib.encodeRuneZ_one h0 (by omega : c ≤ 127))
    go_enter Tryz.func162, Tryz.ntmps162
    go_wp2
    go_ret
    rw [enc_cells, hz.out]
    exact ⟨rfl, rfl⟩
  · by_cases c2 : c < 2048
    · have hz := Lib.hid (Lib.encodeRuneZ_two (by omega : 128 ≤ c) (by omega))
      go_enter Tryz.func162, Tryz.ntmps162
      go_wp2
      go_ret
      rw [enc_cells, hz.out]
      exact ⟨rfl, rfl⟩
    · by_cases c3 : c < 65536
      · have hz := Lib.hid (Lib.encodeRuneZ_three (r := c) (by omega))
        go_enter Tryz.func162, Tryz.ntmps162
        go_wp2
        go_ret
        rw [enc_cells, hz.out]
        exact ⟨rfl, rfl⟩
      · have hz := Lib.hid (Lib.encodeRuneZ_four (by omega : 65536 ≤ c) h1)
        go_enter Tryz.func162, Tryz.ntmps162
        go_wp2
        go_ret
        rw [enc_cells, hz.out]
        exact ⟨rfl, rfl⟩

theorem enc_row (w : World) (c : Int) : ∀ j u, ((Lib.encodeRune c).map b8)[j]? = some u → (w.alloc (.cells ((Lib.encodeRune c).map b8).toArray 5)).cell? ((⟨w.heap.size, 0, none⟩ : Addr).add j) = some u := by
  refine World.news_of_block (t := 5) (fr := (0, 0)) (cs := ((Lib.encodeRune c).map b8).toArray) ?_ 
  exact heap_alloc_new w _

set_option maxRecDepth 100000 in
set_option maxHeartbeats 1000000 in
theorem ref_write (l : List Int) (A : Option Addr) (n cap : Nat) (w : World) (hr : Reads w w.heap.size 1 A n (l.map n64)) (hl : ∀ c ∈ l, -2147483648 ≤ c ∧ c ≤ 2147483647) (hn : n ≤ 1000000) :
    Calls Tryz.prog 138 #[.slice A n cap] w fun e w' => ∃ v, e = .returned v ∧ w'.ownsRow w.heap.size 5 1 v (writeP l).length ((writeP l).map b8) ∧ Below w.heap.size w w' := by
  have hlen : l.length = n := by simpa using hr.len
  obtain ⟨i0, hi, hz0, hz1, hz2⟩ := info_parts byte_info
  have Hlen := Lib.hid hlen
  have Hl := Lib.hid hl
  clear hlen hl
  go_enter Tryz.func138, Tryz.ntmps138
  go_wp2
  go_loopw [3, 4] (fun o i wr => ∃ k : Nat, k ≤ n ∧ i = .int .i64 k ∧ wr.ownsRow w.heap.size 5 1 o (writeP (l.take k)).length ((writeP (l.take k)).map b8) ∧ Below w.heap.size w wr) (fun _ i _ => n - (intOf i).toNat)
  case atStart => exact ⟨0, by omega, rfl, World.ownsRow_nil _ _ _ _, Below.refl _ _⟩
  case round =>
    obtain ⟨k, hk, rfl, hown, hb⟩ := hrel
    have hs2 := hb.size
    by_cases hlt : k < n
    · obtain ⟨b, off, u, hA, hbw, hx, hcell0⟩ := hr.at_ hlt
      subst hA
      obtain ⟨c, hc⟩ : ∃ c, l[k]? = some c := ⟨_, List.getElem?_eq_getElem (by rw [Hlen.out]; omega)⟩
      rw [List.getElem?_map, hc] at hx
      obtain rfl : u = n64 c := by simpa using hx.symm
      unfold n64 at hcell0
      have hcell : wr.cell? ⟨b, off + k, none⟩ = some (.int .i64 c) := (hb.cell (p := ⟨b, off + k, none⟩) hbw).trans hcell0
      have hcr := Hl.out c (List.mem_of_getElem? hc)
      have hwl := writeP_len (l.take k)
      rw [List.length_take] at hwl
      have hst : writeP (l.take (k + 1)) = writeP (l.take k) ++ Lib.encodeRune c := by rw [take_snoc l k c hc, writeP_snoc]
      have hel := encode_len c
      have hel2 := encode_len 65533
      have Hst := Lib.hid hst
      have Hc := Lib.hid hc
      clear hst hc hx hcell0
      by_cases his : isB c = true
      · have Hrow := Lib.hid (enc_row wr c)
        have Hby := Lib.hid (ref_bytes c wr his)
        go_wp2_with (first | (go_at_call 161; refine (ref_is _ _ (by omega) (by omega)).mono ?_; rintro e w' ⟨rfl, rfl⟩; rw [his]) | (go_at_call 162; refine (Hby.out).mono ?_; rintro e w2 ⟨rfl, rfl⟩) | (at_builtin; refine wpList_append_own _ rfl _ _ 22 rfl w.heap.size 5 i0 (.int .u8 0) 1 1 Tryz.underlying22 hi hz0 hz1 hz2 rfl (by decide) _ _ _ rfl (hown.alloc _) ⟨wr.heap.size, 0, none⟩ _ _ ((Lib.encodeRune c).map b8) rfl (by simp) ?c1 ?c2 ?c3 ?c4 ?c5 ?_))
        case c1 => exact Hrow.out
        case c2 => intro u hu; simp at hu; obtain ⟨x, _, rfl⟩ := hu; rfl
        case c3 => unfold maxLen; omega
        case c4 => omega
        case c5 => simp; omega
        intro v' w2 hown' hgrow _
        have hbn := push_below hb hs2 hown hgrow
        rw [← List.map_append, ← List.length_append, ← Hst.out] at hown'
        clear hgrow hown hb
        go_wp2
        go_roundw
        case rel => exact ⟨k + 1, by omega, by go_num, hown', hbn⟩
        case measure => simp [intOf]; omega
      · have his' : isB c = false := by simpa using his
        have Hbad := Lib.hid (encode_bad c his')
        have Hrow := Lib.hid (enc_row wr 65533)
        have Hby := Lib.hid (ref_bytes 65533 wr (by decide))
        go_wp2_with (first | (go_at_call 161; refine (ref_is _ _ (by omega) (by omega)).mono ?_; rintro e w' ⟨rfl, rfl⟩; rw [his']) | (go_at_call 162; refine (Hby.out).mono ?_; rintro e w2 ⟨rfl, rfl⟩) | (at_builtin; refine wpList_append_own _ rfl _ _ 22 rfl w.heap.size 5 i0 (.int .u8 0) 1 1 Tryz.underlying22 hi hz0 hz1 hz2 rfl (by decide) _ _ _ rfl (hown.alloc _) ⟨wr.heap.size, 0, none⟩ _ _ ((Lib.encodeRune 65533).map b8) rfl (by simp) ?d1 ?d2 ?d3 ?d4 ?d5 ?_))
        case d1 => exact Hrow.out
        case d2 => intro u hu; simp at hu; obtain ⟨x, _, rfl⟩ := hu; rfl
        case d3 => unfold maxLen; omega
        case d4 => omega
        case d5 => simp; omega
        intro v' w2 hown' hgrow _
        have hbn := push_below hb hs2 hown hgrow
        rw [← List.map_append, ← List.length_append, ← Hbad.out, ← Hst.out] at hown'
        clear hgrow hown hb
        go_wp2
        go_roundw
        case rel => exact ⟨k + 1, by omega, by go_num, hown', hbn⟩
        case measure => simp [intOf]; omega
    · obtain rfl : k = n := by omega
      go_wp2
      go_ret
      rw [List.take_of_length_le (by rw [Hlen.out]; omega)] at hown
      exact ⟨_, rfl, hown, hb⟩
end Go.Proofs.YtfhdihdafmahgaaGreatDoor
/- Layer 1's reference: Stop and Add are walked. -/
set_option linter.unusedVariables false
set_option linter.unusedSimpArgs false
namespace Go.Proofs.YtfhdihdafmahgaaGreatDoor
open Go.RowKit Fx
theorem rfx_stop (n : Int) (w : World) (h1 : -9223372036854775808 ≤ n) (h2 : n ≤ 9223372036854775807) :
    Calls Tryz.prog 136 #[.int .i64 n] w fun e w' => e = .returned (.int .i64 (stopZ n)) ∧ w = w' := by
  go_enter Tryz.func136, Tryz.ntmps136
  go_wp2
  all_goals (go_ret; refine ⟨ret_int ?_, rfl⟩; unfold stopZ; (repeat' split) <;> omega)
end Go.Proofs.YtfhdihdafmahgaaGreatDoor
/- Layer 1: the document's Print is walked. -/
set_option linter.unusedVariables false
set_option linter.unusedSimpArgs false
namespace Go.Proofs.YtfhdihdafmahgaaGreatDoor
open Go.RowKit Fx
/-- string([]byte{b}) of a slice just made -/
theorem conv_one (b : UInt8) (W : World) : (convert 22 9 (.slice (some ⟨W.heap.size, 0, none⟩) 1 1)).run Tryz.prog (W.alloc (.cells #[.int .u8 b.toNat] 5)) = .ok (.string (bytesOf [b])) (W.alloc (.cells #[.int .u8 b.toNat] 5)) := by
  have hrow : RowAt (W.alloc (.cells #[.int .u8 b.toNat] 5)) W.heap.size ([b].map b8) := RowAt.new _ _ _
  have hr := (hrow.reads (B := W.heap.size + 1) (by omega))
  exact run_str (P := Tryz.prog) Tryz.underlying22 Tryz.underlying5 Tryz.underlying9 1 hr
theorem conv_dig (n : Nat) (h : n < 10) (W : World) : (convert 22 9 (.slice (some ⟨W.heap.size, 0, none⟩) 1 1)).run Tryz.prog (W.alloc (.cells #[.int .u8 (48 + (n : Int))] 5)) = .ok (.string (bytesOf [dig n])) (W.alloc (.cells #[.int .u8 (48 + (n : Int))] 5)) := by
  have e : ((dig n).toNat : Int) = 48 + (n : Int) := by
    have : ∀ k : Fin 10, ((dig k.val).toNat : Int) = 48 + (k.val : Int) := by decide
    exact this ⟨n, h⟩
  have := conv_one (dig n) W
  rwa [e] at this
namespace Fx
def PrLoop (a : Nat) (q : Nat) (T : List UInt8) : Prop := (T = [] ∧ q = a) ∨ (T ≠ [] ∧ Lib.decDigits a = (if q = 0 then [] else Lib.decDigits q) ++ T)
end Fx
theorem prloop_step {a q : Nat} {T : List UInt8} (h : PrLoop a q T) (hc : 0 < q ∨ T = []) : PrLoop a (q / 10) (dig (q % 10) :: T) := by
  refine .inr ⟨by simp, ?_⟩
  have key : Lib.decDigits q = (if q / 10 = 0 then [] else Lib.decDigits (q / 10)) ++ [dig (q % 10)] := by
    by_cases h10 : q < 10
    · rw [if_pos (by omega), dec_small h10, Nat.mod_eq_of_lt h10]; rfl
    · rw [if_neg (by omega), dec_big (by omega)]
  rcases h with ⟨h1, h2⟩ | ⟨h1, h2⟩
  · rw [← h2, key, h1]
  · rcases hc with hc | hc
    · rw [h2, if_neg (by omega), key]; simp
    · exact absurd hc h1
theorem prloop_end {a : Nat} {T : List UInt8} (h : PrLoop a 0 T) (hT : T ≠ []) : T = Lib.decDigits a := by
  rcases h with ⟨h1, _⟩ | ⟨_, h2⟩
  · exact absurd h1 hT
  · rw [h2]; simp
theorem prloop_len {a q : Nat} {T : List UInt8} (h : PrLoop a q T) {n : Nat} (hn : (Lib.decDigits a).length ≤ n) : T.length ≤ n := by
  rcases h with ⟨h1, _⟩ | ⟨_, h2⟩
  · rw [h1]; simp
  · rw [h2, List.length_append] at hn; omega
def strLen : Value → Nat
  | .string s => s.size
  | _ => 0
end Go.Proofs.YtfhdihdafmahgaaGreatDoor
set_option linter.unusedVariables false
set_option linter.unusedSimpArgs false
namespace Go.Proofs.YtfhdihdafmahgaaGreatDoor
open Go.RowKit Rn Tp
set_option maxRecDepth 100000 in
set_option maxHeartbeats 1000000 in
theorem tp_apart (a b : Int) (w : World) :
    Calls Tryz.prog 74 #[.int .i64 a, .int .i64 b] w fun e w' => e = .returned (.bool (apartB a b)) ∧ w = w' := by
  have ha : a = 1 ∨ a = 3 ∨ a = 12 ∨ a = 13 ∨ a = 6 ∨ a = 14 ∨ a = 15 ∨ a = 16 ∨ ((a == 1) = false ∧ (a == 3) = false ∧ (a == 12) = false ∧ (a == 13) = false ∧ (a == 6) = false ∧ (a == 14) = false ∧ (a == 15) = false ∧ (a == 16) = false) := by simp; omega
  have hb : b = 1 ∨ b = 13 ∨ b = 6 ∨ b = 14 ∨ b = 15 ∨ b = 16 ∨ ((b == 1) = false ∧ (b == 13) = false ∧ (b == 6) = false ∧ (b == 14) = false ∧ (b == 15) = false ∧ (b == 16) = false) := by simp; omega
  obtain ⟨r, hr⟩ : ∃ r, apartB a b = r := ⟨_, rfl⟩
  have Hr := Lib.hid hr
  rw [hr]
  clear hr
  rcases ha with rfl | rfl | rfl | rfl | rfl | rfl | rfl | rfl | ⟨a1, a2, a3, a4, a5, a6, a7, a8⟩
  case inr.inr.inr.inr.inr.inr.inr.inr =>
    rcases hb with rfl | rfl | rfl | rfl | rfl | rfl | ⟨b1, b2, b3, b4, b5, b6⟩
    all_goals
      go_enter Tryz.func74, Tryz.ntmps74
      go_wp2
      go_ret
      refine ⟨ret_bool ?_, rfl⟩
      rw [← Hr.out]
      unfold apartB
      simp at *
      (try simp [*])
  all_goals
    clear hb
    go_enter Tryz.func74, Tryz.ntmps74
    go_wp2
    go_ret
    refine ⟨ret_bool ?_, rfl⟩
    rw [← Hr.out]
    unfold apartB
    simp
def hexS : List UInt8 := [48, 49, 50, 51, 52, 53, 54, 55, 56, 57, 97, 98, 99, 100, 101, 102]
theorem hexS_at : ∀ k : Fin 16, (bytesOf hexS).extract k.val (k.val + 1) = bytesOf [hexd k.val] := by decide +kernel
theorem str_hex (n : Nat) (h : n < 16) (W : World) : (Instr.slice 9 (.string ⟨#[48, 49, 50, 51, 52, 53, 54, 55, 56, 57, 97, 98, 99, 100, 101, 102]⟩) (some (.int .i64 (n : Int))) (some (.int .i64 ((n : Int) + 1))) none).run Tryz.prog W = .ok (.string (bytesOf [hexd n])) W := by
  have e := hexS_at ⟨n, h⟩
  have := @run_slice_string Tryz.prog W 9 (bytesOf hexS) .i64 .i64 (n : Int) ((n : Int) + 1) Tryz.underlying9 (by omega) (by omega) (by rw [bytesOf_size]; show (n : Int) + 1 ≤ ((16 : Nat) : Int); omega)
  rw [show ((n : Int) + 1).toNat = n + 1 by omega, Int.toNat_natCast] at this
  simp only [] at e
  rw [e] at this
  exact this
theorem hexT_len' : ∀ (m n : Nat), n ≤ m → (hexT n).length ≤ m + 1
  | 0, n, h => by rw [hexT, dif_pos (by omega)]; simp
  | m + 1, n, h => by
    rw [hexT]
    split
    · simp
    · have := hexT_len' m (n / 16) (by omega)
      simp; omega
theorem hexT_eight (n : Nat) (h : n < 4294967296) : (hexT n).length ≤ 8 := by
  have key : ∀ k n, n < 16 ^ (k + 1) → (hexT n).length ≤ k + 1 := by
    intro k
    induction k with
    | zero => intro n h; rw [hexT, dif_pos (by simpa using h)]; simp
    | succ k ih =>
      intro n h
      rw [hexT]
      split
      · simp
      · have := ih (n / 16) (by rw [Nat.div_lt_iff_lt_mul (by omega)]; rw [Nat.pow_succ] at h; exact h)
        simp; omega
  exact key 7 n (by show n < 4294967296; exact h)
set_option maxRecDepth 100000 in
set_option maxHeartbeats 1000000 in
theorem rp_in (l : List Int) (A : Option Addr) (n cap : Nat) (c : Int) (w : World) (hr : Reads w w.heap.size 1 A n (l.map n64)) (hn : n ≤ 1000000) :
    Calls Tryz.prog 140 #[.slice A n cap, .int .i64 c] w fun e w' => e = .returned (.bool (decide (c ∈ l))) ∧ w = w' := by
  have hlen : l.length = n := by simpa using hr.len
  have Hlen := Lib.hid hlen
  clear hlen
  go_enter Tryz.func140, Tryz.ntmps140
  go_wp2_with fail
  go_loopw [5] (fun i wr => ∃ k : Nat, k ≤ n ∧ i = .int .i64 k ∧ w = wr ∧ Hid (c ∉ l.take k)) (fun i _ => n - (intOf i).toNat)
  case atStart => exact ⟨0, by omega, rfl, rfl, (by show c ∉ _; simp)⟩
  case round =>
    obtain ⟨k, hk, rfl, rfl, hx⟩ := hrel
    by_cases hlt : k < n
    · obtain ⟨b, off, u, hA, hbw, hu, hcell⟩ := hr.at_ hlt
      subst hA
      obtain ⟨d, hd⟩ : ∃ d, l[k]? = some d := ⟨_, List.getElem?_eq_getElem (by rw [Hlen.out]; omega)⟩
      rw [List.getElem?_map, hd] at hu
      obtain rfl : u = n64 d := by simpa using hu.symm
      unfold n64 at hcell
      have dk : decide ((k : Int) < (n : Int)) = true := by simp; omega
      by_cases hdc : d = c
      · have te : (d == c) = true := by simp [hdc]
        have hmem : c ∈ l := hdc ▸ List.mem_of_getElem? hd
        have Hm := Lib.hid hmem
        clear hdc hd hu hx hmem
        go_wp2
        go_ret
        exact ⟨ret_bool (by simp [Hm.out]), rfl⟩
      · have te : (d == c) = false := by simp [hdc]
        have hnew : Hid (c ∉ l.take (k + 1)) := by
          show c ∉ _
          rw [take_snoc l k d hd]
          have := hx.out
          simp only [List.mem_append, List.mem_singleton, not_or]
          exact ⟨this, fun e => hdc e.symm⟩
        clear hdc hd hu hx
        go_wp2_with fail
        go_roundw
        case rel => exact ⟨k + 1, by omega, by go_num, trivial, hnew⟩
        case measure => simp [intOf]; omega
    · obtain rfl : k = n := by omega
      have dk : decide ((k : Int) < (k : Int)) = false := by simp
      have hy := hx.out
      rw [← Hlen.out, List.take_length] at hy
      have Hy := Lib.hid hy
      clear hx hlt hk hy
      go_wp2
      go_ret
      exact ⟨ret_bool (by simp [Hy.out]), rfl⟩
end Go.Proofs.YtfhdihdafmahgaaGreatDoor
