/- Layer 3: plain laws of the scanner's model at names, texts, comments. No program in sight. -/
import Derived.Test.YthkagpefgkpgeaaDoorB06
import Derived.Test.YthkagpefgkpgeaaDoorB09
import Derived.Laws.StructEq
import Derived.Test.YthkagpefgkpgeaaDoorB02
import Derived.Lib.SlBytesConst
import Derived.Test.YthkagpefgkpgeaaDoorB01
/- Layer 3: the program's Scan is walked: its answer is the model's list of tokens. -/
set_option linter.unusedVariables false
set_option linter.unusedSimpArgs false
namespace Go.Proofs.YthkagpefgkpgeaaDoor
open Go.RowKit Rn Tk
/-- a token of any kind -/
structure GTok where
  kind : Int
  text : List UInt8
  n : Int
deriving DecidableEq
def Tk.Tok.g (t : Tok) : GTok := ⟨t.kind, t.text, t.n⟩
def cells1 (t : GTok) : List Value := [.int .i64 t.kind, .string (bytesOf t.text), .int .i64 t.n]
def cellsG (l : List GTok) : List Value := l.flatMap cells1
/-- the cells of the scanner's tokens -/
def toksV (l : List Tok) : List Value := cellsG (l.map Tok.g)
theorem toksV_snoc (l : List Tok) (t : Tok) : toksV (l ++ [t]) = toksV l ++ [.int .i64 (t.kind : Int), .string (bytesOf t.text), .int .i64 t.n] := by simp [toksV, cellsG, cells1, Tok.g]
theorem tok_info : (Tryd.prog.info? 29).map (fun i => (i.zero, i.size, i.bytes)) = some (some (.agg #[.int .i64 0, .string ⟨#[]⟩, .int .i64 0]), 3, 32) := by kernel_rfl
theorem cells_new3 (w : World) (e : TypeId) (a b c : Value) : ∀ j u, [a, b, c][j]? = some u → (w.alloc (.cells #[a, b, c] e)).cell? ((⟨w.heap.size, 0, none⟩ : Addr).add j) = some u := by
  intro j u hu
  have h := ((RowAt.new w e #[a, b, c]).2 j u hu).1
  have ha : (⟨w.heap.size, 0, none⟩ : Addr).add j = ⟨w.heap.size, j, none⟩ := by unfold Addr.add; split <;> simp_all
  rw [ha]; exact h
/-- The scanner at character k, and the tokens so far in a row of their own. -/
structure Sc (w0 w : World) (B S P : Nat) (A : Option Addr) (n cap : Nat) (l : List Int) (k : Nat) (v : Value) (toks : List Tok) : Prop where
  at_ : At w B S P A n cap l k
  bel : Below w0.heap.size w0 w
  own : w.ownsRow (S + 1) 29 3 v toks.length (toksV toks)
section
variable {w0 w w1 w2 : World} {B S P n cap k k' : Nat} {A : Option Addr} {l : List Int} {v v' : Value} {toks : List Tok}
theorem Sc.mv (h : Sc w0 w B S P A n cap l k v toks) (hw : w0.heap.size ≤ P) (hm : Mv P w w1) (ha : At w1 B S P A n cap l k') : Sc w0 w1 B S P A n cap l k' v toks :=
  ⟨ha, h.bel.grown hm h.bel.size (fun g hg => by injection hg with hg; omega), own_mv h.own (by have := h.at_.hPS; omega) hm⟩
theorem Sc.env (h : Sc w0 w B S P A n cap l k v toks) (hw : w0.heap.size ≤ P) (he : Env w0) : EnvP P w := ⟨w0, he, h.bel, hw⟩
theorem Sc.push {o : Obj} {t : Tok} (h : Sc w0 w B S P A n cap l k v toks) (hw : w0.heap.size ≤ P) (hg : (w.alloc o).grownBy w2 v.ownBlock) (hown : w2.ownsRow (S + 1) 29 3 v' (toks.length + 1) (toksV toks ++ [.int .i64 (t.kind : Int), .string (bytesOf t.text), .int .i64 t.n])) : Sc w0 w2 B S P A n cap l k v' (toks ++ [t]) := by
  have hS := h.at_.hPS
  refine ⟨h.at_.push (by omega : S < S + 1) h.own hg, ?_, ?_⟩
  · refine (h.bel.grown (World.grownBy_alloc w o none) h.bel.size (by simp)).grown hg (by have := h.bel.size; simp; omega) (fun g hgr => ?_)
    have := (h.own.lt g hgr).1; omega
  · rw [toksV_snoc, List.length_append]; exact hown
end
theorem scanT_end {r : List Int} (h : (spacesT r).2 = []) : scanT r = if (spacesT r).1 = true then [⟨1, [], 0⟩] else [] := by rw [scanT, dif_pos h]
theorem scanT_step {r : List Int} (h : ¬ (spacesT r).2 = []) : scanT r = (if (spacesT r).1 = true then [⟨1, [], 0⟩] else []) ++ (nextT (spacesT r).2).1 :: scanT (nextT (spacesT r).2).2 := by rw [scanT, dif_neg h]
theorem spacesT_nil : spacesT [] = (false, []) := by rw [spacesT_end (by decide) (by rw [pk_nil]; decide)]
theorem scanT_nil : scanT [] = [] := by rw [scanT_end (by rw [spacesT_nil]), spacesT_nil]; rfl
theorem readF_len : ∀ (f : Nat) (bs : List UInt8), (readF f bs).length ≤ f
  | 0, bs => by simp [readF]
  | f + 1, bs => by
    have ih := readF_len f (bs.drop (nextN bs))
    unfold readF
    simp only
    (repeat' split) <;> simp <;> omega
theorem readP_chars (bs : List UInt8) : Chars (readP bs) := fun c h => (readP_plain bs c h).1
theorem spaceTok_kind : ((⟨1, [], 0⟩ : Tok).kind : Int) = 1 := rfl
/-- what Scan hands back: the tokens, or that there are too many bytes or tokens -/
def ScanRet (n0 : Nat) (T : List Tok) (w : World) (e : Ending) (w' : World) : Prop :=
  if 65536 < n0 ∨ 16384 < T.length then e = .returned (.tuple #[.slice none 0 0, .int .i64 2])
  else ∃ v, e = .returned (.tuple #[v, .int .i64 0]) ∧ w'.ownsRow w.heap.size 29 3 v T.length (toksV T)
set_option maxRecDepth 100000 in
set_option maxHeartbeats 2000000 in
theorem tk_scan (bs : List UInt8) (A0 : Option Addr) (n0 cap0 : Nat) (w : World) (hr : Reads w w.heap.size 1 A0 n0 (bs.map b8)) (hm : n0 ≤ cap0) (hcap : cap0 ≤ maxLen) (hT : Tabs w) (hE : Env w) :
    Calls Tryd.prog 9 #[.slice A0 n0 cap0] w fun e w' => Below w.heap.size w w' ∧ ScanRet n0 (scanT (readP bs)) w e w' := by
  have hlen0 : bs.length = n0 := by simpa using hr.len
  have hcap' := hcap
  unfold maxLen at hcap'
  by_cases hbig : 65536 < n0
  · have t1 : decide (65536 < (n0 : Int)) = true := by simp; omega
    have Hbig := Lib.hid hbig
    clear hbig
    go_enter Tryd.func9, Tryd.ntmps9
    go_wp2_with fail
    go_ret2
    refine ⟨Below.refl _ _, ?_⟩
    unfold ScanRet
    rw [if_pos (.inl Hbig.out)]; rfl
  · have t1 : decide (65536 < (n0 : Int)) = false := by simp; omega
    have hl : (readP bs).length ≤ bs.length := readF_len bs.length bs
    have hch := readP_chars bs
    obtain ⟨l, hl0⟩ : ∃ l, readP bs = l := ⟨_, rfl⟩
    have hrd := rn_read bs A0 n0 cap0 w hr hm hcap (by omega) hT
    rw [hl0] at hl hch hrd ⊢
    obtain ⟨TS, hTS⟩ : ∃ T, scanT l = T := ⟨_, rfl⟩
    rw [hTS]
    have HTS := Lib.hid hTS
    have Hch := Lib.hid hch
    have Hbig := Lib.hid hbig
    clear hTS hch hl0
    go_enter Tryd.func9, Tryd.ntmps9
    go_wp2_with fail
    refine hrd.mono ?_
    rintro e1 w1 ⟨v1, rfl, hown1, hb1⟩
    obtain ⟨A, cap, rfl, hnc, hcm⟩ := own_form hown1
    have hrd1 := Reads.of_own hown1
    obtain ⟨n, hn⟩ : ∃ n, l.length = n := ⟨_, rfl⟩
    rw [hn] at hrd1 hl hnc ⊢
    clear hrd hown1
    obtain ⟨P, hP⟩ : ∃ P, w1.heap.size = P := ⟨_, rfl⟩
    have hwP : w.heap.size ≤ P := by rw [← hP]; exact hb1.size
    have hat : At ((w1.alloc (.cells #[.slice A n cap, .int .i64 0] 44)).alloc (.cells #[.pointer (some ⟨P, 0, none⟩)] 46)) P (P + 1) P A n cap l 0 := by
      have r1 := RowAt.new w1 44 #[.slice A n cap, .int .i64 0]
      rw [hP] at r1
      have g2 := World.grownBy_alloc (w1.alloc (.cells #[.slice A n cap, .int .i64 0] 44)) (.cells #[.pointer (some ⟨P, 0, none⟩)] 46) none
      have r2 := r1.grown g2 (by simp)
      have r3 := RowAt.new (w1.alloc (.cells #[.slice A n cap, .int .i64 0] 44)) 46 #[.pointer (some ⟨P, 0, none⟩)]
      have hs : (w1.alloc (.cells #[.slice A n cap, .int .i64 0] 44)).heap.size = P + 1 := by simp [hP]
      rw [hs] at r3
      obtain ⟨x0, y0⟩ := r2.2 0 _ rfl
      obtain ⟨x1, y1⟩ := r2.2 1 _ rfl
      obtain ⟨x2, y2⟩ := r3.2 0 _ rfl
      rw [hP] at hrd1
      exact { s0 := x2, p0 := x0, p1 := x1, fz := y1, rd := (hrd1.grown (World.grownBy_alloc _ _ none) (by omega) (by simp)).grown g2 (by simp; omega) (by simp), hB := Nat.le_refl _, hPS := Nat.lt_succ_self _, hS := by simp [hP], hk := Nat.zero_le _, hn := by omega, hc := hnc, hm := hcm }
    have hsc : Sc w ((w1.alloc (.cells #[.slice A n cap, .int .i64 0] 44)).alloc (.cells #[.pointer (some ⟨P, 0, none⟩)] 46)) P (P + 1) P A n cap l 0 (.slice none 0 0) [] := by
      refine ⟨hat, ?_, World.ownsRow_nil _ _ _ _⟩
      exact (hb1.grown (World.grownBy_alloc _ _ none) hb1.size (by simp)).grown (World.grownBy_alloc _ _ none) (by have := hb1.size; simp; omega) (by simp)
    obtain ⟨S, hS⟩ : ∃ S, P + 1 = S := ⟨_, rfl⟩
    rw [hS] at hsc
    clear hat hrd1 hb1
    go_wp2_with fail
    go_loopw [5] (fun x wr => ∃ (k : Nat) (toks : List Tok) (Ao : Option Addr) (co : Nat), Hid (toks ++ scanT (l.drop k) = TS) ∧ toks.length ≤ 16384 ∧ x = .slice Ao toks.length co ∧ Sc w wr P S P A n cap l k (.slice Ao toks.length co) toks) (fun _ wr => n - posOf P wr)
    case atStart => exact ⟨0, [], none, 0, (by show _ = _; rw [List.drop_zero]; exact HTS.out), by simp, rfl, hsc⟩
    case round =>
      clear hsc
      obtain ⟨k, toks, Ao, co, hrun, htl, rfl, hsc⟩ := hrel
      have hkn := hsc.at_.hk
      have hpos := hsc.at_.pos
      obtain ⟨b, hb⟩ : ∃ b, (spacesT (l.drop k)).1 = b := ⟨_, rfl⟩
      go_wp2_with fail
      refine (tk_space hsc.at_ Hch.out).mono ?_
      rintro e2 w2 ⟨rfl, m2, k3, hk3, hd3, A2⟩
      have S2 := hsc.mv hwP m2 A2
      rw [hb]
      have Hb := Lib.hid hb
      have Hd3 := Lib.hid hd3
      have hk3n := A2.hk
      clear hb hd3 m2 A2 hsc
      obtain ⟨hi0, hi, hz0, hz1, hz2⟩ := info_got tok_info
      go_upto_if 16 with (fail)
      go_cut [5] (fun x wx => ∃ (toks2 : List Tok) (A2 : Option Addr) (c2 : Nat), Hid (toks2 = toks ++ if b = true then [⟨1, [], 0⟩] else []) ∧ toks2.length ≤ 16385 ∧ x = .slice A2 toks2.length c2 ∧ Sc w wx P S P A n cap l k3 (.slice A2 toks2.length c2) toks2)
      case first =>
        cases b with
        | true =>
          have hsz2 : w2.heap.size < w2.heap.size + 1 := by omega
          have hS2 := S2.at_.hS
          go_wp2_with (at_builtin; refine wpList_append_own _ rfl _ _ 24 rfl (S + 1) 29 hi0 (.agg #[.int .i64 0, .string ⟨#[]⟩, .int .i64 0]) 3 32 Tryd.underlying24 hi hz0 hz1 hz2 rfl (by decide) (.slice Ao toks.length co) toks.length (toksV toks) rfl (S2.own.alloc _) ⟨w2.heap.size, 0, none⟩ 1 1 [.int .i64 1, .string ⟨#[]⟩, .int .i64 0] rfl rfl (cells_new3 _ _ _ _ _) ?c2 ?c3 ?c4 ?c5 ?_)
          case c2 => first | exact ⟨rfl, rfl, rfl⟩ | (intro u hu; simp at hu; rcases hu with rfl | rfl | rfl <;> rfl)
          case c3 => unfold maxLen; omega
          case c4 => omega
          case c5 => first | omega | (simp; omega)
          intro v' w3 hown3 hgrow3 _
          obtain ⟨A3, c3, rfl, _, _⟩ := own_form hown3
          have S3 := S2.push hwP hgrow3 (t := ⟨1, [], 0⟩) hown3
          go_wp2_with fail
          go_meet
          exact ⟨toks ++ [⟨1, [], 0⟩], A3, c3, (by show _ = _; simp), by simp; omega, by simp, by simpa using S3⟩
        | false =>
          go_wp2_with fail
          go_meet
          exact ⟨toks, Ao, co, (by show _ = _; simp), by omega, rfl, S2⟩
      case rest =>
        obtain ⟨toks2, Aq, cq, ht2, htl2, rfl, S3⟩ := hcut
        have S3n := S3.at_
        have hp3 := tk_peek0 S3.at_
        have s3 := S3.at_.s0
        clear S2
        obtain ⟨c, hc⟩ : ∃ c, pk (l.drop k3) 0 = c := ⟨_, rfl⟩
        rw [hc] at hp3
        have Hc := Lib.hid hc
        clear hc
        obtain ⟨q, hq⟩ : ∃ q, decide ((0 : Int) ≤ c) = q := ⟨_, rfl⟩
        go_wp2_with fail
        refine hp3.mono ?_
        rintro e4 w4 ⟨rfl, g4⟩
        have S4 := S3.mv hwP (Mv.of g4) (S3n.mv g4)
        clear S3 S3n hp3 s3 g4
        go_upto_if 26 with (fail)
        go_cut [5] (fun x wx => ∃ (k4 : Nat) (toks3 : List Tok) (A3 : Option Addr) (c3 : Nat), Hid (toks3 ++ scanT (l.drop k4) = TS) ∧ toks3.length ≤ 16386 ∧ (k < k4 ∨ k4 = n) ∧ x = .slice A3 toks3.length c3 ∧ Sc w wx P S P A n cap l k4 (.slice A3 toks3.length c3) toks3)
        case first =>
          by_cases hend : k3 = n
          · have hnil : l.drop k3 = [] := List.drop_eq_nil_of_le (by omega)
            have hT : Hid (toks2 ++ scanT (l.drop k3) = TS) := by
              show _ = _
              rw [← hrun.out, scanT_end (r := l.drop k) (by rw [← Hd3.out]; exact hnil), Hb.out, hnil, scanT_nil, ht2.out, List.append_nil]
            have hm1 : c = -1 := by rw [← Hc.out, hnil, pk_nil]
            have d0 : q = false := by rw [← hq]; simp; omega
            have Hend := Lib.hid hend
            subst d0
            clear hm1 hnil hend hq
            go_wp2_with fail
            go_meet
            exact ⟨k3, toks2, Aq, cq, hT, by omega, .inr Hend.out, rfl, S4⟩
          · have hlt3 : k3 < n := by omega
            have hne : l.drop k3 ≠ [] := by intro h0; have := congrArg List.length h0; rw [List.length_drop] at this; simp at this; omega
            have hstep : scanT (l.drop k) = (if b = true then [⟨1, [], 0⟩] else []) ++ (nextT (l.drop k3)).1 :: scanT (nextT (l.drop k3)).2 := by
              rw [scanT_step (by rw [← Hd3.out]; exact hne), Hb.out, ← Hd3.out]
            have Hstep := Lib.hid hstep
            have hc0 := isB_range (pk_is (l := l) Hch.out (m := k3) (by omega))
            rw [show pk l k3 = pk (l.drop k3) 0 from by rw [pk_drop]; rfl, Hc.out] at hc0
            have d0 : q = true := by rw [← hq]; simp; omega
            subst d0
            clear hstep hne hend hq
            go_wp2_with fail
            refine (tk_next S4.at_ Hch.out hlt3 (S4.env hwP hE)).mono ?_
            rintro e5 w5 ⟨rfl, m5, k5, hk5, hd5, A5⟩
            have S5 := S4.mv hwP m5 A5
            obtain ⟨⟨K, tx, N⟩, hTk⟩ : ∃ t, (nextT (l.drop k3)).1 = t := ⟨_, rfl⟩
            have hT : Hid ((toks2 ++ [⟨K, tx, N⟩]) ++ scanT (l.drop k5) = TS) := by
              show _ = _
              rw [← hrun.out, Hstep.out, hTk, ← hd5, ht2.out]; simp
            rw [hTk]
            unfold tokV
            have hS5 := S5.at_.hS
            clear hTk hd5 Hstep S4 m5
            go_wp2_with (at_builtin; refine wpList_append_own _ rfl _ _ 24 rfl (S + 1) 29 hi0 (.agg #[.int .i64 0, .string ⟨#[]⟩, .int .i64 0]) 3 32 Tryd.underlying24 hi hz0 hz1 hz2 rfl (by decide) (.slice Aq toks2.length cq) toks2.length (toksV toks2) rfl (S5.own.alloc _) ⟨w5.heap.size, 0, none⟩ 1 1 [.int .i64 (K : Int), .string (bytesOf tx), .int .i64 N] rfl rfl (cells_new3 _ _ _ _ _) ?c2 ?c3 ?c4 ?c5 ?_)
            case c2 => first | exact ⟨rfl, rfl, rfl⟩ | (intro u hu; simp at hu; rcases hu with rfl | rfl | rfl <;> rfl)
            case c3 => unfold maxLen; omega
            case c4 => omega
            case c5 => first | omega | (simp; omega)
            intro v' w6 hown6 hgrow6 _
            obtain ⟨A6, c6, rfl, _, _⟩ := own_form hown6
            have S6 := S5.push hwP hgrow6 (t := ⟨K, tx, N⟩) hown6
            go_wp2_with fail
            go_meet
            exact ⟨k5, toks2 ++ [⟨K, tx, N⟩], A6, c6, hT, by simp; omega, .inl (by omega), by simp, by simpa using S6⟩
        case rest =>
          obtain ⟨k4, toks3, A3, c3, hT, htl3, hk4, rfl, S7⟩ := hcut
          clear S4
          have hk4n := S7.at_.hk
          by_cases hmany : 16384 < toks3.length
          · have d1 : decide ((16384 : Int) < (toks3.length : Int)) = true := by simp; omega
            have hTS : 16384 < TS.length := by have := congrArg List.length hT.out; rw [List.length_append] at this; omega
            have HB := Lib.hid hTS
            clear hmany hTS
            go_wp2_with fail
            go_ret2
            refine ⟨S7.bel, ?_⟩
            unfold ScanRet
            rw [if_pos (.inr HB.out)]; rfl
          · have d1 : decide ((16384 : Int) < (toks3.length : Int)) = false := by simp; omega
            have hp7 := tk_peek0 S7.at_
            have s7 := S7.at_.s0
            by_cases hend : k4 = n
            · have hnil : l.drop k4 = [] := List.drop_eq_nil_of_le (by omega)
              have hm1 : pk (l.drop k4) 0 = -1 := by rw [hnil, pk_nil]
              rw [hm1] at hp7
              have hTT : TS = toks3 := by have := hT.out; rw [hnil, scanT_nil, List.append_nil] at this; exact this.symm
              have HT := Lib.hid hTT
              have Hm := Lib.hid hmany
              clear hm1 hnil hTT hmany
              go_wp2_with fail
              refine hp7.mono ?_
              rintro e8 w8 ⟨rfl, g8⟩
              have S8 := S7.mv hwP (Mv.of g8) (S7.at_.mv g8)
              go_wp2_with fail
              go_ret2
              refine ⟨S8.bel, ?_⟩
              unfold ScanRet
              rw [if_neg (by have := Hbig.out; have := Hm.out; rw [HT.out]; omega), HT.out]
              exact ⟨_, rfl, own_less S8.own (by omega)⟩
            · have hc0 := isB_range (pk_is (l := l) Hch.out (m := k4) (by omega))
              rw [show pk l k4 = pk (l.drop k4) 0 from by rw [pk_drop]; rfl] at hc0
              generalize pk (l.drop k4) 0 = c at *
              have d0 : decide (c < (0 : Int)) = false := by simp; omega
              have hmu : n - k4 < n - k := by omega
              go_wp2_with fail
              refine hp7.mono ?_
              rintro e8 w8 ⟨rfl, g8⟩
              have S8 := S7.mv hwP (Mv.of g8) (S7.at_.mv g8)
              have q8 := S8.at_.pos
              go_wp2_with fail
              go_roundw
              case rel => exact ⟨k4, toks3, A3, c3, hT, by omega, rfl, S8⟩
              case measure => rw [q8, hpos]; exact hmu
end Go.Proofs.YthkagpefgkpgeaaDoor
/- Layer 3: the model's scanner with a bound on its rounds: so that the kernel can run it. -/
set_option linter.unusedVariables false
set_option linter.unusedSimpArgs false
namespace Go.Proofs.YthkagpefgkpgeaaDoor
open Go.RowKit Rn Tk
namespace Tk
def spF : Nat → List Int → Bool × List Int
  | 0, r => (false, r)
  | f + 1, r => if whiteB (pk r 0) = true then (true, (spF f r.tail).2) else if pk r 0 = 47 ∧ pk r 1 = 42 then spF f (skipC r.tail.tail) else (false, r)
def nmF : Nat → List Int → List Int × List Int
  | 0, r => ([], r)
  | f + 1, r => if esc r = true then ((meantT r.tail).1 :: (nmF f (meantT r.tail).2).1, (nmF f (meantT r.tail).2).2)
    else if withinB (pk r 0) = true then (pk r 0 :: (nmF f r.tail).1, (nmF f r.tail).2) else ([], r)
def qtF : Nat → Int → List Int → List Int × Bool × List Int
  | 0, _, r => ([], false, r)
  | f + 1, e, r =>
    match r with
    | [] => ([], false, [])
    | c :: t =>
      if c = 10 then ([], true, c :: t)
      else if c = e then ([], false, t)
      else if esc (c :: t) = true then ((meantT t).1 :: (qtF f e (meantT t).2).1, (qtF f e (meantT t).2).2)
      else if c = 92 then qtF f e t.tail
      else (c :: (qtF f e t).1, (qtF f e t).2)
def numberF (f : Nat) (r : List Int) : Option (Tok × List Int) :=
  let x := numText r
  let n := Fx.lenP x
  if n = 0 then none else
  let v := Fx.parseP (x.take n)
  let s := r.drop n
  if beg s = true then some (⟨10, writeP (nmF f s).1, v⟩, (nmF f s).2)
  else if pk s 0 = 37 then some (⟨9, [], v⟩, s.tail)
  else some (⟨8, [], v⟩, s)
def nextF (f : Nat) (r : List Int) : Tok × List Int :=
  let c := pk r 0
  if c = 34 ∨ c = 39 then (⟨if (qtF f c r.tail).2.1 = true then 7 else 6, writeP (qtF f c r.tail).1, 0⟩, (qtF f c r.tail).2.2)
  else if c = 35 ∧ (withinB (pk r 1) || esc r.tail) = true then (⟨5, writeP (nmF f r.tail).1, 0⟩, (nmF f r.tail).2)
  else match numberF f r with
    | some x => x
    | none =>
      if c = 64 ∧ beg r.tail = true then (⟨4, writeP (nmF f r.tail).1, 0⟩, (nmF f r.tail).2)
      else if beg r = true then
        if pk (nmF f r).2 0 = 40 then (⟨3, writeP (nmF f r).1, 0⟩, (nmF f r).2.tail) else (⟨2, writeP (nmF f r).1, 0⟩, (nmF f r).2)
      else (signT c, r.tail)
def scF : Nat → Nat → List Int → List Tok
  | 0, _, _ => []
  | g + 1, f, r =>
    if (spF f r).2 = [] then (if (spF f r).1 = true then [⟨1, [], 0⟩] else [])
    else (if (spF f r).1 = true then [⟨1, [], 0⟩] else []) ++ (nextF f (spF f r).2).1 :: scF g f (nextF f (spF f r).2).2
end Tk
theorem spF_eq : ∀ (f : Nat) (r : List Int), r.length ≤ f → spF f r = spacesT r := by
  intro f
  induction f with
  | zero =>
    intro r h
    have : r = [] := List.eq_nil_of_length_eq_zero (by omega)
    subst this; rw [spacesT_nil]; rfl
  | succ f ih =>
    intro r h
    unfold spF
    by_cases h1 : whiteB (pk r 0) = true
    · have := tail_lt (white_ne h1)
      rw [if_pos h1, spacesT_white h1, ih _ (by omega)]
    · rw [if_neg h1]
      by_cases h2 : pk r 0 = 47 ∧ pk r 1 = 42
      · have hne : r ≠ [] := by rintro rfl; rw [pk_nil] at h2; omega
        have h3 := skipC_len r.tail.tail
        have h4 := tail_lt hne
        have h5 : r.tail.tail.length ≤ r.tail.length := by simp
        rw [if_pos h2, spacesT_comment (by simpa using h1) h2, ih _ (by omega)]
      · rw [if_neg h2, spacesT_end (by simpa using h1) h2]
theorem nmF_eq : ∀ (f : Nat) (r : List Int), r.length ≤ f → nmF f r = nameT r := by
  intro f
  induction f with
  | zero =>
    intro r h
    have : r = [] := List.eq_nil_of_length_eq_zero (by omega)
    subst this; rw [nameT_end (by decide) (by rw [pk_nil]; decide)]; rfl
  | succ f ih =>
    intro r h
    unfold nmF
    by_cases h1 : esc r = true
    · have := meant_lt (esc_ne h1)
      rw [if_pos h1, nameT_esc h1, ih _ (by omega)]
    · rw [if_neg h1]
      by_cases h2 : withinB (pk r 0) = true
      · have := tail_lt (within_ne h2)
        rw [if_pos h2, nameT_in (by simpa using h1) h2, ih _ (by omega)]
      · rw [if_neg h2, nameT_end (by simpa using h1) (by simpa using h2)]
theorem qtF_eq (e : Int) : ∀ (f : Nat) (r : List Int), r.length ≤ f → qtF f e r = quoteT e r := by
  intro f
  induction f with
  | zero =>
    intro r h
    have : r = [] := List.eq_nil_of_length_eq_zero (by omega)
    subst this; rw [quoteT_nil]; rfl
  | succ f ih =>
    intro r h
    cases r with
    | nil => rw [quoteT_nil]; rfl
    | cons c t =>
      rw [List.length_cons] at h
      have h5 : t.tail.length ≤ t.length := by simp
      have h6 := meant_len t
      rw [quoteT]
      unfold qtF
      simp only [ih t (by omega), ih t.tail (by omega), ih (meantT t).2 (by omega)]
theorem numberF_eq (f : Nat) (r : List Int) (h : r.length ≤ f) : numberF f r = numberT r := by
  unfold numberF numberT
  have h1 : (r.drop (Fx.lenP (numText r))).length ≤ f := by rw [List.length_drop]; omega
  simp only [nmF_eq f _ h1]
theorem nextF_eq (f : Nat) (r : List Int) (h : r.length ≤ f) : nextF f r = nextT r := by
  have h5 : r.tail.length ≤ r.length := by simp
  unfold nextF nextT
  simp only [numberF_eq f r h, nmF_eq f r h, nmF_eq f r.tail (by omega), qtF_eq _ f r.tail (by omega)]
  rfl
theorem scF_eq (f : Nat) : ∀ (g : Nat) (r : List Int), r.length ≤ f → r.length < g → scF g f r = scanT r := by
  intro g
  induction g with
  | zero => intro r _ h; omega
  | succ g ih =>
    intro r hf hg
    have h1 := spF_eq f r hf
    have h2 := spaces_len r
    unfold scF
    rw [h1]
    by_cases he : (spacesT r).2 = []
    · rw [if_pos he, scanT_end he]
    · have h3 := next_lt he
      rw [if_neg he, scanT_step he, nextF_eq f _ (by omega), ih _ (by omega) (by omega)]
theorem scan_run (r : List Int) : scanT r = scF (r.length + 1) r.length r := (scF_eq _ _ _ (Nat.le_refl _) (Nat.lt_succ_self _)).symm
theorem awake_scan : scanT (readP [97, 58, 49, 46, 53, 101, 109, 47, 42, 42, 47, 98]) = [⟨2, [97], 0⟩, ⟨14, [], 0⟩, ⟨10, [101, 109], 1500⟩, ⟨2, [98], 0⟩] := by
  rw [scan_run]; decide +kernel
end Go.Proofs.YthkagpefgkpgeaaDoor
/- Layer 3: the laws' Same is walked. -/
set_option linter.unusedVariables false
set_option linter.unusedSimpArgs false
namespace Go.Proofs.YthkagpefgkpgeaaDoor
open Go.RowKit Rn Tk
theorem cellsG_len (l : List GTok) : (cellsG l).length = l.length * 3 := by
  induction l with
  | nil => rfl
  | cons t l ih => simp only [cellsG, List.flatMap_cons, List.length_append] at *; rw [ih]; simp [cells1]; omega
theorem cellsG_at (l : List GTok) : ∀ (k : Nat) (t : GTok), l[k]? = some t → (cellsG l)[k * 3]? = some (.int .i64 t.kind) ∧ (cellsG l)[k * 3 + 1]? = some (.string (bytesOf t.text)) ∧ (cellsG l)[k * 3 + 2]? = some (.int .i64 t.n) := by
  induction l with
  | nil => intro k t h; simp at h
  | cons s l ih =>
    intro k t h
    have e : cellsG (s :: l) = [.int .i64 s.kind, .string (bytesOf s.text), .int .i64 s.n] ++ cellsG l := rfl
    rw [e]
    cases k with
    | zero => simp at h; subst h; exact ⟨rfl, rfl, rfl⟩
    | succ k =>
      obtain ⟨h1, h2, h3⟩ := ih k t (by simpa using h)
      refine ⟨?_, ?_, ?_⟩ <;> rw [List.getElem?_append_right (by simp; omega)]
      · rw [show (k + 1) * 3 - [Value.int .i64 s.kind, .string (bytesOf s.text), .int .i64 s.n].length = k * 3 by simp; omega]; exact h1
      · rw [show (k + 1) * 3 + 1 - [Value.int .i64 s.kind, .string (bytesOf s.text), .int .i64 s.n].length = k * 3 + 1 by simp; omega]; exact h2
      · rw [show (k + 1) * 3 + 2 - [Value.int .i64 s.kind, .string (bytesOf s.text), .int .i64 s.n].length = k * 3 + 2 by simp; omega]; exact h3
abbrev ReadsT (w : World) (B : Nat) (A : Option Addr) (n : Nat) (l : List GTok) : Prop := Reads w B 3 A n (cellsG l)
theorem ReadsT.len {w : World} {B n : Nat} {A : Option Addr} {l : List GTok} (h : ReadsT w B A n l) : l.length = n := by
  have := h.1; rw [cellsG_len] at this; omega
theorem ReadsT.at_ {w : World} {B n : Nat} {A : Option Addr} {l : List GTok} (h : ReadsT w B A n l) {k : Nat} (hk : k < n) : ∃ b off t, A = some ⟨b, off, none⟩ ∧ b < B ∧ l[k]? = some t ∧ w.cell? ⟨b, off + k * 3, none⟩ = some (.int .i64 t.kind) ∧ w.cell? ⟨b, off + k * 3 + 1, none⟩ = some (.string (bytesOf t.text)) ∧ w.cell? ⟨b, off + k * 3 + 2, none⟩ = some (.int .i64 t.n) := by
  obtain ⟨b, off, hA, hb, hc⟩ := h.2 (by omega)
  have hl := h.len
  obtain ⟨h1, h2, h3⟩ := cellsG_at l k l[k] (List.getElem?_eq_getElem (by omega))
  exact ⟨b, off, l[k], hA, hb, List.getElem?_eq_getElem (by omega), hc _ _ h1, hc _ _ h2, hc _ _ h3⟩
theorem tok_under : Tryd.prog.underlying 29 = some (.struct (Tryd.prog.fieldsOf 29)) := by kernel_rfl
theorem tok_stood : Tryd.prog.stoodInHeld 29 = false := by kernel_rfl
theorem tok_guard : Tryd.prog.eqGuardType Tryd.prog.depth 29 = false := by kernel_rfl
theorem tok_fields : (Tryd.prog.fieldsOf 29).toList.map (fun f => (f.name, f.type, f.offset)) = [("Kind", 3, 0), ("Text", 9, 1), ("N", 3, 2)] := by kernel_rfl
theorem int_size1 (w : World) : (part 3 #[] 0).run Tryd.prog w = (part 3 #[] 0).run Tryd.prog w := rfl
theorem bytes_ne (a b : List UInt8) : ((bytesOf a).toList == (bytesOf b).toList) = decide (a = b) := by
  rw [bytesOf_toList, bytesOf_toList]; rw [Bool.eq_iff_iff]; simp
#print axioms tok_fields
theorem toks_neq (x y : GTok) (w : World) : (binOp .neq 29 (.agg #[.int .i64 x.kind, .string (bytesOf x.text), .int .i64 x.n]) (.agg #[.int .i64 y.kind, .string (bytesOf y.text), .int .i64 y.n])).run Tryd.prog w = .ok (.bool (decide (x ≠ y))) w := by
  have h1 := tok_under
  have h2 := tok_stood
  have h3 := Tryd.underlying3
  have h4 := Tryd.underlying9
  rw [run_neq_struct, run_equalIn_struct _ _ _ _ _ h1 h2]
  have hf := tok_fields
  generalize (Tryd.prog.fieldsOf 29).toList = fs at hf
  rcases fs with _ | ⟨a, _ | ⟨b, _ | ⟨c, _ | ⟨d, fs⟩⟩⟩⟩
  · simp at hf
  · simp at hf
  · simp at hf
  · simp only [List.map_cons, List.map_nil, List.cons.injEq, Prod.mk.injEq, and_true] at hf
    obtain ⟨⟨a1, a2, a3⟩, ⟨b1, b2, b3⟩, c1, c2, c3⟩ := hf
    simp [Op.eqFields, a1, a2, a3, b1, b2, b3, c1, c2, c3, go_sem, part, h3, h4]
    have hb := bytes_ne x.text y.text
    obtain ⟨xk, xt, xn⟩ := x
    obtain ⟨yk, yt, yn⟩ := y
    simp only [GTok.mk.injEq] at *
    by_cases e1 : xk = yk
    · by_cases e2 : xt = yt
      · by_cases e3 : xn = yn
        · subst e1 e2 e3; simp
        · subst e1 e2; simp [e3]
      · have : ¬ (bytesOf xt).toList = (bytesOf yt).toList := by rw [bytesOf_toList, bytesOf_toList]; exact e2
        simp [e1, e2, this]
    · simp [e1]
  · simp at hf
theorem toks_eql (x y : GTok) (w : World) : (binOp .eql 29 (.agg #[.int .i64 x.kind, .string (bytesOf x.text), .int .i64 x.n]) (.agg #[.int .i64 y.kind, .string (bytesOf y.text), .int .i64 y.n])).run Tryd.prog w = .ok (.bool (decide (x = y))) w := by
  have h1 := tok_under
  have h2 := tok_stood
  have h3 := Tryd.underlying3
  have h4 := Tryd.underlying9
  rw [run_eql_struct, run_equalIn_struct _ _ _ _ _ h1 h2]
  have hf := tok_fields
  generalize (Tryd.prog.fieldsOf 29).toList = fs at hf
  rcases fs with _ | ⟨a, _ | ⟨b, _ | ⟨c, _ | ⟨d, fs⟩⟩⟩⟩
  · simp at hf
  · simp at hf
  · simp at hf
  · simp only [List.map_cons, List.map_nil, List.cons.injEq, Prod.mk.injEq, and_true] at hf
    obtain ⟨⟨a1, a2, a3⟩, ⟨b1, b2, b3⟩, c1, c2, c3⟩ := hf
    simp [Op.eqFields, a1, a2, a3, b1, b2, b3, c1, c2, c3, go_sem, part, h3, h4]
    have hb := bytes_ne x.text y.text
    obtain ⟨xk, xt, xn⟩ := x
    obtain ⟨yk, yt, yn⟩ := y
    simp only [GTok.mk.injEq] at *
    by_cases e1 : xk = yk
    · by_cases e2 : xt = yt
      · by_cases e3 : xn = yn
        · subst e1 e2 e3; simp
        · subst e1 e2; simp [e3]
      · have : ¬ (bytesOf xt).toList = (bytesOf yt).toList := by rw [bytesOf_toList, bytesOf_toList]; exact e2
        simp [e1, e2, this]
    · simp [e1]
  · simp at hf
set_option maxRecDepth 100000 in
set_option maxHeartbeats 1000000 in
theorem toks_same (xs ys : List GTok) (A A' : Option Addr) (n m c c' : Nat) (w : World) (hx : ReadsT w w.heap.size A n xs) (hy : ReadsT w w.heap.size A' m ys) (hn : n ≤ 1000000) :
    Calls Tryd.prog 10 #[.slice A n c, .slice A' m c'] w fun e w' => e = .returned (.bool (decide (xs = ys))) ∧ Below w.heap.size w w' := by
  have hlx := hx.len
  have hly := hy.len
  have Hlx := Lib.hid hlx
  have Hly := Lib.hid hly
  clear hlx hly
  by_cases hnm : n = m
  · have hb0 : ((n : Int) != (m : Int)) = false := by simp [hnm]
    have Hnm := Lib.hid hnm
    clear hnm
    go_enter Tryd.func10, Tryd.ntmps10
    go_wp2
    go_loopw [13] (fun i wr => ∃ k : Nat, k ≤ n ∧ i = .int .i64 k ∧ Hid (xs.take k = ys.take k) ∧ Below w.heap.size w wr) (fun i _ => n - (intOf i).toNat)
    case atStart => exact ⟨0, by omega, rfl, rfl, Below.refl _ _⟩
    case round =>
      obtain ⟨k, hk, rfl, heq, hb⟩ := hrel
      by_cases hlt : k < n
      · obtain ⟨b, off, x, hA, hbl, hxk, f0, f1, f2⟩ := hx.at_ hlt
        obtain ⟨b', off', y, hA', hbl', hyk, g0, g1, g2⟩ := hy.at_ (k := k) (by have := Hnm.out; omega)
        subst hA hA'
        have hkm : k < m := by have := Hnm.out; omega
        have hki : (k : Int) < (n : Int) := by omega
        have hki' : (k : Int) < (m : Int) := by omega
        have hk0 : (0 : Int) ≤ (k : Int) := by omega
        replace f0 := (hb.cell (p := ⟨b, off + k * 3, none⟩) hbl).trans f0
        replace f1 := (hb.cell (p := ⟨b, off + k * 3 + 1, none⟩) hbl).trans f1
        replace f2 := (hb.cell (p := ⟨b, off + k * 3 + 2, none⟩) hbl).trans f2
        replace g0 := (hb.cell (p := ⟨b', off' + k * 3, none⟩) hbl').trans g0
        replace g1 := (hb.cell (p := ⟨b', off' + k * 3 + 1, none⟩) hbl').trans g1
        replace g2 := (hb.cell (p := ⟨b', off' + k * 3 + 2, none⟩) hbl').trans g2
        have Hxk := Lib.hid hxk
        have Hyk := Lib.hid hyk
        clear hxk hyk
        have hgu := tok_guard
        by_cases hxy : x = y
        · have hq := fun W => toks_neq x y W
          rw [show decide (x ≠ y) = false by simp [hxy]] at hq
          have Hxy := Lib.hid hxy
          clear hxy
          go_wp2
          go_quiet (fail)
          go_wp2
          go_roundw
          case rel => exact ⟨k + 1, by omega, by go_num, by show _ = _; rw [take_snoc _ _ _ Hxk.out, take_snoc _ _ _ Hyk.out, heq.out, Hxy.out], below_drewN hb _⟩
          case measure => simp [intOf]; omega
        · have hq := fun W => toks_neq x y W
          rw [show decide (x ≠ y) = true by simp [hxy]] at hq
          have Hxy := Lib.hid hxy
          clear hxy
          go_wp2
          go_quiet (fail)
          go_wp2
          go_ret
          refine ⟨ret_bool ?_, below_drewN hb _⟩
          have : ¬ xs = ys := by
            intro e
            have h1 := Hxk.out
            rw [e, Hyk.out] at h1
            injection h1 with h1
            exact Hxy.out h1.symm
          simp [this]
      · obtain rfl : k = n := by omega
        go_wp2
        go_ret
        refine ⟨ret_bool ?_, hb⟩
        have h1 := heq.out
        rw [List.take_of_length_le (by rw [Hlx.out]; omega), List.take_of_length_le (by rw [Hly.out, Hnm.out]; omega)] at h1
        simp [h1]
  · have hb0 : ((n : Int) != (m : Int)) = true := by simp; omega
    have Hnm := Lib.hid hnm
    clear hnm
    go_enter Tryd.func10, Tryd.ntmps10
    go_wp2
    go_ret
    refine ⟨ret_bool ?_, Below.refl _ _⟩
    have : ¬ xs = ys := by
      intro e
      exact Hnm.out (by rw [← Hlx.out, ← Hly.out, e])
    simp [this]
end Go.Proofs.YthkagpefgkpgeaaDoor
/- The laws' own helpers of layer 2 are walked: ints, same, awake. -/
set_option linter.unusedVariables false
set_option linter.unusedSimpArgs false
namespace Go.Proofs.YthkagpefgkpgeaaDoor
open Go.RowKit Rn

theorem RowAt.mark (w : World) (e : TypeId) (cs : Array Value) (k : Nat) (hk : cs.size ≤ k) : RowAt (w.alloc (.cells cs e (k, k + 1))) w.heap.size cs.toList := by
  refine ⟨by simp, fun j u hu => ?_⟩
  have hj : j < cs.size := by
    have := (List.getElem?_eq_some_iff.1 hu).1
    simpa using this
  have h := heap_alloc_new w (.cells cs e (k, k + 1))
  constructor
  · unfold World.cell?
    rw [h]
    simpa using hu
  · unfold World.frozen?
    rw [h]
    simp
    omega
theorem own_open {w : World} {base : Nat} {e : TypeId} {v : Value} {n : Nat} {xs : List Value} (h : w.ownsRow base e 1 v n xs) (hn : 0 < n) :
    ∃ g c, v = .slice (some ⟨g, 0, none⟩) n c ∧ base ≤ g ∧ g < w.heap.size ∧ n ≤ c ∧ c ≤ maxLen ∧ ∀ j u, xs[j]? = some u → w.cell? ⟨g, j, none⟩ = some u := by
  have hrd : ∀ A c, v = .slice A n c → Reads w w.heap.size 1 A n xs := fun A c e => Reads.of_own (c := c) (by rw [← e]; exact h)
  obtain ⟨h0, ⟨rfl, rfl⟩ | ⟨g, cap, cur, rfl, h1, h2, h3, h4, _⟩⟩ := id h
  · omega
  · obtain ⟨b, off, e, hb, hc⟩ := (hrd _ _ rfl).open_ hn
    injection e with e
    injection e with e1 e2
    subst e1 e2
    exact ⟨_, _, rfl, h1, hb, h3, h4, fun j u hu => by have := hc j u hu; rwa [Nat.zero_add] at this⟩
theorem awake_read : readP [240, 159, 152, 65, 13, 10] = [65533, 65, 10] := by decide +kernel
theorem awake_hex : hexI 102 = 15 := by decide
theorem awake_begins : beginsB 95 = true := by decide
end Go.Proofs.YthkagpefgkpgeaaDoor
/- Layer 3: what the laws ask of one sheet. -/
set_option linter.unusedVariables false
set_option linter.unusedSimpArgs false
namespace Go.Proofs.YthkagpefgkpgeaaDoor
open Go.RowKit Rn Tk
theorem awake_len : (scanT (readP [97, 58, 49, 46, 53, 101, 109, 47, 42, 42, 47, 98])).length = 4 := by rw [awake_scan]; rfl
set_option maxRecDepth 100000 in
set_option maxHeartbeats 1000000 in
theorem tk_awake (w : World) (hT : Tabs w) (hE : Env w) :
    Calls Tryd.prog 8 #[] w fun e w' => e = .returned (.bool true) ∧ Below w.heap.size w w' := by
  have kc := fun (w : World) (C : Array Value) (n c : Nat) => Lib.run_convert_bytes_const (P := Tryd.prog) w 22 5 C n c Tryd.underlying22 Tryd.underlying5
  have hgu := tok_guard
  have hq1 : ∀ W, (binOp .eql 29 (.agg #[.int .i64 2, .string (bytesOf [97]), .int .i64 0]) (.agg #[.int .i64 2, .string ⟨#[97]⟩, .int .i64 0])).run Tryd.prog W = .ok (.bool true) W := fun W => toks_eql ⟨2, [97], 0⟩ ⟨2, [97], 0⟩ W
  have hq2 : ∀ W, (binOp .eql 29 (.agg #[.int .i64 10, .string (bytesOf [101, 109]), .int .i64 1500]) (.agg #[.int .i64 10, .string ⟨#[101, 109]⟩, .int .i64 1500])).run Tryd.prog W = .ok (.bool true) W := fun W => toks_eql ⟨10, [101, 109], 1500⟩ ⟨10, [101, 109], 1500⟩ W
  have htl := bytesOf_toList [98]
  go_enter Tryd.func8, Tryd.ntmps8
  go_wp2_with fail
  have hrow := RowAt.mark w 5 (#[.int .u8 97, .int .u8 58, .int .u8 49, .int .u8 46, .int .u8 53, .int .u8 101, .int .u8 109, .int .u8 47, .int .u8 42, .int .u8 42, .int .u8 47, .int .u8 98]) 12 (by decide)
  have hsz : (w.alloc (.cells #[.int .u8 97, .int .u8 58, .int .u8 49, .int .u8 46, .int .u8 53, .int .u8 101, .int .u8 109, .int .u8 47, .int .u8 42, .int .u8 42, .int .u8 47, .int .u8 98] 5 (12, 13))).heap.size = w.heap.size + 1 := by simp
  have hb0 : Below w.heap.size w (w.alloc (.cells #[.int .u8 97, .int .u8 58, .int .u8 49, .int .u8 46, .int .u8 53, .int .u8 101, .int .u8 109, .int .u8 47, .int .u8 42, .int .u8 42, .int .u8 47, .int .u8 98] 5 (12, 13))) := (Below.refl _ _).alloc (Nat.le_refl _) _
  have hrd := hrow.reads (B := w.heap.size + 1) (by omega)
  refine (tk_scan [97, 58, 49, 46, 53, 101, 109, 47, 42, 42, 47, 98] _ 12 12 _ (by rw [hsz]; exact hrd) (Nat.le_refl _) (by unfold maxLen; omega) (hT.below hb0) (hE.below hb0)).mono ?_
  rintro e w1 ⟨hb1, hret⟩
  have hb2 : Below w.heap.size w w1 := hb0.trans (hb1.mono (by rw [hsz]; omega))
  unfold ScanRet at hret
  rw [if_neg (by rw [awake_len]; omega)] at hret
  obtain ⟨v, rfl, hown⟩ := hret
  rw [awake_scan] at hown
  obtain ⟨A, c, rfl, _, _⟩ := own_form hown
  obtain ⟨g, off, rfl, _, hc⟩ := (Reads.of_own hown).open_ (by decide)
  have c0 : w1.cell? ⟨g, off, none⟩ = some (.int .i64 2) := hc 0 _ rfl
  have c1 : w1.cell? ⟨g, off + 1, none⟩ = some (.string (bytesOf [97])) := hc 1 _ rfl
  have c2 : w1.cell? ⟨g, off + 2, none⟩ = some (.int .i64 0) := hc 2 _ rfl
  have c6 : w1.cell? ⟨g, off + 6, none⟩ = some (.int .i64 10) := hc 6 _ rfl
  have c7 : w1.cell? ⟨g, off + 7, none⟩ = some (.string (bytesOf [101, 109])) := hc 7 _ rfl
  have c8 : w1.cell? ⟨g, off + 8, none⟩ = some (.int .i64 1500) := hc 8 _ rfl
  have c10 : w1.cell? ⟨g, off + 10, none⟩ = some (.string (bytesOf [98])) := hc 10 _ rfl
  clear hc hown hb1 hrd hrow hb0 hT hE
  simp only [List.length_cons, List.length_nil]
  go_wp2
  go_ret
  exact ⟨rfl, hb2⟩
end Go.Proofs.YthkagpefgkpgeaaDoor
/- Layer 3: how long a decimal is hangs on its characters alone: plain laws. -/
set_option linter.unusedVariables false
set_option linter.unusedSimpArgs false
namespace Go.Proofs.YthkagpefgkpgeaaDoor
open Go.RowKit Rn Tk Fx
namespace Np
def asciiT (r : List Int) : List UInt8 := (r.takeWhile (fun c => decide (c < 128))).map Tk.byteOf
def numU (b : UInt8) : Bool := isD b || decide (b.toNat = 43 ∨ b.toNat = 45 ∨ b.toNat = 46 ∨ b.toNat = 101 ∨ b.toNat = 69)
/-- nothing of a decimal goes on there -/
def StopY (y : List UInt8) : Prop := ∀ b t, y = b :: t → numU b = false
theorem stop_isD {y : List UInt8} (h : StopY y) : digs y = 0 := by
  cases y with
  | nil => rfl
  | cons b t =>
    have := h b t rfl
    unfold numU at this
    simp at this
    unfold digs
    rw [List.takeWhile_cons, if_neg (by simp [this.1])]; rfl
theorem digs_app (x y : List UInt8) (h : StopY y) : digs (x ++ y) = digs x := by
  induction x with
  | nil => rw [List.nil_append, stop_isD h]; rfl
  | cons b t ih =>
    unfold digs at ih ⊢
    rw [List.cons_append, List.takeWhile_cons, List.takeWhile_cons]
    split
    · simp only [List.length_cons, ih]
    · rfl
theorem drop_app (x y : List UInt8) {i : Nat} (hi : i ≤ x.length) : (x ++ y).drop i = x.drop i ++ y := by
  rw [List.drop_append_of_le_length hi]
theorem sgn_app (x y : List UInt8) (h : StopY y) : sgn (x ++ y) = sgn x := by
  cases x with
  | nil =>
    cases y with
    | nil => rfl
    | cons b t =>
      have := h b t rfl
      unfold numU at this
      simp at this
      show (if b.toNat = 43 ∨ b.toNat = 45 then 1 else 0) = 0
      rw [if_neg (by omega)]
  | cons b t => rfl
theorem get_app (x y : List UInt8) (h : StopY y) {i : Nat} (hi : i ≤ x.length) : ((x ++ y)[i]? = some 46 ↔ x[i]? = some 46) ∧ isE (x ++ y)[i]? = isE x[i]? := by
  by_cases hl : i < x.length
  · rw [List.getElem?_append_left hl]; exact ⟨Iff.rfl, rfl⟩
  · rw [List.getElem?_append_right (by omega), show i - x.length = 0 by omega, List.getElem?_eq_none (by omega : x.length ≤ i)]
    cases y with
    | nil => exact ⟨Iff.rfl, rfl⟩
    | cons b t =>
      have := h b t rfl
      unfold numU at this
      simp at this
      refine ⟨⟨fun hb => ?_, fun hb => by cases hb⟩, ?_⟩
      · simp at hb; subst hb; exact absurd rfl this.2.2.2.1
      · simp [isE]; omega
theorem sgn_len (x : List UInt8) : sgn x ≤ x.length := by
  cases x with
  | nil => exact Nat.le_refl _
  | cons b t => simp only [sgn, List.length_cons]; split <;> omega
theorem exp_app (x y : List UInt8) (h : StopY y) : expLen (x ++ y) = expLen x := by
  unfold expLen
  rw [sgn_app x y h, drop_app x y (sgn_len x), digs_app _ y h]
theorem int_len (x : List UInt8) : sgn x + digs (x.drop (sgn x)) ≤ x.length := by
  have h1 := sgn_len x
  have h2 := digs_le (x.drop (sgn x))
  rw [List.length_drop] at h2; omega
theorem frac_app (x y : List UInt8) (h : StopY y) {a : Nat} (ha : a ≤ x.length) : ((x ++ y)[a]? = some 46 ∧ 0 < digs ((x ++ y).drop (a + 1))) ↔ (x[a]? = some 46 ∧ 0 < digs (x.drop (a + 1))) := by
  have hg := (get_app x y h ha).1
  constructor
  · rintro ⟨h1, h2⟩
    have h3 := hg.1 h1
    have hlt := (List.getElem?_eq_some_iff.1 h3).1
    rw [drop_app x y (by omega), digs_app _ y h] at h2
    exact ⟨h3, h2⟩
  · rintro ⟨h1, h2⟩
    have hlt := (List.getElem?_eq_some_iff.1 h1).1
    rw [drop_app x y (by omega), digs_app _ y h]
    exact ⟨hg.2 h1, h2⟩
theorem body_app (x y : List UInt8) (h : StopY y) : bodyLen (x ++ y) = bodyLen x := by
  unfold bodyLen
  simp only [sgn_app x y h, drop_app x y (sgn_len x), digs_app _ y h]
  have hf := frac_app x y h (int_len x)
  by_cases hc : x[sgn x + digs (x.drop (sgn x))]? = some 46 ∧ 0 < digs (x.drop (sgn x + digs (x.drop (sgn x)) + 1))
  · have hlt := (List.getElem?_eq_some_iff.1 hc.1).1
    rw [if_pos hc, if_pos (hf.2 hc), drop_app x y (by omega), digs_app _ y h]
  · rw [if_neg hc, if_neg (fun h' => hc (hf.1 h'))]
theorem some_app (x y : List UInt8) (h : StopY y) : some_ (x ++ y) = some_ x := by
  unfold some_
  simp only [sgn_app x y h, drop_app x y (sgn_len x), digs_app _ y h]
  rw [Bool.eq_iff_iff, decide_eq_true_iff, decide_eq_true_iff, frac_app x y h (int_len x)]
theorem body_len (x : List UInt8) : bodyLen x ≤ x.length := by
  unfold bodyLen
  simp only
  split
  · rename_i hc
    have hlt := (List.getElem?_eq_some_iff.1 hc.1).1
    have := digs_le (x.drop (sgn x + digs (x.drop (sgn x)) + 1))
    rw [List.length_drop] at this; omega
  · exact int_len x
theorem len_app (x y : List UInt8) (h : StopY y) : lenP (x ++ y) = lenP x := by
  unfold lenP
  rw [some_app x y h]
  split
  · rfl
  simp only [body_app x y h]
  have hb := body_len x
  have hg := (get_app x y h hb).2
  rw [hg]
  by_cases he : isE x[bodyLen x]? = true
  · have hlt : bodyLen x < x.length := by
      by_cases hl : bodyLen x < x.length
      · exact hl
      · rw [List.getElem?_eq_none (by omega)] at he; cases he
    rw [drop_app x y (by omega), exp_app _ y h]
  · rw [if_neg (fun h' => he h'.1), if_neg (fun h' => he h'.1)]
theorem numU_byte {c : Int} (h0 : 0 ≤ c) (h1 : c < 128) : numU (Tk.byteOf c) = numB c := by
  have : ∀ k : Fin 128, numU (Tk.byteOf (k.val : Int)) = numB (k.val : Int) := by decide +kernel
  have h := this ⟨c.toNat, by omega⟩
  have e : ((c.toNat : Nat) : Int) = c := by omega
  simp only [e] at h; exact h
theorem ascii_num (r : List Int) (hr : ∀ c ∈ r, 0 ≤ c) : ∃ y, asciiT r = numText r ++ y ∧ StopY y := by
  induction r with
  | nil => exact ⟨[], rfl, fun b t h => by cases h⟩
  | cons c r ih =>
    obtain ⟨y, h1, h2⟩ := ih (fun d hd => hr d (by simp [hd]))
    have hc := hr c (by simp)
    unfold asciiT numText at *
    cases hb : numB c with
    | true =>
      have hlt : c < 128 := by unfold numB at hb; simp at hb; omega
      have e1 : (c :: r).takeWhile (fun c => decide (c < 128)) = c :: r.takeWhile (fun c => decide (c < 128)) := by rw [List.takeWhile_cons]; simp [hlt]
      have e2 : (c :: r).takeWhile numB = c :: r.takeWhile numB := by rw [List.takeWhile_cons, hb]; rfl
      rw [e1, e2, List.map_cons, List.map_cons, h1]
      exact ⟨y, rfl, h2⟩
    | false =>
      have e2 : (c :: r).takeWhile numB = [] := by rw [List.takeWhile_cons, hb]; rfl
      rw [e2]
      refine ⟨_, (List.nil_append _).symm, ?_⟩
      intro b t hbt
      by_cases hlt : c < 128
      · have e1 : (c :: r).takeWhile (fun c => decide (c < 128)) = c :: r.takeWhile (fun c => decide (c < 128)) := by rw [List.takeWhile_cons]; simp [hlt]
        rw [e1, List.map_cons] at hbt
        injection hbt with e1 e2
        rw [← e1, numU_byte hc hlt, hb]
      · have e1 : (c :: r).takeWhile (fun c => decide (c < 128)) = [] := by rw [List.takeWhile_cons]; simp [hlt]
        rw [e1] at hbt
        cases hbt
theorem len_ascii (r : List Int) (hr : ∀ c ∈ r, 0 ≤ c) : lenP (asciiT r) = lenP (numText r) ∧ (asciiT r).take (lenP (numText r)) = (numText r).take (lenP (numText r)) := by
  obtain ⟨y, h1, h2⟩ := ascii_num r hr
  refine ⟨by rw [h1, len_app _ y h2], ?_⟩
  rw [h1, List.take_append_of_le_length]
  unfold lenP
  split
  · exact Nat.zero_le _
  simp only
  have hb := body_len (numText r)
  split
  · rename_i hc
    have hlt : bodyLen (numText r) < (numText r).length := by
      by_cases hl : bodyLen (numText r) < (numText r).length
      · exact hl
      · rw [List.getElem?_eq_none (by omega)] at hc; simp [isE] at hc
    have h3 : expLen ((numText r).drop (bodyLen (numText r) + 1)) ≤ ((numText r).drop (bodyLen (numText r) + 1)).length := by
      unfold expLen
      split
      · exact int_len _
      · exact Nat.zero_le _
    rw [List.length_drop] at h3; omega
  · exact hb
/-- may a decimal begin with that? -/
def numStart (c : Int) : Bool := decide (c = 43 ∨ c = 45 ∨ c = 46 ∨ (48 ≤ c ∧ c ≤ 57))
theorem num_none {r : List Int} (hr : ∀ c ∈ r, 0 ≤ c) (h : numStart (pk r 0) = false) : lenP (numText r) = 0 := by
  cases r with
  | nil => rfl
  | cons c r =>
    rw [pk_cons0] at h
    have hc := hr c (by simp)
    have hx : ∀ b t, numText (c :: r) = b :: t → isD b = false ∧ b.toNat ≠ 43 ∧ b.toNat ≠ 45 ∧ b.toNat ≠ 46 := by
      intro b t hbt
      unfold numText at hbt
      rw [List.takeWhile_cons] at hbt
      split at hbt
      · rename_i hb
        rw [List.map_cons] at hbt
        injection hbt with e1 e2
        unfold numStart at h
        simp at h
        have hlt : c < 128 := by unfold numB at hb; simp at hb; omega
        have hn : (b.toNat : Int) = c := by
          rw [← e1]; unfold Tk.byteOf; rw [UInt8.toNat_ofNat']; omega
        refine ⟨?_, by omega, by omega, by omega⟩
        unfold isD; simp; omega
      · cases hbt
    generalize numText (c :: r) = x at hx
    cases x with
    | nil => rfl
    | cons b t =>
      obtain ⟨h1, h2, h3, h4⟩ := hx b t rfl
      have hs : sgn (b :: t) = 0 := by show (if _ then 1 else 0) = 0; rw [if_neg (by omega)]
      have hd : digs (b :: t) = 0 := by unfold digs; rw [List.takeWhile_cons, if_neg (by simp [h1])]; rfl
      unfold lenP
      rw [if_pos]
      unfold some_
      simp only [hs, List.drop_zero, hd]
      simp
      intro hb; subst hb; exact absurd rfl h4
theorem number_none {r : List Int} (h : lenP (numText r) = 0) : numberT r = none := by unfold numberT; simp only [h, if_pos]
end Np
end Go.Proofs.YthkagpefgkpgeaaDoor
/- Layer 3: plain laws of the scanner's model: how many tokens there are, what each may be. No program in sight. -/
set_option linter.unusedVariables false
set_option linter.unusedSimpArgs false
namespace Go.Proofs.YthkagpefgkpgeaaDoor
open Go.RowKit Rn Tk
theorem spaces_true {r : List Int} (h : (spacesT r).1 = true) : (spacesT r).2.length < r.length := by
  fun_induction spacesT r with
  | case1 r h1 ih => exact Nat.lt_of_le_of_lt (spaces_len _) (tail_lt (white_ne h1))
  | case2 r h1 h2 ih =>
    have h3 := skipC_len r.tail.tail
    have h4 : r.tail.tail.length ≤ r.length := by simp; omega
    have := ih h; omega
  | case3 r => cases h
theorem scan_len (r : List Int) : (scanT r).length ≤ r.length := by
  have key : ∀ n, ∀ r : List Int, r.length ≤ n → (scanT r).length ≤ r.length := by
    intro n
    induction n with
    | zero =>
      intro r h
      have : r = [] := List.eq_nil_of_length_eq_zero (by omega)
      subst this; rw [scanT_nil]; exact Nat.le_refl _
    | succ n ih =>
      intro r hr
      have h2 := spaces_len r
      have h3 := fun h => spaces_true (r := r) h
      by_cases h : (spacesT r).2 = []
      · rw [scanT_end h]
        cases hb : (spacesT r).1 with
        | true => have := h3 hb; simp; omega
        | false => simp
      · have h1 := next_lt h
        have := ih (nextT (spacesT r).2).2 (by omega)
        rw [scanT_step h, List.length_append, List.length_cons]
        cases hb : (spacesT r).1 with
        | true => have := h3 hb; simp; omega
        | false => simp; omega
  exact key _ r (Nat.le_refl _)
/-- a token may be -/
def TokOk (t : Tok) : Prop :=
  1 ≤ t.kind ∧ t.kind ≤ 16 ∧ ((2 ≤ t.kind ∧ t.kind ≤ 5 ∨ t.kind = 10 ∨ 11 ≤ t.kind ∧ t.kind ≤ 13) → t.text ≠ []) ∧
  (¬ (2 ≤ t.kind ∧ t.kind ≤ 5 ∨ t.kind = 10 ∨ 11 ≤ t.kind ∧ t.kind ≤ 13) → t.kind ≠ 6 → t.kind ≠ 7 → t.text = []) ∧ (t.n ≠ 0 → 8 ≤ t.kind ∧ t.kind ≤ 10)
def headK (l : List Tok) : Nat := match l with
  | [] => 0
  | t :: _ => t.kind
def chainOk : List Tok → Prop
  | [] => True
  | t :: l => TokOk t ∧ (t.kind = 1 → headK l ≠ 1) ∧ (t.kind = 7 → headK l = 1) ∧ chainOk l
theorem write_ne {l : List Int} (h : l ≠ []) : writeP l ≠ [] := by
  obtain ⟨c, r, rfl⟩ := List.exists_cons_of_ne_nil h
  have e : writeP (c :: r) = Lib.encodeRune c ++ writeP r := by simp [writeP]
  rw [e]; exact enc_ne c _
theorem name_ne {r : List Int} (h : esc r = true ∨ withinB (pk r 0) = true) : writeP (nameT r).1 ≠ [] := write_ne (name_some h).2
theorem quote_bad (e : Int) (r : List Int) (h : (quoteT e r).2.1 = true) : pk (quoteT e r).2.2 0 = 10 := by
  fun_induction quoteT e r with
  | case1 => cases h
  | case2 => rfl
  | case3 t h => cases h
  | case4 c t h h2 h3 ih => exact ih h
  | case5 t h h2 h3 ih => exact ih h
  | case6 c t h h2 h3 h4 ih => exact ih h
theorem sign_ok (c : Int) : TokOk (signT c) ∧ (signT c).kind ≠ 1 ∧ (signT c).kind ≠ 7 := by
  have hk : (11 ≤ signK c ∧ signK c ≤ 16) := by unfold signK; (repeat' split) <;> omega
  have hw := write_ne (l := [c]) (by simp)
  unfold TokOk signT
  simp only
  refine ⟨⟨by omega, by omega, fun h => ?_, fun h _ _ => ?_, fun h => absurd rfl h⟩, by omega, by omega⟩
  · rw [if_pos (by omega)]; exact hw
  · rw [if_neg (by omega)]
theorem number_ok {r : List Int} {x : Tok × List Int} (h : numberT r = some x) : TokOk x.1 ∧ x.1.kind ≠ 1 ∧ x.1.kind ≠ 7 := by
  unfold numberT at h
  simp only [] at h
  split at h
  · cases h
  · split at h
    · rename_i hb
      cases h
      exact ⟨⟨by simp, by simp, fun _ => name_ne (beg_first hb), fun h => absurd (.inr (.inl rfl)) h, fun _ => by simp⟩, by simp, by simp⟩
    · split at h
      · cases h; exact ⟨⟨by simp, by simp, fun h => by simp at h, fun _ _ _ => rfl, fun _ => by simp⟩, by simp, by simp⟩
      · cases h; exact ⟨⟨by simp, by simp, fun h => by simp at h, fun _ _ _ => rfl, fun _ => by simp⟩, by simp, by simp⟩
theorem next_ok (r : List Int) : TokOk (nextT r).1 ∧ (nextT r).1.kind ≠ 1 ∧ ((nextT r).1.kind = 7 → whiteB (pk (nextT r).2 0) = true) := by
  unfold nextT
  simp only []
  split
  · by_cases hb : (quoteT (pk r 0) r.tail).2.1 = true
    · simp only [hb, if_true]
      exact ⟨⟨by simp, by simp, fun h => by simp at h, fun _ _ h => by simp at h, fun h => absurd rfl h⟩, by simp, fun _ => by rw [quote_bad _ _ hb]; decide⟩
    · simp only [hb, if_neg hb]
      exact ⟨⟨by simp, by simp, fun h => by simp at h, fun _ h _ => by simp at h, fun h => absurd rfl h⟩, by simp, fun h => by simp at h⟩
  · split
    · rename_i hc
      have hw : esc r.tail = true ∨ withinB (pk r.tail 0) = true := by
        rw [pk_tail]
        rcases hx : esc r.tail with _ | _
        · right; have := hc.2; rw [hx, Bool.or_false] at this; exact this
        · exact .inl rfl
      exact ⟨⟨by simp, by simp, fun _ => name_ne hw, fun h => by simp at h, fun h => absurd rfl h⟩, by simp, fun h => by simp at h⟩
    · split
      · rename_i x hx
        have := number_ok hx
        exact ⟨this.1, this.2.1, fun h => absurd h this.2.2⟩
      · split
        · rename_i hc
          exact ⟨⟨by simp, by simp, fun _ => name_ne (beg_first hc.2), fun h => by simp at h, fun h => absurd rfl h⟩, by simp, fun h => by simp at h⟩
        · split
          · rename_i hb
            have hn := name_ne (beg_first hb)
            split
            · exact ⟨⟨by simp, by simp, fun _ => hn, fun h => by simp at h, fun h => absurd rfl h⟩, by simp, fun h => by simp at h⟩
            · exact ⟨⟨by simp, by simp, fun _ => hn, fun h => by simp at h, fun h => absurd rfl h⟩, by simp, fun h => by simp at h⟩
          · have := sign_ok (pk r 0)
            exact ⟨this.1, this.2.1, fun h => absurd h this.2.2⟩
theorem space_ok : TokOk ⟨1, [], 0⟩ := ⟨by simp, by simp, fun h => by simp at h, fun _ _ _ => rfl, fun h => absurd rfl h⟩
theorem scan_head (r : List Int) : (spacesT r).1 = true → headK (scanT r) = 1 := by
  intro h
  by_cases he : (spacesT r).2 = []
  · rw [scanT_end he, if_pos h]; rfl
  · rw [scanT_step he, if_pos h]; rfl
theorem scan_chain (r : List Int) : chainOk (scanT r) := by
  have key : ∀ n, ∀ r : List Int, r.length ≤ n → chainOk (scanT r) := by
    intro n
    induction n with
    | zero =>
      intro r h
      have : r = [] := List.eq_nil_of_length_eq_zero (by omega)
      subst this; rw [scanT_nil]; trivial
    | succ n ih =>
      intro r hr
      have h2 := spaces_len r
      by_cases h : (spacesT r).2 = []
      · rw [scanT_end h]
        cases hb : (spacesT r).1 with
        | true => exact ⟨space_ok, fun _ => by simp [headK], fun h => by simp at h, trivial⟩
        | false => exact trivial
      · have h1 := next_lt h
        have hi := ih (nextT (spacesT r).2).2 (by omega)
        obtain ⟨o1, o2, o3⟩ := next_ok (spacesT r).2
        have tail : chainOk ((nextT (spacesT r).2).1 :: scanT (nextT (spacesT r).2).2) :=
          ⟨o1, fun h => absurd h o2, fun h => scan_head _ (by rw [spacesT_white (o3 h)]), hi⟩
        rw [scanT_step h]
        cases hb : (spacesT r).1 with
        | true => exact ⟨space_ok, fun _ => o2, fun h => by simp at h, tail⟩
        | false => exact tail
  exact key _ r (Nat.le_refl _)
theorem chain_at : ∀ (L : List Tok) (i : Nat) (t : Tok), chainOk L → L[i]? = some t → TokOk t ∧ (t.kind = 1 → headK (L.drop (i + 1)) ≠ 1) ∧ (t.kind = 7 → headK (L.drop (i + 1)) = 1)
  | [], i, t, _, h => by simp at h
  | s :: l, 0, t, hc, h => by
    simp at h; subst h
    exact ⟨hc.1, hc.2.1, hc.2.2.1⟩
  | s :: l, i + 1, t, hc, h => chain_at l i t hc.2.2.2 (by simpa using h)
theorem head_at (L : List Tok) (i : Nat) : headK (L.drop i) = ((L[i]?).map (·.kind)).getD 0 := by
  rw [← List.head?_drop]
  cases L.drop i <;> rfl
end Go.Proofs.YthkagpefgkpgeaaDoor
/- What the walks of layer 3's laws have in common. -/
set_option linter.unusedVariables false
set_option linter.unusedSimpArgs false
namespace Go.Proofs.YthkagpefgkpgeaaDoor
open Go.RowKit Rn Tk
theorem toks_reads {w : World} {b n : Nat} {v : Value} {l : List Tok} (h : w.ownsRow b 29 3 v n (toksV l)) : ∃ A c, v = .slice A n c ∧ ReadsT w w.heap.size A n (l.map Tok.g) := by
  obtain ⟨A, c, rfl, _, _⟩ := own_form h
  exact ⟨A, c, rfl, Reads.of_own h⟩
theorem ReadsT.below {w w' : World} {A : Option Addr} {n : Nat} {l : List GTok} (h : ReadsT w w.heap.size A n l) (hb : Below w.heap.size w w') : ReadsT w' w'.heap.size A n l := (Reads.below h hb).more hb.size
/-- []byte(s): a new block that reads as the text. -/
theorem conv_text {P : Program} {src dst e : TypeId} (hs : P.underlying src = some .string) (hd : P.underlying dst = some (.slice e)) (he : P.underlying e = some (.int .u8)) (w : World) (s : ByteArray) (l : List UInt8) (h : s = bytesOf l) (hl : l.length ≤ maxLen) :
    ∃ c W1, (convert src dst (.string s)).run P w = .ok (.slice (some ⟨w.heap.size, 0, none⟩) l.length c) W1 ∧ l.length ≤ c ∧ c ≤ maxLen ∧ Below w.heap.size w W1 ∧ Reads W1 W1.heap.size 1 (some ⟨w.heap.size, 0, none⟩) l.length (l.map b8) := by
  subst h
  have hsz := bytesOf_size l
  obtain ⟨c, W1, h1, h2, h3, h4⟩ := conv_bytes hs hd he w (bytesOf l)
  have hc : c ≤ maxLen := by
    have h5 := run_bytes_of_string w src dst e (bytesOf l) hs hd he
    rw [h1] at h5
    injection h5 with h5 _
    injection h5 with _ _ h5
    rw [h5]; exact grownCap_le_maxLen _ _ _ _ (by rw [hsz]; exact hl)
  rw [hsz] at h1 h2
  rw [bytesOf_list] at h4
  have := h4.reads (B := W1.heap.size) h4.1
  rw [List.length_map] at this
  exact ⟨c, W1, h1, h2, hc, h3, this⟩
/-- tokens of a literal -/
theorem lit_tok (w : World) (t : GTok) (cs : Array Value) (e : TypeId) (h : cs.toList = cells1 t) : ReadsT (w.alloc (.cells cs e)) (w.alloc (.cells cs e)).heap.size (some ⟨w.heap.size, 0, none⟩) 1 [t] := by
  have r := RowAt.new w e cs
  rw [h] at r
  refine ⟨by rw [cellsG_len]; rfl, fun _ => ⟨w.heap.size, 0, rfl, r.1, fun j u hu => ?_⟩⟩
  have hu' : (cells1 t)[j]? = some u := by simpa [cellsG] using hu
  rw [Nat.zero_add]; exact (r.2 j u hu').1
end Go.Proofs.YthkagpefgkpgeaaDoor
set_option linter.unusedVariables false
set_option linter.unusedSimpArgs false
namespace Go.Proofs.YthkagpefgkpgeaaDoor
open Go.RowKit Rn Tk
/-- bytes as characters -/
def chr (bs : List UInt8) : List Int := bs.map (fun b => (b.toNat : Int))
theorem chr_app (a b : List UInt8) : chr (a ++ b) = chr a ++ chr b := by simp [chr]
theorem chr_cons (x : UInt8) (b : List UInt8) : chr (x :: b) = (x.toNat : Int) :: chr b := rfl
theorem write_cons (c : Int) (r : List Int) : writeP (c :: r) = Lib.encodeRune c ++ writeP r := by simp [writeP]
theorem write_app (a b : List Int) : writeP (a ++ b) = writeP a ++ writeP b := by
  induction a with
  | nil => simp [writeP]
  | cons c r ih => rw [List.cons_append, write_cons, write_cons, ih, List.append_assoc]
theorem enc_low (b : UInt8) (h : b.toNat < 128) : Lib.encodeRune (b.toNat : Int) = [b] := by
  have : Lib.encodeRune (b.toNat : Int) = [((b.toNat : Int)).toNat.toUInt8] := by simp [Lib.encodeRune, Lib.encodeRuneZ_one (by omega : (0 : Int) ≤ b.toNat) (by omega : (b.toNat : Int) ≤ 127)]
  rw [this, Int.toNat_natCast]; simp
theorem write_chr : ∀ (bs : List UInt8), (∀ b ∈ bs, b.toNat < 128) → writeP (chr bs) = bs
  | [], _ => by simp [writeP, chr]
  | b :: bs, h => by
    rw [chr_cons, write_cons, enc_low b (h b (by simp)), write_chr bs (fun x hx => h x (by simp [hx]))]; rfl
theorem low_plain {b : UInt8} (h : b.toNat < 128) (h0 : b.toNat ≠ 0) (h12 : b.toNat ≠ 12) (h13 : b.toNat ≠ 13) : Plain (b.toNat : Int) := by
  refine ⟨?_, by omega, by omega, by omega⟩
  unfold isB; simp; omega
theorem read_chr (bs : List UInt8) (h : ∀ b ∈ bs, b.toNat < 128 ∧ b.toNat ≠ 0 ∧ b.toNat ≠ 12 ∧ b.toNat ≠ 13) : readP bs = chr bs := by
  have h1 := read_write (chr bs) (fun c hc => by
    obtain ⟨b, hb, rfl⟩ := List.mem_map.1 hc
    have := h b hb
    exact low_plain this.1 this.2.1 this.2.2.1 this.2.2.2)
  rw [write_chr bs (fun b hb => (h b hb).1)] at h1
  exact h1
theorem read_cons {b : UInt8} (h : b.toNat < 128) (h0 : b.toNat ≠ 0) (h12 : b.toNat ≠ 12) (h13 : b.toNat ≠ 13) (bs : List UInt8) : readP (b :: bs) = (b.toNat : Int) :: readP bs := by
  have hp := low_plain h h0 h12 h13
  have hn := next_enc (b.toNat : Int) hp.1 bs
  rw [enc_low b h] at hn
  have e : readP (b :: bs) = readF (bs.length + 1) ([b] ++ bs) := rfl
  rw [e, readF_char bs.length (by simp) (by rw [hn.1]; exact hp.2.1) (by rw [hn.1]; exact hp.2.2.2) (by rw [hn.1]; exact hp.2.2.1), hn.1, hn.2]
  rfl
/-- bytes below 128, no 0, 12, 13, ahead of others -/
theorem read_low : ∀ (a : List UInt8), (∀ b ∈ a, b.toNat < 128 ∧ b.toNat ≠ 0 ∧ b.toNat ≠ 12 ∧ b.toNat ≠ 13) → ∀ bs, readP (a ++ bs) = chr a ++ readP bs
  | [], _, bs => rfl
  | x :: a, h, bs => by
    have hx := h x (by simp)
    rw [List.cons_append, read_cons hx.1 hx.2.1 hx.2.2.1 hx.2.2.2, read_low a (fun b hb => h b (by simp [hb])) bs]; rfl
theorem nextC_low (bs : List UInt8) (h : nextC bs < 128) : nextC bs = ((bs[0]?.getD 0).toNat : Int) := by
  have hb0 := UInt8.toNat_lt (bs[0]?.getD 0)
  revert h
  unfold nextC
  simp only
  split
  · intro h; omega
  · rename_i h0
    split
    · intro h; omega
    · rename_i hs
      have hN : bN (bs[0]?.getD 0).toNat ≤ 4 := by unfold bN; (repeat' split) <;> omega
      have hok := (stop_ge bs (bN (bs[0]?.getD 0).toNat) (Nat.le_refl _) (by omega)).1 (by omega)
      obtain e | e | e | e : bN (bs[0]?.getD 0).toNat = 1 ∨ bN (bs[0]?.getD 0).toNat = 2 ∨ bN (bs[0]?.getD 0).toNat = 3 ∨ bN (bs[0]?.getD 0).toNat = 4 := by omega
      · rw [e]; simp only [val, if_true]; intro _; trivial
      · have hc : 194 ≤ (bs[0]?.getD 0).toNat ∧ (bs[0]?.getD 0).toNat < 224 := by revert e; unfold bN; (repeat' split) <;> omega
        rw [e]; simp only [val, if_true, if_neg (show ¬ (2 = 1) from by omega)]; omega
      · have hc : 224 ≤ (bs[0]?.getD 0).toNat ∧ (bs[0]?.getD 0).toNat < 240 := by revert e; unfold bN; (repeat' split) <;> omega
        obtain ⟨b1, g1, l1, u1⟩ := okAt_mem (hok 1 (by omega) (by omega))
        revert l1 u1
        rw [e]; simp only [val, if_true, if_neg (show ¬ (3 = 1) from by omega), if_neg (show ¬ (3 = 2) from by omega), g1, Option.getD_some]
        unfold loAt hiAt bLo bHi
        (repeat' split) <;> omega
      · have hc : 240 ≤ (bs[0]?.getD 0).toNat ∧ (bs[0]?.getD 0).toNat ≤ 244 := by revert e; unfold bN; (repeat' split) <;> omega
        obtain ⟨b1, g1, l1, u1⟩ := okAt_mem (hok 1 (by omega) (by omega))
        revert l1 u1
        rw [e]; simp only [val, if_neg (show ¬ (4 = 1) from by omega), if_neg (show ¬ (4 = 2) from by omega), if_neg (show ¬ (4 = 3) from by omega), g1, Option.getD_some]
        unfold loAt hiAt bLo bHi
        (repeat' split) <;> omega
theorem readF_low : ∀ (f : Nat) (bs : List UInt8), ∀ c ∈ readF f bs, c < 128 → c = 10 ∨ ∃ b ∈ bs, c = (b.toNat : Int)
  | 0, bs => by simp [readF]
  | f + 1, bs => by
    have ih : ∀ c ∈ readF f (bs.drop (nextN bs)), c < 128 → c = 10 ∨ ∃ b ∈ bs, c = (b.toNat : Int) := fun c hc h => by
      rcases readF_low f (bs.drop (nextN bs)) c hc h with e | ⟨b, hb, e⟩
      · exact .inl e
      · exact .inr ⟨b, List.mem_of_mem_drop hb, e⟩
    have hc := nextC_low bs
    unfold readF
    simp only
    split
    · simp
    · rename_i hne
      split
      · intro c h hl
        rcases List.mem_cons.1 h with rfl | h
        · omega
        · exact ih c h hl
      · split
        · exact ih
        · split
          · intro c h hl
            rcases List.mem_cons.1 h with rfl | h
            · exact .inl rfl
            · exact ih c h hl
          · intro c h hl
            rcases List.mem_cons.1 h with rfl | h
            · obtain ⟨b, t, rfl⟩ := List.exists_cons_of_ne_nil (by simpa using hne)
              exact .inr ⟨b, by simp, hc hl⟩
            · exact ih c h hl
theorem readP_low (bs : List UInt8) : ∀ c ∈ readP bs, c < 128 → c = 10 ∨ ∃ b ∈ bs, c = (b.toNat : Int) := readF_low _ bs
theorem readP_pos (bs : List UInt8) : ∀ c ∈ readP bs, 0 ≤ c := fun c h => (isB_range (readP_chars bs c h)).1

/-! White space and comments. -/
theorem spaces_twice (r : List Int) : spacesT (spacesT r).2 = (false, (spacesT r).2) := by
  fun_induction spacesT r with
  | case1 r h ih => exact ih
  | case2 r h h2 ih => exact ih
  | case3 r h h2 => exact spacesT_end (by simpa using h) h2
theorem scan_spaces (r : List Int) : scanT r = (if (spacesT r).1 = true then [⟨1, [], 0⟩] else []) ++ scanT (spacesT r).2 := by
  have h2 := spaces_twice r
  by_cases h : (spacesT r).2 = []
  · rw [scanT_end h, h, scanT_nil, List.append_nil]
  · rw [scanT_step h, scanT_step (r := (spacesT r).2) (by rw [h2]; exact h), h2]; simp
theorem scan_of_spaces {r r' : List Int} (h : spacesT r = spacesT r') : scanT r = scanT r' := by rw [scan_spaces r, h, ← scan_spaces r']
theorem skip_body : ∀ (x : List Int), (∀ c ∈ x, c ≠ 42) → ∀ rest, skipC (x ++ 42 :: 47 :: rest) = rest
  | [], _, rest => by rw [List.nil_append, skipC, if_pos ⟨rfl, rfl⟩]; rfl
  | c :: x, h, rest => by
    rw [List.cons_append, skipC, if_neg (by have := h c (by simp); omega)]
    exact skip_body x (fun d hd => h d (by simp [hd])) rest
theorem spaces_comment (x : List Int) (h : ∀ c ∈ x, c ≠ 42) (rest : List Int) : spacesT (47 :: 42 :: (x ++ 42 :: 47 :: rest)) = spacesT rest := by
  rw [spacesT_comment (by rw [pk_cons0]; decide) ⟨rfl, rfl⟩]
  show spacesT (skipC (x ++ 42 :: 47 :: rest)) = _
  rw [skip_body x h]
theorem spaces_white {c : Int} (h : whiteB c = true) (rest : List Int) : spacesT (c :: rest) = (true, (spacesT rest).2) := spacesT_white h
theorem spaces_none {c : Int} (h : whiteB c = false) (h2 : c ≠ 47) (rest : List Int) : spacesT (c :: rest) = (false, c :: rest) := spacesT_end h (fun e => h2 e.1)
theorem scan_white {c : Int} (h : whiteB c = true) (rest : List Int) : scanT (c :: rest) = ⟨1, [], 0⟩ :: scanT (spacesT rest).2 := by
  rw [scan_spaces, spaces_white h]; rfl
theorem scan_next {c : Int} (h : whiteB c = false) (h2 : c ≠ 47) (rest : List Int) : scanT (c :: rest) = (nextT (c :: rest)).1 :: scanT (nextT (c :: rest)).2 := by
  have := spaces_none h h2 rest
  rw [scanT_step (by rw [this]; simp), this]; rfl

/-! Names. -/
theorem esc_cons {c : Int} (h : c ≠ 92) (r : List Int) : esc (c :: r) = false := by unfold esc; rw [pk_cons0]; simp [h]
theorem esc_nil : esc [] = false := by decide
theorem name_all : ∀ (l : List Int), (∀ c ∈ l, withinB c = true) → ∀ (rest : List Int), esc rest = false → withinB (pk rest 0) = false → nameT (l ++ rest) = (l, rest)
  | [], _, rest, h1, h2 => nameT_end h1 h2
  | c :: l, h, rest, h1, h2 => by
    have hc := h c (by simp)
    have hne : c ≠ 92 := fun e => by subst e; revert hc; decide
    have ih := name_all l (fun d hd => h d (by simp [hd])) rest h1 h2
    rw [List.cons_append, nameT_in (esc_cons hne _) (by rw [pk_cons0]; exact hc)]
    show (c :: (nameT (l ++ rest)).1, (nameT (l ++ rest)).2) = _
    rw [ih]
theorem letter_facts {c : Int} (h : letterB c = true) : whiteB c = false ∧ c ≠ 47 ∧ c ≠ 34 ∧ c ≠ 39 ∧ c ≠ 35 ∧ c ≠ 64 ∧ Np.numStart c = false ∧ beginsB c = true ∧ withinB c = true := by
  have hb : beginsB c = true := by unfold beginsB; rw [h]; rfl
  have hc : (97 ≤ c ∧ c ≤ 122) ∨ (65 ≤ c ∧ c ≤ 90) := of_decide_eq_true h
  refine ⟨?_, by omega, by omega, by omega, by omega, by omega, ?_, hb, begins_within hb⟩
  · unfold whiteB; simp; omega
  · unfold Np.numStart; simp; omega
theorem nextT_name {c : Int} {r : List Int} (hc : letterB c = true) (hr : ∀ d ∈ r, 0 ≤ d) : nextT (c :: r) = if pk (nameT (c :: r)).2 0 = 40 then (⟨3, writeP (nameT (c :: r)).1, 0⟩, (nameT (c :: r)).2.tail) else (⟨2, writeP (nameT (c :: r)).1, 0⟩, (nameT (c :: r)).2) := by
  obtain ⟨f1, f2, f3, f4, f5, f6, f7, f8, f9⟩ := letter_facts hc
  have hn : numberT (c :: r) = none := Np.number_none (Np.num_none (fun d hd => by
    rcases List.mem_cons.1 hd with rfl | hd
    · have := of_decide_eq_true hc; omega
    · exact hr d hd) f7)
  have hb : beg (c :: r) = true := by unfold beg may; rw [pk_cons0, f8]; rfl
  unfold nextT
  simp only []
  rw [if_neg (by rw [pk_cons0]; omega), if_neg (by rw [pk_cons0]; intro h; exact f5 h.1), hn]
  simp only []
  rw [if_neg (by rw [pk_cons0]; intro h; exact f6 h.1), if_pos hb]
/-- a name ahead of what ends it -/
theorem scan_name {c : Int} {l rest : List Int} (hc : letterB c = true) (hl : ∀ d ∈ l, withinB d = true) (hp : ∀ d ∈ rest, 0 ≤ d) (h1 : esc rest = false) (h2 : withinB (pk rest 0) = false) :
    scanT (c :: l ++ rest) = if pk rest 0 = 40 then ⟨3, writeP (c :: l), 0⟩ :: scanT rest.tail else ⟨2, writeP (c :: l), 0⟩ :: scanT rest := by
  obtain ⟨f1, f2, f3, f4, f5, f6, f7, f8, f9⟩ := letter_facts hc
  have hn := name_all (c :: l) (fun d hd => by
    rcases List.mem_cons.1 hd with rfl | hd
    · exact f9
    · exact hl d hd) rest h1 h2
  have hl0 : ∀ d, withinB d = true → 0 ≤ d := fun d hd => by
    unfold withinB beginsB letterB digitB at hd; simp at hd; omega
  rw [List.cons_append] at hn ⊢
  rw [scan_next f1 f2, nextT_name hc (fun d hd => by
    rcases List.mem_append.1 hd with hd | hd
    · exact hl0 d (hl d hd)
    · exact hp d hd), hn]
  split <;> rfl
theorem beg_name {c : Int} (r : List Int) (hc : letterB c = true) : beg (c :: r) = true := by
  obtain ⟨f1, f2, f3, f4, f5, f6, f7, f8, f9⟩ := letter_facts hc
  unfold beg may; rw [pk_cons0, f8]; rfl
theorem within_pos {d : Int} (hd : withinB d = true) : 0 ≤ d := by unfold withinB beginsB letterB digitB at hd; simp at hd; omega
/-- a name alone -/
theorem scan_ident {c : Int} {l : List Int} (hc : letterB c = true) (hl : ∀ d ∈ l, withinB d = true) : scanT (c :: l) = [⟨2, writeP (c :: l), 0⟩] := by
  have := scan_name (rest := []) hc hl (by simp) esc_nil (by rw [pk_nil]; decide)
  rw [List.append_nil, pk_nil, if_neg (by decide), scanT_nil] at this
  exact this
/-- a name with a bracket behind it -/
theorem scan_func {c : Int} {l : List Int} (hc : letterB c = true) (hl : ∀ d ∈ l, withinB d = true) : scanT (c :: l ++ [40]) = [⟨3, writeP (c :: l), 0⟩] := by
  have := scan_name (rest := [40]) hc hl (by simp) (by decide) (by decide)
  rw [if_pos (by rfl)] at this
  rw [this]; show _ :: scanT [] = _; rw [scanT_nil]
theorem name_alone {c : Int} {l : List Int} (hc : letterB c = true) (hl : ∀ d ∈ l, withinB d = true) : nameT (c :: l) = (c :: l, []) := by
  have hn := name_all (c :: l) (fun d hd => by
    rcases List.mem_cons.1 hd with rfl | hd
    · exact (letter_facts hc).2.2.2.2.2.2.2.2
    · exact hl d hd) [] esc_nil (by rw [pk_nil]; decide)
  rw [List.append_nil] at hn; exact hn
/-- @ ahead of a name -/
theorem scan_at {c : Int} {l : List Int} (hc : letterB c = true) (hl : ∀ d ∈ l, withinB d = true) : scanT (64 :: c :: l) = [⟨4, writeP (c :: l), 0⟩] := by
  have hn : numberT (64 :: c :: l) = none := Np.number_none (Np.num_none (fun d hd => by
    rcases List.mem_cons.1 hd with rfl | hd
    · omega
    · rcases List.mem_cons.1 hd with rfl | hd
      · have := of_decide_eq_true hc; omega
      · exact within_pos (hl d hd)) (show Np.numStart 64 = false by decide))
  have e : nextT (64 :: c :: l) = (⟨4, writeP (c :: l), 0⟩, []) := by
    unfold nextT
    simp only []
    rw [if_neg (by rw [pk_cons0]; omega), if_neg (by rw [pk_cons0]; intro h; exact absurd h.1 (by decide)), hn]
    simp only []
    rw [if_pos ⟨rfl, beg_name l hc⟩, List.tail_cons, name_alone hc hl]
  rw [scan_next (by decide) (by decide), e, scanT_nil]
/-- # ahead of a name -/
theorem scan_hash {c : Int} {l : List Int} (hc : letterB c = true) (hl : ∀ d ∈ l, withinB d = true) : scanT (35 :: c :: l) = [⟨5, writeP (c :: l), 0⟩] := by
  have e : nextT (35 :: c :: l) = (⟨5, writeP (c :: l), 0⟩, []) := by
    unfold nextT
    simp only []
    rw [if_neg (by rw [pk_cons0]; omega), if_pos ⟨rfl, by rw [pk_cons, pk_cons0, (letter_facts hc).2.2.2.2.2.2.2.2]; rfl⟩, List.tail_cons, name_alone hc hl]
  rw [scan_next (by decide) (by decide), e, scanT_nil]

/-! Texts. -/
theorem quote_plain (q : Int) (hq : q = 34 ∨ q = 39) : ∀ (l : List Int), (∀ c ∈ l, c ≠ 34 ∧ c ≠ 39 ∧ c ≠ 92 ∧ c ≠ 10) → ∀ rest, quoteT q (l ++ q :: rest) = (l, false, rest)
  | [], _, rest => by
    rw [List.nil_append, quoteT_at (by simp), pk_cons0, if_neg (by omega), if_pos rfl]; rfl
  | c :: l, h, rest => by
    have hc := h c (by simp)
    rw [List.cons_append, quoteT_at (by simp), pk_cons0, if_neg hc.2.2.2, if_neg (by omega), if_neg (by rw [esc_cons hc.2.2.1]; decide), if_neg hc.2.2.1, List.tail_cons, quote_plain q hq l (fun d hd => h d (by simp [hd])) rest]
theorem scan_text (q : Int) (hq : q = 34 ∨ q = 39) (l : List Int) (h : ∀ c ∈ l, c ≠ 34 ∧ c ≠ 39 ∧ c ≠ 92 ∧ c ≠ 10) : scanT (q :: l ++ [q]) = [⟨6, writeP l, 0⟩] := by
  have e : nextT (q :: (l ++ [q])) = (⟨6, writeP l, 0⟩, []) := by
    unfold nextT
    simp only []
    rw [if_pos (by rw [pk_cons0]; omega), pk_cons0, List.tail_cons, quote_plain q hq l h []]; rfl
  rw [List.cons_append, scan_next (by rcases hq with rfl | rfl <;> decide) (by omega), e, scanT_nil]

/-! A colon. -/
theorem scan_colon (rest : List Int) (hr : ∀ c ∈ rest, 0 ≤ c) : scanT (58 :: rest) = ⟨14, [], 0⟩ :: scanT rest := by
  have hn : numberT (58 :: rest) = none := Np.number_none (Np.num_none (fun d hd => by
    rcases List.mem_cons.1 hd with rfl | hd
    · omega
    · exact hr d hd) (show Np.numStart 58 = false by decide))
  have hb : beg (58 :: rest) = false := by unfold beg may; rw [pk_cons0, esc_cons (by decide)]; rfl
  have e : nextT (58 :: rest) = (⟨14, [], 0⟩, rest) := by
    unfold nextT
    simp only []
    rw [if_neg (by rw [pk_cons0]; omega), if_neg (by rw [pk_cons0]; intro h; exact absurd h.1 (by decide)), hn]
    simp only []
    rw [if_neg (by rw [pk_cons0]; intro h; exact absurd h.1 (by decide)), if_neg (by rw [hb]; decide)]; rfl
  rw [scan_next (by decide) (by decide), e]
end Go.Proofs.YthkagpefgkpgeaaDoor
