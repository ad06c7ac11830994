/- Layer 1: a decimal put together of its parts, with whatever behind it: plain laws. -/
import Derived.Test.YthkagpefgkpgeaaGreatDoorB06
import Derived.Lib.SmallJoins
import Derived.OneCell
import Derived.Deep.CutBlock
/- Layer 1: Parse is walked. -/
set_option linter.unusedVariables false
set_option linter.unusedSimpArgs false
namespace Go.Proofs.YthkagpefgkpgeaaGreatDoor
open Go.RowKit Fx
/-- what the library's functions ask of the world -/
structure Env (w : World) : Prop where
  max : ∃ m, w.cell? ⟨2, 0, none⟩ = some (.int .i64 m)
  pow : Lib.TabIs Tryz.prog w "internal/strconv.uint64pow10" .u64 Lib.pow10Tab
theorem cell_lt {w : World} {b : Nat} {v : Value} (h : w.cell? ⟨b, 0, none⟩ = some v) : b < w.heap.size := by
  by_cases hb : b < w.heap.size
  · exact hb
  · exfalso
    have : w.heap[b]? = none := Array.getElem?_eq_none (by omega)
    simp [World.cell?, this] at h
theorem Env.below {w w' : World} (h : Env w) (hb : Below w.heap.size w w') : Env w' := by
  obtain ⟨⟨m, hm⟩, hp⟩ := h
  refine ⟨⟨m, ?_⟩, Joins.tab_stays (g := 5) (by kernel_rfl) hp hb (Nat.le_refl _)⟩
  have hlt := cell_lt hm
  have := hb.block 2 hlt
  simp only [World.cell?] at hm ⊢
  rw [this]; exact hm
set_option maxRecDepth 100000 in
theorem fx_digit (t : List UInt8) (i B : Nat) (w : World) (hv : w.cell? ⟨B, 0, none⟩ = some (.string (bytesOf t))) (hd : ∀ b ∈ t, isD b = true) (hl : t.length ≤ 100000000) :
    Calls Tryz.prog 67 #[.int .i64 i, .pointer (some ⟨B, 0, none⟩)] w fun e w' => e = .returned (.int .i64 (((t[i]?.map dv).getD 0 : Nat) : Int)) ∧ w = w' := by
  have hs := bytesOf_size t
  by_cases hi : i < t.length
  · have hb : t[i]? = some t[i] := List.getElem?_eq_getElem hi
    have hr := isD_range (hd _ (List.mem_of_getElem? hb))
    have hix := str_at (P := Tryz.prog) (T := 9) Tryz.underlying9 t .i64 i _ hb
    generalize t[i] = b at *
    have Hb := Lib.hid hb
    clear hb hd
    go_enter Tryz.func67, Tryz.ntmps67
    go_wp2
    go_ret
    exact ⟨ret_int (by rw [Hb.out]; simp [dv]; omega), rfl⟩
  · have Hb := Lib.hid (show t[i]? = none from List.getElem?_eq_none (by omega))
    clear hd
    go_enter Tryz.func67, Tryz.ntmps67
    go_wp2
    go_ret
    exact ⟨ret_int (by rw [Hb.out]; rfl), rfl⟩
theorem retIB {a b : Int} {c d : Bool} (h1 : a = b) (h2 : c = d) : Ending.returned (.tuple #[.int .i64 a, .bool c]) = Ending.returned (.tuple #[.int .i64 b, .bool d]) := by rw [h1, h2]
theorem powP_range (x : List UInt8) (h : ∀ b ∈ x.drop (sgn x), isD b = true) : -999999 ≤ powP x ∧ powP x ≤ 999999 := by
  have hn : (if x.length - sgn x ≤ 6 then val (x.drop (sgn x)) else 999999 : Nat) ≤ 999999 := by
    split
    · rename_i h6
      have := val_lt _ h
      rw [List.length_drop] at this
      have h2 : 10 ^ (x.length - sgn x) ≤ 10 ^ 6 := Nat.pow_le_pow_right (by omega) h6
      omega
    · omega
  unfold powP
  simp only []
  split
  · omega
  · split <;> omega
theorem bytes_ascii {l : List UInt8} (h : ∀ b ∈ l, b.toNat < 128) : ∀ (j : Nat) b, (bytesOf l).data.toList[j]? = some b → b.toNat < 128 := by
  intro j b hb
  rw [bytesOf_list] at hb
  exact h b (List.mem_of_getElem? hb)
theorem eE_ascii : ∀ (j : Nat) b, (⟨#[101, 69]⟩ : ByteArray).data.toList[j]? = some b → b.toNat < 128 := by
  intro j b hb
  have h := List.mem_of_getElem? hb
  simp at h
  rcases h with rfl | rfl <;> decide
set_option maxRecDepth 100000 in
set_option maxHeartbeats 900000 in
theorem fx_parse (l : List UInt8) (w : World) (hl : l.length ≤ 1000000) (hw : Env w) :
    Calls Tryz.prog 45 #[.string (bytesOf l)] w fun e w' => e = .returned (.tuple #[.int .i64 (parseP l), .bool (isP l)]) ∧ Below w.heap.size w w' := by
  have hs := bytesOf_size l
  by_cases hne : l = []
  · subst hne
    obtain ⟨e1, e2⟩ := str_none
    go_enter Tryz.func45, Tryz.ntmps45
    go_wp2
    go_ret2
    exact ⟨retIB rfl rfl, Below.refl _ _⟩
  · obtain ⟨e1, e2⟩ := str_some hne
    by_cases hlen : lenP l = l.length
    · have hisP : isP l = true := decide_eq_true ⟨hne, hlen⟩
      obtain ⟨sg, I, P, F, E, S2, X, D⟩ := dec_of_isP hisP
      have hdl := dec_len D
      have hsgl : sg.length ≤ l.length := by omega
      have hdl0 := Lib.hid hdl
      have hsg := dec_sgn D
      have Hlen := Lib.hid hlen
      have HD := Lib.hid D
      have Hsg := Lib.hid hsg
      have hf := str_from (P := Tryz.prog) (T := 9) Tryz.underlying9 l .i64 sg.length (by omega)
      have hia : Hid (Lib.indexAny (l.drop sg.length) [101, 69] = if E = [] then -1 else (((I ++ (P ++ F)).length : Nat) : Int)) := by
        show _ = _
        rw [← hsg]; exact dec_index D
      clear hlen D hsg hdl
      go_enter Tryz.func45, Tryz.ntmps45
      go_wp2_with fail
      refine (fx_length l w (by omega)).mono ?_
      rintro e w1 ⟨rfl, hb1⟩
      rw [Hlen.out]
      go_wp2_with fail
      refine (fx_sign l _ (by omega)).mono ?_
      rintro e w2 ⟨rfl, rfl⟩
      rw [Hsg.out]
      go_wp2_with fail
      refine (Tryz.strings_IndexAny_laid (bytesOf (l.drop sg.length)) ⟨#[101, 69]⟩ w1 (by rw [bytesOf_size, List.length_drop]; omega) (by decide) (bytes_ascii (by rw [← Hsg.out]; exact dec_ascii HD.out)) eE_ascii).mono ?_
      rintro e w2 ⟨rfl, hb2⟩
      rw [bytesOf_list, show (⟨#[101, 69]⟩ : ByteArray).data.toList = [101, 69] from rfl, hia.out]
      replace hb2 := hb1.trans (hb2.mono hb1.size)
      clear hb1
      obtain ⟨r, hr⟩ : ∃ r, (if E = [] then -1 else (((I ++ (P ++ F)).length : Nat) : Int)) = r := ⟨_, rfl⟩
      rw [hr]
      have Hr := Lib.hid hr
      clear hr
      go_upto_if 34 with (fail)
      go_cut [5, 6] (fun s t wx => s = .string (bytesOf (I ++ (P ++ F))) ∧ t = .string (bytesOf (expP l)) ∧ Below w.heap.size w wx)
      case first =>
        have hdr := dec_drop HD.out
        rw [Hsg.out] at hdr
        by_cases hE : E = []
        · have hr := Hr.out
          rw [if_pos hE] at hr
          subst hr
          have hx := dec_expP HD.out
          have hx1 : expP l = [] := by rcases hx with ⟨_, h⟩ | ⟨h, _⟩; exact h; exact absurd hE h
          have hx2 : l.drop sg.length = I ++ (P ++ F) := by
            rcases HD.out.hE with ⟨_, h2, h3⟩ | ⟨e, h1, _⟩
            · rw [hdr, hE, h2, h3]; simp
            · rw [hE] at h1; cases h1
          rw [hx2]
          go_wp2_with fail
          go_meet
          exact ⟨rfl, by rw [hx1]; rfl, hb2⟩
        · have hr := Hr.out
          rw [if_neg hE] at hr
          have hx := dec_expP HD.out
          have hx1 : expP l = (l.drop sg.length).drop ((I ++ (P ++ F)).length + 1) := by rcases hx with ⟨h, _⟩ | ⟨_, h⟩; exact absurd h hE; rw [Hsg.out] at h; exact h
          have hx2 : (l.drop sg.length).take (I ++ (P ++ F)).length = I ++ (P ++ F) := by rw [hdr, List.take_left]
          have hEp : 0 < E.length := List.length_pos_iff.2 hE
          have hlb : (I ++ (P ++ F)).length + 1 ≤ (l.drop sg.length).length := by
            have h9 := congrArg List.length hdr
            simp only [List.length_append] at h9 ⊢
            omega
          have h1 := str_to (P := Tryz.prog) (T := 9) Tryz.underlying9 (l.drop sg.length) .i64 (I ++ (P ++ F)).length (by omega)
          have h2 := str_from (P := Tryz.prog) (T := 9) Tryz.underlying9 (l.drop sg.length) .i64 ((I ++ (P ++ F)).length + 1) hlb
          rw [hx2] at h1
          rw [← hx1] at h2
          have hlb2 : (I ++ (P ++ F)).length ≤ 1000000 := by rw [List.length_drop] at hlb; omega
          generalize (I ++ (P ++ F)).length = N at *
          generalize I ++ (P ++ F) = body at *
          generalize l.drop sg.length = rest at *
          generalize expP l = ex at *
          subst hr
          push_cast at h2
          clear hx1 hx2 hdr hx
          go_wp2_with fail
          go_region
          all_goals (go_wp2_with fail; go_meet; exact ⟨rfl, rfl, hb2.drew⟩)
      case rest =>
        clear hb2
        obtain ⟨rfl, rfl, hb2⟩ := hcut
        have hIl : I.length ≤ 1000000 := by have := hdl0.out; omega
        have hFl : F.length ≤ 1000000 := by have := hdl0.out; omega
        have hIPF : (I ++ (P ++ F)).length ≤ 1000000 := by have := hdl0.out; simp only [List.length_append]; omega
        obtain ⟨m, hm⟩ := (hw.below hb2).max
        go_wp2_with fail
        refine (Tryz.strings_Cut (bytesOf (I ++ (P ++ F))) ⟨#[46]⟩ m _ (by rw [bytesOf_size]; omega) hm).mono ?_
        rintro e w3 ⟨rfl, n, rfl⟩
        rw [bytesOf_list, show (⟨#[46]⟩ : ByteArray).data.toList = [46] from rfl, (dec_cut HD.out).1, (dec_cut HD.out).2]
        rw [show (⟨I.toArray⟩ : ByteArray) = bytesOf I from rfl, show (⟨F.toArray⟩ : ByteArray) = bytesOf F from rfl]
        have hsI := bytesOf_size I
        have hsF := bytesOf_size F
        have hb3 := below_drewN hb2 n
        have hIF : ∀ b ∈ I ++ F, isD b = true := by
          intro b hb
          rcases List.mem_append.1 hb with h | h
          · exact HD.out.hI b h
          · exact HD.out.hF b h
        have HIF := Lib.hid hIF
        clear hIF
        have hel : (expP l).length ≤ l.length := by unfold expP; split <;> simp
        have hIF1 := bytesOf_size (I ++ F)
        rw [List.length_append] at hIF1
        obtain ⟨T, hT⟩ : ∃ T, (I ++ F).dropWhile (· == 48) = T := ⟨_, rfl⟩
        have hTl : T.length ≤ I.length + F.length := by
          rw [← hT]
          have := (List.dropWhile_suffix (· == (48 : UInt8)) (l := I ++ F)).length_le
          rwa [List.length_append] at this
        have hTD : ∀ b ∈ T, isD b = true := by rw [← hT]; exact dropWhile_all HIF.out
        have hsT := bytesOf_size T
        have hnum : numP l = foldN T ((I.length : Int) + powP (expP l) + 3 - ((I.length + F.length - T.length : Nat) : Int)) := by
          unfold numP
          rw [← HD.out.lI, ← HD.out.lF, foldN_trim, hT, List.length_append]
        have HT := Lib.hid hT
        have HTD := Lib.hid hTD
        have Hnum := Lib.hid hnum
        clear hT hTD hnum
        obtain ⟨pw, hpw⟩ : ∃ pw, powP (expP l) = pw := ⟨_, rfl⟩
        have hpwb : -999999 ≤ pw ∧ pw ≤ 999999 := by rw [← hpw]; exact powP_range _ (dec_exp_digits HD.out)
        have Hpw := Lib.hid hpw
        clear hpw
        go_wp2_with fail
        refine (fx_power (expP l) _ (by omega) (dec_exp_digits HD.out)).mono ?_
        rintro e w4 ⟨rfl, hb4⟩
        replace hb4 := hb3.trans (hb4.mono hb3.size)
        rw [Hpw.out]
        clear hb3 hb2
        rw [bytesOf_append]
        go_wp2_with fail
        refine (Tryz.strings_TrimLeft_one _ 48 (by decide) _).mono ?_
        rintro e w5 ⟨rfl, rfl⟩
        rw [bytesOf_list, show Lib.trimLeftB (I ++ F) 48 = T from HT.out, show (⟨T.toArray⟩ : ByteArray) = bytesOf T from rfl]
        have hTl2 : T.length ≤ 2000000 := by omega
        go_upto_block 0 with (fail)
        have hcell : (w5.alloc (.cells #[.string (bytesOf T)] 9)).cell? ⟨w5.heap.size, 0, none⟩ = some (.string (bytesOf T)) := by simp [World.cell?_alloc_new]
        have hb6 : Below w.heap.size w (w5.alloc (.cells #[.string (bytesOf T)] 9)) := hb4.alloc hb4.size _
        generalize w5.alloc (.cells #[.string (bytesOf T)] 9) = W6 at *
        generalize w5.heap.size = B at *
        obtain ⟨p, hp⟩ : ∃ p : Int, (I.length : Int) + pw + 3 - ((I.length : Int) + F.length - T.length) = p := ⟨_, rfl⟩
        have hpb : -4000000 ≤ p ∧ p ≤ 4000000 := by omega
        have hnum2 : numP l = foldN T p := by
          rw [Hnum.out, Hpw.out]; congr 1; omega
        have Hnum2 := Lib.hid hnum2
        rw [hp]
        clear hp hnum2 hpwb hTl hIF1 hsI hsF hel hb4
        go_cut [14] (fun s wx => s = .int .i64 (numP l : Nat) ∧ wx = W6)
        case first =>
          go_wp2_with fail
          go_loop [14, 16] (fun n k => ∃ i N : Nat, i ≤ p.toNat ∧ N = min (vA T i) M ∧ n = .int .i64 (N : Int) ∧ k = .int .i64 (i : Int)) (fun _ k => p.toNat - (intOf k).toNat)
          case atStart => exact ⟨0, 0, by omega, by simp [vA], rfl, rfl⟩
          case round =>
            obtain ⟨i, N, hi, hN, rfl, rfl⟩ := hrel
            have hNM : N ≤ 1099511627776 := by rw [hN]; exact Nat.min_le_right _ _
            have HN := Lib.hid hN
            clear hN
            have fin : ∀ (h : N = foldN T p), ((N : Nat) : Int) = (numP l : Nat) := by
              intro h; rw [Hnum2.out, ← h]
            have Hfin := Lib.hid fin
            clear fin
            by_cases c1 : (i : Int) < p
            · have d1 : decide ((i : Int) < p) = true := by simpa using c1
              by_cases c2 : N < 1099511627776
              · have d2 : decide ((N : Int) < 1099511627776) = true := by simp; omega
                by_cases c3 : i < T.length ∨ 0 < N
                · by_cases c4 : i < T.length + 60
                  · have d4 : decide ((i : Int) < (T.length : Int) + 60) = true := by simp; omega
                    obtain ⟨x, hx⟩ : ∃ x, ((T[i]?).map dv).getD 0 = x := ⟨_, rfl⟩
                    have hcall := fx_digit T i B W6 hcell HTD.out (by omega)
                    rw [hx] at hcall
                    have hx9 : x ≤ 9 := by
                      rw [← hx]
                      by_cases hi2 : i < T.length
                      · rw [List.getElem?_eq_getElem hi2]
                        have := isD_range (HTD.out _ (List.getElem_mem hi2))
                        simp [dv]; omega
                      · rw [List.getElem?_eq_none (by omega)]; simp
                    have hstep : min (10 * N + x) M = min (vA T (i + 1)) M := by rw [HN.out, ← hx]; exact vA_step T i
                    have Hstep := Lib.hid hstep
                    clear hx hstep
                    have hmin : min (10 * (N : Int) + x) 1099511627776 = ((min (10 * N + x) M : Nat) : Int) := by unfold M; omega
                    by_cases c5 : i < T.length
                    · have d5 : decide ((i : Int) < T.length) = true := by simp; omega
                      go_wp2_with fail
                      refine hcall.mono ?_
                      rintro e w7 ⟨rfl, rfl⟩
                      go_wp2
                      exact ⟨⟨i + 1, _, by omega, Hstep.out, rfl, rfl⟩, by simp [intOf]; omega⟩
                    · have d5 : decide ((i : Int) < T.length) = false := by simp; omega
                      have hN1 : 1 ≤ N := by omega
                      have hN2 : 0 < N := by omega
                      have d6 : decide ((0 : Int) < N) = true := by simp; omega
                      have d7 : decide (0 < N) = true := by simp; omega
                      have hNI : (N : Int) ≤ 1099511627776 := by omega
                      clear c3 c2 hNM hN1
                      go_wp2_with fail
                      refine hcall.mono ?_
                      rintro e w7 ⟨rfl, rfl⟩
                      go_wp2
                      exact ⟨⟨i + 1, _, by omega, Hstep.out, rfl, rfl⟩, by simp [intOf]; omega⟩
                  · have d4 : decide ((i : Int) < (T.length : Int) + 60) = false := by simp; omega
                    have d5 : decide ((i : Int) < T.length) = false := by simp; omega
                    exfalso
                    have hv : vA T i ≠ 0 := by intro h; have := HN.out; rw [h] at this; simp at this; omega
                    have := vA_far T (by omega) hv
                    have := HN.out
                    unfold M at *
                    omega
                · have d5 : decide ((i : Int) < T.length) = false := by simp; omega
                  have hN0 : N = 0 := by omega
                  have hv : vA T i = 0 := by have := HN.out; unfold M at this; omega
                  have hf : N = foldN T p := by
                    unfold foldN; rw [vA_nought T (by omega : i ≤ p.toNat) (by omega) hv, hN0]; rfl
                  have d6 : decide ((0 : Int) < N) = false := by simp; omega
                  have Hn := Lib.hid (Hfin.out hf)
                  have hz0 : (N : Int) ≤ 0 := by omega
                  have hTi : T.length ≤ i := by omega
                  clear c3 c2 hNM hN0 Hfin HN hf
                  generalize (N : Int) = z at *
                  go_wp2_with fail
                  go_meet
                  exact ⟨by rw [← Hn.out], rfl⟩
              · have d2 : decide ((N : Int) < 1099511627776) = false := by simp; omega
                have hf : N = foldN T p := by
                  have := HN.out
                  unfold foldN
                  rw [vA_full T (by omega : i ≤ p.toNat) (by unfold M at *; omega)]
                  unfold M; omega
                have Hn := Lib.hid (Hfin.out hf)
                clear c2 hNM Hfin HN hf
                generalize (N : Int) = z at *
                go_wp2_with fail
                go_meet
                exact ⟨by rw [← Hn.out], rfl⟩
            · have d1 : decide ((i : Int) < p) = false := by simpa using c1
              have hf : N = foldN T p := by
                unfold foldN
                have : i = p.toNat := by omega
                rw [HN.out, this]
              have Hn := Lib.hid (Hfin.out hf)
              clear hf
              go_wp2_with fail
              go_meet
              exact ⟨by rw [← Hn.out], rfl⟩
        case rest =>
          obtain ⟨rfl, rfl⟩ := hcut
          have hpos : 0 < l.length := List.length_pos_iff.2 hne
          obtain ⟨b, hb⟩ : ∃ b, l[0]? = some b := ⟨_, List.getElem?_eq_getElem hpos⟩
          have hix := str_at (P := Tryz.prog) (T := 9) Tryz.underlying9 l .i64 0 b hb
          rw [Int.ofNat_zero] at hix
          have hnb : numP l ≤ 1099511627776 := by rw [Hnum2.out]; exact Nat.min_le_right _ _
          have hpp : parseP l = if l[0]? = some 45 then -(numP l : Int) else (numP l : Int) := by unfold parseP; rw [if_pos hisP]
          have Hpp := Lib.hid hpp
          have Hb := Lib.hid hb
          have HisP := Lib.hid hisP
          clear hpp hb hisP
          generalize numP l = N at *
          by_cases hm : b.toNat = 45
          · have hv : parseP l = -(N : Int) := by
              rw [Hpp.out, if_pos]
              rw [Hb.out]; congr 1; exact UInt8.toNat_inj.1 hm
            have Hv := Lib.hid hv
            clear hv
            rw [hm] at hix
            go_wp2
            go_ret2
            exact ⟨retIB (by rw [Hv.out]) (by rw [HisP.out]), hb6⟩
          · have hv : parseP l = (N : Int) := by
              rw [Hpp.out, if_neg]
              rw [Hb.out]; intro h; injection h with h; subst h; exact hm rfl
            have Hv := Lib.hid hv
            have hc := byte_ne hm
            clear hv
            go_wp2
            go_ret2
            exact ⟨retIB (by rw [Hv.out]) (by rw [HisP.out]), hb6⟩
    · have hisP : isP l = false := decide_eq_false (by simp [hlen])
      have hp0 : parseP l = 0 := by unfold parseP; rw [hisP]; rfl
      have hc : ((lenP l : Int) == (l.length : Int)) = false := by simp; omega
      have H1 := Lib.hid hisP
      have H2 := Lib.hid hp0
      clear hisP hp0 hlen
      go_enter Tryz.func45, Tryz.ntmps45
      go_wp2_with fail
      refine (fx_length l w (by omega)).mono ?_
      rintro e w1 ⟨rfl, hb1⟩
      go_wp2
      go_ret2
      exact ⟨retIB (by rw [H2.out]) (by rw [H1.out]), hb1⟩
end Go.Proofs.YthkagpefgkpgeaaGreatDoor
set_option linter.unusedVariables false
set_option linter.unusedSimpArgs false
namespace Go.Proofs.YthkagpefgkpgeaaGreatDoor
open Go.RowKit Fx
namespace Fx
/-- parts that make a decimal -/
structure Parts (sg I P F E S2 X : List UInt8) : Prop where
  hsg : sg = [] ∨ ∃ b, sg = [b] ∧ (b.toNat = 43 ∨ b.toNat = 45)
  hI : ∀ b ∈ I, isD b = true
  hF : ∀ b ∈ F, isD b = true
  hP : (P = [] ∧ F = []) ∨ (P = [46] ∧ F ≠ [])
  hE : (E = [] ∧ S2 = [] ∧ X = []) ∨ (∃ e, E = [e] ∧ (e.toNat = 101 ∨ e.toNat = 69) ∧ X ≠ [])
  hS : S2 = [] ∨ ∃ b, S2 = [b] ∧ (b.toNat = 43 ∨ b.toNat = 45)
  hX : ∀ b ∈ X, isD b = true
  some : I ≠ [] ∨ F ≠ []
def glue (sg I P F E S2 X : List UInt8) : List UInt8 := sg ++ (I ++ (P ++ F)) ++ (E ++ (S2 ++ X))
end Fx
theorem Dec.parts {l sg I P F E S2 X : List UInt8} (D : Dec l sg I P F E S2 X) : Parts sg I P F E S2 X :=
  ⟨D.hsg, D.hI, D.hF, D.hP, D.hE, D.hS, D.hX, D.some⟩
theorem digs_app (I t : List UInt8) (h : ∀ b ∈ I, isD b = true) : digs (I ++ t) = I.length + digs t := by
  unfold digs
  induction I with
  | nil => simp
  | cons b I ih =>
    rw [List.cons_append, List.takeWhile_cons, if_pos (h b (by simp)), List.length_cons, ih (fun c hc => h c (by simp [hc])), List.length_cons]
    omega
theorem digs_stop {b : UInt8} (t : List UInt8) (h : isD b = false) : digs (b :: t) = 0 := by
  unfold digs; rw [List.takeWhile_cons, if_neg (by rw [h]; simp)]; rfl
theorem digs_nil : digs [] = 0 := rfl
theorem sgn_digit {b : UInt8} (t : List UInt8) (h : isD b = true) : sgn (b :: t) = 0 := by
  have := isD_range h
  unfold sgn; simp only []; rw [if_neg (by omega)]
theorem sgn_of {sg : List UInt8} (t : List UInt8) (h : sg = [] ∨ ∃ b, sg = [b] ∧ (b.toNat = 43 ∨ b.toNat = 45)) (h2 : sg = [] → sgn t = 0) : sgn (sg ++ t) = sg.length := by
  rcases h with h | ⟨b, h, hb⟩
  · rw [h]; exact h2 h
  · rw [h]; exact if_pos hb
theorem sgn_digits {X : List UInt8} (t : List UInt8) (hX : ∀ b ∈ X, isD b = true) (hne : X ≠ []) : sgn (X ++ t) = 0 := by
  cases X with
  | nil => exact absurd rfl hne
  | cons b X => exact sgn_digit _ (hX b (by simp))
theorem isE_notD {e : UInt8} (h : e.toNat = 101 ∨ e.toNat = 69) : isD e = false := by unfold isD; simp; omega
/-- the longest decimal is at least as long as the one that stands there; its parts are read, where an exponent stands or nothing is behind -/
theorem glue_body {sg I P F E S2 X : List UInt8} (D : Parts sg I P F E S2 X) (rest : List UInt8) (hr : E = [] → rest = []) :
    sgn (glue sg I P F E S2 X ++ rest) = sg.length ∧ digs ((glue sg I P F E S2 X ++ rest).drop sg.length) = I.length ∧ bodyLen (glue sg I P F E S2 X ++ rest) = sg.length + I.length + P.length + F.length ∧ some_ (glue sg I P F E S2 X ++ rest) = true
      ∧ intP (glue sg I P F E S2 X ++ rest) = I ∧ fracP (glue sg I P F E S2 X ++ rest) = F := by
  obtain ⟨Y, hY⟩ : ∃ Y, E ++ (S2 ++ X) ++ rest = Y := ⟨_, rfl⟩
  have hYd : digs Y = 0 ∧ Y[0]? ≠ some 46 := by
    rw [← hY]
    rcases D.hE with ⟨h1, h2, h3⟩ | ⟨e, h1, h2, _⟩
    · rw [h1, h2, h3, hr h1]; exact ⟨rfl, by simp⟩
    · rw [h1]
      refine ⟨digs_stop _ (isE_notD h2), ?_⟩
      simp; intro h; subst h; revert h2; decide
  have hl : glue sg I P F E S2 X ++ rest = sg ++ (I ++ (P ++ (F ++ Y))) := by rw [← hY]; unfold glue; simp
  have hs : sgn (sg ++ (I ++ (P ++ (F ++ Y)))) = sg.length := by
    refine sgn_of _ D.hsg fun _ => ?_
    by_cases hI : I = []
    · have hF : F ≠ [] := D.some.resolve_left (fun h => h hI)
      rcases D.hP with ⟨_, h⟩ | ⟨h, _⟩
      · exact absurd h hF
      · rw [hI, h]; rfl
    · exact sgn_digits _ D.hI hI
  have hd : (sg ++ (I ++ (P ++ (F ++ Y)))).drop sg.length = I ++ (P ++ (F ++ Y)) := by simp
  have hn : digs (I ++ (P ++ (F ++ Y))) = I.length := by
    rw [digs_app _ _ D.hI]
    rcases D.hP with ⟨h, h2⟩ | ⟨h, _⟩
    · rw [h, h2]; simp only [List.nil_append]; omega
    · rw [h]; rw [List.cons_append, digs_stop _ (by rfl)]; omega
  have hd2 : (sg ++ (I ++ (P ++ (F ++ Y)))).drop (sg.length + I.length) = P ++ (F ++ Y) := by
    rw [← List.drop_drop, hd]; simp
  have hat : (sg ++ (I ++ (P ++ (F ++ Y))))[sg.length + I.length]? = (P ++ (F ++ Y))[0]? := by
    rw [← hd2, List.getElem?_drop]; simp
  rw [hl]
  rcases D.hP with ⟨h, h2⟩ | ⟨h, h2⟩
  · have hno : ¬ (P ++ (F ++ Y))[0]? = some 46 := by rw [h, h2]; exact hYd.2
    have hI : I ≠ [] := D.some.resolve_right (fun h => h h2)
    have hIl := List.length_pos_iff.2 hI
    refine ⟨hs, by rw [hd, hn], ?_, ?_, ?_, ?_⟩
    · unfold bodyLen; simp only []; rw [hs, hd, hn, hat, if_neg (fun x => hno x.1), h, h2]; simp
    · unfold some_; simp only []; rw [hs, hd, hn]; simp [hIl]
    · unfold intP; rw [hs, hd, hn]; simp
    · unfold fracP; simp only []; rw [hs, hd, hn, hat, if_neg (fun x => hno x.1), h2]
  · have hyes : (P ++ (F ++ Y))[0]? = some 46 := by rw [h]; rfl
    have hFl := List.length_pos_iff.2 h2
    have hd3 : (sg ++ (I ++ (P ++ (F ++ Y)))).drop (sg.length + I.length + 1) = F ++ Y := by
      rw [← List.drop_drop, hd2, h]; rfl
    have hnF : digs (F ++ Y) = F.length := by rw [digs_app _ _ D.hF, hYd.1]; omega
    refine ⟨hs, by rw [hd, hn], ?_, ?_, ?_, ?_⟩
    · unfold bodyLen; simp only []; rw [hs, hd, hn, hat, hd3, hnF, if_pos ⟨hyes, hFl⟩, h]; simp; 
    · unfold some_; simp only []; rw [hs, hd, hn, hat, hd3, hnF]; simp [hyes, hFl]
    · unfold intP; rw [hs, hd, hn]; simp
    · unfold fracP; simp only []; rw [hs, hd, hn, hat, hd3, hnF, if_pos ⟨hyes, hFl⟩]; simp
theorem glue_len (sg I P F E S2 X : List UInt8) : (glue sg I P F E S2 X).length = sg.length + I.length + P.length + F.length + E.length + S2.length + X.length := by
  unfold glue; simp; omega
/-- a decimal with an exponent, whatever stands behind -/
theorem glue_exp {sg I P F E S2 X : List UInt8} (D : Parts sg I P F E S2 X) (hE : E ≠ []) (rest : List UInt8) :
    lenP (glue sg I P F E S2 X ++ rest) = (glue sg I P F E S2 X).length + digs rest ∧ expP (glue sg I P F E S2 X ++ rest) = S2 ++ X ++ rest := by
  obtain ⟨h1, h2, h3, h4, _, _⟩ := glue_body D rest (fun h => absurd h hE)
  obtain ⟨e, he1, he2, hX⟩ : ∃ e, E = [e] ∧ (e.toNat = 101 ∨ e.toNat = 69) ∧ X ≠ [] := by
    rcases D.hE with ⟨h, _⟩ | h
    · exact absurd h hE
    · exact h
  have hl : glue sg I P F E S2 X ++ rest = (sg ++ (I ++ (P ++ F))) ++ (e :: (S2 ++ (X ++ rest))) := by unfold glue; rw [he1]; simp
  have hA : (sg ++ (I ++ (P ++ F))).length = sg.length + I.length + P.length + F.length := by simp; omega
  have hat : (glue sg I P F E S2 X ++ rest)[sg.length + I.length + P.length + F.length]? = some e := by
    rw [hl, List.getElem?_append_right (by omega), hA]; simp
  have hdr : (glue sg I P F E S2 X ++ rest).drop (sg.length + I.length + P.length + F.length + 1) = S2 ++ (X ++ rest) := by
    rw [hl, ← List.drop_drop, ← hA, List.drop_left]; rfl
  have hie : isE (some e) = true := by unfold isE; simpa using he2
  have hsg : sgn (S2 ++ (X ++ rest)) = S2.length := sgn_of _ D.hS fun _ => sgn_digits _ D.hX hX
  have hXl := List.length_pos_iff.2 hX
  have hdx : digs ((S2 ++ (X ++ rest)).drop S2.length) = X.length + digs rest := by rw [List.drop_left, digs_app _ _ D.hX]
  have hexp : expLen (S2 ++ (X ++ rest)) = S2.length + (X.length + digs rest) := by
    unfold expLen; rw [hsg, hdx, if_pos (by omega)]
  have hSl : S2.length ≤ 1 := by
    rcases D.hS with h | ⟨b, h, _⟩ <;> rw [h] <;> simp
  constructor
  · unfold lenP
    simp only []
    rw [h4, if_neg (by simp), h3, hat, hdr, hexp, if_pos ⟨hie, by omega⟩, glue_len, he1]
    simp; omega
  · unfold expP
    rw [h3, hat, if_pos hie, hdr, List.append_assoc]
/-- parts make a decimal -/
theorem glue_is {sg I P F E S2 X : List UInt8} (D : Parts sg I P F E S2 X) :
    isP (glue sg I P F E S2 X) = true ∧ intP (glue sg I P F E S2 X) = I ∧ fracP (glue sg I P F E S2 X) = F ∧ expP (glue sg I P F E S2 X) = S2 ++ X ∧ lenP (glue sg I P F E S2 X) = (glue sg I P F E S2 X).length := by
  obtain ⟨h1, h2, h3, h4, h5, h6⟩ := glue_body D [] (fun _ => rfl)
  rw [List.append_nil] at h1 h2 h3 h4 h5 h6
  have hpos : 0 < (glue sg I P F E S2 X).length := by
    rw [glue_len]
    rcases D.some with h | h <;> have := List.length_pos_iff.2 h <;> omega
  have hne : glue sg I P F E S2 X ≠ [] := List.length_pos_iff.1 hpos
  have hlen : lenP (glue sg I P F E S2 X) = (glue sg I P F E S2 X).length ∧ expP (glue sg I P F E S2 X) = S2 ++ X := by
    by_cases hE : E = []
    · have hE2 : S2 = [] ∧ X = [] := by
        rcases D.hE with ⟨_, h, h2⟩ | ⟨e, h, _⟩
        · exact ⟨h, h2⟩
        · rw [hE] at h; cases h
      have hnone : (glue sg I P F E S2 X)[sg.length + I.length + P.length + F.length]? = none := by
        refine List.getElem?_eq_none ?_
        rw [glue_len, hE, hE2.1, hE2.2]; simp
      constructor
      · unfold lenP
        simp only []
        rw [h4, if_neg (by simp), h3, hnone, if_neg (fun h => by have := h.1; simp [isE] at this), glue_len, hE, hE2.1, hE2.2]; simp
      · unfold expP
        rw [h3, hnone, if_neg (by simp [isE]), hE2.1, hE2.2]; rfl
    · obtain ⟨a, b⟩ := glue_exp D hE []
      rw [List.append_nil] at a b
      rw [List.append_nil] at b
      exact ⟨by rw [a]; rfl, b⟩
  exact ⟨decide_eq_true ⟨hne, hlen.1⟩, h5, h6, hlen.2, hlen.1⟩
/-- a decimal is no longer than the longest one -/
theorem glue_le {sg I P F E S2 X : List UInt8} (D : Parts sg I P F E S2 X) (rest : List UInt8) : (glue sg I P F E S2 X).length ≤ lenP (glue sg I P F E S2 X ++ rest) := by
  by_cases hE : E = []
  · have hE2 : S2 = [] ∧ X = [] := by
      rcases D.hE with ⟨_, h, h2⟩ | ⟨e, h, _⟩
      · exact ⟨h, h2⟩
      · rw [hE] at h; cases h
    obtain ⟨l, hl⟩ : ∃ l, glue sg I P F E S2 X ++ rest = l := ⟨_, rfl⟩
    have hl2 : l = sg ++ (I ++ (P ++ (F ++ rest))) := by rw [← hl]; unfold glue; rw [hE, hE2.1, hE2.2]; simp
    have hs : sgn l = sg.length := by
      rw [hl2]
      refine sgn_of _ D.hsg fun _ => ?_
      by_cases hI : I = []
      · have hF : F ≠ [] := D.some.resolve_left (fun h => h hI)
        rcases D.hP with ⟨_, h⟩ | ⟨h, _⟩
        · exact absurd h hF
        · rw [hI, h]; rfl
      · exact sgn_digits _ D.hI hI
    have hd : l.drop sg.length = I ++ (P ++ (F ++ rest)) := by rw [hl2]; simp
    have hbody : some_ l = true ∧ (glue sg I P F E S2 X).length ≤ bodyLen l := by
      rw [glue_len, hE, hE2.1, hE2.2]
      rcases D.hP with ⟨h, h2⟩ | ⟨h, h2⟩
      · have hI : I ≠ [] := D.some.resolve_right (fun h => h h2)
        have hIl := List.length_pos_iff.2 hI
        have hdg : I.length ≤ digs (I ++ (P ++ (F ++ rest))) := by rw [digs_app _ _ D.hI]; omega
        constructor
        · unfold some_; simp only []; rw [hs, hd]; exact decide_eq_true (.inl (by omega))
        · unfold bodyLen; simp only []; rw [hs, hd, h, h2] at *; simp only [List.length_nil, List.nil_append] at *
          split <;> omega
      · have hFl := List.length_pos_iff.2 h2
        have hn : digs (I ++ (P ++ (F ++ rest))) = I.length := by rw [digs_app _ _ D.hI, h, List.cons_append, digs_stop _ (by rfl)]; omega
        have hd2 : l.drop (sg.length + I.length) = P ++ (F ++ rest) := by rw [← List.drop_drop, hd]; simp
        have hat : l[sg.length + I.length]? = some 46 := by
          have : l[sg.length + I.length]? = (P ++ (F ++ rest))[0]? := by rw [← hd2, List.getElem?_drop]; simp
          rw [this, h]; rfl
        have hd3 : l.drop (sg.length + I.length + 1) = F ++ rest := by rw [← List.drop_drop, hd2, h]; rfl
        have hnF : F.length ≤ digs (F ++ rest) := by rw [digs_app _ _ D.hF]; omega
        constructor
        · unfold some_; simp only []; rw [hs, hd, hn, hat, hd3]; exact decide_eq_true (.inr ⟨rfl, by omega⟩)
        · unfold bodyLen; simp only []; rw [hs, hd, hn, hat, hd3, if_pos ⟨rfl, by omega⟩, h]; simp; omega
    rw [hl]
    refine Nat.le_trans hbody.2 ?_
    unfold lenP
    simp only []
    rw [hbody.1, if_neg (by simp)]
    split <;> omega
  · rw [(glue_exp D hE rest).1]; omega
/-- a text's longest decimal, taken apart -/
theorem len_parts {l : List UInt8} (h : 0 < lenP l) : ∃ sg I P F E S2 X, Parts sg I P F E S2 X ∧ l.take (lenP l) = glue sg I P F E S2 X := by
  have hsome : some_ l = true := by
    cases hs : some_ l with
    | true => rfl
    | false => rw [lenP_none hs] at h; omega
  obtain ⟨A, hA⟩ : ∃ A, bodyLen l = A := ⟨_, rfl⟩
  have hAl := bodyLen_le l
  have ht := lenP_tail hsome hA
  have hk0 := sgn_le l
  have hn0 := digs_le (l.drop (sgn l))
  rw [List.length_drop] at hn0
  have e1 : l.take (sgn l + digs (l.drop (sgn l))) = l.take (sgn l) ++ intP l := by rw [List.take_add]; rfl
  have hItail : ∀ b ∈ intP l, isD b = true := by unfold intP; exact digs_all _
  have hFtail : ∀ b ∈ fracP l, isD b = true := by
    unfold fracP
    simp only []
    split
    · exact digs_all _
    · simp
  have hbody : ∃ P, l.take A = l.take (sgn l) ++ (intP l ++ (P ++ fracP l)) ∧ ((P = [] ∧ fracP l = []) ∨ (P = [46] ∧ fracP l ≠ [])) ∧ (intP l ≠ [] ∨ fracP l ≠ []) := by
    by_cases hd : l[sgn l + digs (l.drop (sgn l))]? = Option.some 46 ∧ 0 < digs (l.drop (sgn l + digs (l.drop (sgn l)) + 1))
    · have hF : fracP l = (l.drop (sgn l + digs (l.drop (sgn l)) + 1)).take (digs (l.drop (sgn l + digs (l.drop (sgn l)) + 1))) := by
        unfold fracP; simp only []; rw [if_pos hd]
      have hFl : (fracP l).length = digs (l.drop (sgn l + digs (l.drop (sgn l)) + 1)) := by
        have := digs_le (l.drop (sgn l + digs (l.drop (sgn l)) + 1))
        rw [hF, List.length_take]; omega
      have hA2 : A = sgn l + digs (l.drop (sgn l)) + 1 + digs (l.drop (sgn l + digs (l.drop (sgn l)) + 1)) := by
        rw [← hA]; unfold bodyLen; simp only []; rw [if_pos hd]
      have hFne : fracP l ≠ [] := by intro h0; rw [h0] at hFl; simp at hFl; omega
      refine ⟨[46], ?_, .inr ⟨rfl, hFne⟩, .inr hFne⟩
      rw [hA2, List.take_add, ← hF, take_snoc _ _ _ hd.1, e1]
      simp
    · have hF : fracP l = [] := by unfold fracP; simp only []; rw [if_neg hd]
      have hA2 : A = sgn l + digs (l.drop (sgn l)) := by
        rw [← hA]; unfold bodyLen; simp only []; rw [if_neg hd]
      have hIlen : (intP l).length = digs (l.drop (sgn l)) := by
        unfold intP; rw [List.length_take, List.length_drop]; omega
      refine ⟨[], ?_, .inl ⟨rfl, hF⟩, .inl ?_⟩
      · rw [hA2, e1, hF]; simp
      · intro h0
        rw [h0] at hIlen
        unfold some_ at hsome
        have hd2 := of_decide_eq_true hsome
        rcases hd2 with hd2 | hd2
        · simp at hIlen; omega
        · exact hd hd2
  obtain ⟨P, hb1, hb2, hb3⟩ := hbody
  by_cases hx : isE l[A]? = true ∧ 0 < digs (l.drop (A + 1 + sgn (l.drop (A + 1))))
  · have hL := ht.2 hx.1 _ _ rfl rfl
    rw [if_pos hx.2] at hL
    obtain ⟨e, he, hee⟩ : ∃ e, l[A]? = some e ∧ (e.toNat = 101 ∨ e.toNat = 69) := by
      rcases isE_cases l A with ⟨hge, hE⟩ | ⟨e, he, ⟨h1, _⟩ | ⟨h1, _⟩ | ⟨_, _, h3⟩⟩
      · rw [hE] at hx; exact absurd hx.1 (by simp)
      · exact ⟨e, he, .inl h1⟩
      · exact ⟨e, he, .inr h1⟩
      · rw [h3] at hx; exact absurd hx.1 (by simp)
    refine ⟨l.take (sgn l), intP l, P, fracP l, [e], (l.drop (A + 1)).take (sgn (l.drop (A + 1))), (l.drop (A + 1 + sgn (l.drop (A + 1)))).take (digs (l.drop (A + 1 + sgn (l.drop (A + 1))))), ⟨sgn_shape l, hItail, hFtail, hb2, .inr ⟨e, rfl, hee, ?_⟩, sgn_shape _, digs_all _, hb3⟩, ?_⟩
    · intro h0
      have h1 := congrArg List.length h0
      have := digs_le (l.drop (A + 1 + sgn (l.drop (A + 1))))
      rw [List.length_take, List.length_nil] at h1
      omega
    · rw [hL]
      unfold glue
      rw [← hb1]
      rw [List.take_add, List.take_add, take_snoc _ _ _ he]
      simp
  · have hL : lenP l = A := by
      cases hE : isE l[A]? with
      | false => exact ht.1 hE
      | true =>
        rw [hE] at hx
        have := ht.2 hE _ _ rfl rfl
        rw [if_neg (fun h => hx ⟨rfl, h⟩)] at this
        exact this
    refine ⟨l.take (sgn l), intP l, P, fracP l, [], [], [], ⟨sgn_shape l, hItail, hFtail, hb2, .inl ⟨rfl, rfl, rfl⟩, .inl rfl, by simp, hb3⟩, ?_⟩
    rw [hL]; unfold glue; rw [← hb1]; simp
/-- FixedBegins: the longest decimal is one -/
theorem begins_is (l : List UInt8) : isP (l.take (lenP l)) = decide (0 < lenP l) := by
  by_cases h : 0 < lenP l
  · obtain ⟨sg, I, P, F, E, S2, X, D, e⟩ := len_parts h
    rw [e, (glue_is D).1, decide_eq_true h]
  · have h0 : lenP l = 0 := by omega
    rw [h0]; rfl
/-- and none is longer -/
theorem begins_none (l : List UInt8) (k : Nat) (h : lenP l < k) (hk : k ≤ l.length) : isP (l.take k) = false := by
  cases hp : isP (l.take k) with
  | false => rfl
  | true =>
    exfalso
    obtain ⟨sg, I, P, F, E, S2, X, D⟩ := dec_of_isP hp
    have hD : l.take k = glue sg I P F E S2 X := D.all
    have := glue_le D.parts (l.drop k)
    rw [← hD, List.take_append_drop, List.length_take] at this
    omega
theorem lenP_le (l : List UInt8) : lenP l ≤ l.length := by
  by_cases h : 0 < lenP l
  · obtain ⟨sg, I, P, F, E, S2, X, D, e⟩ := len_parts h
    by_cases hle : lenP l ≤ l.length
    · exact hle
    · have h2 := (glue_is D).2.2.2.2
      rw [← e, List.take_of_length_le (by omega)] at h2
      omega
  · omega
end Go.Proofs.YthkagpefgkpgeaaGreatDoor
