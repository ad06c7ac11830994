/- Layer 1: a printed number, parsed: plain laws. -/
import Derived.Test.YtifedkilbpkpaaaGreatDoorB04
import Derived.Lib.SmallJoins
import Derived.OneCell
import Derived.Deep.CutBlock
import Derived.Test.YtifedkilbpkpaaaGreatDoorB01
import Derived.Laws.BitsAllLaws
import Derived.Deep.Cut
import Derived.Lib.ItoaNum
import Derived.Lib.AppendIntMem
/- Layer 1: Parse is walked. -/
set_option linter.unusedVariables false
set_option linter.unusedSimpArgs false
namespace Go.Proofs.YtifedkilbpkpaaaGreatDoor
open Go.RowKit Fx
section
variable {l sg I P F E S2 X : List UInt8} (D : Dec l sg I P F E S2 X)
include D
theorem dec_sgn : sgn l = sg.length := by
  have h := sgn_le l
  have := congrArg List.length D.lsg
  rw [List.length_take] at this; omega
theorem dec_drop : l.drop (sgn l) = (I ++ (P ++ F)) ++ (E ++ (S2 ++ X)) := by
  rw [dec_sgn D]
  conv => lhs; rw [D.all]
  rw [List.append_assoc, List.drop_left]
theorem dec_P : ∀ b ∈ P, b = 46 := by
  intro b hb
  rcases D.hP with ⟨h, _⟩ | ⟨h, _⟩ <;> rw [h] at hb <;> simp_all
theorem dec_body_low : ∀ b ∈ I ++ (P ++ F), b.toNat ≤ 57 := by
  intro b hb
  rw [List.mem_append, List.mem_append] at hb
  rcases hb with hb | hb | hb
  · exact (isD_range (D.hI b hb)).2
  · rw [dec_P D b hb]; decide
  · exact (isD_range (D.hF b hb)).2
theorem dec_index : Lib.indexAny (l.drop (sgn l)) [101, 69] = if E = [] then -1 else (((I ++ (P ++ F)).length : Nat) : Int) := by
  rw [dec_drop D]
  have hno : ∀ b ∈ I ++ (P ++ F), ([101, 69] : List UInt8).contains b = false := by
    intro b hb
    have := dec_body_low D b hb
    simp only [List.contains_eq_mem, decide_eq_false_iff_not, List.mem_cons, List.not_mem_nil, or_false]
    rintro (rfl | rfl) <;> revert this <;> decide
  rcases D.hE with ⟨h1, h2, h3⟩ | ⟨e, h1, h2, h3⟩
  · rw [if_pos h1, h1, h2, h3]
    refine Lib.indexAny_none ?_
    intro j b hj hb
    simp only [List.append_nil] at hb hj
    exact hno b (List.mem_of_getElem? hb)
  · rw [if_neg (by rw [h1]; simp)]
    refine Lib.indexAny_hit (x := e) ?_ ?_ ?_
    · intro j b hj hb
      rw [List.getElem?_append_left hj] at hb
      exact hno b (List.mem_of_getElem? hb)
    · rw [List.getElem?_append_right (Nat.le_refl _), Nat.sub_self, h1]; rfl
    · have : e = 101 ∨ e = 69 := by
        rcases h2 with h2 | h2
        · exact .inl (UInt8.toNat_inj.1 h2)
        · exact .inr (UInt8.toNat_inj.1 h2)
      rcases this with rfl | rfl <;> decide
theorem dec_ascii : ∀ b ∈ l.drop (sgn l), b.toNat < 128 := by
  intro b hb
  rw [dec_drop D, List.mem_append] at hb
  rcases hb with hb | hb
  · have := dec_body_low D b hb; omega
  rw [List.mem_append, List.mem_append] at hb
  rcases hb with hb | hb | hb
  · rcases D.hE with ⟨h1, _⟩ | ⟨e, h1, h2, _⟩
    · rw [h1] at hb; simp at hb
    · rw [h1] at hb; simp at hb; subst hb; omega
  · rcases D.hS with h1 | ⟨s, h1, h2⟩
    · rw [h1] at hb; simp at hb
    · rw [h1] at hb; simp at hb; subst hb; omega
  · have := isD_range (D.hX b hb); omega
theorem dec_cut : (Lib.cut (I ++ (P ++ F)) [46]).1 = I ∧ (Lib.cut (I ++ (P ++ F)) [46]).2.1 = F := by
  have hocc : ∀ (s : List UInt8) (j : Nat), Lib.occAt s [46] j = decide (s[j]? = some 46) := by
    intro s j
    unfold Lib.occAt
    by_cases hj : j < s.length
    · rw [List.drop_eq_getElem_cons hj, List.getElem?_eq_getElem hj]
      simp only [List.isPrefixOf, Bool.and_true, Option.some.injEq]
      exact Bool.eq_iff_iff.2 ⟨fun h => decide_eq_true (beq_iff_eq.1 h).symm, fun h => beq_iff_eq.2 (of_decide_eq_true h).symm⟩
    · rw [List.drop_eq_nil_of_le (by omega), List.getElem?_eq_none (by omega)]; rfl
  have hI : ∀ j : Nat, j < I.length → ¬ I[j]? = some 46 := by
    intro j hj h
    have := isD_range (D.hI 46 (List.mem_of_getElem? h))
    revert this; decide
  rcases D.hP with ⟨h1, h2⟩ | ⟨h1, h2⟩
  · have hn : Lib.index (I ++ (P ++ F)) [46] = -1 := by
      rw [h1, h2]
      refine Lib.index_none ?_
      intro j _
      rw [hocc, decide_eq_false_iff_not]
      simp only [List.append_nil]
      intro h
      exact hI j (List.getElem?_eq_some_iff.1 h).1 h
    unfold Lib.cut
    rw [hn, if_neg (by decide), h1, h2]
    simp
  · have hn : Lib.index (I ++ (P ++ F)) [46] = (I.length : Int) := by
      refine Lib.index_first (i := I.length) (by simp) ?_ ?_
      · rw [hocc, h1, List.getElem?_append_right (Nat.le_refl _), Nat.sub_self]; rfl
      · intro j hj
        rw [hocc, decide_eq_false_iff_not, List.getElem?_append_left hj]
        exact hI j hj
    unfold Lib.cut
    rw [hn, if_pos (by omega)]
    refine ⟨?_, ?_⟩
    · show List.take (Int.toNat (I.length : Int)) _ = _
      rw [Int.toNat_natCast, List.take_left]
    · show List.drop (Int.toNat (I.length : Int) + 1) _ = _
      rw [Int.toNat_natCast, ← List.drop_drop, List.drop_left, h1]; rfl
theorem dec_exp_digits : ∀ b ∈ (expP l).drop (sgn (expP l)), isD b = true := by rw [← D.lX]; exact D.hX
theorem dec_expP : (E = [] ∧ expP l = []) ∨ (E ≠ [] ∧ expP l = (l.drop (sgn l)).drop ((I ++ (P ++ F)).length + 1)) := by
  rcases D.hE with ⟨h1, h2, h3⟩ | ⟨e, h1, h2, h3⟩
  · exact .inl ⟨h1, by rw [← D.lE, h2, h3]; rfl⟩
  · refine .inr ⟨by rw [h1]; simp, ?_⟩
    rw [dec_drop D, ← List.drop_drop, List.drop_left, h1, ← D.lE]; rfl
theorem dec_len : l.length = sg.length + (I.length + (P.length + F.length)) + (E.length + (S2.length + X.length)) := by
  have := congrArg List.length D.all
  simp only [List.length_append] at this
  omega
end
end Go.Proofs.YtifedkilbpkpaaaGreatDoor
/- Layer 1: Parse is walked. -/
set_option linter.unusedVariables false
set_option linter.unusedSimpArgs false
namespace Go.Proofs.YtifedkilbpkpaaaGreatDoor
open Go.RowKit Fx
/-- what the library's functions ask of the world -/
structure Env (w : World) : Prop where
  max : ∃ m, w.cell? ⟨2, 0, none⟩ = some (.int .i64 m)
  pow : Lib.TabIs Tryz.prog w "internal/strconv.uint64pow10" .u64 Lib.pow10Tab
theorem cell_lt {w : World} {b : Nat} {v : Value} (h : w.cell? ⟨b, 0, none⟩ = some v) : b < w.heap.size := by
  by_cases hb : b < w.heap.size
  · exact hb
  · exfalso
    have : w.heap[b]? = none := Array.getElem?_eq_none (by omega)
    simp [World.cell?, this] at h
theorem Env.below {w w' : World} (h : Env w) (hb : Below w.heap.size w w') : Env w' := by
  obtain ⟨⟨m, hm⟩, hp⟩ := h
  refine ⟨⟨m, ?_⟩, Joins.tab_stays (g := 3) (by kernel_rfl) hp hb (Nat.le_refl _)⟩
  have hlt := cell_lt hm
  have := hb.block 2 hlt
  simp only [World.cell?] at hm ⊢
  rw [this]; exact hm
set_option maxRecDepth 100000 in
theorem fx_digit (t : List UInt8) (i B : Nat) (w : World) (hv : w.cell? ⟨B, 0, none⟩ = some (.string (bytesOf t))) (hd : ∀ b ∈ t, isD b = true) (hl : t.length ≤ 100000000) :
    Calls Tryz.prog 85 #[.int .i64 i, .pointer (some ⟨B, 0, none⟩)] w fun e w' => e = .returned (.int .i64 (((t[i]?.map dv).getD 0 : Nat) : Int)) ∧ w = w' := by
  have hs := bytesOf_size t
  by_cases hi : i < t.length
  · have hb : t[i]? = some t[i] := List.getElem?_eq_getElem hi
    have hr := isD_range (hd _ (List.mem_of_getElem? hb))
    have hix := str_at (P := Tryz.prog) (T := 9) Tryz.underlying9 t .i64 i _ hb
    generalize t[i] = b at *
    have Hb := Lib.hid hb
    clear hb hd
    go_enter Tryz.func85, Tryz.ntmps85
    go_wp2
    go_ret
    exact ⟨ret_int (by rw [Hb.out]; simp [dv]; omega), rfl⟩
  · have Hb := Lib.hid (show t[i]? = none from List.getElem?_eq_none (by omega))
    clear hd
    go_enter Tryz.func85, Tryz.ntmps85
    go_wp2
    go_ret
    exact ⟨ret_int (by rw [Hb.out]; rfl), rfl⟩
theorem retIB {a b : Int} {c d : Bool} (h1 : a = b) (h2 : c = d) : Ending.returned (.tuple #[.int .i64 a, .bool c]) = Ending.returned (.tuple #[.int .i64 b, .bool d]) := by rw [h1, h2]
theorem powP_range (x : List UInt8) (h : ∀ b ∈ x.drop (sgn x), isD b = true) : -999999 ≤ powP x ∧ powP x ≤ 999999 := by
  have hn : (if x.length - sgn x ≤ 6 then val (x.drop (sgn x)) else 999999 : Nat) ≤ 999999 := by
    split
    · rename_i h6
      have := val_lt _ h
      rw [List.length_drop] at this
      have h2 : 10 ^ (x.length - sgn x) ≤ 10 ^ 6 := Nat.pow_le_pow_right (by omega) h6
      omega
    · omega
  unfold powP
  simp only []
  split
  · omega
  · split <;> omega
theorem bytes_ascii {l : List UInt8} (h : ∀ b ∈ l, b.toNat < 128) : ∀ (j : Nat) b, (bytesOf l).data.toList[j]? = some b → b.toNat < 128 := by
  intro j b hb
  rw [bytesOf_list] at hb
  exact h b (List.mem_of_getElem? hb)
theorem eE_ascii : ∀ (j : Nat) b, (⟨#[101, 69]⟩ : ByteArray).data.toList[j]? = some b → b.toNat < 128 := by
  intro j b hb
  have h := List.mem_of_getElem? hb
  simp at h
  rcases h with rfl | rfl <;> decide
set_option maxRecDepth 100000 in
set_option maxHeartbeats 900000 in
theorem fx_parse (l : List UInt8) (w : World) (hl : l.length ≤ 1000000) (hw : Env w) :
    Calls Tryz.prog 65 #[.string (bytesOf l)] w fun e w' => e = .returned (.tuple #[.int .i64 (parseP l), .bool (isP l)]) ∧ Below w.heap.size w w' := by
  have hs := bytesOf_size l
  by_cases hne : l = []
  · subst hne
    obtain ⟨e1, e2⟩ := str_none
    go_enter Tryz.func65, Tryz.ntmps65
    go_wp2
    go_ret2
    exact ⟨retIB rfl rfl, Below.refl _ _⟩
  · obtain ⟨e1, e2⟩ := str_some hne
    by_cases hlen : lenP l = l.length
    · have hisP : isP l = true := decide_eq_true ⟨hne, hlen⟩
      obtain ⟨sg, I, P, F, E, S2, X, D⟩ := dec_of_isP hisP
      have hdl := dec_len D
      have hsgl : sg.length ≤ l.length := by omega
      have hdl0 := Lib.hid hdl
      have hsg := dec_sgn D
      have Hlen := Lib.hid hlen
      have HD := Lib.hid D
      have Hsg := Lib.hid hsg
      have hf := str_from (P := Tryz.prog) (T := 9) Tryz.underlying9 l .i64 sg.length (by omega)
      have hia : Hid (Lib.indexAny (l.drop sg.length) [101, 69] = if E = [] then -1 else (((I ++ (P ++ F)).length : Nat) : Int)) := by
        show _ = _
        rw [← hsg]; exact dec_index D
      clear hlen D hsg hdl
      go_enter Tryz.func65, Tryz.ntmps65
      go_wp2_with fail
      refine (fx_length l w (by omega)).mono ?_
      rintro e w1 ⟨rfl, hb1⟩
      rw [Hlen.out]
      go_wp2_with fail
      refine (fx_sign l _ (by omega)).mono ?_
      rintro e w2 ⟨rfl, rfl⟩
      rw [Hsg.out]
      go_wp2_with fail
      refine (Tryz.strings_IndexAny_laid (bytesOf (l.drop sg.length)) ⟨#[101, 69]⟩ w1 (by rw [bytesOf_size, List.length_drop]; omega) (by decide) (bytes_ascii (by rw [← Hsg.out]; exact dec_ascii HD.out)) eE_ascii).mono ?_
      rintro e w2 ⟨rfl, hb2⟩
      rw [bytesOf_list, show (⟨#[101, 69]⟩ : ByteArray).data.toList = [101, 69] from rfl, hia.out]
      replace hb2 := hb1.trans (hb2.mono hb1.size)
      clear hb1
      obtain ⟨r, hr⟩ : ∃ r, (if E = [] then -1 else (((I ++ (P ++ F)).length : Nat) : Int)) = r := ⟨_, rfl⟩
      rw [hr]
      have Hr := Lib.hid hr
      clear hr
      go_upto_if 34 with (fail)
      go_cut [5, 6] (fun s t wx => s = .string (bytesOf (I ++ (P ++ F))) ∧ t = .string (bytesOf (expP l)) ∧ Below w.heap.size w wx)
      case first =>
        have hdr := dec_drop HD.out
        rw [Hsg.out] at hdr
        by_cases hE : E = []
        · have hr := Hr.out
          rw [if_pos hE] at hr
          subst hr
          have hx := dec_expP HD.out
          have hx1 : expP l = [] := by rcases hx with ⟨_, h⟩ | ⟨h, _⟩; exact h; exact absurd hE h
          have hx2 : l.drop sg.length = I ++ (P ++ F) := by
            rcases HD.out.hE with ⟨_, h2, h3⟩ | ⟨e, h1, _⟩
            · rw [hdr, hE, h2, h3]; simp
            · rw [hE] at h1; cases h1
          rw [hx2]
          go_wp2_with fail
          go_meet
          exact ⟨rfl, by rw [hx1]; rfl, hb2⟩
        · have hr := Hr.out
          rw [if_neg hE] at hr
          have hx := dec_expP HD.out
          have hx1 : expP l = (l.drop sg.length).drop ((I ++ (P ++ F)).length + 1) := by rcases hx with ⟨h, _⟩ | ⟨_, h⟩; exact absurd h hE; rw [Hsg.out] at h; exact h
          have hx2 : (l.drop sg.length).take (I ++ (P ++ F)).length = I ++ (P ++ F) := by rw [hdr, List.take_left]
          have hEp : 0 < E.length := List.length_pos_iff.2 hE
          have hlb : (I ++ (P ++ F)).length + 1 ≤ (l.drop sg.length).length := by
            have h9 := congrArg List.length hdr
            simp only [List.length_append] at h9 ⊢
            omega
          have h1 := str_to (P := Tryz.prog) (T := 9) Tryz.underlying9 (l.drop sg.length) .i64 (I ++ (P ++ F)).length (by omega)
          have h2 := str_from (P := Tryz.prog) (T := 9) Tryz.underlying9 (l.drop sg.length) .i64 ((I ++ (P ++ F)).length + 1) hlb
          rw [hx2] at h1
          rw [← hx1] at h2
          have hlb2 : (I ++ (P ++ F)).length ≤ 1000000 := by rw [List.length_drop] at hlb; omega
          generalize (I ++ (P ++ F)).length = N at *
          generalize I ++ (P ++ F) = body at *
          generalize l.drop sg.length = rest at *
          generalize expP l = ex at *
          subst hr
          push_cast at h2
          clear hx1 hx2 hdr hx
          go_wp2_with fail
          go_region
          all_goals (go_wp2_with fail; go_meet; exact ⟨rfl, rfl, hb2.drew⟩)
      case rest =>
        clear hb2
        obtain ⟨rfl, rfl, hb2⟩ := hcut
        have hIl : I.length ≤ 1000000 := by have := hdl0.out; omega
        have hFl : F.length ≤ 1000000 := by have := hdl0.out; omega
        have hIPF : (I ++ (P ++ F)).length ≤ 1000000 := by have := hdl0.out; simp only [List.length_append]; omega
        obtain ⟨m, hm⟩ := (hw.below hb2).max
        go_wp2_with fail
        refine (Tryz.strings_Cut (bytesOf (I ++ (P ++ F))) ⟨#[46]⟩ m _ (by rw [bytesOf_size]; omega) hm).mono ?_
        rintro e w3 ⟨rfl, n, rfl⟩
        rw [bytesOf_list, show (⟨#[46]⟩ : ByteArray).data.toList = [46] from rfl, (dec_cut HD.out).1, (dec_cut HD.out).2]
        rw [show (⟨I.toArray⟩ : ByteArray) = bytesOf I from rfl, show (⟨F.toArray⟩ : ByteArray) = bytesOf F from rfl]
        have hsI := bytesOf_size I
        have hsF := bytesOf_size F
        have hb3 := below_drewN hb2 n
        have hIF : ∀ b ∈ I ++ F, isD b = true := by
          intro b hb
          rcases List.mem_append.1 hb with h | h
          · exact HD.out.hI b h
          · exact HD.out.hF b h
        have HIF := Lib.hid hIF
        clear hIF
        have hel : (expP l).length ≤ l.length := by unfold expP; split <;> simp
        have hIF1 := bytesOf_size (I ++ F)
        rw [List.length_append] at hIF1
        obtain ⟨T, hT⟩ : ∃ T, (I ++ F).dropWhile (· == 48) = T := ⟨_, rfl⟩
        have hTl : T.length ≤ I.length + F.length := by
          rw [← hT]
          have := (List.dropWhile_suffix (· == (48 : UInt8)) (l := I ++ F)).length_le
          rwa [List.length_append] at this
        have hTD : ∀ b ∈ T, isD b = true := by rw [← hT]; exact dropWhile_all HIF.out
        have hsT := bytesOf_size T
        have hnum : numP l = foldN T ((I.length : Int) + powP (expP l) + 3 - ((I.length + F.length - T.length : Nat) : Int)) := by
          unfold numP
          rw [← HD.out.lI, ← HD.out.lF, foldN_trim, hT, List.length_append]
        have HT := Lib.hid hT
        have HTD := Lib.hid hTD
        have Hnum := Lib.hid hnum
        clear hT hTD hnum
        obtain ⟨pw, hpw⟩ : ∃ pw, powP (expP l) = pw := ⟨_, rfl⟩
        have hpwb : -999999 ≤ pw ∧ pw ≤ 999999 := by rw [← hpw]; exact powP_range _ (dec_exp_digits HD.out)
        have Hpw := Lib.hid hpw
        clear hpw
        go_wp2_with fail
        refine (fx_power (expP l) _ (by omega) (dec_exp_digits HD.out)).mono ?_
        rintro e w4 ⟨rfl, hb4⟩
        replace hb4 := hb3.trans (hb4.mono hb3.size)
        rw [Hpw.out]
        clear hb3 hb2
        rw [bytesOf_append]
        go_wp2_with fail
        refine (Tryz.strings_TrimLeft_one _ 48 (by decide) _).mono ?_
        rintro e w5 ⟨rfl, rfl⟩
        rw [bytesOf_list, show Lib.trimLeftB (I ++ F) 48 = T from HT.out, show (⟨T.toArray⟩ : ByteArray) = bytesOf T from rfl]
        have hTl2 : T.length ≤ 2000000 := by omega
        go_upto_block 0 with (fail)
        have hcell : (w5.alloc (.cells #[.string (bytesOf T)] 9)).cell? ⟨w5.heap.size, 0, none⟩ = some (.string (bytesOf T)) := by simp [World.cell?_alloc_new]
        have hb6 : Below w.heap.size w (w5.alloc (.cells #[.string (bytesOf T)] 9)) := hb4.alloc hb4.size _
        generalize w5.alloc (.cells #[.string (bytesOf T)] 9) = W6 at *
        generalize w5.heap.size = B at *
        obtain ⟨p, hp⟩ : ∃ p : Int, (I.length : Int) + pw + 3 - ((I.length : Int) + F.length - T.length) = p := ⟨_, rfl⟩
        have hpb : -4000000 ≤ p ∧ p ≤ 4000000 := by omega
        have hnum2 : numP l = foldN T p := by
          rw [Hnum.out, Hpw.out]; congr 1; omega
        have Hnum2 := Lib.hid hnum2
        rw [hp]
        clear hp hnum2 hpwb hTl hIF1 hsI hsF hel hb4
        go_cut [14] (fun s wx => s = .int .i64 (numP l : Nat) ∧ wx = W6)
        case first =>
          go_wp2_with fail
          go_loop [14, 16] (fun n k => ∃ i N : Nat, i ≤ p.toNat ∧ N = min (vA T i) M ∧ n = .int .i64 (N : Int) ∧ k = .int .i64 (i : Int)) (fun _ k => p.toNat - (intOf k).toNat)
          case atStart => exact ⟨0, 0, by omega, by simp [vA], rfl, rfl⟩
          case round =>
            obtain ⟨i, N, hi, hN, rfl, rfl⟩ := hrel
            have hNM : N ≤ 1099511627776 := by rw [hN]; exact Nat.min_le_right _ _
            have HN := Lib.hid hN
            clear hN
            have fin : ∀ (h : N = foldN T p), ((N : Nat) : Int) = (numP l : Nat) := by
              intro h; rw [Hnum2.out, ← h]
            have Hfin := Lib.hid fin
            clear fin
            by_cases c1 : (i : Int) < p
            · have d1 : decide ((i : Int) < p) = true := by simpa using c1
              by_cases c2 : N < 1099511627776
              · have d2 : decide ((N : Int) < 1099511627776) = true := by simp; omega
                by_cases c3 : i < T.length ∨ 0 < N
                · by_cases c4 : i < T.length + 60
                  · have d4 : decide ((i : Int) < (T.length : Int) + 60) = true := by simp; omega
                    obtain ⟨x, hx⟩ : ∃ x, ((T[i]?).map dv).getD 0 = x := ⟨_, rfl⟩
                    have hcall := fx_digit T i B W6 hcell HTD.out (by omega)
                    rw [hx] at hcall
                    have hx9 : x ≤ 9 := by
                      rw [← hx]
                      by_cases hi2 : i < T.length
                      · rw [List.getElem?_eq_getElem hi2]
                        have := isD_range (HTD.out _ (List.getElem_mem hi2))
                        simp [dv]; omega
                      · rw [List.getElem?_eq_none (by omega)]; simp
                    have hstep : min (10 * N + x) M = min (vA T (i + 1)) M := by rw [HN.out, ← hx]; exact vA_step T i
                    have Hstep := Lib.hid hstep
                    clear hx hstep
                    have hmin : min (10 * (N : Int) + x) 1099511627776 = ((min (10 * N + x) M : Nat) : Int) := by unfold M; omega
                    by_cases c5 : i < T.length
                    · have d5 : decide ((i : Int) < T.length) = true := by simp; omega
                      go_wp2_with fail
                      refine hcall.mono ?_
                      rintro e w7 ⟨rfl, rfl⟩
                      go_wp2
                      exact ⟨⟨i + 1, _, by omega, Hstep.out, rfl, rfl⟩, by simp [intOf]; omega⟩
                    · have d5 : decide ((i : Int) < T.length) = false := by simp; omega
                      have hN1 : 1 ≤ N := by omega
                      have hN2 : 0 < N := by omega
                      have d6 : decide ((0 : Int) < N) = true := by simp; omega
                      have d7 : decide (0 < N) = true := by simp; omega
                      have hNI : (N : Int) ≤ 1099511627776 := by omega
                      clear c3 c2 hNM hN1
                      go_wp2_with fail
                      refine hcall.mono ?_
                      rintro e w7 ⟨rfl, rfl⟩
                      go_wp2
                      exact ⟨⟨i + 1, _, by omega, Hstep.out, rfl, rfl⟩, by simp [intOf]; omega⟩
                  · have d4 : decide ((i : Int) < (T.length : Int) + 60) = false := by simp; omega
                    have d5 : decide ((i : Int) < T.length) = false := by simp; omega
                    exfalso
                    have hv : vA T i ≠ 0 := by intro h; have := HN.out; rw [h] at this; simp at this; omega
                    have := vA_far T (by omega) hv
                    have := HN.out
                    unfold M at *
                    omega
                · have d5 : decide ((i : Int) < T.length) = false := by simp; omega
                  have hN0 : N = 0 := by omega
                  have hv : vA T i = 0 := by have := HN.out; unfold M at this; omega
                  have hf : N = foldN T p := by
                    unfold foldN; rw [vA_nought T (by omega : i ≤ p.toNat) (by omega) hv, hN0]; rfl
                  have d6 : decide ((0 : Int) < N) = false := by simp; omega
                  have Hn := Lib.hid (Hfin.out hf)
                  have hz0 : (N : Int) ≤ 0 := by omega
                  have hTi : T.length ≤ i := by omega
                  clear c3 c2 hNM hN0 Hfin HN hf
                  generalize (N : Int) = z at *
                  go_wp2_with fail
                  go_meet
                  exact ⟨by rw [← Hn.out], rfl⟩
              · have d2 : decide ((N : Int) < 1099511627776) = false := by simp; omega
                have hf : N = foldN T p := by
                  have := HN.out
                  unfold foldN
                  rw [vA_full T (by omega : i ≤ p.toNat) (by unfold M at *; omega)]
                  unfold M; omega
                have Hn := Lib.hid (Hfin.out hf)
                clear c2 hNM Hfin HN hf
                generalize (N : Int) = z at *
                go_wp2_with fail
                go_meet
                exact ⟨by rw [← Hn.out], rfl⟩
            · have d1 : decide ((i : Int) < p) = false := by simpa using c1
              have hf : N = foldN T p := by
                unfold foldN
                have : i = p.toNat := by omega
                rw [HN.out, this]
              have Hn := Lib.hid (Hfin.out hf)
              clear hf
              go_wp2_with fail
              go_meet
              exact ⟨by rw [← Hn.out], rfl⟩
        case rest =>
          obtain ⟨rfl, rfl⟩ := hcut
          have hpos : 0 < l.length := List.length_pos_iff.2 hne
          obtain ⟨b, hb⟩ : ∃ b, l[0]? = some b := ⟨_, List.getElem?_eq_getElem hpos⟩
          have hix := str_at (P := Tryz.prog) (T := 9) Tryz.underlying9 l .i64 0 b hb
          rw [Int.ofNat_zero] at hix
          have hnb : numP l ≤ 1099511627776 := by rw [Hnum2.out]; exact Nat.min_le_right _ _
          have hpp : parseP l = if l[0]? = some 45 then -(numP l : Int) else (numP l : Int) := by unfold parseP; rw [if_pos hisP]
          have Hpp := Lib.hid hpp
          have Hb := Lib.hid hb
          have HisP := Lib.hid hisP
          clear hpp hb hisP
          generalize numP l = N at *
          by_cases hm : b.toNat = 45
          · have hv : parseP l = -(N : Int) := by
              rw [Hpp.out, if_pos]
              rw [Hb.out]; congr 1; exact UInt8.toNat_inj.1 hm
            have Hv := Lib.hid hv
            clear hv
            rw [hm] at hix
            go_wp2
            go_ret2
            exact ⟨retIB (by rw [Hv.out]) (by rw [HisP.out]), hb6⟩
          · have hv : parseP l = (N : Int) := by
              rw [Hpp.out, if_neg]
              rw [Hb.out]; intro h; injection h with h; subst h; exact hm rfl
            have Hv := Lib.hid hv
            have hc := byte_ne hm
            clear hv
            go_wp2
            go_ret2
            exact ⟨retIB (by rw [Hv.out]) (by rw [HisP.out]), hb6⟩
    · have hisP : isP l = false := decide_eq_false (by simp [hlen])
      have hp0 : parseP l = 0 := by unfold parseP; rw [hisP]; rfl
      have hc : ((lenP l : Int) == (l.length : Int)) = false := by simp; omega
      have H1 := Lib.hid hisP
      have H2 := Lib.hid hp0
      clear hisP hp0 hlen
      go_enter Tryz.func65, Tryz.ntmps65
      go_wp2_with fail
      refine (fx_length l w (by omega)).mono ?_
      rintro e w1 ⟨rfl, hb1⟩
      go_wp2
      go_ret2
      exact ⟨retIB (by rw [H2.out]) (by rw [H1.out]), hb1⟩
end Go.Proofs.YtifedkilbpkpaaaGreatDoor
/- Layer 1's Stop and Add, of the program and of the reference, are walked. -/
set_option linter.unusedVariables false
set_option linter.unusedSimpArgs false
namespace Go.Proofs.YtifedkilbpkpaaaGreatDoor
open Go.RowKit
namespace Fx
/-- a number, stopped -/
def stopZ (n : Int) : Int := if 1099511627776 < n then 1099511627776 else if n < -1099511627776 then -1099511627776 else n
def addZ (a b : Int) : Int := stopZ (stopZ a + stopZ b)
/-- what a product of two numbers not below nothing is, stopped -/
def mulN (x y : Nat) : Nat := min (x * y / 1000) 1099511627776
def mulZ (a b : Int) : Int := if (stopZ a < 0) = (stopZ b < 0) then mulN (stopZ a).natAbs (stopZ b).natAbs else -(mulN (stopZ a).natAbs (stopZ b).natAbs : Int)
end Fx
open Fx
theorem stopZ_range (n : Int) : -1099511627776 ≤ stopZ n ∧ stopZ n ≤ 1099511627776 := by unfold stopZ; (repeat' split) <;> omega
theorem stopZ_of {n : Int} (h1 : -1099511627776 ≤ n) (h2 : n ≤ 1099511627776) : stopZ n = n := by unfold stopZ; rw [if_neg (by omega), if_neg (by omega)]
theorem stopZ_eq (n : Int) : stopZ n = min (max n (-1099511627776)) 1099511627776 := by unfold stopZ; (repeat' split) <;> omega

theorem fx_stop (n : Int) (w : World) (h1 : -9223372036854775808 ≤ n) (h2 : n ≤ 9223372036854775807) :
    Calls Tryz.prog 32 #[.int .i64 n] w fun e w' => e = .returned (.int .i64 (stopZ n)) ∧ w = w' := by
  by_cases c1 : 1099511627776 < n
  · go_enter Tryz.func32, Tryz.ntmps32
    go_wp2
    all_goals (go_ret; refine ⟨ret_int ?_, rfl⟩; unfold stopZ; (repeat' split) <;> omega)
  · by_cases c2 : n < -1099511627776
    · go_enter Tryz.func32, Tryz.ntmps32
      go_wp2
      all_goals (go_ret; refine ⟨ret_int ?_, rfl⟩; unfold stopZ; (repeat' split) <;> omega)
    · go_enter Tryz.func32, Tryz.ntmps32
      go_wp2
      all_goals (go_ret; refine ⟨ret_int ?_, rfl⟩; unfold stopZ; (repeat' split) <;> omega)
theorem abs_form (a : Int) : ∃ (s : Bool) (x : Nat), x ≤ 1099511627776 ∧ (s = true → 0 < x) ∧ stopZ a = (if s then -(x : Int) else x) ∧ x = (stopZ a).natAbs ∧ (s = true ↔ stopZ a < 0) := by
  have h := stopZ_range a
  by_cases hn : stopZ a < 0
  · exact ⟨true, (stopZ a).natAbs, by omega, fun _ => by omega, by simp; omega, rfl, by simp [hn]⟩
  · exact ⟨false, (stopZ a).natAbs, by omega, (fun h => by cases h), by simp; omega, rfl, by simp [hn]⟩
theorem mulZ_form {a b : Int} {sx sy : Bool} {x y : Nat} (hx : x = (stopZ a).natAbs) (hy : y = (stopZ b).natAbs) (h1 : sx = true ↔ stopZ a < 0) (h2 : sy = true ↔ stopZ b < 0) :
    (if sx = sy then (mulN x y : Int) else -(mulN x y : Int)) = mulZ a b := by
  unfold mulZ
  rw [← hx, ← hy]
  have : (sx = sy) = ((stopZ a < 0) = (stopZ b < 0)) := by
    rw [← h1, ← h2]
    cases sx <;> cases sy <;> simp
  simp only [this]
end Go.Proofs.YtifedkilbpkpaaaGreatDoor
/- Layer 1: the program's Mul is walked, with the library's Div64 by 1000 under it. -/
set_option linter.unusedVariables false
set_option linter.unusedSimpArgs false
namespace Go.Proofs.YtifedkilbpkpaaaGreatDoor
open Go.RowKit Fx

theorem lz1000 : 64 - (Lib.bitLen (1000 : Int).toNat : Int) = 54 := by decide +kernel
theorem and_zero : bits .and .u64 18014398509481984000 4294967295 = 0 := by decide +kernel
theorem or_parts (hi lo : Nat) (hhi : hi < 1000) (hlo : lo < 18446744073709551616) :
    bits .or .u64 ((hi : Int) * 18014398509481984) ((lo : Int) / 1024) = ((hi * 18014398509481984 + lo / 1024 : Nat) : Int) := by
  have h1 : (hi : Int) * 18014398509481984 = ((hi * 18014398509481984 : Nat) : Int) := by rw [Int.natCast_mul]; rfl
  have h2 : (lo : Int) / 1024 = ((lo / 1024 : Nat) : Int) := by rw [Int.natCast_ediv]; rfl
  rw [h1, h2, u64_or_nat _ _ (by omega) (by omega)]
  congr 1
  have := Nat.two_pow_add_eq_or_of_lt (b := lo / 1024) (i := 54) (by omega) hi
  rw [show (2 : Nat) ^ 54 = 18014398509481984 from by decide] at this
  rw [Nat.mul_comm hi, this]
theorem wrap_low (lo : Nat) : IntKind.u64.wrap ((lo : Int) * 18014398509481984) = ((lo * 18014398509481984 % 18446744073709551616 : Nat) : Int) := by
  rw [IntKind.wrap_u64]
  omega
theorem and_low (V : Nat) (hV : V < 18446744073709551616) (h0 : V % 4294967296 = 0) : bits .and .u64 (V : Int) 4294967295 = 0 := by
  have := u64_and_nat V 4294967295 hV (by omega)
  rw [show ((4294967295 : Nat) : Int) = 4294967295 from rfl] at this
  rw [this]
  have h2 := Nat.and_two_pow_sub_one_eq_mod V 32
  rw [show (2 : Nat) ^ 32 - 1 = 4294967295 from by decide, show (2 : Nat) ^ 32 = 4294967296 from by decide] at h2
  rw [h2, h0]; rfl

theorem wraps_core (U t r X q : Nat) (hr : r < 4194304000) (ht : t < 4294967296) (hX : U * 4294967296 = X + r * 4294967296) (hq : (q : Int) * 18014398509481984000 = (X : Int)) :
    IntKind.u64.wrap ((U : Int) * 4294967296) = ((U * 4294967296 % 18446744073709551616 : Nat) : Int) ∧
    IntKind.u64.wrap (((U * 4294967296 % 18446744073709551616 : Nat) : Int) + (t : Int)) = (((U * 4294967296 % 18446744073709551616 + t) % 18446744073709551616 : Nat) : Int) ∧
    IntKind.u64.wrap ((q : Int) * 18014398509481984000) = ((X % 18446744073709551616 : Nat) : Int) ∧
    IntKind.u64.wrap ((((U * 4294967296 % 18446744073709551616 + t) % 18446744073709551616 : Nat) : Int) - ((X % 18446744073709551616 : Nat) : Int)) = ((r * 4294967296 + t : Nat) : Int) := by
  rw [hq]
  simp only [IntKind.wrap_u64]
  refine ⟨by omega, by omega, by omega, ?_⟩
  rw [hX]
  omega
theorem wraps (q r t U : Nat) (hu : U = 4194304000 * q + r) (hr : r < 4194304000) (ht : t < 4294967296) :
    IntKind.u64.wrap ((U : Int) * 4294967296) = ((U * 4294967296 % 18446744073709551616 : Nat) : Int) ∧
    IntKind.u64.wrap (((U * 4294967296 % 18446744073709551616 : Nat) : Int) + (t : Int)) = (((U * 4294967296 % 18446744073709551616 + t) % 18446744073709551616 : Nat) : Int) ∧
    IntKind.u64.wrap ((q : Int) * 18014398509481984000) = ((q * 18014398509481984000 % 18446744073709551616 : Nat) : Int) ∧
    IntKind.u64.wrap ((((U * 4294967296 % 18446744073709551616 + t) % 18446744073709551616 : Nat) : Int) - ((q * 18014398509481984000 % 18446744073709551616 : Nat) : Int)) = ((r * 4294967296 + t : Nat) : Int) := by
  exact wraps_core U t r (q * 18014398509481984000) q hr ht (by omega) (by rw [Int.natCast_mul]; rfl)
end Go.Proofs.YtifedkilbpkpaaaGreatDoor
/- Layer 1: a number's text: Print of the program is walked. -/
set_option linter.unusedVariables false
set_option linter.unusedSimpArgs false
namespace Go.Proofs.YtifedkilbpkpaaaGreatDoor
open Go.RowKit Fx Go.Sort
namespace Fx
def dig (n : Nat) : UInt8 := UInt8.ofNat (48 + n)
/-- the text of so many thousandths -/
def fracT (r : Nat) : List UInt8 :=
  if r = 0 then [] else 46 :: dig (r / 100) :: ((if 0 < r % 100 then [dig (r / 10 % 10)] else []) ++ (if 0 < r % 10 then [dig (r % 10)] else []))
def printN (a : Nat) : List UInt8 := Lib.decDigits (a / 1000) ++ fracT (a % 1000)
def printP (n : Int) : List UInt8 := (if stopZ n < 0 then [45] else []) ++ printN (stopZ n).natAbs
end Fx
theorem dec_big {u : Nat} (h : 10 ≤ u) : Lib.decDigits u = Lib.decDigits (u / 10) ++ [dig (u % 10)] := by
  rw [Lib.decDigits, dif_neg (by omega)]; rfl
theorem dec_small {u : Nat} (h : u < 10) : Lib.decDigits u = [dig u] := by
  rw [Lib.decDigits, dif_pos h]; rfl
theorem dec_thousand {r : Nat} (h : r < 1000) : Lib.decDigits (1000 + r) = [49, dig (r / 100), dig (r / 10 % 10), dig (r % 10)] := by
  rw [dec_big (by omega), dec_big (by omega), dec_big (by omega), dec_small (by omega)]
  have e1 : (1000 + r) / 10 / 10 / 10 = 1 := by omega
  have e2 : (1000 + r) / 10 / 10 % 10 = r / 100 := by omega
  have e3 : (1000 + r) / 10 % 10 = r / 10 % 10 := by omega
  have e4 : (1000 + r) % 10 = r % 10 := by omega
  rw [e1, e2, e3, e4]; rfl
theorem trim_frac : ∀ r : Fin 1000, r.val ≠ 0 → 46 :: Lib.trimRightB [dig (r.val / 100), dig (r.val / 10 % 10), dig (r.val % 10)] 48 = fracT r.val := by decide +kernel
theorem itoa_nat (a : Nat) : Lib.itoa (a : Int) = Lib.decDigits a := by
  unfold Lib.itoa; rw [if_neg (by omega)]; rfl
theorem deci_len (a : Nat) (h : a < 10000000000000) : (Lib.decDigits a).length ≤ 14 := by
  have key : ∀ k a, a < 10 ^ k → 1 ≤ k → (Lib.decDigits a).length ≤ k := by
    intro k
    induction k with
    | zero => intro a _ h; omega
    | succ k ih =>
      intro a ha _
      by_cases h10 : a < 10
      · rw [dec_small h10]; simp
      · rw [dec_big (by omega), List.length_append]
        rw [Nat.pow_succ] at ha
        by_cases hk : k = 0
        · subst hk; omega
        · have := ih (a / 10) (by omega) (by omega)
          simp; omega
  have := key 13 a (by omega) (by omega)
  omega
set_option maxRecDepth 100000 in
set_option maxHeartbeats 4000000 in
theorem fx_print_core (neg : Bool) (a : Nat) (n : Int) (w : World) (h1 : -9223372036854775808 ≤ n) (h2 : n ≤ 9223372036854775807) (hw : Env w) (ha : a ≤ 1099511627776) (hs : stopZ n = if neg = true then -(a : Int) else (a : Int)) (hn : neg = true → 0 < a) :
    Calls Tryz.prog 19 #[.int .i64 n] w fun e w' => e = .returned (.string (bytesOf ((if neg = true then [45] else []) ++ printN a))) ∧ Below w.heap.size w w' := by
  obtain ⟨q, hq⟩ : ∃ q, a / 1000 = q := ⟨_, rfl⟩
  obtain ⟨r, hr⟩ : ∃ r, a % 1000 = r := ⟨_, rfl⟩
  have hqb : q ≤ 1099511627 := by omega
  have hrb : r < 1000 := by omega
  have hdl := deci_len q (by omega)
  have hdz := bytesOf_size (Lib.decDigits q)
  have hqi : (a : Int).tdiv 1000 = (q : Int) := by rw [Int.tdiv_eq_ediv_of_nonneg (by omega)]; omega
  have hri : (a : Int).tmod 1000 = (r : Int) := by rw [Int.tmod_eq_emod_of_nonneg (by omega)]; omega
  have hqi2 : (a : Int) / 1000 = (q : Int) := by omega
  have hri2 : (a : Int) % 1000 = (r : Int) := by omega
  have Hs := Lib.hid hs
  have HP := Lib.hid (show printN a = Lib.decDigits q ++ fracT r by unfold printN; rw [hq, hr])
  clear hs hq hr
  cases neg with
  | true =>
    have hp := hn rfl
    simp only [if_true] at Hs
    go_enter Tryz.func19, Tryz.ntmps19
    go_wp2_with fail
    refine (fx_stop n w h1 h2).mono ?_
    rintro e w1 ⟨rfl, rfl⟩
    rw [Hs.out]
    go_wp2_with fail
    refine (Tryz.strconv_Itoa (q : Int) (by omega) (by omega) _ hw.pow).mono ?_
    rintro e w2 ⟨rfl, k, os, rfl⟩
    rw [itoa_nat, show (⟨(Lib.decDigits q).toArray⟩ : ByteArray) = bytesOf (Lib.decDigits q) from rfl]
    have hb2 := Lib.below_grow w.heap.size w (Nat.le_refl _) k os
    have hw2 := hw.below hb2
    generalize grow (w.drewN k) os = W2 at *
    by_cases hr0 : r = 0
    · have hz : ((r : Int) == 0) = true := by simp; omega
      have hf : fracT r = [] := by rw [hr0]; rfl
      have HF := Lib.hid hf
      clear hf hr0
      go_wp2
      go_ret
      exact ⟨congrArg (fun b => Ending.returned (Value.string b)) (by rw [HP.out, HF.out, List.append_nil]; exact bytesOf_append [45] _), hb2⟩
    · have hz : ((r : Int) == 0) = false := by simp; omega
      have hf := trim_frac ⟨r, hrb⟩ hr0
      have HF := Lib.hid hf
      have hsl := str_from (P := Tryz.prog) (T := 9) Tryz.underlying9 [49, dig (r / 100), dig (r / 10 % 10), dig (r % 10)] .i64 1 (by simp)
      have hcast : ((1 : Nat) : Int) = 1 := rfl
      rw [hcast] at hsl
      have hsz := bytesOf_size [49, dig (r / 100), dig (r / 10 % 10), dig (r % 10)]
      have hTl : (Lib.trimRightB [dig (r / 100), dig (r / 10 % 10), dig (r % 10)] 48).length ≤ 3 := by
        unfold Lib.trimRightB
        rw [List.length_reverse]
        exact Nat.le_trans (List.dropWhile_suffix _).length_le (by simp)
      obtain ⟨T, hT⟩ : ∃ T, Lib.trimRightB [dig (r / 100), dig (r / 10 % 10), dig (r % 10)] 48 = T := ⟨_, rfl⟩
      rw [hT] at hTl
      have HT := Lib.hid hT
      have hsT := bytesOf_size T
      clear hf hT
      go_wp2_with fail
      refine (Tryz.strconv_Itoa (1000 + (r : Int)) (by omega) (by omega) _ hw2.pow).mono ?_
      rintro e w3 ⟨rfl, k2, os2, rfl⟩
      rw [show (1000 + (r : Int)) = ((1000 + r : Nat) : Int) from by omega, itoa_nat, dec_thousand hrb]
      rw [show (⟨[49, dig (r / 100), dig (r / 10 % 10), dig (r % 10)].toArray⟩ : ByteArray) = bytesOf [49, dig (r / 100), dig (r / 10 % 10), dig (r % 10)] from rfl]
      have hb3 := hb2.trans ((Lib.below_grow W2.heap.size W2 (Nat.le_refl _) k2 os2).mono hb2.size)
      generalize grow (W2.drewN k2) os2 = W3 at *
      go_wp2_with fail
      refine (Tryz.strings_TrimRight_one _ 48 (by decide) _ (by rw [bytesOf_size]; simp)).mono ?_
      rintro e w4 ⟨rfl, rfl⟩
      rw [bytesOf_list, HT.out, show (⟨T.toArray⟩ : ByteArray) = bytesOf T from rfl]
      go_wp2
      go_ret
      refine ⟨congrArg (fun b => Ending.returned (Value.string b)) ?_, hb3⟩
      have h9 := HF.out
      rw [HP.out, ← h9, HT.out]
      show bytesOf [45] ++ bytesOf (Lib.decDigits q) ++ bytesOf [46] ++ bytesOf T = _
      rw [bytesOf_append, bytesOf_append, bytesOf_append]
      simp
  | false =>
    simp only [Bool.false_eq_true, if_false] at Hs
    go_enter Tryz.func19, Tryz.ntmps19
    go_wp2_with fail
    refine (fx_stop n w h1 h2).mono ?_
    rintro e w1 ⟨rfl, rfl⟩
    rw [Hs.out]
    go_wp2_with fail
    refine (Tryz.strconv_Itoa (q : Int) (by omega) (by omega) _ hw.pow).mono ?_
    rintro e w2 ⟨rfl, k, os, rfl⟩
    rw [itoa_nat, show (⟨(Lib.decDigits q).toArray⟩ : ByteArray) = bytesOf (Lib.decDigits q) from rfl]
    have hb2 := Lib.below_grow w.heap.size w (Nat.le_refl _) k os
    have hw2 := hw.below hb2
    generalize grow (w.drewN k) os = W2 at *
    by_cases hr0 : r = 0
    · have hz : ((r : Int) == 0) = true := by simp; omega
      have hf : fracT r = [] := by rw [hr0]; rfl
      have HF := Lib.hid hf
      clear hf hr0
      go_wp2
      go_ret
      exact ⟨congrArg (fun b => Ending.returned (Value.string b)) (by rw [HP.out, HF.out, List.append_nil]; exact bytesOf_append [] _), hb2⟩
    · have hz : ((r : Int) == 0) = false := by simp; omega
      have hf := trim_frac ⟨r, hrb⟩ hr0
      have HF := Lib.hid hf
      have hsl := str_from (P := Tryz.prog) (T := 9) Tryz.underlying9 [49, dig (r / 100), dig (r / 10 % 10), dig (r % 10)] .i64 1 (by simp)
      have hcast : ((1 : Nat) : Int) = 1 := rfl
      rw [hcast] at hsl
      have hsz := bytesOf_size [49, dig (r / 100), dig (r / 10 % 10), dig (r % 10)]
      have hTl : (Lib.trimRightB [dig (r / 100), dig (r / 10 % 10), dig (r % 10)] 48).length ≤ 3 := by
        unfold Lib.trimRightB
        rw [List.length_reverse]
        exact Nat.le_trans (List.dropWhile_suffix _).length_le (by simp)
      obtain ⟨T, hT⟩ : ∃ T, Lib.trimRightB [dig (r / 100), dig (r / 10 % 10), dig (r % 10)] 48 = T := ⟨_, rfl⟩
      rw [hT] at hTl
      have HT := Lib.hid hT
      have hsT := bytesOf_size T
      clear hf hT
      go_wp2_with fail
      refine (Tryz.strconv_Itoa (1000 + (r : Int)) (by omega) (by omega) _ hw2.pow).mono ?_
      rintro e w3 ⟨rfl, k2, os2, rfl⟩
      rw [show (1000 + (r : Int)) = ((1000 + r : Nat) : Int) from by omega, itoa_nat, dec_thousand hrb]
      rw [show (⟨[49, dig (r / 100), dig (r / 10 % 10), dig (r % 10)].toArray⟩ : ByteArray) = bytesOf [49, dig (r / 100), dig (r / 10 % 10), dig (r % 10)] from rfl]
      have hb3 := hb2.trans ((Lib.below_grow W2.heap.size W2 (Nat.le_refl _) k2 os2).mono hb2.size)
      generalize grow (W2.drewN k2) os2 = W3 at *
      go_wp2_with fail
      refine (Tryz.strings_TrimRight_one _ 48 (by decide) _ (by rw [bytesOf_size]; simp)).mono ?_
      rintro e w4 ⟨rfl, rfl⟩
      rw [bytesOf_list, HT.out, show (⟨T.toArray⟩ : ByteArray) = bytesOf T from rfl]
      go_wp2
      go_ret
      refine ⟨congrArg (fun b => Ending.returned (Value.string b)) ?_, hb3⟩
      have h9 := HF.out
      rw [HP.out, ← h9, HT.out]
      show bytesOf [] ++ bytesOf (Lib.decDigits q) ++ bytesOf [46] ++ bytesOf T = _
      rw [bytesOf_append, bytesOf_append, bytesOf_append]
      simp
theorem stop_form (n : Int) : ∃ (neg : Bool) (a : Nat), a ≤ 1099511627776 ∧ stopZ n = (if neg = true then -(a : Int) else (a : Int)) ∧ (neg = true → 0 < a) ∧ printP n = (if neg = true then [45] else []) ++ printN a := by
  obtain ⟨h1, h2⟩ := stopZ_range n
  by_cases h : stopZ n < 0
  · exact ⟨true, (stopZ n).natAbs, by omega, by simp; omega, fun _ => by omega, by unfold printP; rw [if_pos h]; rfl⟩
  · exact ⟨false, (stopZ n).natAbs, by omega, by simp; omega, fun h => by simp at h, by unfold printP; rw [if_neg h]; rfl⟩
theorem fx_print (n : Int) (w : World) (h1 : -9223372036854775808 ≤ n) (h2 : n ≤ 9223372036854775807) (hw : Env w) :
    Calls Tryz.prog 19 #[.int .i64 n] w fun e w' => e = .returned (.string (bytesOf (printP n))) ∧ Below w.heap.size w w' := by
  obtain ⟨neg, a, ha, hs, hn, hp⟩ := stop_form n
  rw [hp]
  exact fx_print_core neg a n w h1 h2 hw ha hs hn
end Go.Proofs.YtifedkilbpkpaaaGreatDoor
/- Layer 4: what is printed of tokens, as plain functions. -/
set_option linter.unusedVariables false
set_option linter.unusedSimpArgs false
namespace Go.Proofs.YtifedkilbpkpaaaGreatDoor
open Go.RowKit Rn
namespace Tp
def hexd (k : Nat) : UInt8 := UInt8.ofNat (if k < 10 then 48 + k else 87 + k)
/-- a number in small hex digits -/
def hexT (n : Nat) : List UInt8 := if h : n < 16 then [hexd n] else hexT (n / 16) ++ [hexd (n % 16)]
termination_by n
decreasing_by exact Nat.div_lt_self (by omega) (by omega)
/-- a character, escaped -/
def escP (c : Int) : List UInt8 := 92 :: (hexT c.toNat ++ [32])
/-- must the character at a place of a name be escaped? first: the place is the first one, or the second one behind a sign; only: it is a sign, and all there is; e: the first one of a Dim -/
def needB (c : Int) (first only e : Bool) : Bool := !withinB c || (first && digitB c) || only || (e && decide (c = 101 ∨ c = 69))
def partP (c : Int) (b : Bool) : List UInt8 := if b = true then escP c else Lib.encodeRune c
/-- a name's text from a place on -/
def nameF (l : List Int) (dim : Bool) : Nat → List Int → List UInt8
  | _, [] => []
  | i, c :: r => partP c (needB c (decide (i = 0 ∨ i = 1 ∧ l[0]? = some 45)) (decide (l = [45])) (dim && decide (i = 0))) ++ nameF l dim (i + 1) r
def nameP (l : List Int) (dim : Bool) : List UInt8 := nameF l dim 0 l
/-- a text ahead of which a quote stands -/
def quoteB (c : Int) : Bool := decide (c = 34 ∨ c = 92 ∨ c = 10 ∨ c = 12 ∨ c = 13)
def quotedP (l : List Int) : List UInt8 := 34 :: l.flatMap (fun c => partP c (quoteB c))
/-- may a character be a Delim? -/
def delimB (c : Int) : Bool := !whiteB c && !beginsB c && !digitB c && decide (c ≠ 34 ∧ c ≠ 39 ∧ c ≠ 40 ∧ c ≠ 41 ∧ c ≠ 91 ∧ c ≠ 93 ∧ c ≠ 123 ∧ c ≠ 125 ∧ c ≠ 58 ∧ c ≠ 59 ∧ c ≠ 44 ∧ c ≠ 12 ∧ c ≠ 13)
/-- a token's text may be, by its kind -/
def kindB (k : Int) (l : List Int) : Bool :=
  if (2 ≤ k ∧ k ≤ 5) ∨ k = 10 then decide (l ≠ [])
  else if k = 6 ∨ k = 7 then true
  else if k = 11 then (match l with | [c] => delimB c | _ => false)
  else if k = 12 then decide (l = [40] ∨ l = [91] ∨ l = [123])
  else if k = 13 then decide (l = [41] ∨ l = [93] ∨ l = [125])
  else decide (1 ≤ k ∧ k ≤ 16 ∧ l = [])
def numOk (k n : Int) : Bool := decide (Fx.stopZ n = n ∧ ((8 ≤ k ∧ k ≤ 10) ∨ n = 0))
/-- a token may be -/
def oneB (t : GTok) : Bool := match utfP t.text with
  | none => false
  | some l => decide ((0 : Int) ∉ l) && numOk t.kind t.n && kindB t.kind l
/-- a token's text -/
def tokenP (t : GTok) : List UInt8 :=
  if oneB t = true then
    let l := (utfP t.text).getD []
    let k := t.kind
    if k = 1 then [10] else if k = 2 then nameP l false else if k = 3 then nameP l false ++ [40] else if k = 4 then 64 :: nameP l false else if k = 5 then 35 :: nameP l false
    else if k = 6 then quotedP l ++ [34] else if k = 7 then quotedP l
    else if k = 8 then Fx.printP t.n else if k = 9 then Fx.printP t.n ++ [37] else if k = 10 then Fx.printP t.n ++ nameP l true
    else if k = 14 then [58] else if k = 15 then [59] else if k = 16 then [44] else t.text
  else []
/-- tokens may be -/
def pairsB : List GTok → Bool
  | [] => true
  | [t] => oneB t && decide (t.kind ≠ 7)
  | t :: u :: l => oneB t && !(decide (t.kind = 1) && decide (u.kind = 1)) && !(decide (t.kind = 7) && decide (u.kind ≠ 1)) && !(decide (t.kind = 11) && decide (t.text = [92]) && decide (u.kind ≠ 1)) && pairsB (u :: l)
def rightB (l : List GTok) : Bool := pairsB l && decide (l.length ≤ 16384)
/-- are two tokens kept apart? -/
def apartB (a b : Int) : Bool := decide (a ≠ 1 ∧ a ≠ 3 ∧ a ≠ 12 ∧ a ≠ 13 ∧ a ≠ 6 ∧ a ≠ 14 ∧ a ≠ 15 ∧ a ≠ 16 ∧ b ≠ 1 ∧ b ≠ 13 ∧ b ≠ 6 ∧ b ≠ 14 ∧ b ≠ 15 ∧ b ≠ 16)
def joinP : List GTok → List UInt8
  | [] => []
  | [t] => tokenP t
  | t :: u :: l => tokenP t ++ ((if apartB t.kind u.kind = true then [47, 42, 42, 47] else []) ++ joinP (u :: l))
def printL (l : List GTok) : List UInt8 := if rightB l = true then joinP l else []
end Tp
end Go.Proofs.YtifedkilbpkpaaaGreatDoor
/- Layer 3: how long a decimal is hangs on its characters alone: plain laws. -/
set_option linter.unusedVariables false
set_option linter.unusedSimpArgs false
namespace Go.Proofs.YtifedkilbpkpaaaGreatDoor
open Go.RowKit Rn Tk Fx
namespace Np
def asciiT (r : List Int) : List UInt8 := (r.takeWhile (fun c => decide (c < 128))).map Tk.byteOf
def numU (b : UInt8) : Bool := isD b || decide (b.toNat = 43 ∨ b.toNat = 45 ∨ b.toNat = 46 ∨ b.toNat = 101 ∨ b.toNat = 69)
/-- nothing of a decimal goes on there -/
def StopY (y : List UInt8) : Prop := ∀ b t, y = b :: t → numU b = false
theorem stop_isD {y : List UInt8} (h : StopY y) : digs y = 0 := by
  cases y with
  | nil => rfl
  | cons b t =>
    have := h b t rfl
    unfold numU at this
    simp at this
    unfold digs
    rw [List.takeWhile_cons, if_neg (by simp [this.1])]; rfl
theorem digs_app (x y : List UInt8) (h : StopY y) : digs (x ++ y) = digs x := by
  induction x with
  | nil => rw [List.nil_append, stop_isD h]; rfl
  | cons b t ih =>
    unfold digs at ih ⊢
    rw [List.cons_append, List.takeWhile_cons, List.takeWhile_cons]
    split
    · simp only [List.length_cons, ih]
    · rfl
theorem drop_app (x y : List UInt8) {i : Nat} (hi : i ≤ x.length) : (x ++ y).drop i = x.drop i ++ y := by
  rw [List.drop_append_of_le_length hi]
theorem sgn_app (x y : List UInt8) (h : StopY y) : sgn (x ++ y) = sgn x := by
  cases x with
  | nil =>
    cases y with
    | nil => rfl
    | cons b t =>
      have := h b t rfl
      unfold numU at this
      simp at this
      show (if b.toNat = 43 ∨ b.toNat = 45 then 1 else 0) = 0
      rw [if_neg (by omega)]
  | cons b t => rfl
theorem get_app (x y : List UInt8) (h : StopY y) {i : Nat} (hi : i ≤ x.length) : ((x ++ y)[i]? = some 46 ↔ x[i]? = some 46) ∧ isE (x ++ y)[i]? = isE x[i]? := by
  by_cases hl : i < x.length
  · rw [List.getElem?_append_left hl]; exact ⟨Iff.rfl, rfl⟩
  · rw [List.getElem?_append_right (by omega), show i - x.length = 0 by omega, List.getElem?_eq_none (by omega : x.length ≤ i)]
    cases y with
    | nil => exact ⟨Iff.rfl, rfl⟩
    | cons b t =>
      have := h b t rfl
      unfold numU at this
      simp at this
      refine ⟨⟨fun hb => ?_, fun hb => by cases hb⟩, ?_⟩
      · simp at hb; subst hb; exact absurd rfl this.2.2.2.1
      · simp [isE]; omega
theorem sgn_len (x : List UInt8) : sgn x ≤ x.length := by
  cases x with
  | nil => exact Nat.le_refl _
  | cons b t => simp only [sgn, List.length_cons]; split <;> omega
theorem exp_app (x y : List UInt8) (h : StopY y) : expLen (x ++ y) = expLen x := by
  unfold expLen
  rw [sgn_app x y h, drop_app x y (sgn_len x), digs_app _ y h]
theorem int_len (x : List UInt8) : sgn x + digs (x.drop (sgn x)) ≤ x.length := by
  have h1 := sgn_len x
  have h2 := digs_le (x.drop (sgn x))
  rw [List.length_drop] at h2; omega
theorem frac_app (x y : List UInt8) (h : StopY y) {a : Nat} (ha : a ≤ x.length) : ((x ++ y)[a]? = some 46 ∧ 0 < digs ((x ++ y).drop (a + 1))) ↔ (x[a]? = some 46 ∧ 0 < digs (x.drop (a + 1))) := by
  have hg := (get_app x y h ha).1
  constructor
  · rintro ⟨h1, h2⟩
    have h3 := hg.1 h1
    have hlt := (List.getElem?_eq_some_iff.1 h3).1
    rw [drop_app x y (by omega), digs_app _ y h] at h2
    exact ⟨h3, h2⟩
  · rintro ⟨h1, h2⟩
    have hlt := (List.getElem?_eq_some_iff.1 h1).1
    rw [drop_app x y (by omega), digs_app _ y h]
    exact ⟨hg.2 h1, h2⟩
theorem body_app (x y : List UInt8) (h : StopY y) : bodyLen (x ++ y) = bodyLen x := by
  unfold bodyLen
  simp only [sgn_app x y h, drop_app x y (sgn_len x), digs_app _ y h]
  have hf := frac_app x y h (int_len x)
  by_cases hc : x[sgn x + digs (x.drop (sgn x))]? = some 46 ∧ 0 < digs (x.drop (sgn x + digs (x.drop (sgn x)) + 1))
  · have hlt := (List.getElem?_eq_some_iff.1 hc.1).1
    rw [if_pos hc, if_pos (hf.2 hc), drop_app x y (by omega), digs_app _ y h]
  · rw [if_neg hc, if_neg (fun h' => hc (hf.1 h'))]
theorem some_app (x y : List UInt8) (h : StopY y) : some_ (x ++ y) = some_ x := by
  unfold some_
  simp only [sgn_app x y h, drop_app x y (sgn_len x), digs_app _ y h]
  rw [Bool.eq_iff_iff, decide_eq_true_iff, decide_eq_true_iff, frac_app x y h (int_len x)]
theorem body_len (x : List UInt8) : bodyLen x ≤ x.length := by
  unfold bodyLen
  simp only
  split
  · rename_i hc
    have hlt := (List.getElem?_eq_some_iff.1 hc.1).1
    have := digs_le (x.drop (sgn x + digs (x.drop (sgn x)) + 1))
    rw [List.length_drop] at this; omega
  · exact int_len x
theorem len_app (x y : List UInt8) (h : StopY y) : lenP (x ++ y) = lenP x := by
  unfold lenP
  rw [some_app x y h]
  split
  · rfl
  simp only [body_app x y h]
  have hb := body_len x
  have hg := (get_app x y h hb).2
  rw [hg]
  by_cases he : isE x[bodyLen x]? = true
  · have hlt : bodyLen x < x.length := by
      by_cases hl : bodyLen x < x.length
      · exact hl
      · rw [List.getElem?_eq_none (by omega)] at he; cases he
    rw [drop_app x y (by omega), exp_app _ y h]
  · rw [if_neg (fun h' => he h'.1), if_neg (fun h' => he h'.1)]
theorem numU_byte {c : Int} (h0 : 0 ≤ c) (h1 : c < 128) : numU (Tk.byteOf c) = numB c := by
  have : ∀ k : Fin 128, numU (Tk.byteOf (k.val : Int)) = numB (k.val : Int) := by decide +kernel
  have h := this ⟨c.toNat, by omega⟩
  have e : ((c.toNat : Nat) : Int) = c := by omega
  simp only [e] at h; exact h
theorem ascii_num (r : List Int) (hr : ∀ c ∈ r, 0 ≤ c) : ∃ y, asciiT r = numText r ++ y ∧ StopY y := by
  induction r with
  | nil => exact ⟨[], rfl, fun b t h => by cases h⟩
  | cons c r ih =>
    obtain ⟨y, h1, h2⟩ := ih (fun d hd => hr d (by simp [hd]))
    have hc := hr c (by simp)
    unfold asciiT numText at *
    cases hb : numB c with
    | true =>
      have hlt : c < 128 := by unfold numB at hb; simp at hb; omega
      have e1 : (c :: r).takeWhile (fun c => decide (c < 128)) = c :: r.takeWhile (fun c => decide (c < 128)) := by rw [List.takeWhile_cons]; simp [hlt]
      have e2 : (c :: r).takeWhile numB = c :: r.takeWhile numB := by rw [List.takeWhile_cons, hb]; rfl
      rw [e1, e2, List.map_cons, List.map_cons, h1]
      exact ⟨y, rfl, h2⟩
    | false =>
      have e2 : (c :: r).takeWhile numB = [] := by rw [List.takeWhile_cons, hb]; rfl
      rw [e2]
      refine ⟨_, (List.nil_append _).symm, ?_⟩
      intro b t hbt
      by_cases hlt : c < 128
      · have e1 : (c :: r).takeWhile (fun c => decide (c < 128)) = c :: r.takeWhile (fun c => decide (c < 128)) := by rw [List.takeWhile_cons]; simp [hlt]
        rw [e1, List.map_cons] at hbt
        injection hbt with e1 e2
        rw [← e1, numU_byte hc hlt, hb]
      · have e1 : (c :: r).takeWhile (fun c => decide (c < 128)) = [] := by rw [List.takeWhile_cons]; simp [hlt]
        rw [e1] at hbt
        cases hbt
theorem len_ascii (r : List Int) (hr : ∀ c ∈ r, 0 ≤ c) : lenP (asciiT r) = lenP (numText r) ∧ (asciiT r).take (lenP (numText r)) = (numText r).take (lenP (numText r)) := by
  obtain ⟨y, h1, h2⟩ := ascii_num r hr
  refine ⟨by rw [h1, len_app _ y h2], ?_⟩
  rw [h1, List.take_append_of_le_length]
  unfold lenP
  split
  · exact Nat.zero_le _
  simp only
  have hb := body_len (numText r)
  split
  · rename_i hc
    have hlt : bodyLen (numText r) < (numText r).length := by
      by_cases hl : bodyLen (numText r) < (numText r).length
      · exact hl
      · rw [List.getElem?_eq_none (by omega)] at hc; simp [isE] at hc
    have h3 : expLen ((numText r).drop (bodyLen (numText r) + 1)) ≤ ((numText r).drop (bodyLen (numText r) + 1)).length := by
      unfold expLen
      split
      · exact int_len _
      · exact Nat.zero_le _
    rw [List.length_drop] at h3; omega
  · exact hb
/-- may a decimal begin with that? -/
def numStart (c : Int) : Bool := decide (c = 43 ∨ c = 45 ∨ c = 46 ∨ (48 ≤ c ∧ c ≤ 57))
theorem num_none {r : List Int} (hr : ∀ c ∈ r, 0 ≤ c) (h : numStart (pk r 0) = false) : lenP (numText r) = 0 := by
  cases r with
  | nil => rfl
  | cons c r =>
    rw [pk_cons0] at h
    have hc := hr c (by simp)
    have hx : ∀ b t, numText (c :: r) = b :: t → isD b = false ∧ b.toNat ≠ 43 ∧ b.toNat ≠ 45 ∧ b.toNat ≠ 46 := by
      intro b t hbt
      unfold numText at hbt
      rw [List.takeWhile_cons] at hbt
      split at hbt
      · rename_i hb
        rw [List.map_cons] at hbt
        injection hbt with e1 e2
        unfold numStart at h
        simp at h
        have hlt : c < 128 := by unfold numB at hb; simp at hb; omega
        have hn : (b.toNat : Int) = c := by
          rw [← e1]; unfold Tk.byteOf; rw [UInt8.toNat_ofNat']; omega
        refine ⟨?_, by omega, by omega, by omega⟩
        unfold isD; simp; omega
      · cases hbt
    generalize numText (c :: r) = x at hx
    cases x with
    | nil => rfl
    | cons b t =>
      obtain ⟨h1, h2, h3, h4⟩ := hx b t rfl
      have hs : sgn (b :: t) = 0 := by show (if _ then 1 else 0) = 0; rw [if_neg (by omega)]
      have hd : digs (b :: t) = 0 := by unfold digs; rw [List.takeWhile_cons, if_neg (by simp [h1])]; rfl
      unfold lenP
      rw [if_pos]
      unfold some_
      simp only [hs, List.drop_zero, hd]
      simp
      intro hb; subst hb; exact absurd rfl h4
theorem number_none {r : List Int} (h : lenP (numText r) = 0) : numberT r = none := by unfold numberT; simp only [h, if_pos]
end Np
end Go.Proofs.YtifedkilbpkpaaaGreatDoor
/- Layer 1: a decimal put together of its parts, with whatever behind it: plain laws. -/
set_option linter.unusedVariables false
set_option linter.unusedSimpArgs false
namespace Go.Proofs.YtifedkilbpkpaaaGreatDoor
open Go.RowKit Fx
namespace Fx
/-- parts that make a decimal -/
structure Parts (sg I P F E S2 X : List UInt8) : Prop where
  hsg : sg = [] ∨ ∃ b, sg = [b] ∧ (b.toNat = 43 ∨ b.toNat = 45)
  hI : ∀ b ∈ I, isD b = true
  hF : ∀ b ∈ F, isD b = true
  hP : (P = [] ∧ F = []) ∨ (P = [46] ∧ F ≠ [])
  hE : (E = [] ∧ S2 = [] ∧ X = []) ∨ (∃ e, E = [e] ∧ (e.toNat = 101 ∨ e.toNat = 69) ∧ X ≠ [])
  hS : S2 = [] ∨ ∃ b, S2 = [b] ∧ (b.toNat = 43 ∨ b.toNat = 45)
  hX : ∀ b ∈ X, isD b = true
  some : I ≠ [] ∨ F ≠ []
def glue (sg I P F E S2 X : List UInt8) : List UInt8 := sg ++ (I ++ (P ++ F)) ++ (E ++ (S2 ++ X))
end Fx
theorem Dec.parts {l sg I P F E S2 X : List UInt8} (D : Dec l sg I P F E S2 X) : Parts sg I P F E S2 X :=
  ⟨D.hsg, D.hI, D.hF, D.hP, D.hE, D.hS, D.hX, D.some⟩
theorem digs_app (I t : List UInt8) (h : ∀ b ∈ I, isD b = true) : digs (I ++ t) = I.length + digs t := by
  unfold digs
  induction I with
  | nil => simp
  | cons b I ih =>
    rw [List.cons_append, List.takeWhile_cons, if_pos (h b (by simp)), List.length_cons, ih (fun c hc => h c (by simp [hc])), List.length_cons]
    omega
theorem digs_stop {b : UInt8} (t : List UInt8) (h : isD b = false) : digs (b :: t) = 0 := by
  unfold digs; rw [List.takeWhile_cons, if_neg (by rw [h]; simp)]; rfl
theorem digs_nil : digs [] = 0 := rfl
theorem sgn_digit {b : UInt8} (t : List UInt8) (h : isD b = true) : sgn (b :: t) = 0 := by
  have := isD_range h
  unfold sgn; simp only []; rw [if_neg (by omega)]
theorem sgn_of {sg : List UInt8} (t : List UInt8) (h : sg = [] ∨ ∃ b, sg = [b] ∧ (b.toNat = 43 ∨ b.toNat = 45)) (h2 : sg = [] → sgn t = 0) : sgn (sg ++ t) = sg.length := by
  rcases h with h | ⟨b, h, hb⟩
  · rw [h]; exact h2 h
  · rw [h]; exact if_pos hb
theorem sgn_digits {X : List UInt8} (t : List UInt8) (hX : ∀ b ∈ X, isD b = true) (hne : X ≠ []) : sgn (X ++ t) = 0 := by
  cases X with
  | nil => exact absurd rfl hne
  | cons b X => exact sgn_digit _ (hX b (by simp))
theorem isE_notD {e : UInt8} (h : e.toNat = 101 ∨ e.toNat = 69) : isD e = false := by unfold isD; simp; omega
/-- the longest decimal is at least as long as the one that stands there; its parts are read, where an exponent stands or nothing is behind -/
theorem glue_body {sg I P F E S2 X : List UInt8} (D : Parts sg I P F E S2 X) (rest : List UInt8) (hr : E = [] → rest = []) :
    sgn (glue sg I P F E S2 X ++ rest) = sg.length ∧ digs ((glue sg I P F E S2 X ++ rest).drop sg.length) = I.length ∧ bodyLen (glue sg I P F E S2 X ++ rest) = sg.length + I.length + P.length + F.length ∧ some_ (glue sg I P F E S2 X ++ rest) = true
      ∧ intP (glue sg I P F E S2 X ++ rest) = I ∧ fracP (glue sg I P F E S2 X ++ rest) = F := by
  obtain ⟨Y, hY⟩ : ∃ Y, E ++ (S2 ++ X) ++ rest = Y := ⟨_, rfl⟩
  have hYd : digs Y = 0 ∧ Y[0]? ≠ some 46 := by
    rw [← hY]
    rcases D.hE with ⟨h1, h2, h3⟩ | ⟨e, h1, h2, _⟩
    · rw [h1, h2, h3, hr h1]; exact ⟨rfl, by simp⟩
    · rw [h1]
      refine ⟨digs_stop _ (isE_notD h2), ?_⟩
      simp; intro h; subst h; revert h2; decide
  have hl : glue sg I P F E S2 X ++ rest = sg ++ (I ++ (P ++ (F ++ Y))) := by rw [← hY]; unfold glue; simp
  have hs : sgn (sg ++ (I ++ (P ++ (F ++ Y)))) = sg.length := by
    refine sgn_of _ D.hsg fun _ => ?_
    by_cases hI : I = []
    · have hF : F ≠ [] := D.some.resolve_left (fun h => h hI)
      rcases D.hP with ⟨_, h⟩ | ⟨h, _⟩
      · exact absurd h hF
      · rw [hI, h]; rfl
    · exact sgn_digits _ D.hI hI
  have hd : (sg ++ (I ++ (P ++ (F ++ Y)))).drop sg.length = I ++ (P ++ (F ++ Y)) := by simp
  have hn : digs (I ++ (P ++ (F ++ Y))) = I.length := by
    rw [digs_app _ _ D.hI]
    rcases D.hP with ⟨h, h2⟩ | ⟨h, _⟩
    · rw [h, h2]; simp only [List.nil_append]; omega
    · rw [h]; rw [List.cons_append, digs_stop _ (by rfl)]; omega
  have hd2 : (sg ++ (I ++ (P ++ (F ++ Y)))).drop (sg.length + I.length) = P ++ (F ++ Y) := by
    rw [← List.drop_drop, hd]; simp
  have hat : (sg ++ (I ++ (P ++ (F ++ Y))))[sg.length + I.length]? = (P ++ (F ++ Y))[0]? := by
    rw [← hd2, List.getElem?_drop]; simp
  rw [hl]
  rcases D.hP with ⟨h, h2⟩ | ⟨h, h2⟩
  · have hno : ¬ (P ++ (F ++ Y))[0]? = some 46 := by rw [h, h2]; exact hYd.2
    have hI : I ≠ [] := D.some.resolve_right (fun h => h h2)
    have hIl := List.length_pos_iff.2 hI
    refine ⟨hs, by rw [hd, hn], ?_, ?_, ?_, ?_⟩
    · unfold bodyLen; simp only []; rw [hs, hd, hn, hat, if_neg (fun x => hno x.1), h, h2]; simp
    · unfold some_; simp only []; rw [hs, hd, hn]; simp [hIl]
    · unfold intP; rw [hs, hd, hn]; simp
    · unfold fracP; simp only []; rw [hs, hd, hn, hat, if_neg (fun x => hno x.1), h2]
  · have hyes : (P ++ (F ++ Y))[0]? = some 46 := by rw [h]; rfl
    have hFl := List.length_pos_iff.2 h2
    have hd3 : (sg ++ (I ++ (P ++ (F ++ Y)))).drop (sg.length + I.length + 1) = F ++ Y := by
      rw [← List.drop_drop, hd2, h]; rfl
    have hnF : digs (F ++ Y) = F.length := by rw [digs_app _ _ D.hF, hYd.1]; omega
    refine ⟨hs, by rw [hd, hn], ?_, ?_, ?_, ?_⟩
    · unfold bodyLen; simp only []; rw [hs, hd, hn, hat, hd3, hnF, if_pos ⟨hyes, hFl⟩, h]; simp; 
    · unfold some_; simp only []; rw [hs, hd, hn, hat, hd3, hnF]; simp [hyes, hFl]
    · unfold intP; rw [hs, hd, hn]; simp
    · unfold fracP; simp only []; rw [hs, hd, hn, hat, hd3, hnF, if_pos ⟨hyes, hFl⟩]; simp
theorem glue_len (sg I P F E S2 X : List UInt8) : (glue sg I P F E S2 X).length = sg.length + I.length + P.length + F.length + E.length + S2.length + X.length := by
  unfold glue; simp; omega
/-- a decimal with an exponent, whatever stands behind -/
theorem glue_exp {sg I P F E S2 X : List UInt8} (D : Parts sg I P F E S2 X) (hE : E ≠ []) (rest : List UInt8) :
    lenP (glue sg I P F E S2 X ++ rest) = (glue sg I P F E S2 X).length + digs rest ∧ expP (glue sg I P F E S2 X ++ rest) = S2 ++ X ++ rest := by
  obtain ⟨h1, h2, h3, h4, _, _⟩ := glue_body D rest (fun h => absurd h hE)
  obtain ⟨e, he1, he2, hX⟩ : ∃ e, E = [e] ∧ (e.toNat = 101 ∨ e.toNat = 69) ∧ X ≠ [] := by
    rcases D.hE with ⟨h, _⟩ | h
    · exact absurd h hE
    · exact h
  have hl : glue sg I P F E S2 X ++ rest = (sg ++ (I ++ (P ++ F))) ++ (e :: (S2 ++ (X ++ rest))) := by unfold glue; rw [he1]; simp
  have hA : (sg ++ (I ++ (P ++ F))).length = sg.length + I.length + P.length + F.length := by simp; omega
  have hat : (glue sg I P F E S2 X ++ rest)[sg.length + I.length + P.length + F.length]? = some e := by
    rw [hl, List.getElem?_append_right (by omega), hA]; simp
  have hdr : (glue sg I P F E S2 X ++ rest).drop (sg.length + I.length + P.length + F.length + 1) = S2 ++ (X ++ rest) := by
    rw [hl, ← List.drop_drop, ← hA, List.drop_left]; rfl
  have hie : isE (some e) = true := by unfold isE; simpa using he2
  have hsg : sgn (S2 ++ (X ++ rest)) = S2.length := sgn_of _ D.hS fun _ => sgn_digits _ D.hX hX
  have hXl := List.length_pos_iff.2 hX
  have hdx : digs ((S2 ++ (X ++ rest)).drop S2.length) = X.length + digs rest := by rw [List.drop_left, digs_app _ _ D.hX]
  have hexp : expLen (S2 ++ (X ++ rest)) = S2.length + (X.length + digs rest) := by
    unfold expLen; rw [hsg, hdx, if_pos (by omega)]
  have hSl : S2.length ≤ 1 := by
    rcases D.hS with h | ⟨b, h, _⟩ <;> rw [h] <;> simp
  constructor
  · unfold lenP
    simp only []
    rw [h4, if_neg (by simp), h3, hat, hdr, hexp, if_pos ⟨hie, by omega⟩, glue_len, he1]
    simp; omega
  · unfold expP
    rw [h3, hat, if_pos hie, hdr, List.append_assoc]
/-- parts make a decimal -/
theorem glue_is {sg I P F E S2 X : List UInt8} (D : Parts sg I P F E S2 X) :
    isP (glue sg I P F E S2 X) = true ∧ intP (glue sg I P F E S2 X) = I ∧ fracP (glue sg I P F E S2 X) = F ∧ expP (glue sg I P F E S2 X) = S2 ++ X ∧ lenP (glue sg I P F E S2 X) = (glue sg I P F E S2 X).length := by
  obtain ⟨h1, h2, h3, h4, h5, h6⟩ := glue_body D [] (fun _ => rfl)
  rw [List.append_nil] at h1 h2 h3 h4 h5 h6
  have hpos : 0 < (glue sg I P F E S2 X).length := by
    rw [glue_len]
    rcases D.some with h | h <;> have := List.length_pos_iff.2 h <;> omega
  have hne : glue sg I P F E S2 X ≠ [] := List.length_pos_iff.1 hpos
  have hlen : lenP (glue sg I P F E S2 X) = (glue sg I P F E S2 X).length ∧ expP (glue sg I P F E S2 X) = S2 ++ X := by
    by_cases hE : E = []
    · have hE2 : S2 = [] ∧ X = [] := by
        rcases D.hE with ⟨_, h, h2⟩ | ⟨e, h, _⟩
        · exact ⟨h, h2⟩
        · rw [hE] at h; cases h
      have hnone : (glue sg I P F E S2 X)[sg.length + I.length + P.length + F.length]? = none := by
        refine List.getElem?_eq_none ?_
        rw [glue_len, hE, hE2.1, hE2.2]; simp
      constructor
      · unfold lenP
        simp only []
        rw [h4, if_neg (by simp), h3, hnone, if_neg (fun h => by have := h.1; simp [isE] at this), glue_len, hE, hE2.1, hE2.2]; simp
      · unfold expP
        rw [h3, hnone, if_neg (by simp [isE]), hE2.1, hE2.2]; rfl
    · obtain ⟨a, b⟩ := glue_exp D hE []
      rw [List.append_nil] at a b
      rw [List.append_nil] at b
      exact ⟨by rw [a]; rfl, b⟩
  exact ⟨decide_eq_true ⟨hne, hlen.1⟩, h5, h6, hlen.2, hlen.1⟩
/-- a decimal is no longer than the longest one -/
theorem glue_le {sg I P F E S2 X : List UInt8} (D : Parts sg I P F E S2 X) (rest : List UInt8) : (glue sg I P F E S2 X).length ≤ lenP (glue sg I P F E S2 X ++ rest) := by
  by_cases hE : E = []
  · have hE2 : S2 = [] ∧ X = [] := by
      rcases D.hE with ⟨_, h, h2⟩ | ⟨e, h, _⟩
      · exact ⟨h, h2⟩
      · rw [hE] at h; cases h
    obtain ⟨l, hl⟩ : ∃ l, glue sg I P F E S2 X ++ rest = l := ⟨_, rfl⟩
    have hl2 : l = sg ++ (I ++ (P ++ (F ++ rest))) := by rw [← hl]; unfold glue; rw [hE, hE2.1, hE2.2]; simp
    have hs : sgn l = sg.length := by
      rw [hl2]
      refine sgn_of _ D.hsg fun _ => ?_
      by_cases hI : I = []
      · have hF : F ≠ [] := D.some.resolve_left (fun h => h hI)
        rcases D.hP with ⟨_, h⟩ | ⟨h, _⟩
        · exact absurd h hF
        · rw [hI, h]; rfl
      · exact sgn_digits _ D.hI hI
    have hd : l.drop sg.length = I ++ (P ++ (F ++ rest)) := by rw [hl2]; simp
    have hbody : some_ l = true ∧ (glue sg I P F E S2 X).length ≤ bodyLen l := by
      rw [glue_len, hE, hE2.1, hE2.2]
      rcases D.hP with ⟨h, h2⟩ | ⟨h, h2⟩
      · have hI : I ≠ [] := D.some.resolve_right (fun h => h h2)
        have hIl := List.length_pos_iff.2 hI
        have hdg : I.length ≤ digs (I ++ (P ++ (F ++ rest))) := by rw [digs_app _ _ D.hI]; omega
        constructor
        · unfold some_; simp only []; rw [hs, hd]; exact decide_eq_true (.inl (by omega))
        · unfold bodyLen; simp only []; rw [hs, hd, h, h2] at *; simp only [List.length_nil, List.nil_append] at *
          split <;> omega
      · have hFl := List.length_pos_iff.2 h2
        have hn : digs (I ++ (P ++ (F ++ rest))) = I.length := by rw [digs_app _ _ D.hI, h, List.cons_append, digs_stop _ (by rfl)]; omega
        have hd2 : l.drop (sg.length + I.length) = P ++ (F ++ rest) := by rw [← List.drop_drop, hd]; simp
        have hat : l[sg.length + I.length]? = some 46 := by
          have : l[sg.length + I.length]? = (P ++ (F ++ rest))[0]? := by rw [← hd2, List.getElem?_drop]; simp
          rw [this, h]; rfl
        have hd3 : l.drop (sg.length + I.length + 1) = F ++ rest := by rw [← List.drop_drop, hd2, h]; rfl
        have hnF : F.length ≤ digs (F ++ rest) := by rw [digs_app _ _ D.hF]; omega
        constructor
        · unfold some_; simp only []; rw [hs, hd, hn, hat, hd3]; exact decide_eq_true (.inr ⟨rfl, by omega⟩)
        · unfold bodyLen; simp only []; rw [hs, hd, hn, hat, hd3, if_pos ⟨rfl, by omega⟩, h]; simp; omega
    rw [hl]
    refine Nat.le_trans hbody.2 ?_
    unfold lenP
    simp only []
    rw [hbody.1, if_neg (by simp)]
    split <;> omega
  · rw [(glue_exp D hE rest).1]; omega
/-- a text's longest decimal, taken apart -/
theorem len_parts {l : List UInt8} (h : 0 < lenP l) : ∃ sg I P F E S2 X, Parts sg I P F E S2 X ∧ l.take (lenP l) = glue sg I P F E S2 X := by
  have hsome : some_ l = true := by
    cases hs : some_ l with
    | true => rfl
    | false => rw [lenP_none hs] at h; omega
  obtain ⟨A, hA⟩ : ∃ A, bodyLen l = A := ⟨_, rfl⟩
  have hAl := bodyLen_le l
  have ht := lenP_tail hsome hA
  have hk0 := sgn_le l
  have hn0 := digs_le (l.drop (sgn l))
  rw [List.length_drop] at hn0
  have e1 : l.take (sgn l + digs (l.drop (sgn l))) = l.take (sgn l) ++ intP l := by rw [List.take_add]; rfl
  have hItail : ∀ b ∈ intP l, isD b = true := by unfold intP; exact digs_all _
  have hFtail : ∀ b ∈ fracP l, isD b = true := by
    unfold fracP
    simp only []
    split
    · exact digs_all _
    · simp
  have hbody : ∃ P, l.take A = l.take (sgn l) ++ (intP l ++ (P ++ fracP l)) ∧ ((P = [] ∧ fracP l = []) ∨ (P = [46] ∧ fracP l ≠ [])) ∧ (intP l ≠ [] ∨ fracP l ≠ []) := by
    by_cases hd : l[sgn l + digs (l.drop (sgn l))]? = Option.some 46 ∧ 0 < digs (l.drop (sgn l + digs (l.drop (sgn l)) + 1))
    · have hF : fracP l = (l.drop (sgn l + digs (l.drop (sgn l)) + 1)).take (digs (l.drop (sgn l + digs (l.drop (sgn l)) + 1))) := by
        unfold fracP; simp only []; rw [if_pos hd]
      have hFl : (fracP l).length = digs (l.drop (sgn l + digs (l.drop (sgn l)) + 1)) := by
        have := digs_le (l.drop (sgn l + digs (l.drop (sgn l)) + 1))
        rw [hF, List.length_take]; omega
      have hA2 : A = sgn l + digs (l.drop (sgn l)) + 1 + digs (l.drop (sgn l + digs (l.drop (sgn l)) + 1)) := by
        rw [← hA]; unfold bodyLen; simp only []; rw [if_pos hd]
      have hFne : fracP l ≠ [] := by intro h0; rw [h0] at hFl; simp at hFl; omega
      refine ⟨[46], ?_, .inr ⟨rfl, hFne⟩, .inr hFne⟩
      rw [hA2, List.take_add, ← hF, take_snoc _ _ _ hd.1, e1]
      simp
    · have hF : fracP l = [] := by unfold fracP; simp only []; rw [if_neg hd]
      have hA2 : A = sgn l + digs (l.drop (sgn l)) := by
        rw [← hA]; unfold bodyLen; simp only []; rw [if_neg hd]
      have hIlen : (intP l).length = digs (l.drop (sgn l)) := by
        unfold intP; rw [List.length_take, List.length_drop]; omega
      refine ⟨[], ?_, .inl ⟨rfl, hF⟩, .inl ?_⟩
      · rw [hA2, e1, hF]; simp
      · intro h0
        rw [h0] at hIlen
        unfold some_ at hsome
        have hd2 := of_decide_eq_true hsome
        rcases hd2 with hd2 | hd2
        · simp at hIlen; omega
        · exact hd hd2
  obtain ⟨P, hb1, hb2, hb3⟩ := hbody
  by_cases hx : isE l[A]? = true ∧ 0 < digs (l.drop (A + 1 + sgn (l.drop (A + 1))))
  · have hL := ht.2 hx.1 _ _ rfl rfl
    rw [if_pos hx.2] at hL
    obtain ⟨e, he, hee⟩ : ∃ e, l[A]? = some e ∧ (e.toNat = 101 ∨ e.toNat = 69) := by
      rcases isE_cases l A with ⟨hge, hE⟩ | ⟨e, he, ⟨h1, _⟩ | ⟨h1, _⟩ | ⟨_, _, h3⟩⟩
      · rw [hE] at hx; exact absurd hx.1 (by simp)
      · exact ⟨e, he, .inl h1⟩
      · exact ⟨e, he, .inr h1⟩
      · rw [h3] at hx; exact absurd hx.1 (by simp)
    refine ⟨l.take (sgn l), intP l, P, fracP l, [e], (l.drop (A + 1)).take (sgn (l.drop (A + 1))), (l.drop (A + 1 + sgn (l.drop (A + 1)))).take (digs (l.drop (A + 1 + sgn (l.drop (A + 1))))), ⟨sgn_shape l, hItail, hFtail, hb2, .inr ⟨e, rfl, hee, ?_⟩, sgn_shape _, digs_all _, hb3⟩, ?_⟩
    · intro h0
      have h1 := congrArg List.length h0
      have := digs_le (l.drop (A + 1 + sgn (l.drop (A + 1))))
      rw [List.length_take, List.length_nil] at h1
      omega
    · rw [hL]
      unfold glue
      rw [← hb1]
      rw [List.take_add, List.take_add, take_snoc _ _ _ he]
      simp
  · have hL : lenP l = A := by
      cases hE : isE l[A]? with
      | false => exact ht.1 hE
      | true =>
        rw [hE] at hx
        have := ht.2 hE _ _ rfl rfl
        rw [if_neg (fun h => hx ⟨rfl, h⟩)] at this
        exact this
    refine ⟨l.take (sgn l), intP l, P, fracP l, [], [], [], ⟨sgn_shape l, hItail, hFtail, hb2, .inl ⟨rfl, rfl, rfl⟩, .inl rfl, by simp, hb3⟩, ?_⟩
    rw [hL]; unfold glue; rw [← hb1]; simp
/-- FixedBegins: the longest decimal is one -/
theorem begins_is (l : List UInt8) : isP (l.take (lenP l)) = decide (0 < lenP l) := by
  by_cases h : 0 < lenP l
  · obtain ⟨sg, I, P, F, E, S2, X, D, e⟩ := len_parts h
    rw [e, (glue_is D).1, decide_eq_true h]
  · have h0 : lenP l = 0 := by omega
    rw [h0]; rfl
/-- and none is longer -/
theorem begins_none (l : List UInt8) (k : Nat) (h : lenP l < k) (hk : k ≤ l.length) : isP (l.take k) = false := by
  cases hp : isP (l.take k) with
  | false => rfl
  | true =>
    exfalso
    obtain ⟨sg, I, P, F, E, S2, X, D⟩ := dec_of_isP hp
    have hD : l.take k = glue sg I P F E S2 X := D.all
    have := glue_le D.parts (l.drop k)
    rw [← hD, List.take_append_drop, List.length_take] at this
    omega
theorem lenP_le (l : List UInt8) : lenP l ≤ l.length := by
  by_cases h : 0 < lenP l
  · obtain ⟨sg, I, P, F, E, S2, X, D, e⟩ := len_parts h
    by_cases hle : lenP l ≤ l.length
    · exact hle
    · have h2 := (glue_is D).2.2.2.2
      rw [← e, List.take_of_length_le (by omega)] at h2
      omega
  · omega
end Go.Proofs.YtifedkilbpkpaaaGreatDoor
set_option linter.unusedVariables false
set_option linter.unusedSimpArgs false
namespace Go.Proofs.YtifedkilbpkpaaaGreatDoor
open Go.RowKit Fx
namespace Fx
def fracD (r : Nat) : List UInt8 := (fracT r).drop 1
def fracPt (r : Nat) : List UInt8 := if r = 0 then [] else [46]
def scaleN (a : Nat) (e : Int) : Nat := if 0 ≤ e then 10 ^ e.toNat * a else a / 10 ^ (-e).toNat
end Fx
theorem frac_facts : ∀ r : Fin 1000, fracT r.val = fracPt r.val ++ fracD r.val ∧ (r.val ≠ 0 → fracD r.val ≠ []) ∧ (r.val = 0 → fracD r.val = []) ∧ (fracD r.val).all isD = true ∧ (fracD r.val).length ≤ 3 ∧ vA (fracD r.val) 3 = r.val := by decide +kernel
theorem dig_isD {n : Nat} (h : n < 10) : isD (dig n) = true ∧ dv (dig n) = n := by
  have : ∀ k : Fin 10, isD (dig k.val) = true ∧ dv (dig k.val) = k.val := by decide
  exact this ⟨n, h⟩
theorem dec_facts : ∀ k q, q ≤ k → (∀ b ∈ Lib.decDigits q, isD b = true) ∧ val (Lib.decDigits q) = q ∧ Lib.decDigits q ≠ [] := by
  intro k
  induction k with
  | zero =>
    intro q h
    obtain rfl : q = 0 := by omega
    rw [dec_small (by omega)]
    refine ⟨?_, by decide, by simp⟩
    intro b hb
    simp at hb; subst hb; decide
  | succ k ih =>
    intro q h
    by_cases h10 : q < 10
    · rw [dec_small h10]
      have := dig_isD h10
      refine ⟨?_, by simp [val, this.2], by simp⟩
      intro b hb
      simp at hb; subst hb; exact this.1
    · rw [dec_big (by omega)]
      obtain ⟨h1, h2, h3⟩ := ih (q / 10) (by omega)
      have := dig_isD (n := q % 10) (by omega)
      refine ⟨?_, ?_, by simp⟩
      · intro b hb
        rcases List.mem_append.1 hb with hb | hb
        · exact h1 b hb
        · simp at hb; subst hb; exact this.1
      · rw [val_snoc, h2, this.2]; omega
theorem vA_app (a b : List UInt8) (j : Nat) : vA (a ++ b) (a.length + j) = 10 ^ j * val a + vA b j := by
  induction j with
  | zero =>
    rw [Nat.add_zero, vA_append_len a b _ (Nat.le_refl _), val_vA a _ (Nat.le_refl _), List.take_length]; simp [vA]
  | succ j ih =>
    rw [← Nat.add_assoc, vA_succ, ih, vA_succ, List.getElem?_append_right (by omega), Nat.pow_succ, Nat.add_sub_cancel_left]
    have : 10 ^ j * 10 * val a = 10 * (10 ^ j * val a) := by rw [Nat.mul_comm (10 ^ j) 10, Nat.mul_assoc]
    omega
theorem vA_down (d : List UInt8) (h : ∀ b ∈ d, isD b = true) (i : Nat) : vA d i = vA d (i + 1) / 10 := by
  rw [vA_succ]
  have : ((d[i]?).map dv).getD 0 ≤ 9 := by
    cases hb : d[i]? with
    | none => simp
    | some b =>
      have := isD_range (h b (List.mem_of_getElem? hb))
      simp [dv]; omega
  omega
theorem vA_downs (d : List UInt8) (h : ∀ b ∈ d, isD b = true) (i k : Nat) : vA d i = vA d (i + k) / 10 ^ k := by
  induction k with
  | zero => simp
  | succ k ih => rw [ih, vA_down d h (i + k), Nat.div_div_eq_div_mul, Nat.pow_succ, Nat.mul_comm 10, ← Nat.add_assoc]
/-- the digits of a printed number -/
theorem print_digits (a : Nat) (e : Int) (he : -3 ≤ e) :
    foldN (Lib.decDigits (a / 1000) ++ fracD (a % 1000)) ((Lib.decDigits (a / 1000)).length + e + 3) = min (scaleN a e) M := by
  obtain ⟨h1, h2, h3⟩ := dec_facts _ (a / 1000) (Nat.le_refl _)
  obtain ⟨f1, f2, f3, f4, f5, f6⟩ := frac_facts ⟨a % 1000, by omega⟩
  simp only [] at f1 f2 f3 f4 f5 f6
  have hI := List.length_pos_iff.2 h3
  obtain ⟨I, hIe⟩ : ∃ I, Lib.decDigits (a / 1000) = I := ⟨_, rfl⟩
  obtain ⟨F, hFe⟩ : ∃ F, fracD (a % 1000) = F := ⟨_, rfl⟩
  rw [hIe] at h1 h2 h3 hI ⊢
  rw [hFe] at f2 f3 f4 f5 f6 ⊢
  have hall : ∀ b ∈ I ++ F, isD b = true := by
    intro b hb
    rcases List.mem_append.1 hb with hb | hb
    · exact h1 b hb
    · exact List.all_eq_true.1 f4 b hb
  have h0 : vA (I ++ F) (I.length + 3) = a := by rw [vA_app, h2, f6]; omega
  unfold foldN scaleN
  congr 1
  by_cases hp : 0 ≤ e
  · rw [if_pos hp, show (((I.length : Int) + e + 3).toNat) = (I.length + 3) + e.toNat by omega, vA_past _ (by rw [List.length_append]; omega), h0]
  · rw [if_neg hp, vA_downs _ hall (((I.length : Int) + e + 3).toNat) (-e).toNat, show ((I.length : Int) + e + 3).toNat + (-e).toNat = I.length + 3 by omega, h0]
theorem printN_parts (neg : Bool) (a : Nat) (E S2 X : List UInt8)
    (hE : (E = [] ∧ S2 = [] ∧ X = []) ∨ (∃ e, E = [e] ∧ (e.toNat = 101 ∨ e.toNat = 69) ∧ X ≠ [])) (hS : S2 = [] ∨ ∃ b, S2 = [b] ∧ (b.toNat = 43 ∨ b.toNat = 45)) (hX : ∀ b ∈ X, isD b = true) :
    Parts (if neg = true then [45] else []) (Lib.decDigits (a / 1000)) (fracPt (a % 1000)) (fracD (a % 1000)) E S2 X
      ∧ (if neg = true then [45] else []) ++ printN a ++ (E ++ (S2 ++ X)) = glue (if neg = true then [45] else []) (Lib.decDigits (a / 1000)) (fracPt (a % 1000)) (fracD (a % 1000)) E S2 X := by
  obtain ⟨h1, h2, h3⟩ := dec_facts _ (a / 1000) (Nat.le_refl _)
  obtain ⟨f1, f2, f3, f4, f5, f6⟩ := frac_facts ⟨a % 1000, by omega⟩
  simp only [] at f1 f2 f3 f4 f5 f6
  refine ⟨⟨?_, h1, List.all_eq_true.1 f4, ?_, hE, hS, hX, .inl h3⟩, ?_⟩
  · cases neg
    · exact .inl rfl
    · exact .inr ⟨45, rfl, .inr rfl⟩
  · by_cases h0 : a % 1000 = 0
    · exact .inl ⟨by rw [h0]; rfl, f3 h0⟩
    · exact .inr ⟨if_neg h0, f2 h0⟩
  · unfold glue printN; rw [f1]
theorem glue_head {sg I P F E S2 X : List UInt8} (hI : ∀ b ∈ I, isD b = true) (hne : I ≠ []) (neg : Bool) (hs : sg = if neg = true then [45] else []) : ((glue sg I P F E S2 X)[0]? = some 45) = (neg = true) := by
  cases neg with
  | true => simp only [if_true] at hs; rw [hs]; simp [glue]
  | false =>
    simp only [Bool.false_eq_true, if_false] at hs
    rw [hs]
    cases I with
    | nil => exact absurd rfl hne
    | cons b I =>
      have := isD_range (hI b (by simp))
      simp [glue]
      intro h; subst h; revert this; decide
/-- a printed number with an exponent is so many times as much -/
theorem parse_made (neg : Bool) (a : Nat) (E S2 X : List UInt8)
    (hE : (E = [] ∧ S2 = [] ∧ X = []) ∨ (∃ e, E = [e] ∧ (e.toNat = 101 ∨ e.toNat = 69) ∧ X ≠ [])) (hS : S2 = [] ∨ ∃ b, S2 = [b] ∧ (b.toNat = 43 ∨ b.toNat = 45)) (hX : ∀ b ∈ X, isD b = true)
    (e : Int) (he : powP (S2 ++ X) = e) (h3 : -3 ≤ e) (l : List UInt8) (hl : l = (if neg = true then [45] else []) ++ printN a ++ (E ++ (S2 ++ X))) :
    isP l = true ∧ lenP l = l.length ∧ parseP l = if neg = true then -((min (scaleN a e) M : Nat) : Int) else ((min (scaleN a e) M : Nat) : Int) := by
  obtain ⟨D, hg⟩ := printN_parts neg a E S2 X hE hS hX
  rw [hg] at hl
  obtain ⟨g1, g2, g3, g4, g5⟩ := glue_is D
  rw [hl]
  refine ⟨g1, g5, ?_⟩
  obtain ⟨h1, h2, h4⟩ := dec_facts _ (a / 1000) (Nat.le_refl _)
  unfold parseP numP
  rw [if_pos g1, g2, g3, g4, he, print_digits a e h3]
  simp only [glue_head h1 h4 neg rfl]
theorem parse_print (n : Int) : isP (printP n) = true ∧ lenP (printP n) = (printP n).length ∧ parseP (printP n) = stopZ n := by
  obtain ⟨neg, a, ha, hs, hn, hp⟩ := stop_form n
  obtain ⟨h1, h2, h3⟩ := parse_made neg a [] [] [] (.inl ⟨rfl, rfl, rfl⟩) (.inl rfl) (by simp) 0 rfl (by omega) (printP n) (by rw [hp]; simp)
  refine ⟨h1, h2, ?_⟩
  rw [h3, hs]
  have : min (scaleN a 0) M = a := by unfold scaleN M; simp; omega
  rw [this]
theorem printP_len (n : Int) : (printP n).length ≤ 20 := by
  obtain ⟨neg, a, ha, hs, hn, hp⟩ := stop_form n
  rw [hp]
  have h1 := deci_len (a / 1000) (by omega)
  obtain ⟨f1, f2, f3, f4, f5, f6⟩ := frac_facts ⟨a % 1000, by omega⟩
  simp only [] at f1 f5
  unfold printN
  rw [f1]
  have : (fracPt (a % 1000)).length ≤ 1 := by unfold fracPt; split <;> simp
  simp only [List.length_append]
  cases neg <;> simp <;> omega
namespace Fx
/-- what the law's loops make of a number -/
def ups (n : Int) : Nat → Int
  | 0 => n
  | k + 1 => ups n k * 10
def downs (n : Int) : Nat → Int
  | 0 => n
  | k + 1 => (downs n k).tdiv 10
def shiftZ (n e : Int) : Int := downs (ups n e.toNat) (-e).toNat
/-- the law's exponents -/
def expT (e : Int) : List UInt8 := if e = -3 then [45, 51] else if e = -2 then [45, 50] else if e = -1 then [45, 49] else if e = 0 then [48] else if e = 1 then [43, 49] else if e = 2 then [50] else [51]
end Fx
theorem ups_abs (n : Int) (k : Nat) : ups n k = n * 10 ^ k := by
  induction k with
  | zero => simp [ups]
  | succ k ih => rw [ups, ih, Int.pow_succ, Int.mul_assoc]
theorem tdiv10 (x : Nat) : (x : Int).tdiv 10 = ((x / 10 : Nat) : Int) := by rw [Int.tdiv_eq_ediv_of_nonneg (by omega)]; omega
theorem downs_pos (a k : Nat) : downs (a : Int) k = ((a / 10 ^ k : Nat) : Int) := by
  induction k with
  | zero => simp [downs]
  | succ k ih => rw [downs, ih, tdiv10, Nat.div_div_eq_div_mul, Nat.pow_succ]
theorem downs_neg (a k : Nat) : downs (-(a : Int)) k = -((a / 10 ^ k : Nat) : Int) := by
  induction k with
  | zero => simp [downs]
  | succ k ih => rw [downs, ih, Int.neg_tdiv, tdiv10, Nat.div_div_eq_div_mul, Nat.pow_succ]
theorem shift_parse (n e : Int) (h1 : -1073741824 ≤ n) (h2 : n ≤ 1073741824) (h3 : -3 ≤ e) (h4 : e ≤ 3) :
    isP (printP n ++ 101 :: expT e) = true ∧ parseP (printP n ++ 101 :: expT e) = stopZ (shiftZ n e) := by
  have hst : stopZ n = n := stopZ_of (by omega) (by omega)
  obtain ⟨neg, a, ha, hs, hn, hp⟩ := stop_form n
  rw [hst] at hs
  have hab : a ≤ 1073741824 := by cases neg <;> simp at hs <;> omega
  have key : ∀ (S2 X : List UInt8), expT e = S2 ++ X → X ≠ [] → (S2 = [] ∨ ∃ b, S2 = [b] ∧ (b.toNat = 43 ∨ b.toNat = 45)) → (∀ b ∈ X, isD b = true) → powP (S2 ++ X) = e →
      isP (printP n ++ 101 :: expT e) = true ∧ parseP (printP n ++ 101 :: expT e) = if neg = true then -((min (scaleN a e) M : Nat) : Int) else ((min (scaleN a e) M : Nat) : Int) := by
    intro S2 X h5 h6 h7 h8 h9
    obtain ⟨r1, r2, r3⟩ := parse_made neg a [101] S2 X (.inr ⟨101, rfl, .inl rfl, h6⟩) h7 h8 e h9 h3 (printP n ++ 101 :: expT e) (by rw [hp, h5]; simp)
    exact ⟨r1, r3⟩
  have fin : (isP (printP n ++ 101 :: expT e) = true ∧ parseP (printP n ++ 101 :: expT e) = if neg = true then -((min (scaleN a e) M : Nat) : Int) else ((min (scaleN a e) M : Nat) : Int)) := by
    have h : e = -3 ∨ e = -2 ∨ e = -1 ∨ e = 0 ∨ e = 1 ∨ e = 2 ∨ e = 3 := by omega
    rcases h with rfl | rfl | rfl | rfl | rfl | rfl | rfl
    · exact key [45] [51] rfl (by simp) (.inr ⟨45, rfl, .inr rfl⟩) (by decide) (by decide)
    · exact key [45] [50] rfl (by simp) (.inr ⟨45, rfl, .inr rfl⟩) (by decide) (by decide)
    · exact key [45] [49] rfl (by simp) (.inr ⟨45, rfl, .inr rfl⟩) (by decide) (by decide)
    · exact key [] [48] rfl (by simp) (.inl rfl) (by decide) (by decide)
    · exact key [43] [49] rfl (by simp) (.inr ⟨43, rfl, .inl rfl⟩) (by decide) (by decide)
    · exact key [] [50] rfl (by simp) (.inl rfl) (by decide) (by decide)
    · exact key [] [51] rfl (by simp) (.inl rfl) (by decide) (by decide)
  refine ⟨fin.1, ?_⟩
  rw [fin.2]
  clear fin key hp
  have hsh : shiftZ n e = if neg = true then -((scaleN a e : Nat) : Int) else ((scaleN a e : Nat) : Int) := by
    unfold shiftZ scaleN
    by_cases hp : 0 ≤ e
    · rw [if_pos hp, show (-e).toNat = 0 by omega]
      show ups n e.toNat = _
      rw [ups_abs]
      cases neg <;> simp only [Bool.false_eq_true, if_false, if_true] at hs ⊢ <;> rw [hs]
      · push_cast; rw [Int.mul_comm]
      · push_cast; rw [Int.neg_mul, Int.mul_comm]
    · rw [if_neg hp, show e.toNat = 0 by omega]
      show downs n _ = _
      cases neg <;> simp only [Bool.false_eq_true, if_false, if_true] at hs ⊢ <;> rw [hs]
      · rw [downs_pos]
      · rw [downs_neg]
  rw [hsh]
  generalize scaleN a e = x
  unfold stopZ M
  cases neg <;> simp only [Bool.false_eq_true, if_false, if_true] <;> omega
end Go.Proofs.YtifedkilbpkpaaaGreatDoor
