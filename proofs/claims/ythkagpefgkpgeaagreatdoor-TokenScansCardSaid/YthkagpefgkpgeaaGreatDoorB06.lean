/- Layer 1: Parse is walked. -/
import Derived.Test.YthkagpefgkpgeaaGreatDoorB03
import Derived.Laws.RangeString
import Derived.WalkMore
import Derived.Deep.RegionWith
import Derived.Lib.ConvBytes
import Derived.Test.YthkagpefgkpgeaaGreatDoorB02
import Derived.Lib.IndexMore
import Derived.Lib.IndexAny
import Derived.Lib.IndexLaws
import Derived.Lib.Atoi
import Derived.Lib.AtoiErrMem
/- Layer 3: is a character one of a decimal's? The library's ContainsRune at the program's text of ASCII characters, for every character. -/
set_option linter.unusedVariables false
set_option linter.unusedSimpArgs false
namespace Go.Proofs.YthkagpefgkpgeaaGreatDoor
open Go.RowKit Rn Tk
def numS : ByteArray := ⟨#[48, 49, 50, 51, 52, 53, 54, 55, 56, 57, 43, 45, 46, 101, 69]⟩
theorem numS_ascii : ∀ c : Fin 128, decide (0 ≤ Lib.indexByte numS.data.toList (c.val : Int).toNat.toUInt8) = numB (c.val : Int) := by decide +kernel
theorem numS_at : ∀ i : Fin 15, (numS[i.val]'(Nat.lt_of_lt_of_le i.isLt (by decide))).toNat < 128 := by decide +kernel
theorem numS_high : ∀ (i : Fin 5) (b : Fin 128), Lib.indexByte (numS.data.toList.drop i.val) (UInt8.ofNat (128 + b.val)) = -1 := by decide +kernel
set_option maxRecDepth 100000 in
set_option maxHeartbeats 2000000 in
theorem str_bad (w : World) :
    Calls Tryz.prog 60 #[.string numS, .int .i32 65533] w fun e w' => e = .returned (.int .i64 (-1)) ∧ w.grownBy w' none := by
  have hsz : numS.size = 15 := rfl
  go_enter Tryz.func60, Tryz.ntmps60
  go_wp2_with fail
  go_loopw [5, 6] (fun x y w' => ∃ (pos : Nat), w' = w.iter numS pos ∧ pos ≤ 15) (fun _ _ w' => 15 - w'.iterPos w.heap.size)
  case atStart => exact ⟨0, rfl, by omega⟩
  case round =>
    obtain ⟨pos, rfl, hp⟩ := hrel
    by_cases hlt : pos < numS.size
    · have ha := numS_at ⟨pos, by omega⟩
      simp only [] at ha
      have hnx : ∀ ty, (Instr.next (.pointer (some ⟨w.heap.size, 0, none⟩)) true ty).run Tryz.prog (w.iter numS pos) = _ := fun ty => run_next_ascii w numS pos ty hlt ha
      have hne : (((numS[pos]'hlt).toNat : Int) == 65533) = false := by simp; omega
      generalize ((numS[pos]'hlt).toNat : Int) = z at *
      go_wp2_with fail
      go_roundw
      case rel => exact ⟨pos + 1, rfl, by omega⟩
      case measure => simp; omega
    · have hnx : ∀ ty, (Instr.next (.pointer (some ⟨w.heap.size, 0, none⟩)) true ty).run Tryz.prog (w.iter numS pos) = _ := fun ty => run_next_end w numS pos ty hlt
      go_wp2_with fail
      go_ret
      exact ⟨rfl, World.grownBy_alloc _ _ _⟩
def numL : List UInt8 := [48, 49, 50, 51, 52, 53, 54, 55, 56, 57, 43, 45, 46, 101, 69]
theorem gdrew' (W : World) : W.grownBy W.drew none := ⟨rfl, rfl, rfl, Nat.le_refl _, fun _ _ _ => rfl⟩
theorem numL_low : ∀ i : Fin 15, (numL[i.val]'(Nat.lt_of_lt_of_le i.isLt (by decide))).toNat < 128 := by decide
theorem valid_is {r : Int} (h : isB r = true) : Lib.validRune r = true ∧ Utf8.valid r = true := by
  unfold isB at h
  have h := of_decide_eq_true h
  constructor
  · unfold Lib.validRune; simp; omega
  · unfold Utf8.valid; simp; omega
set_option maxRecDepth 100000 in
set_option maxHeartbeats 2000000 in
theorem str_high (r : Int) (w : World) (h : 128 ≤ r) (hb : isB r = true) (hne : r ≠ 65533) :
    Calls Tryz.prog 60 #[.string numS, .int .i32 r] w fun e w' => e = .returned (.int .i64 (-1)) ∧ w.grownBy w' none := by
  have hr := isB_range hb
  obtain ⟨hv1, hv2⟩ := valid_is hb
  obtain ⟨f1, f2, f3⟩ := encode_facts r hv2 h
  have t1 : decide (r < 128) = false := by simp; omega
  have t0 : decide ((0 : Int) ≤ r) = true := by simp; omega
  have tb := eq_f hne
  obtain ⟨E, hE⟩ : ∃ E, Utf8.encode r = E := ⟨_, rfl⟩
  obtain ⟨i, hi⟩ : ∃ i, E.size = i + 1 := ⟨E.size - 1, by rw [hE] at f1; omega⟩
  rw [hE] at f1 f2 f3
  have hi3 : 1 ≤ i ∧ i ≤ 3 := by omega
  have hEl : E = bytesOf E.data.toList := (bytesOf_eta E).symm
  have hll : E.data.toList.length = i + 1 := by rw [← bytesOf_size, ← hEl]; exact hi
  obtain ⟨b, hbt⟩ : ∃ b, E.data.toList[i]? = some b := ⟨_, List.getElem?_eq_getElem (by omega)⟩
  have hb128 : 128 ≤ b.toNat := by
    have h3 := f3 (by omega)
    have he : E[E.size - 1]'(by omega) = b := by
      have : E.data.toList[i]? = some (E[E.size - 1]'(by omega)) := by
        rw [List.getElem?_eq_getElem (by omega)]
        congr 1
        show E.data.toList[i]'_ = E.data[E.size - 1]'_
        simp [hi]
      rw [hbt] at this; injection this with this; exact this.symm
    rw [he] at h3; exact h3
  have hb256 := b.toNat_lt
  have hS : numS = bytesOf numL := rfl
  obtain ⟨d, hd⟩ : ∃ d, numL[i]? = some d := ⟨numL[i]'(by show i < 15; omega), List.getElem?_eq_getElem _⟩
  have hd128 : d.toNat < 128 := by
    have := numL_low ⟨i, by omega⟩
    have e : numL[i]'(by show i < 15; omega) = d := by rw [List.getElem?_eq_getElem (by show i < 15; omega)] at hd; injection hd
    simp only [e] at this; exact this
  have x1 := str_at (P := Tryz.prog) (T := 9) Tryz.underlying9 numL .i64 i d hd
  have x2 := str_at (P := Tryz.prog) (T := 9) Tryz.underlying9 E.data.toList .i64 i b hbt
  rw [← hEl] at x2
  have x3 := str_from (P := Tryz.prog) (T := 9) Tryz.underlying9 numL .i64 (i + 1) (by show i + 1 ≤ 15; omega)
  rw [← hS] at x1 x3
  push_cast at x3
  have hix : Lib.indexByte (bytesOf (numL.drop (i + 1))).data.toList (b.toNat : Int).toNat.toUInt8 = -1 := by
    rw [bytesOf_list]
    have := numS_high ⟨i + 1, by omega⟩ ⟨b.toNat - 128, by omega⟩
    have e : UInt8.ofNat (128 + (b.toNat - 128)) = (b.toNat : Int).toNat.toUInt8 := by
      rw [Int.toNat_natCast, show 128 + (b.toNat - 128) = b.toNat by omega]
    rw [← e]; exact this
  have Hix := Lib.hid hix
  have hsz : numS.size = 15 := rfl
  have hEs : (E.size : Int) - 1 = (i : Int) := by omega
  have hlt : (i : Int) < 15 := by omega
  have hwr : IntKind.i64.wrap ((i : Int) + 1) = (i : Int) + 1 := by rw [IntKind.wrap_i64]; omega
  have hneq : ((d.toNat : Int) != (b.toNat : Int)) = true := by simp; omega
  clear hix hbt hd hEl hS f3 hll hi f1 f2
  go_enter Tryz.func60, Tryz.ntmps60
  go_wp2_with fail
  refine (Tryz.utf8_ValidRune r w).mono ?_
  rintro e w1 ⟨rfl, rfl⟩
  rw [hv1]
  go_wp2_with fail
  go_step3
  go_wp2_with fail
  go_loopw [9, 10] (fun x y wr => x = .int .i64 (i : Nat) ∧ y = .int .i64 0 ∧ wr = w1) (fun _ _ _ => 0)
  case atStart => exact ⟨rfl, rfl, rfl⟩
  case round =>
    obtain ⟨rfl, rfl, rfl⟩ := hrel
    go_wp2_with fail
    go_step3
    go_wp2_with fail
    go_quiet (fail)
    go_wp2_with fail
    go_region_with (go_at_call 72; refine (Tryz.strings_IndexByte _ _ _).mono ?_; rintro e w2 ⟨rfl, rfl⟩; rw [Hix.out])
    all_goals
      go_wp2_with fail
      rw [Exit.noGoto_ret]
      simp only [Exit.inBlock]
      (show Exit.noGoto _ Exit.ret _ _)
      rw [Exit.noGoto_ret]
      simp only [Exit.inBlock, Exit.then]
      rw [Exit.noGoto_ret]
      go_ret
      exact ⟨rfl, (grown_drewN _ _).trans (gdrew' _)⟩
theorem numB_high {r : Int} (h : 128 ≤ r) : numB r = false := by unfold numB; simp; omega
set_option maxRecDepth 100000 in
theorem str_contains (r : Int) (w : World) (hb : isB r = true) :
    Calls Tryz.prog 43 #[.string numS, .int .i32 r] w fun e w' => e = .returned (.bool (numB r)) ∧ w.grownBy w' none := by
  have hr := isB_range hb
  by_cases h : r < 128
  · refine (Tryz.strings_ContainsRune_ascii numS r w hr.1 h).mono ?_
    rintro e w1 ⟨rfl, rfl⟩
    have := numS_ascii ⟨r.toNat, by omega⟩
    have e : ((r.toNat : Nat) : Int) = r := by omega
    simp only [e] at this
    exact ⟨by rw [this], World.grownBy.refl _ _⟩
  · rw [numB_high (by omega)]
    have hcall : Calls Tryz.prog 60 #[.string numS, .int .i32 r] w fun e w' => e = .returned (.int .i64 (-1)) ∧ w.grownBy w' none := by
      by_cases hne : r = 65533
      · subst hne; exact str_bad w
      · exact str_high r w (by omega) hb hne
    go_enter Tryz.func43, Tryz.ntmps43
    go_wp2_with fail
    refine hcall.mono ?_
    rintro e w1 ⟨rfl, g⟩
    go_wp2
    go_ret
    exact ⟨rfl, g⟩
end Go.Proofs.YthkagpefgkpgeaaGreatDoor
/- Layer 1: a decimal taken apart: plain laws. -/
set_option linter.unusedVariables false
set_option linter.unusedSimpArgs false
namespace Go.Proofs.YthkagpefgkpgeaaGreatDoor
open Go.RowKit Fx
theorem digs_all (l : List UInt8) : ∀ b ∈ l.take (digs l), isD b = true := by
  have h : l.take (digs l) = l.takeWhile isD := by
    unfold digs
    exact (List.prefix_iff_eq_take.1 (List.takeWhile_prefix isD)).symm
  rw [h]
  have := List.all_takeWhile (p := isD) (l := l)
  rwa [List.all_eq_true] at this
theorem isD_range {b : UInt8} (h : isD b = true) : 48 ≤ b.toNat ∧ b.toNat ≤ 57 := by simpa [isD] using h
/-- what a decimal is made of -/
structure Dec (l : List UInt8) (sg : List UInt8) (I : List UInt8) (P : List UInt8) (F : List UInt8) (E : List UInt8) (S2 : List UInt8) (X : List UInt8) : Prop where
  all : l = sg ++ (I ++ (P ++ F)) ++ (E ++ (S2 ++ X))
  hsg : sg = [] ∨ ∃ b, sg = [b] ∧ (b.toNat = 43 ∨ b.toNat = 45)
  hI : ∀ b ∈ I, isD b = true
  hF : ∀ b ∈ F, isD b = true
  hP : (P = [] ∧ F = []) ∨ (P = [46] ∧ F ≠ [])
  hE : (E = [] ∧ S2 = [] ∧ X = []) ∨ (∃ e, E = [e] ∧ (e.toNat = 101 ∨ e.toNat = 69) ∧ X ≠ [])
  hS : S2 = [] ∨ ∃ b, S2 = [b] ∧ (b.toNat = 43 ∨ b.toNat = 45)
  hX : ∀ b ∈ X, isD b = true
  lsg : sg = l.take (sgn l)
  lI : I = intP l
  lF : F = fracP l
  lA : bodyLen l = sg.length + I.length + P.length + F.length
  lE : S2 ++ X = expP l
  lS2 : S2 = (expP l).take (sgn (expP l))
  lX : X = (expP l).drop (sgn (expP l))
  some : I ≠ [] ∨ F ≠ []
theorem sgn_shape (l : List UInt8) : l.take (sgn l) = [] ∨ ∃ b, l.take (sgn l) = [b] ∧ (b.toNat = 43 ∨ b.toNat = 45) := by
  cases l with
  | nil => exact .inl rfl
  | cons b l =>
    unfold sgn
    simp only []
    split
    · rename_i h; exact .inr ⟨b, rfl, h⟩
    · exact .inl rfl
theorem take_full {α : Type} {l : List α} {n : Nat} (h : l.length = n) : l.take n = l := by subst h; exact List.take_length
theorem dec_of_isP {l : List UInt8} (h : isP l = true) : ∃ sg I P F E S2 X, Dec l sg I P F E S2 X := by
  have h' := of_decide_eq_true h
  obtain ⟨hne, hlen⟩ := h'
  have hpos : 0 < l.length := List.length_pos_iff.2 hne
  have hsome : some_ l = true := by
    cases hs : some_ l with
    | true => rfl
    | false => rw [lenP_none hs] at hlen; omega
  obtain ⟨A, hA⟩ : ∃ A, bodyLen l = A := ⟨_, rfl⟩
  have hAl := bodyLen_le l
  have ht := lenP_tail hsome hA
  have hk0 := sgn_le l
  have hn0 := digs_le (l.drop (sgn l))
  rw [List.length_drop] at hn0
  have hIlen : (intP l).length = digs (l.drop (sgn l)) := by
    unfold intP; rw [List.length_take, List.length_drop]; omega
  -- the body
  have hbody : ∃ P, l.take A = l.take (sgn l) ++ (intP l ++ (P ++ fracP l)) ∧ ((P = [] ∧ fracP l = []) ∨ (P = [46] ∧ fracP l ≠ [])) ∧ A = (l.take (sgn l)).length + (intP l).length + P.length + (fracP l).length := by
    have e1 : l.take (sgn l + digs (l.drop (sgn l))) = l.take (sgn l) ++ intP l := by
      rw [List.take_add]; rfl
    by_cases hd : l[sgn l + digs (l.drop (sgn l))]? = Option.some 46 ∧ 0 < digs (l.drop (sgn l + digs (l.drop (sgn l)) + 1))
    · have hF : fracP l = (l.drop (sgn l + digs (l.drop (sgn l)) + 1)).take (digs (l.drop (sgn l + digs (l.drop (sgn l)) + 1))) := by
        unfold fracP; simp only []; rw [if_pos hd]
      have hFl : (fracP l).length = digs (l.drop (sgn l + digs (l.drop (sgn l)) + 1)) := by
        have := digs_le (l.drop (sgn l + digs (l.drop (sgn l)) + 1))
        rw [hF, List.length_take]; omega
      have hA2 : A = sgn l + digs (l.drop (sgn l)) + 1 + digs (l.drop (sgn l + digs (l.drop (sgn l)) + 1)) := by
        rw [← hA]; unfold bodyLen; simp only []; rw [if_pos hd]
      refine ⟨[46], ?_, .inr ⟨rfl, ?_⟩, ?_⟩
      · rw [hA2, List.take_add, ← hF, take_snoc _ _ _ hd.1, e1]
        simp
      · intro h0; rw [h0] at hFl; simp at hFl; omega
      · rw [hFl, hIlen, List.length_take]; simp; omega
    · have hF : fracP l = [] := by unfold fracP; simp only []; rw [if_neg hd]
      have hA2 : A = sgn l + digs (l.drop (sgn l)) := by
        rw [← hA]; unfold bodyLen; simp only []; rw [if_neg hd]
      refine ⟨[], ?_, .inl ⟨rfl, hF⟩, ?_⟩
      · rw [hA2, e1, hF]; simp
      · rw [hF, hIlen, List.length_take]; simp; omega
  obtain ⟨P, hb1, hb2, hb3⟩ := hbody
  have hsplit : l = l.take A ++ l.drop A := (List.take_append_drop A l).symm
  have hItail : ∀ b ∈ intP l, isD b = true := by unfold intP; exact digs_all _
  have hFtail : ∀ b ∈ fracP l, isD b = true := by
    unfold fracP
    simp only []
    split
    · exact digs_all _
    · simp
  have hsm : intP l ≠ [] ∨ fracP l ≠ [] := by
    by_cases hd : 0 < digs (l.drop (sgn l))
    · left; intro h0; rw [h0] at hIlen; simp at hIlen; omega
    · right
      unfold some_ at hsome
      have hd2 := of_decide_eq_true hsome
      have hd3 := hd2.resolve_left hd
      intro h0
      have hF : fracP l = (l.drop (sgn l + digs (l.drop (sgn l)) + 1)).take (digs (l.drop (sgn l + digs (l.drop (sgn l)) + 1))) := by
        unfold fracP; simp only []; rw [if_pos hd3]
      have hFl : (fracP l).length = digs (l.drop (sgn l + digs (l.drop (sgn l)) + 1)) := by
        have := digs_le (l.drop (sgn l + digs (l.drop (sgn l)) + 1))
        rw [hF, List.length_take]; omega
      rw [h0] at hFl; simp at hFl; omega
  rcases isE_cases l A with ⟨hge, hE⟩ | ⟨e, he, hE3⟩
  · have hX : expP l = [] := by unfold expP; rw [hA, hE]; rfl
    refine ⟨l.take (sgn l), intP l, P, fracP l, [], [], [], ?_⟩
    exact { all := by rw [← hb1, take_full (by omega)]; simp, hsg := sgn_shape l, hI := hItail, hF := hFtail, hP := hb2, hE := .inl ⟨rfl, rfl, rfl⟩, hS := .inl rfl, hX := by simp, lsg := rfl, lI := rfl, lF := rfl, lA := by rw [hA, hb3], lE := by rw [hX]; rfl, lS2 := by rw [hX]; rfl, lX := by rw [hX]; rfl, some := hsm }
  · have hlt : A < l.length := (List.getElem?_eq_some_iff.1 he).1
    have hEt : isE l[A]? = true ∧ (e.toNat = 101 ∨ e.toNat = 69) := by
      rcases hE3 with ⟨h1, h2⟩ | ⟨h1, h2⟩ | ⟨h1, h2, h3⟩
      · exact ⟨h2, .inl h1⟩
      · exact ⟨h2, .inr h1⟩
      · have := ht.1 h3; omega
    have hL := ht.2 hEt.1 _ _ rfl rfl
    have hm2 : 0 < digs (l.drop (A + 1 + sgn (l.drop (A + 1)))) := by
      by_cases hm : 0 < digs (l.drop (A + 1 + sgn (l.drop (A + 1))))
      · exact hm
      · rw [if_neg hm] at hL; omega
    rw [if_pos hm2] at hL
    have hX : expP l = l.drop (A + 1) := by unfold expP; rw [hA, if_pos hEt.1]
    have hXd : (expP l).drop (sgn (expP l)) = l.drop (A + 1 + sgn (l.drop (A + 1))) := by rw [hX, List.drop_drop]
    refine ⟨l.take (sgn l), intP l, P, fracP l, [e], (expP l).take (sgn (expP l)), (expP l).drop (sgn (expP l)), ?_⟩
    have hda : l.drop A = [e] ++ ((expP l).take (sgn (expP l)) ++ (expP l).drop (sgn (expP l))) := by
      rw [List.take_append_drop, hX]
      obtain ⟨hi, rfl⟩ := List.getElem?_eq_some_iff.1 he
      exact List.drop_eq_getElem_cons hi
    have hXlen : (l.drop (A + 1 + sgn (l.drop (A + 1)))).length = digs (l.drop (A + 1 + sgn (l.drop (A + 1)))) := by
      rw [List.length_drop]; omega
    have hXall : ∀ b ∈ (expP l).drop (sgn (expP l)), isD b = true := by
      rw [hXd]
      have := digs_all (l.drop (A + 1 + sgn (l.drop (A + 1))))
      rwa [take_full hXlen] at this
    exact { all := by rw [← hb1, ← hda]; exact hsplit, hsg := sgn_shape l, hI := hItail, hF := hFtail, hP := hb2, hE := .inr ⟨e, rfl, hEt.2, by rw [hXd]; intro h0; have h1 := congrArg List.length h0; rw [hXlen, List.length_nil] at h1; omega⟩, hS := sgn_shape _, hX := hXall, lsg := rfl, lI := rfl, lF := rfl, lA := by rw [hA, hb3], lE := List.take_append_drop _ _, lS2 := rfl, lX := rfl, some := hsm }
end Go.Proofs.YthkagpefgkpgeaaGreatDoor
/- Layer 1: the program's Length is walked, cut where its ways meet. -/
set_option linter.unusedVariables false
set_option linter.unusedSimpArgs false
namespace Go.Proofs.YthkagpefgkpgeaaGreatDoor
open Go.RowKit Fx
set_option maxRecDepth 100000 in
set_option maxHeartbeats 8000000 in
theorem fx_length (l : List UInt8) (w : World) (hl : l.length ≤ 9223372036854775806) :
    Calls Tryz.prog 44 #[.string (bytesOf l)] w fun e w' => e = .returned (.int .i64 (lenP l : Nat)) ∧ Below w.heap.size w w' := by
  have hs := bytesOf_size l
  obtain ⟨a0, h0⟩ : ∃ a0, sgn l = a0 := ⟨_, rfl⟩
  obtain ⟨n0, hn⟩ : ∃ n0, digs (l.drop a0) = n0 := ⟨_, rfl⟩
  obtain ⟨m, hm⟩ : ∃ m, digs (l.drop (a0 + n0 + 1)) = m := ⟨_, rfl⟩
  have ha0 := sgn_le l
  have hn0 := digs_le (l.drop a0)
  rw [h0] at ha0
  rw [hn, List.length_drop] at hn0
  obtain ⟨A, hA⟩ : ∃ A, bodyLen l = A := ⟨_, rfl⟩
  have hAl := bodyLen_le l
  rw [hA] at hAl
  have HA := Lib.hid hA
  have hBody : bodyLen l = if l[a0 + n0]? = some 46 ∧ 0 < m then a0 + n0 + 1 + m else a0 + n0 := by simp only [bodyLen, h0, hn, hm]
  have hSome : some_ l = decide (0 < n0 ∨ (l[a0 + n0]? = some 46 ∧ 0 < m)) := by simp only [some_, h0, hn, hm]
  rw [hA] at hBody
  have HBody := Lib.hid hBody
  have HSome := Lib.hid hSome
  have Hdot := Lib.hid (dot_cases l (a0 + n0))
  have hf0 := str_from (P := Tryz.prog) (T := 9) Tryz.underlying9 l .i64 a0 (by omega)
  have H0 := Lib.hid h0
  have Hn := Lib.hid hn
  have Hm := Lib.hid hm
  clear hA hBody hSome h0 hn hm
  obtain ⟨D, hD⟩ : ∃ D, decide (l[a0 + n0]? = some 46) = D := ⟨_, rfl⟩
  have HD := Lib.hid hD
  clear hD
  go_enter Tryz.func44, Tryz.ntmps44
  go_wp2_with fail
  refine (fx_sign l w (by omega)).mono ?_
  rintro e w1 ⟨rfl, rfl⟩
  rw [H0.out]
  go_wp2_with fail
  refine (fx_digits (l.drop a0) w (by rw [List.length_drop]; omega)).mono ?_
  rintro e w1 ⟨rfl, hb1⟩
  rw [Hn.out]
  go_upto_region 4 with (fail)
  go_cut [26] (fun s wx => s = .bool D ∧ wx = w1)
  case first =>
    rcases Hdot.out with ⟨hge, h⟩ | ⟨b, hb, ⟨hb1, h⟩ | ⟨hb1, h⟩⟩
    · go_wp2_with fail
      go_meet
      exact ⟨by rw [← HD.out]; simp [h], rfl⟩
    · have hlt : a0 + n0 < l.length := (List.getElem?_eq_some_iff.1 hb).1
      have hix := str_at (P := Tryz.prog) (T := 9) Tryz.underlying9 l .i64 (a0 + n0) b hb
      rw [hb1] at hix
      push_cast at hix
      go_wp2_with fail
      go_meet
      exact ⟨by rw [← HD.out]; simp [h], rfl⟩
    · have hlt : a0 + n0 < l.length := (List.getElem?_eq_some_iff.1 hb).1
      have hix := str_at (P := Tryz.prog) (T := 9) Tryz.underlying9 l .i64 (a0 + n0) b hb
      push_cast at hix
      have hc1 : ((b.toNat : Int) == 46) = false := byte_ne hb1
      go_wp2_with fail
      go_meet
      exact ⟨by rw [← HD.out]; simp [h, hc1], rfl⟩
  case rest =>
    obtain ⟨rfl, rfl⟩ := hcut
    go_upto_if 26 with (fail)
    go_cut [3, 4] (fun s t wx => s = .int .i64 (A : Nat) ∧ (∃ N : Nat, t = .int .i64 (N : Nat) ∧ some_ l = decide (0 < N) ∧ N ≤ l.length) ∧ Below w.heap.size w wx)
    case first =>
      cases D with
      | true =>
        have hdot := of_decide_eq_true HD.out
        have hal := (List.getElem?_eq_some_iff.1 hdot).1
        have hf1 := str_from (P := Tryz.prog) (T := 9) Tryz.underlying9 l .i64 (a0 + n0 + 1) (by omega)
        push_cast at hf1
        have hm1 := digs_le (l.drop (a0 + n0 + 1))
        rw [Hm.out, List.length_drop] at hm1
        have Hdt := Lib.hid hdot
        clear hdot
        by_cases hm0 : 0 < m
        · have hdm : decide (0 < (m : Int)) = true := by simpa using hm0
          go_wp2_with fail
          refine (fx_digits (l.drop (a0 + n0 + 1)) _ (by rw [List.length_drop]; omega)).mono ?_
          rintro e w2 ⟨rfl, hb2⟩
          rw [Hm.out]
          go_wp2_with fail
          go_meet
          refine ⟨?_, ⟨n0 + m, by congr 1, ?_, by omega⟩, hb1.trans (hb2.mono hb1.size)⟩
          · congr 1
            rw [HBody.out, if_pos ⟨Hdt.out, hm0⟩]; omega
          · rw [HSome.out, decide_eq_decide]
            constructor
            · intro _; omega
            · intro _; exact .inr ⟨Hdt.out, hm0⟩
        · have hdm : decide (0 < (m : Int)) = false := by simpa using hm0
          go_wp2_with fail
          refine (fx_digits (l.drop (a0 + n0 + 1)) _ (by rw [List.length_drop]; omega)).mono ?_
          rintro e w2 ⟨rfl, hb2⟩
          rw [Hm.out]
          go_wp2_with fail
          go_meet
          refine ⟨?_, ⟨n0, rfl, ?_, by omega⟩, hb1.trans (hb2.mono hb1.size)⟩
          · congr 1
            rw [HBody.out, if_neg (by omega)]; omega
          · rw [HSome.out, decide_eq_decide]; omega
      | false =>
        have hdot := of_decide_eq_false HD.out
        have hN : some_ l = decide (0 < n0) := by rw [HSome.out]; simp only [hdot, false_and, or_false]
        have hAv : A = a0 + n0 := by rw [HBody.out, if_neg (by simp only [hdot, false_and, not_false_eq_true])]
        have HN := Lib.hid hN
        clear hN hdot
        go_wp2_with fail
        go_meet
        exact ⟨by congr 1; omega, ⟨n0, rfl, HN.out, by omega⟩, hb1⟩
    case rest =>
      obtain ⟨rfl, ⟨N, rfl, hS, hNl⟩, hb2⟩ := hcut
      cases hS1 : some_ l with
      | false =>
        obtain rfl : N = 0 := by rw [hS1] at hS; have := of_decide_eq_false hS.symm; omega
        have Hval := Lib.hid (lenP_none hS1)
        clear hS1 hS
        go_wp2
        go_ret
        exact ⟨ret_int (by rw [Hval.out]; rfl), hb2⟩
      | true =>
        have hN0 : 0 < N := by rw [hS1] at hS; exact of_decide_eq_true hS.symm
        have htail := Lib.hid (lenP_tail hS1 HA.out)
        have hz : ((N : Int) == 0) = false := by simp; omega
        clear hS1 hS
        go_upto_region 11 with (fail)
        go_cut [58] (fun s wx => s = .bool (isE l[A]?) ∧ wx = wc)
        case first =>
          rcases isE_cases l A with ⟨hge, h⟩ | ⟨b, hb, ⟨hb1, h⟩ | ⟨hb1, h⟩ | ⟨hb1, hb2, h⟩⟩
          · go_wp2_with fail
            go_meet
            exact ⟨by rw [h], rfl⟩
          · have hlt : A < l.length := (List.getElem?_eq_some_iff.1 hb).1
            have hix := str_at (P := Tryz.prog) (T := 9) Tryz.underlying9 l .i64 A b hb
            rw [hb1] at hix
            go_wp2_with fail
            go_meet
            exact ⟨by rw [h], rfl⟩
          · have hlt : A < l.length := (List.getElem?_eq_some_iff.1 hb).1
            have hix := str_at (P := Tryz.prog) (T := 9) Tryz.underlying9 l .i64 A b hb
            rw [hb1] at hix
            go_wp2_with fail
            go_meet
            exact ⟨by rw [h], rfl⟩
          · have hlt : A < l.length := (List.getElem?_eq_some_iff.1 hb).1
            have hix := str_at (P := Tryz.prog) (T := 9) Tryz.underlying9 l .i64 A b hb
            have hc1 : ((b.toNat : Int) == 101) = false := byte_ne hb1
            have hc2 : ((b.toNat : Int) == 69) = false := byte_ne hb2
            go_wp2_with fail
            go_meet
            exact ⟨by first | rw [h]; done | (rw [h]; simp [hc1, hc2]), rfl⟩
        case rest =>
          obtain ⟨rfl, rfl⟩ := hcut
          cases hE : isE l[A]? with
          | false =>
            have Hval := Lib.hid (htail.out.1 hE)
            clear hE
            go_wp2
            go_ret
            exact ⟨ret_int (by rw [Hval.out]), hb2⟩
          | true =>
            have hAlt : A < l.length := by
              rcases isE_cases l A with ⟨hge, h⟩ | ⟨b, hb, _⟩
              · rw [hE] at h; cases h
              · exact (List.getElem?_eq_some_iff.1 hb).1
            obtain ⟨k, hk⟩ : ∃ k, sgn (l.drop (A + 1)) = k := ⟨_, rfl⟩
            have hk1 := sgn_le (l.drop (A + 1))
            rw [hk, List.length_drop] at hk1
            obtain ⟨m2, hm2⟩ : ∃ m, digs (l.drop (A + 1 + k)) = m := ⟨_, rfl⟩
            have Hval := Lib.hid (htail.out.2 hE k m2 hk hm2)
            have hm1 := digs_le (l.drop (A + 1 + k))
            rw [hm2, List.length_drop] at hm1
            have hf2 := str_from (P := Tryz.prog) (T := 9) Tryz.underlying9 l .i64 (A + 1) (by omega)
            have hf3 := str_from (P := Tryz.prog) (T := 9) Tryz.underlying9 l .i64 (A + 1 + k) (by omega)
            push_cast at hf2 hf3
            have Hk := Lib.hid hk
            have Hm2 := Lib.hid hm2
            clear hE hk hm2
            by_cases hm0 : 0 < m2
            · have hdm : decide (0 < (m2 : Int)) = true := by simpa using hm0
              go_wp2_with fail
              refine (fx_sign (l.drop (A + 1)) _ (by rw [List.length_drop]; omega)).mono ?_
              rintro e w3 ⟨rfl, rfl⟩
              rw [Hk.out]
              go_wp2_with fail
              refine (fx_digits (l.drop (A + 1 + k)) _ (by rw [List.length_drop]; omega)).mono ?_
              rintro e w4 ⟨rfl, hb4⟩
              rw [Hm2.out]
              go_wp2
              go_ret
              exact ⟨ret_int (by rw [Hval.out, if_pos hm0] <;> omega), hb2.trans (hb4.mono hb2.size)⟩
            · have hdm : decide (0 < (m2 : Int)) = false := by simpa using hm0
              go_wp2_with fail
              refine (fx_sign (l.drop (A + 1)) _ (by rw [List.length_drop]; omega)).mono ?_
              rintro e w3 ⟨rfl, rfl⟩
              rw [Hk.out]
              go_wp2_with fail
              refine (fx_digits (l.drop (A + 1 + k)) _ (by rw [List.length_drop]; omega)).mono ?_
              rintro e w4 ⟨rfl, hb4⟩
              rw [Hm2.out]
              go_wp2
              go_ret
              exact ⟨ret_int (by rw [Hval.out, if_neg hm0] <;> omega), hb2.trans (hb4.mono hb2.size)⟩
end Go.Proofs.YthkagpefgkpgeaaGreatDoor
/- Layer 1: the exponent's number is walked. -/
set_option linter.unusedVariables false
set_option linter.unusedSimpArgs false
namespace Go.Proofs.YthkagpefgkpgeaaGreatDoor
open Go.RowKit Fx
theorem bytesOf_append (a b : List UInt8) : bytesOf a ++ bytesOf b = bytesOf (a ++ b) := by
  rw [← bytesOf_eta (bytesOf a ++ bytesOf b)]
  congr 1
theorem val_foldl (l : List UInt8) : ∀ n, l.foldl (fun n b => 10 * n + dv b) n = n * 10 ^ l.length + val l := by
  induction l with
  | nil => intro n; simp [val]
  | cons b l ih =>
    intro n
    unfold val
    simp only [List.foldl_cons, List.length_cons]
    rw [ih, ih (10 * 0 + dv b), Nat.pow_succ]
    rw [Nat.add_mul]
    have : 10 * n * 10 ^ l.length = n * (10 ^ l.length * 10) := by
      rw [Nat.mul_comm 10 n, Nat.mul_assoc, Nat.mul_comm 10]
    rw [this, Nat.mul_zero, Nat.zero_add]
    omega
theorem val_cons (b : UInt8) (l : List UInt8) : val (b :: l) = dv b * 10 ^ l.length + val l := by
  show List.foldl _ (10 * 0 + dv b) l = _
  rw [val_foldl]; simp
theorem decFrom_val (l : List UInt8) (h : ∀ b ∈ l, isD b = true) : ∀ n, Lib.decFrom n l = some (l.foldl (fun n b => 10 * n + dv b) n) := by
  induction l with
  | nil => intro n; rfl
  | cons b l ih =>
    intro n
    have hb := isD_range (h b (by simp))
    have hd : Lib.digitVal b = some (dv b) := by unfold Lib.digitVal; rw [if_pos hb]; rfl
    simp only [Lib.decFrom, hd, List.foldl_cons]
    rw [ih (fun c hc => h c (by simp [hc])), Nat.mul_comm]
theorem val_trim (l : List UInt8) : val (l.dropWhile (· == 48)) = val l := by
  induction l with
  | nil => rfl
  | cons b l ih =>
    by_cases hb : b = 48
    · subst hb; rw [List.dropWhile_cons, if_pos (by rfl), ih, val_cons]; simp [dv]
    · rw [List.dropWhile_cons, if_neg (by simpa using hb)]
theorem atoi_nought (d : List UInt8) (h : ∀ b ∈ d, isD b = true) : Lib.atoi (48 :: d) = some (val d : Int) := by
  have h2 : ∀ b ∈ (48 :: d : List UInt8), isD b = true := by
    intro b hb
    rcases List.mem_cons.1 hb with rfl | hb
    · rfl
    · exact h b hb
  have : Lib.decNat (48 :: d) = some (val d) := by
    unfold Lib.decNat
    rw [if_neg (by simp), decFrom_val _ h2]
    show some (val (48 :: d)) = _
    rw [val_cons]; simp [dv]
  unfold Lib.atoi
  simp only []
  rw [if_neg (by decide), if_neg (by decide), this]
  rfl
theorem val_lt (l : List UInt8) (h : ∀ b ∈ l, isD b = true) : val l < 10 ^ l.length := by
  induction l with
  | nil => decide
  | cons b l ih =>
    have hb := isD_range (h b (by simp))
    have := ih fun c hc => h c (by simp [hc])
    have hd : dv b ≤ 9 := by unfold dv; omega
    rw [val_cons, List.length_cons, Nat.pow_succ]
    have : dv b * 10 ^ l.length ≤ 9 * 10 ^ l.length := Nat.mul_le_mul_right _ hd
    omega
theorem dropWhile_all {p q : UInt8 → Bool} {l : List UInt8} (h : ∀ b ∈ l, q b = true) : ∀ b ∈ l.dropWhile p, q b = true :=
  fun b hb => h b ((List.dropWhile_suffix p).subset hb)
set_option maxRecDepth 100000 in
set_option maxHeartbeats 2000000 in
theorem fx_power (x : List UInt8) (w : World) (hl : x.length ≤ 1000000) (hd : ∀ b ∈ x.drop (sgn x), isD b = true) :
    Calls Tryz.prog 65 #[.string (bytesOf x)] w fun e w' => e = .returned (.int .i64 (powP x)) ∧ Below w.heap.size w w' := by
  have hs := bytesOf_size x
  by_cases hx : x = []
  · subst hx
    obtain ⟨e1, e2⟩ := str_none
    go_enter Tryz.func65, Tryz.ntmps65
    go_wp2
    go_ret
    exact ⟨rfl, Below.refl _ _⟩
  · obtain ⟨e1, e2⟩ := str_some hx
    have hpos : 0 < x.length := List.length_pos_iff.2 hx
    obtain ⟨b, hb⟩ : ∃ b, x[0]? = some b := ⟨_, List.getElem?_eq_getElem hpos⟩
    have hix := str_at (P := Tryz.prog) (T := 9) Tryz.underlying9 x .i64 0 b hb
    rw [Int.ofNat_zero] at hix
    obtain ⟨k, hk⟩ : ∃ k, sgn x = k := ⟨_, rfl⟩
    have hk1 := sgn_le x
    rw [hk] at hk1 hd
    have hf := str_from (P := Tryz.prog) (T := 9) Tryz.underlying9 x .i64 k (by omega)
    have hat := atoi_nought _ (dropWhile_all (p := (· == 48)) hd)
    rw [val_trim] at hat
    have hvl := val_lt _ hd
    have hdl : ((x.drop k).dropWhile (· == 48)).length ≤ x.length - k := by
      have := (List.dropWhile_suffix (· == (48 : UInt8)) (l := x.drop k)).length_le
      rwa [List.length_drop] at this
    rw [List.length_drop] at hvl
    obtain ⟨V, hV⟩ : ∃ V, val (x.drop k) = V := ⟨_, rfl⟩
    rw [hV] at hat hvl
    have hpv : powP x = if x[0]? = some 45 then -((if x.length - k ≤ 6 then V else 999999 : Nat) : Int) else ((if x.length - k ≤ 6 then V else 999999 : Nat) : Int) := by
      unfold powP; rw [if_neg hx, hk, hV]
    have Hk := Lib.hid hk
    have Hpv := Lib.hid hpv
    have Hb := Lib.hid hb
    have HV := Lib.hid hV
    have Hat := Lib.hid hat
    clear hk hpv hb hV hat
    by_cases h6 : x.length - k ≤ 6
    · have hV6 : V < 1000000 := Nat.lt_of_lt_of_le hvl (Nat.pow_le_pow_right (n := 10) (by omega) h6)
      go_enter Tryz.func65, Tryz.ntmps65
      go_wp2_with fail
      refine (fx_sign x w (by omega)).mono ?_
      rintro e w1 ⟨rfl, rfl⟩
      rw [Hk.out]
      go_wp2_with fail
      refine (Tryz.strings_TrimLeft_one _ 48 (by decide) _).mono ?_
      rintro e w1 ⟨rfl, rfl⟩
      rw [bytesOf_list]
      rw [show (⟨(Lib.trimLeftB (x.drop k) 48).toArray⟩ : ByteArray) = bytesOf ((x.drop k).dropWhile (· == 48)) from rfl]
      have hsd := bytesOf_size ((x.drop k).dropWhile (· == 48))
      go_wp2_with fail
      rw [show (⟨#[48]⟩ : ByteArray) = bytesOf [48] from rfl, bytesOf_append]
      refine (Tryz.strconv_Atoi _ (V : Int) (by rw [bytesOf_size]; simp; omega) (by rw [bytesOf_list]; exact Hat.out) _).mono ?_
      rintro e w2 ⟨rfl, t, rfl⟩
      have hbw := Lib.bytesWorld_below w1 5 t
      by_cases hm : b.toNat = 45
      · have hv : powP x = -(V : Int) := by
          rw [Hpv.out, if_pos h6, if_pos]
          rw [Hb.out]; congr 1; exact UInt8.toNat_inj.1 hm
        have Hv := Lib.hid hv
        clear hv
        rw [hm] at hix
        go_wp2
        go_ret
        exact ⟨ret_int (by rw [Hv.out]), hbw⟩
      · have hv : powP x = (V : Int) := by
          rw [Hpv.out, if_pos h6, if_neg]
          rw [Hb.out]; intro h; injection h with h; subst h; exact hm rfl
        have Hv := Lib.hid hv
        have hc := byte_ne hm
        clear hv
        go_wp2
        go_ret
        exact ⟨ret_int (by rw [Hv.out]), hbw⟩
    · go_enter Tryz.func65, Tryz.ntmps65
      go_wp2_with fail
      refine (fx_sign x w (by omega)).mono ?_
      rintro e w1 ⟨rfl, rfl⟩
      rw [Hk.out]
      go_wp2_with fail
      refine (Tryz.strings_TrimLeft_one _ 48 (by decide) _).mono ?_
      rintro e w1 ⟨rfl, rfl⟩
      rw [bytesOf_list]
      rw [show (⟨(Lib.trimLeftB (x.drop k) 48).toArray⟩ : ByteArray) = bytesOf ((x.drop k).dropWhile (· == 48)) from rfl]
      by_cases hm : b.toNat = 45
      · have hv : powP x = -(999999 : Int) := by
          rw [Hpv.out, if_neg h6, if_pos]
          · rfl
          rw [Hb.out]; congr 1; exact UInt8.toNat_inj.1 hm
        have Hv := Lib.hid hv
        clear hv
        rw [hm] at hix
        go_wp2
        go_ret
        exact ⟨ret_int (by rw [Hv.out]), Below.refl _ _⟩
      · have hv : powP x = (999999 : Int) := by
          rw [Hpv.out, if_neg h6, if_neg]
          · rfl
          rw [Hb.out]; intro h; injection h with h; subst h; exact hm rfl
        have Hv := Lib.hid hv
        have hc := byte_ne hm
        clear hv
        go_wp2
        go_ret
        exact ⟨ret_int (by rw [Hv.out]), Below.refl _ _⟩
end Go.Proofs.YthkagpefgkpgeaaGreatDoor
set_option linter.unusedVariables false
set_option linter.unusedSimpArgs false
namespace Go.Proofs.YthkagpefgkpgeaaGreatDoor
open Go.RowKit Fx
section
variable {l sg I P F E S2 X : List UInt8} (D : Dec l sg I P F E S2 X)
include D
theorem dec_sgn : sgn l = sg.length := by
  have h := sgn_le l
  have := congrArg List.length D.lsg
  rw [List.length_take] at this; omega
theorem dec_drop : l.drop (sgn l) = (I ++ (P ++ F)) ++ (E ++ (S2 ++ X)) := by
  rw [dec_sgn D]
  conv => lhs; rw [D.all]
  rw [List.append_assoc, List.drop_left]
theorem dec_P : ∀ b ∈ P, b = 46 := by
  intro b hb
  rcases D.hP with ⟨h, _⟩ | ⟨h, _⟩ <;> rw [h] at hb <;> simp_all
theorem dec_body_low : ∀ b ∈ I ++ (P ++ F), b.toNat ≤ 57 := by
  intro b hb
  rw [List.mem_append, List.mem_append] at hb
  rcases hb with hb | hb | hb
  · exact (isD_range (D.hI b hb)).2
  · rw [dec_P D b hb]; decide
  · exact (isD_range (D.hF b hb)).2
theorem dec_index : Lib.indexAny (l.drop (sgn l)) [101, 69] = if E = [] then -1 else (((I ++ (P ++ F)).length : Nat) : Int) := by
  rw [dec_drop D]
  have hno : ∀ b ∈ I ++ (P ++ F), ([101, 69] : List UInt8).contains b = false := by
    intro b hb
    have := dec_body_low D b hb
    simp only [List.contains_eq_mem, decide_eq_false_iff_not, List.mem_cons, List.not_mem_nil, or_false]
    rintro (rfl | rfl) <;> revert this <;> decide
  rcases D.hE with ⟨h1, h2, h3⟩ | ⟨e, h1, h2, h3⟩
  · rw [if_pos h1, h1, h2, h3]
    refine Lib.indexAny_none ?_
    intro j b hj hb
    simp only [List.append_nil] at hb hj
    exact hno b (List.mem_of_getElem? hb)
  · rw [if_neg (by rw [h1]; simp)]
    refine Lib.indexAny_hit (x := e) ?_ ?_ ?_
    · intro j b hj hb
      rw [List.getElem?_append_left hj] at hb
      exact hno b (List.mem_of_getElem? hb)
    · rw [List.getElem?_append_right (Nat.le_refl _), Nat.sub_self, h1]; rfl
    · have : e = 101 ∨ e = 69 := by
        rcases h2 with h2 | h2
        · exact .inl (UInt8.toNat_inj.1 h2)
        · exact .inr (UInt8.toNat_inj.1 h2)
      rcases this with rfl | rfl <;> decide
theorem dec_ascii : ∀ b ∈ l.drop (sgn l), b.toNat < 128 := by
  intro b hb
  rw [dec_drop D, List.mem_append] at hb
  rcases hb with hb | hb
  · have := dec_body_low D b hb; omega
  rw [List.mem_append, List.mem_append] at hb
  rcases hb with hb | hb | hb
  · rcases D.hE with ⟨h1, _⟩ | ⟨e, h1, h2, _⟩
    · rw [h1] at hb; simp at hb
    · rw [h1] at hb; simp at hb; subst hb; omega
  · rcases D.hS with h1 | ⟨s, h1, h2⟩
    · rw [h1] at hb; simp at hb
    · rw [h1] at hb; simp at hb; subst hb; omega
  · have := isD_range (D.hX b hb); omega
theorem dec_cut : (Lib.cut (I ++ (P ++ F)) [46]).1 = I ∧ (Lib.cut (I ++ (P ++ F)) [46]).2.1 = F := by
  have hocc : ∀ (s : List UInt8) (j : Nat), Lib.occAt s [46] j = decide (s[j]? = some 46) := by
    intro s j
    unfold Lib.occAt
    by_cases hj : j < s.length
    · rw [List.drop_eq_getElem_cons hj, List.getElem?_eq_getElem hj]
      simp only [List.isPrefixOf, Bool.and_true, Option.some.injEq]
      exact Bool.eq_iff_iff.2 ⟨fun h => decide_eq_true (beq_iff_eq.1 h).symm, fun h => beq_iff_eq.2 (of_decide_eq_true h).symm⟩
    · rw [List.drop_eq_nil_of_le (by omega), List.getElem?_eq_none (by omega)]; rfl
  have hI : ∀ j : Nat, j < I.length → ¬ I[j]? = some 46 := by
    intro j hj h
    have := isD_range (D.hI 46 (List.mem_of_getElem? h))
    revert this; decide
  rcases D.hP with ⟨h1, h2⟩ | ⟨h1, h2⟩
  · have hn : Lib.index (I ++ (P ++ F)) [46] = -1 := by
      rw [h1, h2]
      refine Lib.index_none ?_
      intro j _
      rw [hocc, decide_eq_false_iff_not]
      simp only [List.append_nil]
      intro h
      exact hI j (List.getElem?_eq_some_iff.1 h).1 h
    unfold Lib.cut
    rw [hn, if_neg (by decide), h1, h2]
    simp
  · have hn : Lib.index (I ++ (P ++ F)) [46] = (I.length : Int) := by
      refine Lib.index_first (i := I.length) (by simp) ?_ ?_
      · rw [hocc, h1, List.getElem?_append_right (Nat.le_refl _), Nat.sub_self]; rfl
      · intro j hj
        rw [hocc, decide_eq_false_iff_not, List.getElem?_append_left hj]
        exact hI j hj
    unfold Lib.cut
    rw [hn, if_pos (by omega)]
    refine ⟨?_, ?_⟩
    · show List.take (Int.toNat (I.length : Int)) _ = _
      rw [Int.toNat_natCast, List.take_left]
    · show List.drop (Int.toNat (I.length : Int) + 1) _ = _
      rw [Int.toNat_natCast, ← List.drop_drop, List.drop_left, h1]; rfl
theorem dec_exp_digits : ∀ b ∈ (expP l).drop (sgn (expP l)), isD b = true := by rw [← D.lX]; exact D.hX
theorem dec_expP : (E = [] ∧ expP l = []) ∨ (E ≠ [] ∧ expP l = (l.drop (sgn l)).drop ((I ++ (P ++ F)).length + 1)) := by
  rcases D.hE with ⟨h1, h2, h3⟩ | ⟨e, h1, h2, h3⟩
  · exact .inl ⟨h1, by rw [← D.lE, h2, h3]; rfl⟩
  · refine .inr ⟨by rw [h1]; simp, ?_⟩
    rw [dec_drop D, ← List.drop_drop, List.drop_left, h1, ← D.lE]; rfl
theorem dec_len : l.length = sg.length + (I.length + (P.length + F.length)) + (E.length + (S2.length + X.length)) := by
  have := congrArg List.length D.all
  simp only [List.length_append] at this
  omega
end
end Go.Proofs.YthkagpefgkpgeaaGreatDoor
