/- Layer 1: a decimal put together of its parts, with whatever behind it: plain laws. -/
import Derived.Test.YthkagpefgkpgeaaDoorB02
import Derived.Laws.RangeString
import Derived.WalkMore
import Derived.Deep.RegionWith
import Derived.Lib.ConvBytes
import Derived.Test.YthkagpefgkpgeaaDoorB01
import Derived.Lib.IndexMore
import Derived.Lib.IndexAny
import Derived.Lib.IndexLaws
import Derived.Lib.Atoi
import Derived.Lib.AtoiErrMem
import Derived.Lib.SmallJoins
import Derived.OneCell
import Derived.Deep.CutBlock
/- Layer 3: is a character one of a decimal's? The library's ContainsRune at the program's text of ASCII characters, for every character. -/
set_option linter.unusedVariables false
set_option linter.unusedSimpArgs false
namespace Go.Proofs.YthkagpefgkpgeaaDoor
open Go.RowKit Rn Tk
def numS : ByteArray := ⟨#[48, 49, 50, 51, 52, 53, 54, 55, 56, 57, 43, 45, 46, 101, 69]⟩
theorem numS_ascii : ∀ c : Fin 128, decide (0 ≤ Lib.indexByte numS.data.toList (c.val : Int).toNat.toUInt8) = numB (c.val : Int) := by decide +kernel
theorem numS_at : ∀ i : Fin 15, (numS[i.val]'(Nat.lt_of_lt_of_le i.isLt (by decide))).toNat < 128 := by decide +kernel
theorem numS_high : ∀ (i : Fin 5) (b : Fin 128), Lib.indexByte (numS.data.toList.drop i.val) (UInt8.ofNat (128 + b.val)) = -1 := by decide +kernel
set_option maxRecDepth 100000 in
set_option maxHeartbeats 2000000 in
theorem str_bad (w : World) :
    Calls Tryd.prog 40 #[.string numS, .int .i32 65533] w fun e w' => e = .returned (.int .i64 (-1)) ∧ w.grownBy w' none := by
  have hsz : numS.size = 15 := rfl
  go_enter Tryd.func40, Tryd.ntmps40
  go_wp2_with fail
  go_loopw [5, 6] (fun x y w' => ∃ (pos : Nat), w' = w.iter numS pos ∧ pos ≤ 15) (fun _ _ w' => 15 - w'.iterPos w.heap.size)
  case atStart => exact ⟨0, rfl, by omega⟩
  case round =>
    obtain ⟨pos, rfl, hp⟩ := hrel
    by_cases hlt : pos < numS.size
    · have ha := numS_at ⟨pos, by omega⟩
      simp only [] at ha
      have hnx : ∀ ty, (Instr.next (.pointer (some ⟨w.heap.size, 0, none⟩)) true ty).run Tryd.prog (w.iter numS pos) = _ := fun ty => run_next_ascii w numS pos ty hlt ha
      have hne : (((numS[pos]'hlt).toNat : Int) == 65533) = false := by simp; omega
      generalize ((numS[pos]'hlt).toNat : Int) = z at *
      go_wp2_with fail
      go_roundw
      case rel => exact ⟨pos + 1, rfl, by omega⟩
      case measure => simp; omega
    · have hnx : ∀ ty, (Instr.next (.pointer (some ⟨w.heap.size, 0, none⟩)) true ty).run Tryd.prog (w.iter numS pos) = _ := fun ty => run_next_end w numS pos ty hlt
      go_wp2_with fail
      go_ret
      exact ⟨rfl, World.grownBy_alloc _ _ _⟩
def numL : List UInt8 := [48, 49, 50, 51, 52, 53, 54, 55, 56, 57, 43, 45, 46, 101, 69]
theorem gdrew' (W : World) : W.grownBy W.drew none := ⟨rfl, rfl, rfl, Nat.le_refl _, fun _ _ _ => rfl⟩
theorem numL_low : ∀ i : Fin 15, (numL[i.val]'(Nat.lt_of_lt_of_le i.isLt (by decide))).toNat < 128 := by decide
theorem valid_is {r : Int} (h : isB r = true) : Lib.validRune r = true ∧ Utf8.valid r = true := by
  unfold isB at h
  have h := of_decide_eq_true h
  constructor
  · unfold Lib.validRune; simp; omega
  · unfold Utf8.valid; simp; omega
set_option maxRecDepth 100000 in
set_option maxHeartbeats 2000000 in
theorem str_high (r : Int) (w : World) (h : 128 ≤ r) (hb : isB r = true) (hne : r ≠ 65533) :
    Calls Tryd.prog 40 #[.string numS, .int .i32 r] w fun e w' => e = .returned (.int .i64 (-1)) ∧ w.grownBy w' none := by
  have hr := isB_range hb
  obtain ⟨hv1, hv2⟩ := valid_is hb
  obtain ⟨f1, f2, f3⟩ := encode_facts r hv2 h
  have t1 : decide (r < 128) = false := by simp; omega
  have t0 : decide ((0 : Int) ≤ r) = true := by simp; omega
  have tb := eq_f hne
  obtain ⟨E, hE⟩ : ∃ E, Utf8.encode r = E := ⟨_, rfl⟩
  obtain ⟨i, hi⟩ : ∃ i, E.size = i + 1 := ⟨E.size - 1, by rw [hE] at f1; omega⟩
  rw [hE] at f1 f2 f3
  have hi3 : 1 ≤ i ∧ i ≤ 3 := by omega
  have hEl : E = bytesOf E.data.toList := (bytesOf_eta E).symm
  have hll : E.data.toList.length = i + 1 := by rw [← bytesOf_size, ← hEl]; exact hi
  obtain ⟨b, hbt⟩ : ∃ b, E.data.toList[i]? = some b := ⟨_, List.getElem?_eq_getElem (by omega)⟩
  have hb128 : 128 ≤ b.toNat := by
    have h3 := f3 (by omega)
    have he : E[E.size - 1]'(by omega) = b := by
      have : E.data.toList[i]? = some (E[E.size - 1]'(by omega)) := by
        rw [List.getElem?_eq_getElem (by omega)]
        congr 1
        show E.data.toList[i]'_ = E.data[E.size - 1]'_
        simp [hi]
      rw [hbt] at this; injection this with this; exact this.symm
    rw [he] at h3; exact h3
  have hb256 := b.toNat_lt
  have hS : numS = bytesOf numL := rfl
  obtain ⟨d, hd⟩ : ∃ d, numL[i]? = some d := ⟨numL[i]'(by show i < 15; omega), List.getElem?_eq_getElem _⟩
  have hd128 : d.toNat < 128 := by
    have := numL_low ⟨i, by omega⟩
    have e : numL[i]'(by show i < 15; omega) = d := by rw [List.getElem?_eq_getElem (by show i < 15; omega)] at hd; injection hd
    simp only [e] at this; exact this
  have x1 := str_at (P := Tryd.prog) (T := 9) Tryd.underlying9 numL .i64 i d hd
  have x2 := str_at (P := Tryd.prog) (T := 9) Tryd.underlying9 E.data.toList .i64 i b hbt
  rw [← hEl] at x2
  have x3 := str_from (P := Tryd.prog) (T := 9) Tryd.underlying9 numL .i64 (i + 1) (by show i + 1 ≤ 15; omega)
  rw [← hS] at x1 x3
  push_cast at x3
  have hix : Lib.indexByte (bytesOf (numL.drop (i + 1))).data.toList (b.toNat : Int).toNat.toUInt8 = -1 := by
    rw [bytesOf_list]
    have := numS_high ⟨i + 1, by omega⟩ ⟨b.toNat - 128, by omega⟩
    have e : UInt8.ofNat (128 + (b.toNat - 128)) = (b.toNat : Int).toNat.toUInt8 := by
      rw [Int.toNat_natCast, show 128 + (b.toNat - 128) = b.toNat by omega]
    rw [← e]; exact this
  have Hix := Lib.hid hix
  have hsz : numS.size = 15 := rfl
  have hEs : (E.size : Int) - 1 = (i : Int) := by omega
  have hlt : (i : Int) < 15 := by omega
  have hwr : IntKind.i64.wrap ((i : Int) + 1) = (i : Int) + 1 := by rw [IntKind.wrap_i64]; omega
  have hneq : ((d.toNat : Int) != (b.toNat : Int)) = true := by simp; omega
  clear hix hbt hd hEl hS f3 hll hi f1 f2
  go_enter Tryd.func40, Tryd.ntmps40
  go_wp2_with fail
  refine (Tryd.utf8_ValidRune r w).mono ?_
  rintro e w1 ⟨rfl, rfl⟩
  rw [hv1]
  go_wp2_with fail
  go_step3
  go_wp2_with fail
  go_loopw [9, 10] (fun x y wr => x = .int .i64 (i : Nat) ∧ y = .int .i64 0 ∧ wr = w1) (fun _ _ _ => 0)
  case atStart => exact ⟨rfl, rfl, rfl⟩
  case round =>
    obtain ⟨rfl, rfl, rfl⟩ := hrel
    go_wp2_with fail
    go_step3
    go_wp2_with fail
    go_quiet (fail)
    go_wp2_with fail
    go_region_with (go_at_call 49; refine (Tryd.strings_IndexByte _ _ _).mono ?_; rintro e w2 ⟨rfl, rfl⟩; rw [Hix.out])
    all_goals
      go_wp2_with fail
      rw [Exit.noGoto_ret]
      simp only [Exit.inBlock]
      (show Exit.noGoto _ Exit.ret _ _)
      rw [Exit.noGoto_ret]
      simp only [Exit.inBlock, Exit.then]
      rw [Exit.noGoto_ret]
      go_ret
      exact ⟨rfl, (grown_drewN _ _).trans (gdrew' _)⟩
theorem numB_high {r : Int} (h : 128 ≤ r) : numB r = false := by unfold numB; simp; omega
set_option maxRecDepth 100000 in
theorem str_contains (r : Int) (w : World) (hb : isB r = true) :
    Calls Tryd.prog 31 #[.string numS, .int .i32 r] w fun e w' => e = .returned (.bool (numB r)) ∧ w.grownBy w' none := by
  have hr := isB_range hb
  by_cases h : r < 128
  · refine (Tryd.strings_ContainsRune_ascii numS r w hr.1 h).mono ?_
    rintro e w1 ⟨rfl, rfl⟩
    have := numS_ascii ⟨r.toNat, by omega⟩
    have e : ((r.toNat : Nat) : Int) = r := by omega
    simp only [e] at this
    exact ⟨by rw [this], World.grownBy.refl _ _⟩
  · rw [numB_high (by omega)]
    have hcall : Calls Tryd.prog 40 #[.string numS, .int .i32 r] w fun e w' => e = .returned (.int .i64 (-1)) ∧ w.grownBy w' none := by
      by_cases hne : r = 65533
      · subst hne; exact str_bad w
      · exact str_high r w (by omega) hb hne
    go_enter Tryd.func31, Tryd.ntmps31
    go_wp2_with fail
    refine hcall.mono ?_
    rintro e w1 ⟨rfl, g⟩
    go_wp2
    go_ret
    exact ⟨rfl, g⟩
end Go.Proofs.YthkagpefgkpgeaaDoor
/- Layer 1: a decimal taken apart: plain laws. -/
set_option linter.unusedVariables false
set_option linter.unusedSimpArgs false
namespace Go.Proofs.YthkagpefgkpgeaaDoor
open Go.RowKit Fx
theorem digs_all (l : List UInt8) : ∀ b ∈ l.take (digs l), isD b = true := by
  have h : l.take (digs l) = l.takeWhile isD := by
    unfold digs
    exact (List.prefix_iff_eq_take.1 (List.takeWhile_prefix isD)).symm
  rw [h]
  have := List.all_takeWhile (p := isD) (l := l)
  rwa [List.all_eq_true] at this
theorem isD_range {b : UInt8} (h : isD b = true) : 48 ≤ b.toNat ∧ b.toNat ≤ 57 := by simpa [isD] using h
/-- what a decimal is made of -/
structure Dec (l : List UInt8) (sg : List UInt8) (I : List UInt8) (P : List UInt8) (F : List UInt8) (E : List UInt8) (S2 : List UInt8) (X : List UInt8) : Prop where
  all : l = sg ++ (I ++ (P ++ F)) ++ (E ++ (S2 ++ X))
  hsg : sg = [] ∨ ∃ b, sg = [b] ∧ (b.toNat = 43 ∨ b.toNat = 45)
  hI : ∀ b ∈ I, isD b = true
  hF : ∀ b ∈ F, isD b = true
  hP : (P = [] ∧ F = []) ∨ (P = [46] ∧ F ≠ [])
  hE : (E = [] ∧ S2 = [] ∧ X = []) ∨ (∃ e, E = [e] ∧ (e.toNat = 101 ∨ e.toNat = 69) ∧ X ≠ [])
  hS : S2 = [] ∨ ∃ b, S2 = [b] ∧ (b.toNat = 43 ∨ b.toNat = 45)
  hX : ∀ b ∈ X, isD b = true
  lsg : sg = l.take (sgn l)
  lI : I = intP l
  lF : F = fracP l
  lA : bodyLen l = sg.length + I.length + P.length + F.length
  lE : S2 ++ X = expP l
  lS2 : S2 = (expP l).take (sgn (expP l))
  lX : X = (expP l).drop (sgn (expP l))
  some : I ≠ [] ∨ F ≠ []
theorem sgn_shape (l : List UInt8) : l.take (sgn l) = [] ∨ ∃ b, l.take (sgn l) = [b] ∧ (b.toNat = 43 ∨ b.toNat = 45) := by
  cases l with
  | nil => exact .inl rfl
  | cons b l =>
    unfold sgn
    simp only []
    split
    · rename_i h; exact .inr ⟨b, rfl, h⟩
    · exact .inl rfl
theorem take_full {α : Type} {l : List α} {n : Nat} (h : l.length = n) : l.take n = l := by subst h; exact List.take_length
theorem dec_of_isP {l : List UInt8} (h : isP l = true) : ∃ sg I P F E S2 X, Dec l sg I P F E S2 X := by
  have h' := of_decide_eq_true h
  obtain ⟨hne, hlen⟩ := h'
  have hpos : 0 < l.length := List.length_pos_iff.2 hne
  have hsome : some_ l = true := by
    cases hs : some_ l with
    | true => rfl
    | false => rw [lenP_none hs] at hlen; omega
  obtain ⟨A, hA⟩ : ∃ A, bodyLen l = A := ⟨_, rfl⟩
  have hAl := bodyLen_le l
  have ht := lenP_tail hsome hA
  have hk0 := sgn_le l
  have hn0 := digs_le (l.drop (sgn l))
  rw [List.length_drop] at hn0
  have hIlen : (intP l).length = digs (l.drop (sgn l)) := by
    unfold intP; rw [List.length_take, List.length_drop]; omega
  -- the body
  have hbody : ∃ P, l.take A = l.take (sgn l) ++ (intP l ++ (P ++ fracP l)) ∧ ((P = [] ∧ fracP l = []) ∨ (P = [46] ∧ fracP l ≠ [])) ∧ A = (l.take (sgn l)).length + (intP l).length + P.length + (fracP l).length := by
    have e1 : l.take (sgn l + digs (l.drop (sgn l))) = l.take (sgn l) ++ intP l := by
      rw [List.take_add]; rfl
    by_cases hd : l[sgn l + digs (l.drop (sgn l))]? = Option.some 46 ∧ 0 < digs (l.drop (sgn l + digs (l.drop (sgn l)) + 1))
    · have hF : fracP l = (l.drop (sgn l + digs (l.drop (sgn l)) + 1)).take (digs (l.drop (sgn l + digs (l.drop (sgn l)) + 1))) := by
        unfold fracP; simp only []; rw [if_pos hd]
      have hFl : (fracP l).length = digs (l.drop (sgn l + digs (l.drop (sgn l)) + 1)) := by
        have := digs_le (l.drop (sgn l + digs (l.drop (sgn l)) + 1))
        rw [hF, List.length_take]; omega
      have hA2 : A = sgn l + digs (l.drop (sgn l)) + 1 + digs (l.drop (sgn l + digs (l.drop (sgn l)) + 1)) := by
        rw [← hA]; unfold bodyLen; simp only []; rw [if_pos hd]
      refine ⟨[46], ?_, .inr ⟨rfl, ?_⟩, ?_⟩
      · rw [hA2, List.take_add, ← hF, take_snoc _ _ _ hd.1, e1]
        simp
      · intro h0; rw [h0] at hFl; simp at hFl; omega
      · rw [hFl, hIlen, List.length_take]; simp; omega
    · have hF : fracP l = [] := by unfold fracP; simp only []; rw [if_neg hd]
      have hA2 : A = sgn l + digs (l.drop (sgn l)) := by
        rw [← hA]; unfold bodyLen; simp only []; rw [if_neg hd]
      refine ⟨[], ?_, .inl ⟨rfl, hF⟩, ?_⟩
      · rw [hA2, e1, hF]; simp
      · rw [hF, hIlen, List.length_take]; simp; omega
  obtain ⟨P, hb1, hb2, hb3⟩ := hbody
  have hsplit : l = l.take A ++ l.drop A := (List.take_append_drop A l).symm
  have hItail : ∀ b ∈ intP l, isD b = true := by unfold intP; exact digs_all _
  have hFtail : ∀ b ∈ fracP l, isD b = true := by
    unfold fracP
    simp only []
    split
    · exact digs_all _
    · simp
  have hsm : intP l ≠ [] ∨ fracP l ≠ [] := by
    by_cases hd : 0 < digs (l.drop (sgn l))
    · left; intro h0; rw [h0] at hIlen; simp at hIlen; omega
    · right
      unfold some_ at hsome
      have hd2 := of_decide_eq_true hsome
      have hd3 := hd2.resolve_left hd
      intro h0
      have hF : fracP l = (l.drop (sgn l + digs (l.drop (sgn l)) + 1)).take (digs (l.drop (sgn l + digs (l.drop (sgn l)) + 1))) := by
        unfold fracP; simp only []; rw [if_pos hd3]
      have hFl : (fracP l).length = digs (l.drop (sgn l + digs (l.drop (sgn l)) + 1)) := by
        have := digs_le (l.drop (sgn l + digs (l.drop (sgn l)) + 1))
        rw [hF, List.length_take]; omega
      rw [h0] at hFl; simp at hFl; omega
  rcases isE_cases l A with ⟨hge, hE⟩ | ⟨e, he, hE3⟩
  · have hX : expP l = [] := by unfold expP; rw [hA, hE]; rfl
    refine ⟨l.take (sgn l), intP l, P, fracP l, [], [], [], ?_⟩
    exact { all := by rw [← hb1, take_full (by omega)]; simp, hsg := sgn_shape l, hI := hItail, hF := hFtail, hP := hb2, hE := .inl ⟨rfl, rfl, rfl⟩, hS := .inl rfl, hX := by simp, lsg := rfl, lI := rfl, lF := rfl, lA := by rw [hA, hb3], lE := by rw [hX]; rfl, lS2 := by rw [hX]; rfl, lX := by rw [hX]; rfl, some := hsm }
  · have hlt : A < l.length := (List.getElem?_eq_some_iff.1 he).1
    have hEt : isE l[A]? = true ∧ (e.toNat = 101 ∨ e.toNat = 69) := by
      rcases hE3 with ⟨h1, h2⟩ | ⟨h1, h2⟩ | ⟨h1, h2, h3⟩
      · exact ⟨h2, .inl h1⟩
      · exact ⟨h2, .inr h1⟩
      · have := ht.1 h3; omega
    have hL := ht.2 hEt.1 _ _ rfl rfl
    have hm2 : 0 < digs (l.drop (A + 1 + sgn (l.drop (A + 1)))) := by
      by_cases hm : 0 < digs (l.drop (A + 1 + sgn (l.drop (A + 1))))
      · exact hm
      · rw [if_neg hm] at hL; omega
    rw [if_pos hm2] at hL
    have hX : expP l = l.drop (A + 1) := by unfold expP; rw [hA, if_pos hEt.1]
    have hXd : (expP l).drop (sgn (expP l)) = l.drop (A + 1 + sgn (l.drop (A + 1))) := by rw [hX, List.drop_drop]
    refine ⟨l.take (sgn l), intP l, P, fracP l, [e], (expP l).take (sgn (expP l)), (expP l).drop (sgn (expP l)), ?_⟩
    have hda : l.drop A = [e] ++ ((expP l).take (sgn (expP l)) ++ (expP l).drop (sgn (expP l))) := by
      rw [List.take_append_drop, hX]
      obtain ⟨hi, rfl⟩ := List.getElem?_eq_some_iff.1 he
      exact List.drop_eq_getElem_cons hi
    have hXlen : (l.drop (A + 1 + sgn (l.drop (A + 1)))).length = digs (l.drop (A + 1 + sgn (l.drop (A + 1)))) := by
      rw [List.length_drop]; omega
    have hXall : ∀ b ∈ (expP l).drop (sgn (expP l)), isD b = true := by
      rw [hXd]
      have := digs_all (l.drop (A + 1 + sgn (l.drop (A + 1))))
      rwa [take_full hXlen] at this
    exact { all := by rw [← hb1, ← hda]; exact hsplit, hsg := sgn_shape l, hI := hItail, hF := hFtail, hP := hb2, hE := .inr ⟨e, rfl, hEt.2, by rw [hXd]; intro h0; have h1 := congrArg List.length h0; rw [hXlen, List.length_nil] at h1; omega⟩, hS := sgn_shape _, hX := hXall, lsg := rfl, lI := rfl, lF := rfl, lA := by rw [hA, hb3], lE := List.take_append_drop _ _, lS2 := rfl, lX := rfl, some := hsm }
end Go.Proofs.YthkagpefgkpgeaaDoor
/- Layer 1: the program's Length is walked, cut where its ways meet. -/
set_option linter.unusedVariables false
set_option linter.unusedSimpArgs false
namespace Go.Proofs.YthkagpefgkpgeaaDoor
open Go.RowKit Fx
set_option maxRecDepth 100000 in
set_option maxHeartbeats 8000000 in
theorem fx_length (l : List UInt8) (w : World) (hl : l.length ≤ 9223372036854775806) :
    Calls Tryd.prog 32 #[.string (bytesOf l)] w fun e w' => e = .returned (.int .i64 (lenP l : Nat)) ∧ Below w.heap.size w w' := by
  have hs := bytesOf_size l
  obtain ⟨a0, h0⟩ : ∃ a0, sgn l = a0 := ⟨_, rfl⟩
  obtain ⟨n0, hn⟩ : ∃ n0, digs (l.drop a0) = n0 := ⟨_, rfl⟩
  obtain ⟨m, hm⟩ : ∃ m, digs (l.drop (a0 + n0 + 1)) = m := ⟨_, rfl⟩
  have ha0 := sgn_le l
  have hn0 := digs_le (l.drop a0)
  rw [h0] at ha0
  rw [hn, List.length_drop] at hn0
  obtain ⟨A, hA⟩ : ∃ A, bodyLen l = A := ⟨_, rfl⟩
  have hAl := bodyLen_le l
  rw [hA] at hAl
  have HA := Lib.hid hA
  have hBody : bodyLen l = if l[a0 + n0]? = some 46 ∧ 0 < m then a0 + n0 + 1 + m else a0 + n0 := by simp only [bodyLen, h0, hn, hm]
  have hSome : some_ l = decide (0 < n0 ∨ (l[a0 + n0]? = some 46 ∧ 0 < m)) := by simp only [some_, h0, hn, hm]
  rw [hA] at hBody
  have HBody := Lib.hid hBody
  have HSome := Lib.hid hSome
  have Hdot := Lib.hid (dot_cases l (a0 + n0))
  have hf0 := str_from (P := Tryd.prog) (T := 9) Tryd.underlying9 l .i64 a0 (by omega)
  have H0 := Lib.hid h0
  have Hn := Lib.hid hn
  have Hm := Lib.hid hm
  clear hA hBody hSome h0 hn hm
  obtain ⟨D, hD⟩ : ∃ D, decide (l[a0 + n0]? = some 46) = D := ⟨_, rfl⟩
  have HD := Lib.hid hD
  clear hD
  go_enter Tryd.func32, Tryd.ntmps32
  go_wp2_with fail
  refine (fx_sign l w (by omega)).mono ?_
  rintro e w1 ⟨rfl, rfl⟩
  rw [H0.out]
  go_wp2_with fail
  refine (fx_digits (l.drop a0) w (by rw [List.length_drop]; omega)).mono ?_
  rintro e w1 ⟨rfl, hb1⟩
  rw [Hn.out]
  go_upto_region 4 with (fail)
  go_cut [26] (fun s wx => s = .bool D ∧ wx = w1)
  case first =>
    rcases Hdot.out with ⟨hge, h⟩ | ⟨b, hb, ⟨hb1, h⟩ | ⟨hb1, h⟩⟩
    · go_wp2_with fail
      go_meet
      exact ⟨by rw [← HD.out]; simp [h], rfl⟩
    · have hlt : a0 + n0 < l.length := (List.getElem?_eq_some_iff.1 hb).1
      have hix := str_at (P := Tryd.prog) (T := 9) Tryd.underlying9 l .i64 (a0 + n0) b hb
      rw [hb1] at hix
      push_cast at hix
      go_wp2_with fail
      go_meet
      exact ⟨by rw [← HD.out]; simp [h], rfl⟩
    · have hlt : a0 + n0 < l.length := (List.getElem?_eq_some_iff.1 hb).1
      have hix := str_at (P := Tryd.prog) (T := 9) Tryd.underlying9 l .i64 (a0 + n0) b hb
      push_cast at hix
      have hc1 : ((b.toNat : Int) == 46) = false := byte_ne hb1
      go_wp2_with fail
      go_meet
      exact ⟨by rw [← HD.out]; simp [h, hc1], rfl⟩
  case rest =>
    obtain ⟨rfl, rfl⟩ := hcut
    go_upto_if 26 with (fail)
    go_cut [3, 4] (fun s t wx => s = .int .i64 (A : Nat) ∧ (∃ N : Nat, t = .int .i64 (N : Nat) ∧ some_ l = decide (0 < N) ∧ N ≤ l.length) ∧ Below w.heap.size w wx)
    case first =>
      cases D with
      | true =>
        have hdot := of_decide_eq_true HD.out
        have hal := (List.getElem?_eq_some_iff.1 hdot).1
        have hf1 := str_from (P := Tryd.prog) (T := 9) Tryd.underlying9 l .i64 (a0 + n0 + 1) (by omega)
        push_cast at hf1
        have hm1 := digs_le (l.drop (a0 + n0 + 1))
        rw [Hm.out, List.length_drop] at hm1
        have Hdt := Lib.hid hdot
        clear hdot
        by_cases hm0 : 0 < m
        · have hdm : decide (0 < (m : Int)) = true := by simpa using hm0
          go_wp2_with fail
          refine (fx_digits (l.drop (a0 + n0 + 1)) _ (by rw [List.length_drop]; omega)).mono ?_
          rintro e w2 ⟨rfl, hb2⟩
          rw [Hm.out]
          go_wp2_with fail
          go_meet
          refine ⟨?_, ⟨n0 + m, by congr 1, ?_, by omega⟩, hb1.trans (hb2.mono hb1.size)⟩
          · congr 1
            rw [HBody.out, if_pos ⟨Hdt.out, hm0⟩]; omega
          · rw [HSome.out, decide_eq_decide]
            constructor
            · intro _; omega
            · intro _; exact .inr ⟨Hdt.out, hm0⟩
        · have hdm : decide (0 < (m : Int)) = false := by simpa using hm0
          go_wp2_with fail
          refine (fx_digits (l.drop (a0 + n0 + 1)) _ (by rw [List.length_drop]; omega)).mono ?_
          rintro e w2 ⟨rfl, hb2⟩
          rw [Hm.out]
          go_wp2_with fail
          go_meet
          refine ⟨?_, ⟨n0, rfl, ?_, by omega⟩, hb1.trans (hb2.mono hb1.size)⟩
          · congr 1
            rw [HBody.out, if_neg (by omega)]; omega
          · rw [HSome.out, decide_eq_decide]; omega
      | false =>
        have hdot := of_decide_eq_false HD.out
        have hN : some_ l = decide (0 < n0) := by rw [HSome.out]; simp only [hdot, false_and, or_false]
        have hAv : A = a0 + n0 := by rw [HBody.out, if_neg (by simp only [hdot, false_and, not_false_eq_true])]
        have HN := Lib.hid hN
        clear hN hdot
        go_wp2_with fail
        go_meet
        exact ⟨by congr 1; omega, ⟨n0, rfl, HN.out, by omega⟩, hb1⟩
    case rest =>
      obtain ⟨rfl, ⟨N, rfl, hS, hNl⟩, hb2⟩ := hcut
      cases hS1 : some_ l with
      | false =>
        obtain rfl : N = 0 := by rw [hS1] at hS; have := of_decide_eq_false hS.symm; omega
        have Hval := Lib.hid (lenP_none hS1)
        clear hS1 hS
        go_wp2
        go_ret
        exact ⟨ret_int (by rw [Hval.out]; rfl), hb2⟩
      | true =>
        have hN0 : 0 < N := by rw [hS1] at hS; exact of_decide_eq_true hS.symm
        have htail := Lib.hid (lenP_tail hS1 HA.out)
        have hz : ((N : Int) == 0) = false := by simp; omega
        clear hS1 hS
        go_upto_region 11 with (fail)
        go_cut [58] (fun s wx => s = .bool (isE l[A]?) ∧ wx = wc)
        case first =>
          rcases isE_cases l A with ⟨hge, h⟩ | ⟨b, hb, ⟨hb1, h⟩ | ⟨hb1, h⟩ | ⟨hb1, hb2, h⟩⟩
          · go_wp2_with fail
            go_meet
            exact ⟨by rw [h], rfl⟩
          · have hlt : A < l.length := (List.getElem?_eq_some_iff.1 hb).1
            have hix := str_at (P := Tryd.prog) (T := 9) Tryd.underlying9 l .i64 A b hb
            rw [hb1] at hix
            go_wp2_with fail
            go_meet
            exact ⟨by rw [h], rfl⟩
          · have hlt : A < l.length := (List.getElem?_eq_some_iff.1 hb).1
            have hix := str_at (P := Tryd.prog) (T := 9) Tryd.underlying9 l .i64 A b hb
            rw [hb1] at hix
            go_wp2_with fail
            go_meet
            exact ⟨by rw [h], rfl⟩
          · have hlt : A < l.length := (List.getElem?_eq_some_iff.1 hb).1
            have hix := str_at (P := Tryd.prog) (T := 9) Tryd.underlying9 l .i64 A b hb
            have hc1 : ((b.toNat : Int) == 101) = false := byte_ne hb1
            have hc2 : ((b.toNat : Int) == 69) = false := byte_ne hb2
            go_wp2_with fail
            go_meet
            exact ⟨by first | rw [h]; done | (rw [h]; simp [hc1, hc2]), rfl⟩
        case rest =>
          obtain ⟨rfl, rfl⟩ := hcut
          cases hE : isE l[A]? with
          | false =>
            have Hval := Lib.hid (htail.out.1 hE)
            clear hE
            go_wp2
            go_ret
            exact ⟨ret_int (by rw [Hval.out]), hb2⟩
          | true =>
            have hAlt : A < l.length := by
              rcases isE_cases l A with ⟨hge, h⟩ | ⟨b, hb, _⟩
              · rw [hE] at h; cases h
              · exact (List.getElem?_eq_some_iff.1 hb).1
            obtain ⟨k, hk⟩ : ∃ k, sgn (l.drop (A + 1)) = k := ⟨_, rfl⟩
            have hk1 := sgn_le (l.drop (A + 1))
            rw [hk, List.length_drop] at hk1
            obtain ⟨m2, hm2⟩ : ∃ m, digs (l.drop (A + 1 + k)) = m := ⟨_, rfl⟩
            have Hval := Lib.hid (htail.out.2 hE k m2 hk hm2)
            have hm1 := digs_le (l.drop (A + 1 + k))
            rw [hm2, List.length_drop] at hm1
            have hf2 := str_from (P := Tryd.prog) (T := 9) Tryd.underlying9 l .i64 (A + 1) (by omega)
            have hf3 := str_from (P := Tryd.prog) (T := 9) Tryd.underlying9 l .i64 (A + 1 + k) (by omega)
            push_cast at hf2 hf3
            have Hk := Lib.hid hk
            have Hm2 := Lib.hid hm2
            clear hE hk hm2
            by_cases hm0 : 0 < m2
            · have hdm : decide (0 < (m2 : Int)) = true := by simpa using hm0
              go_wp2_with fail
              refine (fx_sign (l.drop (A + 1)) _ (by rw [List.length_drop]; omega)).mono ?_
              rintro e w3 ⟨rfl, rfl⟩
              rw [Hk.out]
              go_wp2_with fail
              refine (fx_digits (l.drop (A + 1 + k)) _ (by rw [List.length_drop]; omega)).mono ?_
              rintro e w4 ⟨rfl, hb4⟩
              rw [Hm2.out]
              go_wp2
              go_ret
              exact ⟨ret_int (by rw [Hval.out, if_pos hm0] <;> omega), hb2.trans (hb4.mono hb2.size)⟩
            · have hdm : decide (0 < (m2 : Int)) = false := by simpa using hm0
              go_wp2_with fail
              refine (fx_sign (l.drop (A + 1)) _ (by rw [List.length_drop]; omega)).mono ?_
              rintro e w3 ⟨rfl, rfl⟩
              rw [Hk.out]
              go_wp2_with fail
              refine (fx_digits (l.drop (A + 1 + k)) _ (by rw [List.length_drop]; omega)).mono ?_
              rintro e w4 ⟨rfl, hb4⟩
              rw [Hm2.out]
              go_wp2
              go_ret
              exact ⟨ret_int (by rw [Hval.out, if_neg hm0] <;> omega), hb2.trans (hb4.mono hb2.size)⟩
end Go.Proofs.YthkagpefgkpgeaaDoor
/- Layer 1: the exponent's number is walked. -/
set_option linter.unusedVariables false
set_option linter.unusedSimpArgs false
namespace Go.Proofs.YthkagpefgkpgeaaDoor
open Go.RowKit Fx
theorem bytesOf_append (a b : List UInt8) : bytesOf a ++ bytesOf b = bytesOf (a ++ b) := by
  rw [← bytesOf_eta (bytesOf a ++ bytesOf b)]
  congr 1
theorem val_foldl (l : List UInt8) : ∀ n, l.foldl (fun n b => 10 * n + dv b) n = n * 10 ^ l.length + val l := by
  induction l with
  | nil => intro n; simp [val]
  | cons b l ih =>
    intro n
    unfold val
    simp only [List.foldl_cons, List.length_cons]
    rw [ih, ih (10 * 0 + dv b), Nat.pow_succ]
    rw [Nat.add_mul]
    have : 10 * n * 10 ^ l.length = n * (10 ^ l.length * 10) := by
      rw [Nat.mul_comm 10 n, Nat.mul_assoc, Nat.mul_comm 10]
    rw [this, Nat.mul_zero, Nat.zero_add]
    omega
theorem val_cons (b : UInt8) (l : List UInt8) : val (b :: l) = dv b * 10 ^ l.length + val l := by
  show List.foldl _ (10 * 0 + dv b) l = _
  rw [val_foldl]; simp
theorem decFrom_val (l : List UInt8) (h : ∀ b ∈ l, isD b = true) : ∀ n, Lib.decFrom n l = some (l.foldl (fun n b => 10 * n + dv b) n) := by
  induction l with
  | nil => intro n; rfl
  | cons b l ih =>
    intro n
    have hb := isD_range (h b (by simp))
    have hd : Lib.digitVal b = some (dv b) := by unfold Lib.digitVal; rw [if_pos hb]; rfl
    simp only [Lib.decFrom, hd, List.foldl_cons]
    rw [ih (fun c hc => h c (by simp [hc])), Nat.mul_comm]
theorem val_trim (l : List UInt8) : val (l.dropWhile (· == 48)) = val l := by
  induction l with
  | nil => rfl
  | cons b l ih =>
    by_cases hb : b = 48
    · subst hb; rw [List.dropWhile_cons, if_pos (by rfl), ih, val_cons]; simp [dv]
    · rw [List.dropWhile_cons, if_neg (by simpa using hb)]
theorem atoi_nought (d : List UInt8) (h : ∀ b ∈ d, isD b = true) : Lib.atoi (48 :: d) = some (val d : Int) := by
  have h2 : ∀ b ∈ (48 :: d : List UInt8), isD b = true := by
    intro b hb
    rcases List.mem_cons.1 hb with rfl | hb
    · rfl
    · exact h b hb
  have : Lib.decNat (48 :: d) = some (val d) := by
    unfold Lib.decNat
    rw [if_neg (by simp), decFrom_val _ h2]
    show some (val (48 :: d)) = _
    rw [val_cons]; simp [dv]
  unfold Lib.atoi
  simp only []
  rw [if_neg (by decide), if_neg (by decide), this]
  rfl
theorem val_lt (l : List UInt8) (h : ∀ b ∈ l, isD b = true) : val l < 10 ^ l.length := by
  induction l with
  | nil => decide
  | cons b l ih =>
    have hb := isD_range (h b (by simp))
    have := ih fun c hc => h c (by simp [hc])
    have hd : dv b ≤ 9 := by unfold dv; omega
    rw [val_cons, List.length_cons, Nat.pow_succ]
    have : dv b * 10 ^ l.length ≤ 9 * 10 ^ l.length := Nat.mul_le_mul_right _ hd
    omega
theorem dropWhile_all {p q : UInt8 → Bool} {l : List UInt8} (h : ∀ b ∈ l, q b = true) : ∀ b ∈ l.dropWhile p, q b = true :=
  fun b hb => h b ((List.dropWhile_suffix p).subset hb)
set_option maxRecDepth 100000 in
set_option maxHeartbeats 2000000 in
theorem fx_power (x : List UInt8) (w : World) (hl : x.length ≤ 1000000) (hd : ∀ b ∈ x.drop (sgn x), isD b = true) :
    Calls Tryd.prog 45 #[.string (bytesOf x)] w fun e w' => e = .returned (.int .i64 (powP x)) ∧ Below w.heap.size w w' := by
  have hs := bytesOf_size x
  by_cases hx : x = []
  · subst hx
    obtain ⟨e1, e2⟩ := str_none
    go_enter Tryd.func45, Tryd.ntmps45
    go_wp2
    go_ret
    exact ⟨rfl, Below.refl _ _⟩
  · obtain ⟨e1, e2⟩ := str_some hx
    have hpos : 0 < x.length := List.length_pos_iff.2 hx
    obtain ⟨b, hb⟩ : ∃ b, x[0]? = some b := ⟨_, List.getElem?_eq_getElem hpos⟩
    have hix := str_at (P := Tryd.prog) (T := 9) Tryd.underlying9 x .i64 0 b hb
    rw [Int.ofNat_zero] at hix
    obtain ⟨k, hk⟩ : ∃ k, sgn x = k := ⟨_, rfl⟩
    have hk1 := sgn_le x
    rw [hk] at hk1 hd
    have hf := str_from (P := Tryd.prog) (T := 9) Tryd.underlying9 x .i64 k (by omega)
    have hat := atoi_nought _ (dropWhile_all (p := (· == 48)) hd)
    rw [val_trim] at hat
    have hvl := val_lt _ hd
    have hdl : ((x.drop k).dropWhile (· == 48)).length ≤ x.length - k := by
      have := (List.dropWhile_suffix (· == (48 : UInt8)) (l := x.drop k)).length_le
      rwa [List.length_drop] at this
    rw [List.length_drop] at hvl
    obtain ⟨V, hV⟩ : ∃ V, val (x.drop k) = V := ⟨_, rfl⟩
    rw [hV] at hat hvl
    have hpv : powP x = if x[0]? = some 45 then -((if x.length - k ≤ 6 then V else 999999 : Nat) : Int) else ((if x.length - k ≤ 6 then V else 999999 : Nat) : Int) := by
      unfold powP; rw [if_neg hx, hk, hV]
    have Hk := Lib.hid hk
    have Hpv := Lib.hid hpv
    have Hb := Lib.hid hb
    have HV := Lib.hid hV
    have Hat := Lib.hid hat
    clear hk hpv hb hV hat
    by_cases h6 : x.length - k ≤ 6
    · have hV6 : V < 1000000 := Nat.lt_of_lt_of_le hvl (Nat.pow_le_pow_right (n := 10) (by omega) h6)
      go_enter Tryd.func45, Tryd.ntmps45
      go_wp2_with fail
      refine (fx_sign x w (by omega)).mono ?_
      rintro e w1 ⟨rfl, rfl⟩
      rw [Hk.out]
      go_wp2_with fail
      refine (Tryd.strings_TrimLeft_one _ 48 (by decide) _).mono ?_
      rintro e w1 ⟨rfl, rfl⟩
      rw [bytesOf_list]
      rw [show (⟨(Lib.trimLeftB (x.drop k) 48).toArray⟩ : ByteArray) = bytesOf ((x.drop k).dropWhile (· == 48)) from rfl]
      have hsd := bytesOf_size ((x.drop k).dropWhile (· == 48))
      go_wp2_with fail
      rw [show (⟨#[48]⟩ : ByteArray) = bytesOf [48] from rfl, bytesOf_append]
      refine (Tryd.strconv_Atoi _ (V : Int) (by rw [bytesOf_size]; simp; omega) (by rw [bytesOf_list]; exact Hat.out) _).mono ?_
      rintro e w2 ⟨rfl, t, rfl⟩
      have hbw := Lib.bytesWorld_below w1 5 t
      by_cases hm : b.toNat = 45
      · have hv : powP x = -(V : Int) := by
          rw [Hpv.out, if_pos h6, if_pos]
          rw [Hb.out]; congr 1; exact UInt8.toNat_inj.1 hm
        have Hv := Lib.hid hv
        clear hv
        rw [hm] at hix
        go_wp2
        go_ret
        exact ⟨ret_int (by rw [Hv.out]), hbw⟩
      · have hv : powP x = (V : Int) := by
          rw [Hpv.out, if_pos h6, if_neg]
          rw [Hb.out]; intro h; injection h with h; subst h; exact hm rfl
        have Hv := Lib.hid hv
        have hc := byte_ne hm
        clear hv
        go_wp2
        go_ret
        exact ⟨ret_int (by rw [Hv.out]), hbw⟩
    · go_enter Tryd.func45, Tryd.ntmps45
      go_wp2_with fail
      refine (fx_sign x w (by omega)).mono ?_
      rintro e w1 ⟨rfl, rfl⟩
      rw [Hk.out]
      go_wp2_with fail
      refine (Tryd.strings_TrimLeft_one _ 48 (by decide) _).mono ?_
      rintro e w1 ⟨rfl, rfl⟩
      rw [bytesOf_list]
      rw [show (⟨(Lib.trimLeftB (x.drop k) 48).toArray⟩ : ByteArray) = bytesOf ((x.drop k).dropWhile (· == 48)) from rfl]
      by_cases hm : b.toNat = 45
      · have hv : powP x = -(999999 : Int) := by
          rw [Hpv.out, if_neg h6, if_pos]
          · rfl
          rw [Hb.out]; congr 1; exact UInt8.toNat_inj.1 hm
        have Hv := Lib.hid hv
        clear hv
        rw [hm] at hix
        go_wp2
        go_ret
        exact ⟨ret_int (by rw [Hv.out]), Below.refl _ _⟩
      · have hv : powP x = (999999 : Int) := by
          rw [Hpv.out, if_neg h6, if_neg]
          · rfl
          rw [Hb.out]; intro h; injection h with h; subst h; exact hm rfl
        have Hv := Lib.hid hv
        have hc := byte_ne hm
        clear hv
        go_wp2
        go_ret
        exact ⟨ret_int (by rw [Hv.out]), Below.refl _ _⟩
end Go.Proofs.YthkagpefgkpgeaaDoor
/- Layer 1: Parse is walked. -/
set_option linter.unusedVariables false
set_option linter.unusedSimpArgs false
namespace Go.Proofs.YthkagpefgkpgeaaDoor
open Go.RowKit Fx
section
variable {l sg I P F E S2 X : List UInt8} (D : Dec l sg I P F E S2 X)
include D
theorem dec_sgn : sgn l = sg.length := by
  have h := sgn_le l
  have := congrArg List.length D.lsg
  rw [List.length_take] at this; omega
theorem dec_drop : l.drop (sgn l) = (I ++ (P ++ F)) ++ (E ++ (S2 ++ X)) := by
  rw [dec_sgn D]
  conv => lhs; rw [D.all]
  rw [List.append_assoc, List.drop_left]
theorem dec_P : ∀ b ∈ P, b = 46 := by
  intro b hb
  rcases D.hP with ⟨h, _⟩ | ⟨h, _⟩ <;> rw [h] at hb <;> simp_all
theorem dec_body_low : ∀ b ∈ I ++ (P ++ F), b.toNat ≤ 57 := by
  intro b hb
  rw [List.mem_append, List.mem_append] at hb
  rcases hb with hb | hb | hb
  · exact (isD_range (D.hI b hb)).2
  · rw [dec_P D b hb]; decide
  · exact (isD_range (D.hF b hb)).2
theorem dec_index : Lib.indexAny (l.drop (sgn l)) [101, 69] = if E = [] then -1 else (((I ++ (P ++ F)).length : Nat) : Int) := by
  rw [dec_drop D]
  have hno : ∀ b ∈ I ++ (P ++ F), ([101, 69] : List UInt8).contains b = false := by
    intro b hb
    have := dec_body_low D b hb
    simp only [List.contains_eq_mem, decide_eq_false_iff_not, List.mem_cons, List.not_mem_nil, or_false]
    rintro (rfl | rfl) <;> revert this <;> decide
  rcases D.hE with ⟨h1, h2, h3⟩ | ⟨e, h1, h2, h3⟩
  · rw [if_pos h1, h1, h2, h3]
    refine Lib.indexAny_none ?_
    intro j b hj hb
    simp only [List.append_nil] at hb hj
    exact hno b (List.mem_of_getElem? hb)
  · rw [if_neg (by rw [h1]; simp)]
    refine Lib.indexAny_hit (x := e) ?_ ?_ ?_
    · intro j b hj hb
      rw [List.getElem?_append_left hj] at hb
      exact hno b (List.mem_of_getElem? hb)
    · rw [List.getElem?_append_right (Nat.le_refl _), Nat.sub_self, h1]; rfl
    · have : e = 101 ∨ e = 69 := by
        rcases h2 with h2 | h2
        · exact .inl (UInt8.toNat_inj.1 h2)
        · exact .inr (UInt8.toNat_inj.1 h2)
      rcases this with rfl | rfl <;> decide
theorem dec_ascii : ∀ b ∈ l.drop (sgn l), b.toNat < 128 := by
  intro b hb
  rw [dec_drop D, List.mem_append] at hb
  rcases hb with hb | hb
  · have := dec_body_low D b hb; omega
  rw [List.mem_append, List.mem_append] at hb
  rcases hb with hb | hb | hb
  · rcases D.hE with ⟨h1, _⟩ | ⟨e, h1, h2, _⟩
    · rw [h1] at hb; simp at hb
    · rw [h1] at hb; simp at hb; subst hb; omega
  · rcases D.hS with h1 | ⟨s, h1, h2⟩
    · rw [h1] at hb; simp at hb
    · rw [h1] at hb; simp at hb; subst hb; omega
  · have := isD_range (D.hX b hb); omega
theorem dec_cut : (Lib.cut (I ++ (P ++ F)) [46]).1 = I ∧ (Lib.cut (I ++ (P ++ F)) [46]).2.1 = F := by
  have hocc : ∀ (s : List UInt8) (j : Nat), Lib.occAt s [46] j = decide (s[j]? = some 46) := by
    intro s j
    unfold Lib.occAt
    by_cases hj : j < s.length
    · rw [List.drop_eq_getElem_cons hj, List.getElem?_eq_getElem hj]
      simp only [List.isPrefixOf, Bool.and_true, Option.some.injEq]
      exact Bool.eq_iff_iff.2 ⟨fun h => decide_eq_true (beq_iff_eq.1 h).symm, fun h => beq_iff_eq.2 (of_decide_eq_true h).symm⟩
    · rw [List.drop_eq_nil_of_le (by omega), List.getElem?_eq_none (by omega)]; rfl
  have hI : ∀ j : Nat, j < I.length → ¬ I[j]? = some 46 := by
    intro j hj h
    have := isD_range (D.hI 46 (List.mem_of_getElem? h))
    revert this; decide
  rcases D.hP with ⟨h1, h2⟩ | ⟨h1, h2⟩
  · have hn : Lib.index (I ++ (P ++ F)) [46] = -1 := by
      rw [h1, h2]
      refine Lib.index_none ?_
      intro j _
      rw [hocc, decide_eq_false_iff_not]
      simp only [List.append_nil]
      intro h
      exact hI j (List.getElem?_eq_some_iff.1 h).1 h
    unfold Lib.cut
    rw [hn, if_neg (by decide), h1, h2]
    simp
  · have hn : Lib.index (I ++ (P ++ F)) [46] = (I.length : Int) := by
      refine Lib.index_first (i := I.length) (by simp) ?_ ?_
      · rw [hocc, h1, List.getElem?_append_right (Nat.le_refl _), Nat.sub_self]; rfl
      · intro j hj
        rw [hocc, decide_eq_false_iff_not, List.getElem?_append_left hj]
        exact hI j hj
    unfold Lib.cut
    rw [hn, if_pos (by omega)]
    refine ⟨?_, ?_⟩
    · show List.take (Int.toNat (I.length : Int)) _ = _
      rw [Int.toNat_natCast, List.take_left]
    · show List.drop (Int.toNat (I.length : Int) + 1) _ = _
      rw [Int.toNat_natCast, ← List.drop_drop, List.drop_left, h1]; rfl
theorem dec_exp_digits : ∀ b ∈ (expP l).drop (sgn (expP l)), isD b = true := by rw [← D.lX]; exact D.hX
theorem dec_expP : (E = [] ∧ expP l = []) ∨ (E ≠ [] ∧ expP l = (l.drop (sgn l)).drop ((I ++ (P ++ F)).length + 1)) := by
  rcases D.hE with ⟨h1, h2, h3⟩ | ⟨e, h1, h2, h3⟩
  · exact .inl ⟨h1, by rw [← D.lE, h2, h3]; rfl⟩
  · refine .inr ⟨by rw [h1]; simp, ?_⟩
    rw [dec_drop D, ← List.drop_drop, List.drop_left, h1, ← D.lE]; rfl
theorem dec_len : l.length = sg.length + (I.length + (P.length + F.length)) + (E.length + (S2.length + X.length)) := by
  have := congrArg List.length D.all
  simp only [List.length_append] at this
  omega
end
end Go.Proofs.YthkagpefgkpgeaaDoor
/- Layer 1: Parse is walked. -/
set_option linter.unusedVariables false
set_option linter.unusedSimpArgs false
namespace Go.Proofs.YthkagpefgkpgeaaDoor
open Go.RowKit Fx
/-- what the library's functions ask of the world -/
structure Env (w : World) : Prop where
  max : ∃ m, w.cell? ⟨2, 0, none⟩ = some (.int .i64 m)
  pow : Lib.TabIs Tryd.prog w "internal/strconv.uint64pow10" .u64 Lib.pow10Tab
theorem cell_lt {w : World} {b : Nat} {v : Value} (h : w.cell? ⟨b, 0, none⟩ = some v) : b < w.heap.size := by
  by_cases hb : b < w.heap.size
  · exact hb
  · exfalso
    have : w.heap[b]? = none := Array.getElem?_eq_none (by omega)
    simp [World.cell?, this] at h
theorem Env.below {w w' : World} (h : Env w) (hb : Below w.heap.size w w') : Env w' := by
  obtain ⟨⟨m, hm⟩, hp⟩ := h
  refine ⟨⟨m, ?_⟩, Joins.tab_stays (g := 5) (by kernel_rfl) hp hb (Nat.le_refl _)⟩
  have hlt := cell_lt hm
  have := hb.block 2 hlt
  simp only [World.cell?] at hm ⊢
  rw [this]; exact hm
set_option maxRecDepth 100000 in
theorem fx_digit (t : List UInt8) (i B : Nat) (w : World) (hv : w.cell? ⟨B, 0, none⟩ = some (.string (bytesOf t))) (hd : ∀ b ∈ t, isD b = true) (hl : t.length ≤ 100000000) :
    Calls Tryd.prog 47 #[.int .i64 i, .pointer (some ⟨B, 0, none⟩)] w fun e w' => e = .returned (.int .i64 (((t[i]?.map dv).getD 0 : Nat) : Int)) ∧ w = w' := by
  have hs := bytesOf_size t
  by_cases hi : i < t.length
  · have hb : t[i]? = some t[i] := List.getElem?_eq_getElem hi
    have hr := isD_range (hd _ (List.mem_of_getElem? hb))
    have hix := str_at (P := Tryd.prog) (T := 9) Tryd.underlying9 t .i64 i _ hb
    generalize t[i] = b at *
    have Hb := Lib.hid hb
    clear hb hd
    go_enter Tryd.func47, Tryd.ntmps47
    go_wp2
    go_ret
    exact ⟨ret_int (by rw [Hb.out]; simp [dv]; omega), rfl⟩
  · have Hb := Lib.hid (show t[i]? = none from List.getElem?_eq_none (by omega))
    clear hd
    go_enter Tryd.func47, Tryd.ntmps47
    go_wp2
    go_ret
    exact ⟨ret_int (by rw [Hb.out]; rfl), rfl⟩
theorem retIB {a b : Int} {c d : Bool} (h1 : a = b) (h2 : c = d) : Ending.returned (.tuple #[.int .i64 a, .bool c]) = Ending.returned (.tuple #[.int .i64 b, .bool d]) := by rw [h1, h2]
theorem powP_range (x : List UInt8) (h : ∀ b ∈ x.drop (sgn x), isD b = true) : -999999 ≤ powP x ∧ powP x ≤ 999999 := by
  have hn : (if x.length - sgn x ≤ 6 then val (x.drop (sgn x)) else 999999 : Nat) ≤ 999999 := by
    split
    · rename_i h6
      have := val_lt _ h
      rw [List.length_drop] at this
      have h2 : 10 ^ (x.length - sgn x) ≤ 10 ^ 6 := Nat.pow_le_pow_right (by omega) h6
      omega
    · omega
  unfold powP
  simp only []
  split
  · omega
  · split <;> omega
theorem bytes_ascii {l : List UInt8} (h : ∀ b ∈ l, b.toNat < 128) : ∀ (j : Nat) b, (bytesOf l).data.toList[j]? = some b → b.toNat < 128 := by
  intro j b hb
  rw [bytesOf_list] at hb
  exact h b (List.mem_of_getElem? hb)
theorem eE_ascii : ∀ (j : Nat) b, (⟨#[101, 69]⟩ : ByteArray).data.toList[j]? = some b → b.toNat < 128 := by
  intro j b hb
  have h := List.mem_of_getElem? hb
  simp at h
  rcases h with rfl | rfl <;> decide
set_option maxRecDepth 100000 in
set_option maxHeartbeats 900000 in
theorem fx_parse (l : List UInt8) (w : World) (hl : l.length ≤ 1000000) (hw : Env w) :
    Calls Tryd.prog 33 #[.string (bytesOf l)] w fun e w' => e = .returned (.tuple #[.int .i64 (parseP l), .bool (isP l)]) ∧ Below w.heap.size w w' := by
  have hs := bytesOf_size l
  by_cases hne : l = []
  · subst hne
    obtain ⟨e1, e2⟩ := str_none
    go_enter Tryd.func33, Tryd.ntmps33
    go_wp2
    go_ret2
    exact ⟨retIB rfl rfl, Below.refl _ _⟩
  · obtain ⟨e1, e2⟩ := str_some hne
    by_cases hlen : lenP l = l.length
    · have hisP : isP l = true := decide_eq_true ⟨hne, hlen⟩
      obtain ⟨sg, I, P, F, E, S2, X, D⟩ := dec_of_isP hisP
      have hdl := dec_len D
      have hsgl : sg.length ≤ l.length := by omega
      have hdl0 := Lib.hid hdl
      have hsg := dec_sgn D
      have Hlen := Lib.hid hlen
      have HD := Lib.hid D
      have Hsg := Lib.hid hsg
      have hf := str_from (P := Tryd.prog) (T := 9) Tryd.underlying9 l .i64 sg.length (by omega)
      have hia : Hid (Lib.indexAny (l.drop sg.length) [101, 69] = if E = [] then -1 else (((I ++ (P ++ F)).length : Nat) : Int)) := by
        show _ = _
        rw [← hsg]; exact dec_index D
      clear hlen D hsg hdl
      go_enter Tryd.func33, Tryd.ntmps33
      go_wp2_with fail
      refine (fx_length l w (by omega)).mono ?_
      rintro e w1 ⟨rfl, hb1⟩
      rw [Hlen.out]
      go_wp2_with fail
      refine (fx_sign l _ (by omega)).mono ?_
      rintro e w2 ⟨rfl, rfl⟩
      rw [Hsg.out]
      go_wp2_with fail
      refine (Tryd.strings_IndexAny_laid (bytesOf (l.drop sg.length)) ⟨#[101, 69]⟩ w1 (by rw [bytesOf_size, List.length_drop]; omega) (by decide) (bytes_ascii (by rw [← Hsg.out]; exact dec_ascii HD.out)) eE_ascii).mono ?_
      rintro e w2 ⟨rfl, hb2⟩
      rw [bytesOf_list, show (⟨#[101, 69]⟩ : ByteArray).data.toList = [101, 69] from rfl, hia.out]
      replace hb2 := hb1.trans (hb2.mono hb1.size)
      clear hb1
      obtain ⟨r, hr⟩ : ∃ r, (if E = [] then -1 else (((I ++ (P ++ F)).length : Nat) : Int)) = r := ⟨_, rfl⟩
      rw [hr]
      have Hr := Lib.hid hr
      clear hr
      go_upto_if 34 with (fail)
      go_cut [5, 6] (fun s t wx => s = .string (bytesOf (I ++ (P ++ F))) ∧ t = .string (bytesOf (expP l)) ∧ Below w.heap.size w wx)
      case first =>
        have hdr := dec_drop HD.out
        rw [Hsg.out] at hdr
        by_cases hE : E = []
        · have hr := Hr.out
          rw [if_pos hE] at hr
          subst hr
          have hx := dec_expP HD.out
          have hx1 : expP l = [] := by rcases hx with ⟨_, h⟩ | ⟨h, _⟩; exact h; exact absurd hE h
          have hx2 : l.drop sg.length = I ++ (P ++ F) := by
            rcases HD.out.hE with ⟨_, h2, h3⟩ | ⟨e, h1, _⟩
            · rw [hdr, hE, h2, h3]; simp
            · rw [hE] at h1; cases h1
          rw [hx2]
          go_wp2_with fail
          go_meet
          exact ⟨rfl, by rw [hx1]; rfl, hb2⟩
        · have hr := Hr.out
          rw [if_neg hE] at hr
          have hx := dec_expP HD.out
          have hx1 : expP l = (l.drop sg.length).drop ((I ++ (P ++ F)).length + 1) := by rcases hx with ⟨h, _⟩ | ⟨_, h⟩; exact absurd h hE; rw [Hsg.out] at h; exact h
          have hx2 : (l.drop sg.length).take (I ++ (P ++ F)).length = I ++ (P ++ F) := by rw [hdr, List.take_left]
          have hEp : 0 < E.length := List.length_pos_iff.2 hE
          have hlb : (I ++ (P ++ F)).length + 1 ≤ (l.drop sg.length).length := by
            have h9 := congrArg List.length hdr
            simp only [List.length_append] at h9 ⊢
            omega
          have h1 := str_to (P := Tryd.prog) (T := 9) Tryd.underlying9 (l.drop sg.length) .i64 (I ++ (P ++ F)).length (by omega)
          have h2 := str_from (P := Tryd.prog) (T := 9) Tryd.underlying9 (l.drop sg.length) .i64 ((I ++ (P ++ F)).length + 1) hlb
          rw [hx2] at h1
          rw [← hx1] at h2
          have hlb2 : (I ++ (P ++ F)).length ≤ 1000000 := by rw [List.length_drop] at hlb; omega
          generalize (I ++ (P ++ F)).length = N at *
          generalize I ++ (P ++ F) = body at *
          generalize l.drop sg.length = rest at *
          generalize expP l = ex at *
          subst hr
          push_cast at h2
          clear hx1 hx2 hdr hx
          go_wp2_with fail
          go_region
          all_goals (go_wp2_with fail; go_meet; exact ⟨rfl, rfl, hb2.drew⟩)
      case rest =>
        clear hb2
        obtain ⟨rfl, rfl, hb2⟩ := hcut
        have hIl : I.length ≤ 1000000 := by have := hdl0.out; omega
        have hFl : F.length ≤ 1000000 := by have := hdl0.out; omega
        have hIPF : (I ++ (P ++ F)).length ≤ 1000000 := by have := hdl0.out; simp only [List.length_append]; omega
        obtain ⟨m, hm⟩ := (hw.below hb2).max
        go_wp2_with fail
        refine (Tryd.strings_Cut (bytesOf (I ++ (P ++ F))) ⟨#[46]⟩ m _ (by rw [bytesOf_size]; omega) hm).mono ?_
        rintro e w3 ⟨rfl, n, rfl⟩
        rw [bytesOf_list, show (⟨#[46]⟩ : ByteArray).data.toList = [46] from rfl, (dec_cut HD.out).1, (dec_cut HD.out).2]
        rw [show (⟨I.toArray⟩ : ByteArray) = bytesOf I from rfl, show (⟨F.toArray⟩ : ByteArray) = bytesOf F from rfl]
        have hsI := bytesOf_size I
        have hsF := bytesOf_size F
        have hb3 := below_drewN hb2 n
        have hIF : ∀ b ∈ I ++ F, isD b = true := by
          intro b hb
          rcases List.mem_append.1 hb with h | h
          · exact HD.out.hI b h
          · exact HD.out.hF b h
        have HIF := Lib.hid hIF
        clear hIF
        have hel : (expP l).length ≤ l.length := by unfold expP; split <;> simp
        have hIF1 := bytesOf_size (I ++ F)
        rw [List.length_append] at hIF1
        obtain ⟨T, hT⟩ : ∃ T, (I ++ F).dropWhile (· == 48) = T := ⟨_, rfl⟩
        have hTl : T.length ≤ I.length + F.length := by
          rw [← hT]
          have := (List.dropWhile_suffix (· == (48 : UInt8)) (l := I ++ F)).length_le
          rwa [List.length_append] at this
        have hTD : ∀ b ∈ T, isD b = true := by rw [← hT]; exact dropWhile_all HIF.out
        have hsT := bytesOf_size T
        have hnum : numP l = foldN T ((I.length : Int) + powP (expP l) + 3 - ((I.length + F.length - T.length : Nat) : Int)) := by
          unfold numP
          rw [← HD.out.lI, ← HD.out.lF, foldN_trim, hT, List.length_append]
        have HT := Lib.hid hT
        have HTD := Lib.hid hTD
        have Hnum := Lib.hid hnum
        clear hT hTD hnum
        obtain ⟨pw, hpw⟩ : ∃ pw, powP (expP l) = pw := ⟨_, rfl⟩
        have hpwb : -999999 ≤ pw ∧ pw ≤ 999999 := by rw [← hpw]; exact powP_range _ (dec_exp_digits HD.out)
        have Hpw := Lib.hid hpw
        clear hpw
        go_wp2_with fail
        refine (fx_power (expP l) _ (by omega) (dec_exp_digits HD.out)).mono ?_
        rintro e w4 ⟨rfl, hb4⟩
        replace hb4 := hb3.trans (hb4.mono hb3.size)
        rw [Hpw.out]
        clear hb3 hb2
        rw [bytesOf_append]
        go_wp2_with fail
        refine (Tryd.strings_TrimLeft_one _ 48 (by decide) _).mono ?_
        rintro e w5 ⟨rfl, rfl⟩
        rw [bytesOf_list, show Lib.trimLeftB (I ++ F) 48 = T from HT.out, show (⟨T.toArray⟩ : ByteArray) = bytesOf T from rfl]
        have hTl2 : T.length ≤ 2000000 := by omega
        go_upto_block 0 with (fail)
        have hcell : (w5.alloc (.cells #[.string (bytesOf T)] 9)).cell? ⟨w5.heap.size, 0, none⟩ = some (.string (bytesOf T)) := by simp [World.cell?_alloc_new]
        have hb6 : Below w.heap.size w (w5.alloc (.cells #[.string (bytesOf T)] 9)) := hb4.alloc hb4.size _
        generalize w5.alloc (.cells #[.string (bytesOf T)] 9) = W6 at *
        generalize w5.heap.size = B at *
        obtain ⟨p, hp⟩ : ∃ p : Int, (I.length : Int) + pw + 3 - ((I.length : Int) + F.length - T.length) = p := ⟨_, rfl⟩
        have hpb : -4000000 ≤ p ∧ p ≤ 4000000 := by omega
        have hnum2 : numP l = foldN T p := by
          rw [Hnum.out, Hpw.out]; congr 1; omega
        have Hnum2 := Lib.hid hnum2
        rw [hp]
        clear hp hnum2 hpwb hTl hIF1 hsI hsF hel hb4
        go_cut [14] (fun s wx => s = .int .i64 (numP l : Nat) ∧ wx = W6)
        case first =>
          go_wp2_with fail
          go_loop [14, 16] (fun n k => ∃ i N : Nat, i ≤ p.toNat ∧ N = min (vA T i) M ∧ n = .int .i64 (N : Int) ∧ k = .int .i64 (i : Int)) (fun _ k => p.toNat - (intOf k).toNat)
          case atStart => exact ⟨0, 0, by omega, by simp [vA], rfl, rfl⟩
          case round =>
            obtain ⟨i, N, hi, hN, rfl, rfl⟩ := hrel
            have hNM : N ≤ 1099511627776 := by rw [hN]; exact Nat.min_le_right _ _
            have HN := Lib.hid hN
            clear hN
            have fin : ∀ (h : N = foldN T p), ((N : Nat) : Int) = (numP l : Nat) := by
              intro h; rw [Hnum2.out, ← h]
            have Hfin := Lib.hid fin
            clear fin
            by_cases c1 : (i : Int) < p
            · have d1 : decide ((i : Int) < p) = true := by simpa using c1
              by_cases c2 : N < 1099511627776
              · have d2 : decide ((N : Int) < 1099511627776) = true := by simp; omega
                by_cases c3 : i < T.length ∨ 0 < N
                · by_cases c4 : i < T.length + 60
                  · have d4 : decide ((i : Int) < (T.length : Int) + 60) = true := by simp; omega
                    obtain ⟨x, hx⟩ : ∃ x, ((T[i]?).map dv).getD 0 = x := ⟨_, rfl⟩
                    have hcall := fx_digit T i B W6 hcell HTD.out (by omega)
                    rw [hx] at hcall
                    have hx9 : x ≤ 9 := by
                      rw [← hx]
                      by_cases hi2 : i < T.length
                      · rw [List.getElem?_eq_getElem hi2]
                        have := isD_range (HTD.out _ (List.getElem_mem hi2))
                        simp [dv]; omega
                      · rw [List.getElem?_eq_none (by omega)]; simp
                    have hstep : min (10 * N + x) M = min (vA T (i + 1)) M := by rw [HN.out, ← hx]; exact vA_step T i
                    have Hstep := Lib.hid hstep
                    clear hx hstep
                    have hmin : min (10 * (N : Int) + x) 1099511627776 = ((min (10 * N + x) M : Nat) : Int) := by unfold M; omega
                    by_cases c5 : i < T.length
                    · have d5 : decide ((i : Int) < T.length) = true := by simp; omega
                      go_wp2_with fail
                      refine hcall.mono ?_
                      rintro e w7 ⟨rfl, rfl⟩
                      go_wp2
                      exact ⟨⟨i + 1, _, by omega, Hstep.out, rfl, rfl⟩, by simp [intOf]; omega⟩
                    · have d5 : decide ((i : Int) < T.length) = false := by simp; omega
                      have hN1 : 1 ≤ N := by omega
                      have hN2 : 0 < N := by omega
                      have d6 : decide ((0 : Int) < N) = true := by simp; omega
                      have d7 : decide (0 < N) = true := by simp; omega
                      have hNI : (N : Int) ≤ 1099511627776 := by omega
                      clear c3 c2 hNM hN1
                      go_wp2_with fail
                      refine hcall.mono ?_
                      rintro e w7 ⟨rfl, rfl⟩
                      go_wp2
                      exact ⟨⟨i + 1, _, by omega, Hstep.out, rfl, rfl⟩, by simp [intOf]; omega⟩
                  · have d4 : decide ((i : Int) < (T.length : Int) + 60) = false := by simp; omega
                    have d5 : decide ((i : Int) < T.length) = false := by simp; omega
                    exfalso
                    have hv : vA T i ≠ 0 := by intro h; have := HN.out; rw [h] at this; simp at this; omega
                    have := vA_far T (by omega) hv
                    have := HN.out
                    unfold M at *
                    omega
                · have d5 : decide ((i : Int) < T.length) = false := by simp; omega
                  have hN0 : N = 0 := by omega
                  have hv : vA T i = 0 := by have := HN.out; unfold M at this; omega
                  have hf : N = foldN T p := by
                    unfold foldN; rw [vA_nought T (by omega : i ≤ p.toNat) (by omega) hv, hN0]; rfl
                  have d6 : decide ((0 : Int) < N) = false := by simp; omega
                  have Hn := Lib.hid (Hfin.out hf)
                  have hz0 : (N : Int) ≤ 0 := by omega
                  have hTi : T.length ≤ i := by omega
                  clear c3 c2 hNM hN0 Hfin HN hf
                  generalize (N : Int) = z at *
                  go_wp2_with fail
                  go_meet
                  exact ⟨by rw [← Hn.out], rfl⟩
              · have d2 : decide ((N : Int) < 1099511627776) = false := by simp; omega
                have hf : N = foldN T p := by
                  have := HN.out
                  unfold foldN
                  rw [vA_full T (by omega : i ≤ p.toNat) (by unfold M at *; omega)]
                  unfold M; omega
                have Hn := Lib.hid (Hfin.out hf)
                clear c2 hNM Hfin HN hf
                generalize (N : Int) = z at *
                go_wp2_with fail
                go_meet
                exact ⟨by rw [← Hn.out], rfl⟩
            · have d1 : decide ((i : Int) < p) = false := by simpa using c1
              have hf : N = foldN T p := by
                unfold foldN
                have : i = p.toNat := by omega
                rw [HN.out, this]
              have Hn := Lib.hid (Hfin.out hf)
              clear hf
              go_wp2_with fail
              go_meet
              exact ⟨by rw [← Hn.out], rfl⟩
        case rest =>
          obtain ⟨rfl, rfl⟩ := hcut
          have hpos : 0 < l.length := List.length_pos_iff.2 hne
          obtain ⟨b, hb⟩ : ∃ b, l[0]? = some b := ⟨_, List.getElem?_eq_getElem hpos⟩
          have hix := str_at (P := Tryd.prog) (T := 9) Tryd.underlying9 l .i64 0 b hb
          rw [Int.ofNat_zero] at hix
          have hnb : numP l ≤ 1099511627776 := by rw [Hnum2.out]; exact Nat.min_le_right _ _
          have hpp : parseP l = if l[0]? = some 45 then -(numP l : Int) else (numP l : Int) := by unfold parseP; rw [if_pos hisP]
          have Hpp := Lib.hid hpp
          have Hb := Lib.hid hb
          have HisP := Lib.hid hisP
          clear hpp hb hisP
          generalize numP l = N at *
          by_cases hm : b.toNat = 45
          · have hv : parseP l = -(N : Int) := by
              rw [Hpp.out, if_pos]
              rw [Hb.out]; congr 1; exact UInt8.toNat_inj.1 hm
            have Hv := Lib.hid hv
            clear hv
            rw [hm] at hix
            go_wp2
            go_ret2
            exact ⟨retIB (by rw [Hv.out]) (by rw [HisP.out]), hb6⟩
          · have hv : parseP l = (N : Int) := by
              rw [Hpp.out, if_neg]
              rw [Hb.out]; intro h; injection h with h; subst h; exact hm rfl
            have Hv := Lib.hid hv
            have hc := byte_ne hm
            clear hv
            go_wp2
            go_ret2
            exact ⟨retIB (by rw [Hv.out]) (by rw [HisP.out]), hb6⟩
    · have hisP : isP l = false := decide_eq_false (by simp [hlen])
      have hp0 : parseP l = 0 := by unfold parseP; rw [hisP]; rfl
      have hc : ((lenP l : Int) == (l.length : Int)) = false := by simp; omega
      have H1 := Lib.hid hisP
      have H2 := Lib.hid hp0
      clear hisP hp0 hlen
      go_enter Tryd.func33, Tryd.ntmps33
      go_wp2_with fail
      refine (fx_length l w (by omega)).mono ?_
      rintro e w1 ⟨rfl, hb1⟩
      go_wp2
      go_ret2
      exact ⟨retIB (by rw [H2.out]) (by rw [H1.out]), hb1⟩
end Go.Proofs.YthkagpefgkpgeaaDoor
set_option linter.unusedVariables false
set_option linter.unusedSimpArgs false
namespace Go.Proofs.YthkagpefgkpgeaaDoor
open Go.RowKit Fx
namespace Fx
/-- parts that make a decimal -/
structure Parts (sg I P F E S2 X : List UInt8) : Prop where
  hsg : sg = [] ∨ ∃ b, sg = [b] ∧ (b.toNat = 43 ∨ b.toNat = 45)
  hI : ∀ b ∈ I, isD b = true
  hF : ∀ b ∈ F, isD b = true
  hP : (P = [] ∧ F = []) ∨ (P = [46] ∧ F ≠ [])
  hE : (E = [] ∧ S2 = [] ∧ X = []) ∨ (∃ e, E = [e] ∧ (e.toNat = 101 ∨ e.toNat = 69) ∧ X ≠ [])
  hS : S2 = [] ∨ ∃ b, S2 = [b] ∧ (b.toNat = 43 ∨ b.toNat = 45)
  hX : ∀ b ∈ X, isD b = true
  some : I ≠ [] ∨ F ≠ []
def glue (sg I P F E S2 X : List UInt8) : List UInt8 := sg ++ (I ++ (P ++ F)) ++ (E ++ (S2 ++ X))
end Fx
theorem Dec.parts {l sg I P F E S2 X : List UInt8} (D : Dec l sg I P F E S2 X) : Parts sg I P F E S2 X :=
  ⟨D.hsg, D.hI, D.hF, D.hP, D.hE, D.hS, D.hX, D.some⟩
theorem digs_app (I t : List UInt8) (h : ∀ b ∈ I, isD b = true) : digs (I ++ t) = I.length + digs t := by
  unfold digs
  induction I with
  | nil => simp
  | cons b I ih =>
    rw [List.cons_append, List.takeWhile_cons, if_pos (h b (by simp)), List.length_cons, ih (fun c hc => h c (by simp [hc])), List.length_cons]
    omega
theorem digs_stop {b : UInt8} (t : List UInt8) (h : isD b = false) : digs (b :: t) = 0 := by
  unfold digs; rw [List.takeWhile_cons, if_neg (by rw [h]; simp)]; rfl
theorem digs_nil : digs [] = 0 := rfl
theorem sgn_digit {b : UInt8} (t : List UInt8) (h : isD b = true) : sgn (b :: t) = 0 := by
  have := isD_range h
  unfold sgn; simp only []; rw [if_neg (by omega)]
theorem sgn_of {sg : List UInt8} (t : List UInt8) (h : sg = [] ∨ ∃ b, sg = [b] ∧ (b.toNat = 43 ∨ b.toNat = 45)) (h2 : sg = [] → sgn t = 0) : sgn (sg ++ t) = sg.length := by
  rcases h with h | ⟨b, h, hb⟩
  · rw [h]; exact h2 h
  · rw [h]; exact if_pos hb
theorem sgn_digits {X : List UInt8} (t : List UInt8) (hX : ∀ b ∈ X, isD b = true) (hne : X ≠ []) : sgn (X ++ t) = 0 := by
  cases X with
  | nil => exact absurd rfl hne
  | cons b X => exact sgn_digit _ (hX b (by simp))
theorem isE_notD {e : UInt8} (h : e.toNat = 101 ∨ e.toNat = 69) : isD e = false := by unfold isD; simp; omega
/-- the longest decimal is at least as long as the one that stands there; its parts are read, where an exponent stands or nothing is behind -/
theorem glue_body {sg I P F E S2 X : List UInt8} (D : Parts sg I P F E S2 X) (rest : List UInt8) (hr : E = [] → rest = []) :
    sgn (glue sg I P F E S2 X ++ rest) = sg.length ∧ digs ((glue sg I P F E S2 X ++ rest).drop sg.length) = I.length ∧ bodyLen (glue sg I P F E S2 X ++ rest) = sg.length + I.length + P.length + F.length ∧ some_ (glue sg I P F E S2 X ++ rest) = true
      ∧ intP (glue sg I P F E S2 X ++ rest) = I ∧ fracP (glue sg I P F E S2 X ++ rest) = F := by
  obtain ⟨Y, hY⟩ : ∃ Y, E ++ (S2 ++ X) ++ rest = Y := ⟨_, rfl⟩
  have hYd : digs Y = 0 ∧ Y[0]? ≠ some 46 := by
    rw [← hY]
    rcases D.hE with ⟨h1, h2, h3⟩ | ⟨e, h1, h2, _⟩
    · rw [h1, h2, h3, hr h1]; exact ⟨rfl, by simp⟩
    · rw [h1]
      refine ⟨digs_stop _ (isE_notD h2), ?_⟩
      simp; intro h; subst h; revert h2; decide
  have hl : glue sg I P F E S2 X ++ rest = sg ++ (I ++ (P ++ (F ++ Y))) := by rw [← hY]; unfold glue; simp
  have hs : sgn (sg ++ (I ++ (P ++ (F ++ Y)))) = sg.length := by
    refine sgn_of _ D.hsg fun _ => ?_
    by_cases hI : I = []
    · have hF : F ≠ [] := D.some.resolve_left (fun h => h hI)
      rcases D.hP with ⟨_, h⟩ | ⟨h, _⟩
      · exact absurd h hF
      · rw [hI, h]; rfl
    · exact sgn_digits _ D.hI hI
  have hd : (sg ++ (I ++ (P ++ (F ++ Y)))).drop sg.length = I ++ (P ++ (F ++ Y)) := by simp
  have hn : digs (I ++ (P ++ (F ++ Y))) = I.length := by
    rw [digs_app _ _ D.hI]
    rcases D.hP with ⟨h, h2⟩ | ⟨h, _⟩
    · rw [h, h2]; simp only [List.nil_append]; omega
    · rw [h]; rw [List.cons_append, digs_stop _ (by rfl)]; omega
  have hd2 : (sg ++ (I ++ (P ++ (F ++ Y)))).drop (sg.length + I.length) = P ++ (F ++ Y) := by
    rw [← List.drop_drop, hd]; simp
  have hat : (sg ++ (I ++ (P ++ (F ++ Y))))[sg.length + I.length]? = (P ++ (F ++ Y))[0]? := by
    rw [← hd2, List.getElem?_drop]; simp
  rw [hl]
  rcases D.hP with ⟨h, h2⟩ | ⟨h, h2⟩
  · have hno : ¬ (P ++ (F ++ Y))[0]? = some 46 := by rw [h, h2]; exact hYd.2
    have hI : I ≠ [] := D.some.resolve_right (fun h => h h2)
    have hIl := List.length_pos_iff.2 hI
    refine ⟨hs, by rw [hd, hn], ?_, ?_, ?_, ?_⟩
    · unfold bodyLen; simp only []; rw [hs, hd, hn, hat, if_neg (fun x => hno x.1), h, h2]; simp
    · unfold some_; simp only []; rw [hs, hd, hn]; simp [hIl]
    · unfold intP; rw [hs, hd, hn]; simp
    · unfold fracP; simp only []; rw [hs, hd, hn, hat, if_neg (fun x => hno x.1), h2]
  · have hyes : (P ++ (F ++ Y))[0]? = some 46 := by rw [h]; rfl
    have hFl := List.length_pos_iff.2 h2
    have hd3 : (sg ++ (I ++ (P ++ (F ++ Y)))).drop (sg.length + I.length + 1) = F ++ Y := by
      rw [← List.drop_drop, hd2, h]; rfl
    have hnF : digs (F ++ Y) = F.length := by rw [digs_app _ _ D.hF, hYd.1]; omega
    refine ⟨hs, by rw [hd, hn], ?_, ?_, ?_, ?_⟩
    · unfold bodyLen; simp only []; rw [hs, hd, hn, hat, hd3, hnF, if_pos ⟨hyes, hFl⟩, h]; simp; 
    · unfold some_; simp only []; rw [hs, hd, hn, hat, hd3, hnF]; simp [hyes, hFl]
    · unfold intP; rw [hs, hd, hn]; simp
    · unfold fracP; simp only []; rw [hs, hd, hn, hat, hd3, hnF, if_pos ⟨hyes, hFl⟩]; simp
theorem glue_len (sg I P F E S2 X : List UInt8) : (glue sg I P F E S2 X).length = sg.length + I.length + P.length + F.length + E.length + S2.length + X.length := by
  unfold glue; simp; omega
/-- a decimal with an exponent, whatever stands behind -/
theorem glue_exp {sg I P F E S2 X : List UInt8} (D : Parts sg I P F E S2 X) (hE : E ≠ []) (rest : List UInt8) :
    lenP (glue sg I P F E S2 X ++ rest) = (glue sg I P F E S2 X).length + digs rest ∧ expP (glue sg I P F E S2 X ++ rest) = S2 ++ X ++ rest := by
  obtain ⟨h1, h2, h3, h4, _, _⟩ := glue_body D rest (fun h => absurd h hE)
  obtain ⟨e, he1, he2, hX⟩ : ∃ e, E = [e] ∧ (e.toNat = 101 ∨ e.toNat = 69) ∧ X ≠ [] := by
    rcases D.hE with ⟨h, _⟩ | h
    · exact absurd h hE
    · exact h
  have hl : glue sg I P F E S2 X ++ rest = (sg ++ (I ++ (P ++ F))) ++ (e :: (S2 ++ (X ++ rest))) := by unfold glue; rw [he1]; simp
  have hA : (sg ++ (I ++ (P ++ F))).length = sg.length + I.length + P.length + F.length := by simp; omega
  have hat : (glue sg I P F E S2 X ++ rest)[sg.length + I.length + P.length + F.length]? = some e := by
    rw [hl, List.getElem?_append_right (by omega), hA]; simp
  have hdr : (glue sg I P F E S2 X ++ rest).drop (sg.length + I.length + P.length + F.length + 1) = S2 ++ (X ++ rest) := by
    rw [hl, ← List.drop_drop, ← hA, List.drop_left]; rfl
  have hie : isE (some e) = true := by unfold isE; simpa using he2
  have hsg : sgn (S2 ++ (X ++ rest)) = S2.length := sgn_of _ D.hS fun _ => sgn_digits _ D.hX hX
  have hXl := List.length_pos_iff.2 hX
  have hdx : digs ((S2 ++ (X ++ rest)).drop S2.length) = X.length + digs rest := by rw [List.drop_left, digs_app _ _ D.hX]
  have hexp : expLen (S2 ++ (X ++ rest)) = S2.length + (X.length + digs rest) := by
    unfold expLen; rw [hsg, hdx, if_pos (by omega)]
  have hSl : S2.length ≤ 1 := by
    rcases D.hS with h | ⟨b, h, _⟩ <;> rw [h] <;> simp
  constructor
  · unfold lenP
    simp only []
    rw [h4, if_neg (by simp), h3, hat, hdr, hexp, if_pos ⟨hie, by omega⟩, glue_len, he1]
    simp; omega
  · unfold expP
    rw [h3, hat, if_pos hie, hdr, List.append_assoc]
/-- parts make a decimal -/
theorem glue_is {sg I P F E S2 X : List UInt8} (D : Parts sg I P F E S2 X) :
    isP (glue sg I P F E S2 X) = true ∧ intP (glue sg I P F E S2 X) = I ∧ fracP (glue sg I P F E S2 X) = F ∧ expP (glue sg I P F E S2 X) = S2 ++ X ∧ lenP (glue sg I P F E S2 X) = (glue sg I P F E S2 X).length := by
  obtain ⟨h1, h2, h3, h4, h5, h6⟩ := glue_body D [] (fun _ => rfl)
  rw [List.append_nil] at h1 h2 h3 h4 h5 h6
  have hpos : 0 < (glue sg I P F E S2 X).length := by
    rw [glue_len]
    rcases D.some with h | h <;> have := List.length_pos_iff.2 h <;> omega
  have hne : glue sg I P F E S2 X ≠ [] := List.length_pos_iff.1 hpos
  have hlen : lenP (glue sg I P F E S2 X) = (glue sg I P F E S2 X).length ∧ expP (glue sg I P F E S2 X) = S2 ++ X := by
    by_cases hE : E = []
    · have hE2 : S2 = [] ∧ X = [] := by
        rcases D.hE with ⟨_, h, h2⟩ | ⟨e, h, _⟩
        · exact ⟨h, h2⟩
        · rw [hE] at h; cases h
      have hnone : (glue sg I P F E S2 X)[sg.length + I.length + P.length + F.length]? = none := by
        refine List.getElem?_eq_none ?_
        rw [glue_len, hE, hE2.1, hE2.2]; simp
      constructor
      · unfold lenP
        simp only []
        rw [h4, if_neg (by simp), h3, hnone, if_neg (fun h => by have := h.1; simp [isE] at this), glue_len, hE, hE2.1, hE2.2]; simp
      · unfold expP
        rw [h3, hnone, if_neg (by simp [isE]), hE2.1, hE2.2]; rfl
    · obtain ⟨a, b⟩ := glue_exp D hE []
      rw [List.append_nil] at a b
      rw [List.append_nil] at b
      exact ⟨by rw [a]; rfl, b⟩
  exact ⟨decide_eq_true ⟨hne, hlen.1⟩, h5, h6, hlen.2, hlen.1⟩
/-- a decimal is no longer than the longest one -/
theorem glue_le {sg I P F E S2 X : List UInt8} (D : Parts sg I P F E S2 X) (rest : List UInt8) : (glue sg I P F E S2 X).length ≤ lenP (glue sg I P F E S2 X ++ rest) := by
  by_cases hE : E = []
  · have hE2 : S2 = [] ∧ X = [] := by
      rcases D.hE with ⟨_, h, h2⟩ | ⟨e, h, _⟩
      · exact ⟨h, h2⟩
      · rw [hE] at h; cases h
    obtain ⟨l, hl⟩ : ∃ l, glue sg I P F E S2 X ++ rest = l := ⟨_, rfl⟩
    have hl2 : l = sg ++ (I ++ (P ++ (F ++ rest))) := by rw [← hl]; unfold glue; rw [hE, hE2.1, hE2.2]; simp
    have hs : sgn l = sg.length := by
      rw [hl2]
      refine sgn_of _ D.hsg fun _ => ?_
      by_cases hI : I = []
      · have hF : F ≠ [] := D.some.resolve_left (fun h => h hI)
        rcases D.hP with ⟨_, h⟩ | ⟨h, _⟩
        · exact absurd h hF
        · rw [hI, h]; rfl
      · exact sgn_digits _ D.hI hI
    have hd : l.drop sg.length = I ++ (P ++ (F ++ rest)) := by rw [hl2]; simp
    have hbody : some_ l = true ∧ (glue sg I P F E S2 X).length ≤ bodyLen l := by
      rw [glue_len, hE, hE2.1, hE2.2]
      rcases D.hP with ⟨h, h2⟩ | ⟨h, h2⟩
      · have hI : I ≠ [] := D.some.resolve_right (fun h => h h2)
        have hIl := List.length_pos_iff.2 hI
        have hdg : I.length ≤ digs (I ++ (P ++ (F ++ rest))) := by rw [digs_app _ _ D.hI]; omega
        constructor
        · unfold some_; simp only []; rw [hs, hd]; exact decide_eq_true (.inl (by omega))
        · unfold bodyLen; simp only []; rw [hs, hd, h, h2] at *; simp only [List.length_nil, List.nil_append] at *
          split <;> omega
      · have hFl := List.length_pos_iff.2 h2
        have hn : digs (I ++ (P ++ (F ++ rest))) = I.length := by rw [digs_app _ _ D.hI, h, List.cons_append, digs_stop _ (by rfl)]; omega
        have hd2 : l.drop (sg.length + I.length) = P ++ (F ++ rest) := by rw [← List.drop_drop, hd]; simp
        have hat : l[sg.length + I.length]? = some 46 := by
          have : l[sg.length + I.length]? = (P ++ (F ++ rest))[0]? := by rw [← hd2, List.getElem?_drop]; simp
          rw [this, h]; rfl
        have hd3 : l.drop (sg.length + I.length + 1) = F ++ rest := by rw [← List.drop_drop, hd2, h]; rfl
        have hnF : F.length ≤ digs (F ++ rest) := by rw [digs_app _ _ D.hF]; omega
        constructor
        · unfold some_; simp only []; rw [hs, hd, hn, hat, hd3]; exact decide_eq_true (.inr ⟨rfl, by omega⟩)
        · unfold bodyLen; simp only []; rw [hs, hd, hn, hat, hd3, if_pos ⟨rfl, by omega⟩, h]; simp; omega
    rw [hl]
    refine Nat.le_trans hbody.2 ?_
    unfold lenP
    simp only []
    rw [hbody.1, if_neg (by simp)]
    split <;> omega
  · rw [(glue_exp D hE rest).1]; omega
/-- a text's longest decimal, taken apart -/
theorem len_parts {l : List UInt8} (h : 0 < lenP l) : ∃ sg I P F E S2 X, Parts sg I P F E S2 X ∧ l.take (lenP l) = glue sg I P F E S2 X := by
  have hsome : some_ l = true := by
    cases hs : some_ l with
    | true => rfl
    | false => rw [lenP_none hs] at h; omega
  obtain ⟨A, hA⟩ : ∃ A, bodyLen l = A := ⟨_, rfl⟩
  have hAl := bodyLen_le l
  have ht := lenP_tail hsome hA
  have hk0 := sgn_le l
  have hn0 := digs_le (l.drop (sgn l))
  rw [List.length_drop] at hn0
  have e1 : l.take (sgn l + digs (l.drop (sgn l))) = l.take (sgn l) ++ intP l := by rw [List.take_add]; rfl
  have hItail : ∀ b ∈ intP l, isD b = true := by unfold intP; exact digs_all _
  have hFtail : ∀ b ∈ fracP l, isD b = true := by
    unfold fracP
    simp only []
    split
    · exact digs_all _
    · simp
  have hbody : ∃ P, l.take A = l.take (sgn l) ++ (intP l ++ (P ++ fracP l)) ∧ ((P = [] ∧ fracP l = []) ∨ (P = [46] ∧ fracP l ≠ [])) ∧ (intP l ≠ [] ∨ fracP l ≠ []) := by
    by_cases hd : l[sgn l + digs (l.drop (sgn l))]? = Option.some 46 ∧ 0 < digs (l.drop (sgn l + digs (l.drop (sgn l)) + 1))
    · have hF : fracP l = (l.drop (sgn l + digs (l.drop (sgn l)) + 1)).take (digs (l.drop (sgn l + digs (l.drop (sgn l)) + 1))) := by
        unfold fracP; simp only []; rw [if_pos hd]
      have hFl : (fracP l).length = digs (l.drop (sgn l + digs (l.drop (sgn l)) + 1)) := by
        have := digs_le (l.drop (sgn l + digs (l.drop (sgn l)) + 1))
        rw [hF, List.length_take]; omega
      have hA2 : A = sgn l + digs (l.drop (sgn l)) + 1 + digs (l.drop (sgn l + digs (l.drop (sgn l)) + 1)) := by
        rw [← hA]; unfold bodyLen; simp only []; rw [if_pos hd]
      have hFne : fracP l ≠ [] := by intro h0; rw [h0] at hFl; simp at hFl; omega
      refine ⟨[46], ?_, .inr ⟨rfl, hFne⟩, .inr hFne⟩
      rw [hA2, List.take_add, ← hF, take_snoc _ _ _ hd.1, e1]
      simp
    · have hF : fracP l = [] := by unfold fracP; simp only []; rw [if_neg hd]
      have hA2 : A = sgn l + digs (l.drop (sgn l)) := by
        rw [← hA]; unfold bodyLen; simp only []; rw [if_neg hd]
      have hIlen : (intP l).length = digs (l.drop (sgn l)) := by
        unfold intP; rw [List.length_take, List.length_drop]; omega
      refine ⟨[], ?_, .inl ⟨rfl, hF⟩, .inl ?_⟩
      · rw [hA2, e1, hF]; simp
      · intro h0
        rw [h0] at hIlen
        unfold some_ at hsome
        have hd2 := of_decide_eq_true hsome
        rcases hd2 with hd2 | hd2
        · simp at hIlen; omega
        · exact hd hd2
  obtain ⟨P, hb1, hb2, hb3⟩ := hbody
  by_cases hx : isE l[A]? = true ∧ 0 < digs (l.drop (A + 1 + sgn (l.drop (A + 1))))
  · have hL := ht.2 hx.1 _ _ rfl rfl
    rw [if_pos hx.2] at hL
    obtain ⟨e, he, hee⟩ : ∃ e, l[A]? = some e ∧ (e.toNat = 101 ∨ e.toNat = 69) := by
      rcases isE_cases l A with ⟨hge, hE⟩ | ⟨e, he, ⟨h1, _⟩ | ⟨h1, _⟩ | ⟨_, _, h3⟩⟩
      · rw [hE] at hx; exact absurd hx.1 (by simp)
      · exact ⟨e, he, .inl h1⟩
      · exact ⟨e, he, .inr h1⟩
      · rw [h3] at hx; exact absurd hx.1 (by simp)
    refine ⟨l.take (sgn l), intP l, P, fracP l, [e], (l.drop (A + 1)).take (sgn (l.drop (A + 1))), (l.drop (A + 1 + sgn (l.drop (A + 1)))).take (digs (l.drop (A + 1 + sgn (l.drop (A + 1))))), ⟨sgn_shape l, hItail, hFtail, hb2, .inr ⟨e, rfl, hee, ?_⟩, sgn_shape _, digs_all _, hb3⟩, ?_⟩
    · intro h0
      have h1 := congrArg List.length h0
      have := digs_le (l.drop (A + 1 + sgn (l.drop (A + 1))))
      rw [List.length_take, List.length_nil] at h1
      omega
    · rw [hL]
      unfold glue
      rw [← hb1]
      rw [List.take_add, List.take_add, take_snoc _ _ _ he]
      simp
  · have hL : lenP l = A := by
      cases hE : isE l[A]? with
      | false => exact ht.1 hE
      | true =>
        rw [hE] at hx
        have := ht.2 hE _ _ rfl rfl
        rw [if_neg (fun h => hx ⟨rfl, h⟩)] at this
        exact this
    refine ⟨l.take (sgn l), intP l, P, fracP l, [], [], [], ⟨sgn_shape l, hItail, hFtail, hb2, .inl ⟨rfl, rfl, rfl⟩, .inl rfl, by simp, hb3⟩, ?_⟩
    rw [hL]; unfold glue; rw [← hb1]; simp
/-- FixedBegins: the longest decimal is one -/
theorem begins_is (l : List UInt8) : isP (l.take (lenP l)) = decide (0 < lenP l) := by
  by_cases h : 0 < lenP l
  · obtain ⟨sg, I, P, F, E, S2, X, D, e⟩ := len_parts h
    rw [e, (glue_is D).1, decide_eq_true h]
  · have h0 : lenP l = 0 := by omega
    rw [h0]; rfl
/-- and none is longer -/
theorem begins_none (l : List UInt8) (k : Nat) (h : lenP l < k) (hk : k ≤ l.length) : isP (l.take k) = false := by
  cases hp : isP (l.take k) with
  | false => rfl
  | true =>
    exfalso
    obtain ⟨sg, I, P, F, E, S2, X, D⟩ := dec_of_isP hp
    have hD : l.take k = glue sg I P F E S2 X := D.all
    have := glue_le D.parts (l.drop k)
    rw [← hD, List.take_append_drop, List.length_take] at this
    omega
theorem lenP_le (l : List UInt8) : lenP l ≤ l.length := by
  by_cases h : 0 < lenP l
  · obtain ⟨sg, I, P, F, E, S2, X, D, e⟩ := len_parts h
    by_cases hle : lenP l ≤ l.length
    · exact hle
    · have h2 := (glue_is D).2.2.2.2
      rw [← e, List.take_of_length_le (by omega)] at h2
      omega
  · omega
end Go.Proofs.YthkagpefgkpgeaaDoor
