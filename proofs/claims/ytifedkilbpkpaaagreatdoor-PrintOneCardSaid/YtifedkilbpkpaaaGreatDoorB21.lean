/- Layer 3, the document: a name is walked. -/
import Derived.Test.YtifedkilbpkpaaaGreatDoorB20
import Derived.Test.YtifedkilbpkpaaaGreatDoorB14
import Derived.Deep.DeepCutAuto
import Derived.Test.YtifedkilbpkpaaaGreatDoorB06
import Derived.Test.YtifedkilbpkpaaaGreatDoorB12
import Derived.Test.YtifedkilbpkpaaaGreatDoorB01
/- Layer 4: what the laws have in common: Few and awake are walked. -/
set_option linter.unusedVariables false
set_option linter.unusedSimpArgs false
namespace Go.Proofs.YtifedkilbpkpaaaGreatDoor
open Go.RowKit Rn Tp Tk
namespace Tp
def fewB (l : List GTok) : Bool := decide (l.length ≤ 100) && l.all (fun t => decide (t.text.length ≤ 100))
end Tp
theorem few_facts {l : List GTok} (h : fewB l = true) : l.length ≤ 100 ∧ ∀ t ∈ l, t.text.length ≤ 100 := by
  unfold fewB at h
  simp only [Bool.and_eq_true, decide_eq_true_eq, List.all_eq_true] at h
  exact h
set_option maxRecDepth 100000 in
set_option maxHeartbeats 2000000 in
theorem tp_few (l : List GTok) (A : Option Addr) (n cap : Nat) (w : World) (hr : ReadsT w w.heap.size A n l) (hn : n ≤ 9223372036854775807) (hs : ∀ t ∈ l, t.text.length ≤ maxLen) :
    Calls Tryz.prog 10 #[.slice A n cap] w fun e w' => e = .returned (.bool (fewB l)) ∧ w = w' := by
  have hlen : l.length = n := hr.len
  have Hlen := Lib.hid hlen
  have Hs := Lib.hid hs
  clear hlen hs
  go_enter Tryz.func10, Tryz.ntmps10
  go_wp2_with fail
  go_loopw [3] (fun i wr => ∃ k : Nat, k ≤ n ∧ k ≤ 101 ∧ i = .int .i64 k ∧ w = wr ∧ Hid (∀ t ∈ l.take k, t.text.length ≤ 100)) (fun i _ => 101 - (intOf i).toNat)
  case atStart => exact ⟨0, by omega, by omega, rfl, rfl, (by show ∀ t ∈ _, _; simp)⟩
  case round =>
    obtain ⟨k, hk, hk1, rfl, rfl, hx⟩ := hrel
    by_cases hlt : k < n
    · have dk : decide ((k : Int) < (n : Int)) = true := by simp; omega
      by_cases h100 : k ≤ 100
      · have d100 : decide ((k : Int) ≤ 100) = true := by simp; omega
        have d100n : decide (k ≤ 100) = true := by simp; omega
        obtain ⟨b, off, t, hA, hbw, ht, c0, c1, c2⟩ := hr.at_ hlt
        subst hA
        have hsm := Hs.out t (List.mem_of_getElem? ht)
        unfold maxLen at hsm
        have hz := bytesOf_size t.text
        by_cases hl : t.text.length ≤ 100
        · have dl : decide ((100 : Int) < (t.text.length : Int)) = false := by simp; omega
          have hnew : Hid (∀ t ∈ l.take (k + 1), t.text.length ≤ 100) := by
            show ∀ t ∈ _, _
            rw [take_snoc l k t ht]
            intro x hx2
            rcases List.mem_append.1 hx2 with h | h
            · exact hx.out x h
            · obtain rfl : x = t := by simpa using h
              exact hl
          clear hx ht hl
          go_wp2_with fail
          go_roundw
          case rel => exact ⟨k + 1, by omega, by omega, by go_num, trivial, hnew⟩
          case measure => simp [intOf]; omega
        · have dl : decide ((100 : Int) < (t.text.length : Int)) = true := by simp; omega
          have hfin : fewB l = false := by
            cases h : fewB l with
            | false => rfl
            | true => exact absurd ((few_facts h).2 t (List.mem_of_getElem? ht)) hl
          have HF := Lib.hid hfin
          clear hfin hx ht hl
          go_wp2
          go_ret
          exact ⟨ret_bool HF.out.symm, rfl⟩
      · have d100 : decide ((k : Int) ≤ 100) = false := by simp; omega
        have d100n : decide (k ≤ 100) = false := by simp; omega
        have hfin : fewB l = decide ((n : Int) ≤ 100) := by
          unfold fewB
          rw [Hlen.out]
          have : ¬ n ≤ 100 := by omega
          simp [this]; omega
        have HF := Lib.hid hfin
        clear hfin hx
        go_wp2
        go_ret
        exact ⟨ret_bool HF.out.symm, rfl⟩
    · obtain rfl : k = n := by omega
      have dk : decide ((k : Int) < (k : Int)) = false := by simp
      have hfin : fewB l = decide ((k : Int) ≤ 100) := by
        have h2 := hx.out
        rw [← Hlen.out, List.take_length] at h2
        unfold fewB
        rw [Hlen.out]
        have : l.all (fun t => decide (t.text.length ≤ 100)) = true := by rw [List.all_eq_true]; intro t ht; simpa using h2 t ht
        rw [this]
        simp; omega
      have HF := Lib.hid hfin
      clear hfin hx hlt
      go_wp2
      go_ret
      exact ⟨ret_bool HF.out.symm, rfl⟩
/-- what the document fixes of two names -/
def awakeL : List GTok := [⟨2, [49, 97], 0⟩, ⟨2, [98], 0⟩]
theorem awake_right : rightB awakeL = true := by decide +kernel
theorem awake_print : printL awakeL = [92, 51, 49, 32, 97, 47, 42, 42, 47, 98] := by decide +kernel
theorem awake_token : tokenP ⟨10, [101, 49], 1500⟩ = [49, 46, 53, 92, 54, 53, 32, 49] := by decide +kernel
set_option maxRecDepth 100000 in
set_option maxHeartbeats 2000000 in
theorem tp_awake (w : World) (hT : Tabs w) (hE : Env w) (hD : Db w) :
    Calls Tryz.prog 7 #[] w fun e w' => e = .returned (.bool true) ∧ Below w.heap.size w w' := by
  obtain ⟨W, hW⟩ : ∃ W, w.alloc (.cells #[.int .i64 2, .string ⟨#[49, 97]⟩, .int .i64 0, .int .i64 2, .string ⟨#[98]⟩, .int .i64 0] 23) = W := ⟨_, rfl⟩
  have bW : Below w.heap.size w W := by rw [← hW]; exact (Below.refl _ _).alloc (Nat.le_refl _) _
  have hrow : RowAt W w.heap.size (cellsG awakeL) := by rw [← hW]; exact RowAt.new _ _ _
  have hrd : ReadsT W W.heap.size (some ⟨w.heap.size, 0, none⟩) 2 awakeL := ⟨by decide, fun _ => ⟨w.heap.size, 0, rfl, hrow.1, fun j u hu => by rw [Nat.zero_add]; exact (hrow.2 j u hu).1⟩⟩
  have hrt : ∀ X, Below W.heap.size W X → TokRow X X.heap.size (some ⟨w.heap.size, 0, none⟩) 2 awakeL := fun X hX => ⟨hrd.below hX, by decide, by omega⟩
  have cP := tp_print awakeL (some ⟨w.heap.size, 0, none⟩) 2 2 W (hrt W (Below.refl _ _)) (hT.below bW) (hE.below bW) (hD.below bW)
  have cR := fun X (hX : Below W.heap.size W X) => tp_rights awakeL (some ⟨w.heap.size, 0, none⟩) 2 2 X (hrt X hX) (hT.below (bW.trans (hX.mono bW.size)))
  have cT := fun X (hX : Below W.heap.size W X) => tp_token ⟨10, [101, 49], 1500⟩ X (by simp) (by simp) (hT.below (bW.trans (hX.mono bW.size))) (hE.below (bW.trans (hX.mono bW.size))) (hD.below (bW.trans (hX.mono bW.size)))
  rw [awake_print] at cP
  rw [awake_right] at cR
  rw [awake_token] at cT
  have s1 := str_is (l := [92, 51, 49, 32, 97, 47, 42, 42, 47, 98]) rfl
  have s2 := str_is (l := [49, 46, 53, 92, 54, 53, 32, 49]) rfl
  obtain ⟨s1a, s1b⟩ := s1
  obtain ⟨s2a, s2b⟩ := s2
  go_enter Tryz.func7, Tryz.ntmps7
  go_wp2_with fail
  refine cP.mono ?_
  rintro e w1 ⟨rfl, hb1⟩
  go_wp2_with fail
  refine (cR w1 hb1).mono ?_
  rintro e w2 ⟨rfl, hb2⟩
  have hb2' := hb1.trans (hb2.mono hb1.size)
  go_wp2_with fail
  refine (cT w2 hb2').mono ?_
  rintro e w3 ⟨rfl, hb3⟩
  have hb3' := hb2'.trans (hb3.mono hb2'.size)
  go_wp2
  go_ret
  exact ⟨rfl, bW.trans (hb3'.mono bW.size)⟩
end Go.Proofs.YtifedkilbpkpaaaGreatDoor
/- Layer 4, the document: the test of a character's bytes is walked apart, over a frame of letters. -/
set_option linter.unusedVariables false
set_option linter.unusedSimpArgs false
namespace Go.Proofs.YtifedkilbpkpaaaGreatDoor
open Go.RowKit Rn Tp
/-- a code's region of that number -/
def regionOf (r : Nat) : Code → Option Code
  | .seq a b => match regionOf r a with
    | some c => some c
    | none => regionOf r b
  | .block _ c => regionOf r c
  | .loop c => regionOf r c
  | .scope c => regionOf r c
  | .cond _ a b => match regionOf r a with
    | some c => some c
    | none => regionOf r b
  | .region k x y => if k = r then some (.region k x y) else none
  | _ => none
noncomputable def charsTest : Code := (regionOf 21 (Tryz.f13.body.getD .skip)).getD .skip
set_option maxRecDepth 1000000 in
set_option maxHeartbeats 4000000 in
theorem rp_cmp {wc : World} {A : Option Addr} {m c j : Nat} {DC : Int} {E T : List UInt8} (u0 u1 u2 u3 u4 u8 u9 u10 u11 u12 u13 u14 u15 u16 u17 u18 u19 u20 u21 u22 u23 u24 u25 u26 u27 u28 u29 u30 u31 u32 u33 u34 u35 u36 u37 u38 u39 u40 u41 u42 u43 u44 u45 u46 u47 u48 u49 u50 u51 u52 u53 u54 u55 u56 u57 u58 u59 u60 u61 u62 u63 u64 u65 u66 u67 u68 u69 u70 u71 u72 u73 u74 u75 u76 u77 u78 : Value)
    (tN : decide (DC < 0) = false) (hI : isB DC = true) (hDr : -100000000 ≤ DC ∧ DC ≤ 100000000) (hE : Lib.encodeRune DC = E) (hjm : j ≤ m) (hmc : m ≤ c)
    (hconvT : ∀ W : World, Below wc.heap.size wc W → (convert 31 9 (.slice A j c)).run Tryz.prog W = .ok (.string (bytesOf T)) W)
    (hsl : ∀ W, (Instr.slice 31 (.slice A m c) none (some (.int .i64 (j : Int))) none).run Tryz.prog W = .ok (.slice A j c) W) :
    Code.wp Tryz.prog charsTest (fun e a W => match e with
      | .normal => (∃ v54 v55 v56 v57 v58 v59 v60 v61 v62 v63 v64 v65 v66 v67 v68 v69 : Value, a = ⟨(List.toArray (u0 :: u1 :: u2 :: u3 :: u4 :: Value.slice A m c :: Value.int .i64 (j : Int) :: Value.int .i64 DC :: u8 :: u9 :: u10 :: u11 :: u12 :: u13 :: u14 :: u15 :: u16 :: u17 :: u18 :: u19 :: u20 :: u21 :: u22 :: u23 :: u24 :: u25 :: u26 :: u27 :: u28 :: u29 :: u30 :: u31 :: u32 :: u33 :: u34 :: u35 :: u36 :: u37 :: u38 :: u39 :: u40 :: u41 :: u42 :: u43 :: u44 :: u45 :: u46 :: u47 :: u48 :: u49 :: u50 :: u51 :: u52 :: u53 :: v54 :: v55 :: v56 :: v57 :: v58 :: v59 :: v60 :: v61 :: v62 :: v63 :: v64 :: v65 :: v66 :: v67 :: v68 :: v69 :: Value.bool (!decide (E = T)) :: u71 :: u72 :: u73 :: u74 :: u75 :: u76 :: u77 :: u78 :: [])), []⟩) ∧ Below wc.heap.size wc W
      | _ => False) ⟨(List.toArray (u0 :: u1 :: u2 :: u3 :: u4 :: Value.slice A m c :: Value.int .i64 (j : Int) :: Value.int .i64 DC :: u8 :: u9 :: u10 :: u11 :: u12 :: u13 :: u14 :: u15 :: u16 :: u17 :: u18 :: u19 :: u20 :: u21 :: u22 :: u23 :: u24 :: u25 :: u26 :: u27 :: u28 :: u29 :: u30 :: u31 :: u32 :: u33 :: u34 :: u35 :: u36 :: u37 :: u38 :: u39 :: u40 :: u41 :: u42 :: u43 :: u44 :: u45 :: u46 :: u47 :: u48 :: u49 :: u50 :: u51 :: u52 :: u53 :: u54 :: u55 :: u56 :: u57 :: u58 :: u59 :: u60 :: u61 :: u62 :: u63 :: u64 :: u65 :: u66 :: u67 :: u68 :: u69 :: u70 :: u71 :: u72 :: u73 :: u74 :: u75 :: u76 :: u77 :: u78 :: [])), []⟩ wc := by
  conv => arg 2; whnf
  have cI : ∀ W : World, Calls Tryz.prog 30 #[.int .i64 DC] W fun e w' => e = .returned (.bool true) ∧ W = w' := fun W => by
    have h := ref_is DC W (by omega) (by omega)
    rw [hI] at h; exact h
  have cB := fun W => ref_bytes DC W hI
  rw [hE] at cB
  have hrow0 : RowAt (wc.alloc (.cells (E.map b8).toArray 5)) wc.heap.size (E.map b8) := by simpa using RowAt.new wc 5 (E.map b8).toArray
  have hrow : ∀ k : Nat, RowAt ((wc.alloc (.cells (E.map b8).toArray 5)).drewN k) wc.heap.size (E.map b8) := fun k => hrow0
  have hconv : ∀ k : Nat, (convert 31 9 (.slice (some ⟨wc.heap.size, 0, none⟩) E.length E.length)).run Tryz.prog ((wc.alloc (.cells (E.map b8).toArray 5)).drewN k) = .ok (.string (bytesOf E)) ((wc.alloc (.cells (E.map b8).toArray 5)).drewN k) := fun k => by
    have hrd := (hrow k).reads (B := wc.heap.size + 1) (by omega)
    rw [List.length_map] at hrd
    exact run_str (P := Tryz.prog) Tryz.underlying31 Tryz.underlying5 Tryz.underlying9 E.length hrd
  have k0 : (convert 31 9 (.slice (some ⟨wc.heap.size, 0, none⟩) E.length E.length)).run Tryz.prog (wc.alloc (.cells (E.map b8).toArray 5)) = .ok (.string (bytesOf E)) (wc.alloc (.cells (E.map b8).toArray 5)) := hconv 0
  have k1 : (convert 31 9 (.slice (some ⟨wc.heap.size, 0, none⟩) E.length E.length)).run Tryz.prog ((wc.alloc (.cells (E.map b8).toArray 5)).drew) = .ok (.string (bytesOf E)) ((wc.alloc (.cells (E.map b8).toArray 5)).drew) := hconv 1
  have k2 : (convert 31 9 (.slice (some ⟨wc.heap.size, 0, none⟩) E.length E.length)).run Tryz.prog (wc.drew.alloc (.cells (E.map b8).toArray 5)) = .ok (.string (bytesOf E)) (wc.drew.alloc (.cells (E.map b8).toArray 5)) := hconv 1
  have m0 := hconvT (wc) (Below.refl _ _)
  have m1 := hconvT (wc.drew) (Below.refl _ _).drew
  have m2 := hconvT (wc.alloc (.cells (E.map b8).toArray 5)) ((Below.refl _ _).alloc (Nat.le_refl _) _)
  have m3 := hconvT ((wc.alloc (.cells (E.map b8).toArray 5)).drew) ((Below.refl _ _).alloc (Nat.le_refl _) _).drew
  have m4 := hconvT (wc.drew.alloc (.cells (E.map b8).toArray 5)) ((Below.refl _ _).drew.alloc (Nat.le_refl _) _)
  have hb : Below wc.heap.size wc (wc.alloc (.cells (E.map b8).toArray 5)).drew := ((Below.refl _ _).alloc (Nat.le_refl _) _).drew
  clear hconv hconvT hrow hrow0 hE hI
  have hne : (E = T ∧ ((bytesOf E).toList == (bytesOf T).toList) = true) ∨ (E ≠ T ∧ ¬ (bytesOf E).toList = (bytesOf T).toList ∧ ((bytesOf E).toList == (bytesOf T).toList) = false) := by
    by_cases h : E = T
    · left; exact ⟨h, by rw [h]; simp⟩
    · right; rw [bytesOf_toList, bytesOf_toList]; exact ⟨h, h, by simpa using h⟩
  rcases hne with ⟨h, q1⟩ | ⟨h, q1, q2⟩
  · have Hh := Lib.hid h
    clear h
    refine wp_region_any (by kernel_rfl) ?_
    try (change wpAny _ _ _ _ _ _ _ (World.drew _))
    refine wpAny_take (i := 0) (v := ?_) rfl (by kernel_rfl) (by kernel_rfl) (by kernel_rfl) (fun _ _ _ h => h) (Or.inl ⟨by kernel_rfl, ?_⟩) ?_
    rotate_left
    · intro w; go_simp; (try with_reducible rfl)
    refine wpAny_take (i := 1) (v := ?_) rfl (by kernel_rfl) (by kernel_rfl) (by kernel_rfl) (fun _ _ _ h => h) (Or.inl ⟨by kernel_rfl, ?_⟩) ?_
    rotate_left
    · intro w; go_simp; (try with_reducible rfl)
    refine wpAny_take (i := 2) (v := ?_) rfl (by kernel_rfl) (by kernel_rfl) (by kernel_rfl) (fun _ _ _ h => h) (Or.inl ⟨by kernel_rfl, ?_⟩) ?_
    rotate_left
    · intro w; go_simp; (try with_reducible rfl)
    refine wpAny_take (i := 3) (v := ?_) rfl (by kernel_rfl) (by kernel_rfl) (by kernel_rfl) (fun _ _ _ h => h) (Or.inl ⟨by kernel_rfl, ?_⟩) ?_
    rotate_left
    · intro w; go_simp; (try with_reducible rfl)
    refine wpAny_ready (rs := [4]) (by kernel_rfl) (by simp) ?_
    refine AllReady.cons rfl (fun K hK => ?_) ?_
    · go_simp
      go_wp2_with (go_at_call 30; refine (cI _).mono ?_; rintro e w' ⟨rfl, rfl⟩)
      (try (refine hK _ _ ?_; clear hK K))
      refine wpAny_take (i := 5) (v := ?_) rfl (by kernel_rfl) (by kernel_rfl) (by kernel_rfl) (fun _ _ _ h => h) (Or.inl ⟨by kernel_rfl, ?_⟩) ?_
      rotate_left
      · intro w; go_simp; (try with_reducible rfl)
      refine wpAny_take (i := 6) (v := ?_) rfl (by kernel_rfl) (by kernel_rfl) (by kernel_rfl) (fun _ _ _ h => h) (Or.inl ⟨by kernel_rfl, ?_⟩) ?_
      rotate_left
      · intro w; go_simp; (try with_reducible rfl)
      refine wpAny_take (i := 7) (v := ?_) rfl (by kernel_rfl) (by kernel_rfl) (by kernel_rfl) (fun _ _ _ h => h) (Or.inl ⟨by kernel_rfl, ?_⟩) ?_
      rotate_left
      · intro w; go_simp; (try with_reducible rfl)
      refine wpAny_take (i := 8) (v := ?_) rfl (by kernel_rfl) (by kernel_rfl) (by kernel_rfl) (fun _ _ _ h => h) (Or.inl ⟨by kernel_rfl, ?_⟩) ?_
      rotate_left
      · intro w; go_simp; (try with_reducible rfl)
      refine wpAny_take (i := 11) (v := ?_) rfl (by kernel_rfl) (by kernel_rfl) (by kernel_rfl) (fun _ _ _ h => h) (Or.inl ⟨by kernel_rfl, ?_⟩) ?_
      rotate_left
      · intro w; go_simp; (try with_reducible rfl)
      refine wpAny_take (i := 12) (v := ?_) rfl (by kernel_rfl) (by kernel_rfl) (by kernel_rfl) (fun _ _ _ h => h) (Or.inl ⟨by kernel_rfl, ?_⟩) ?_
      rotate_left
      · intro w; go_simp; (try with_reducible rfl)
      refine wpAny_take (i := 13) (v := ?_) rfl (by kernel_rfl) (by kernel_rfl) (by kernel_rfl) (fun _ _ _ h => h) (Or.inl ⟨by kernel_rfl, ?_⟩) ?_
      rotate_left
      · intro w; go_simp; (try with_reducible rfl)
      refine wpAny_ready (rs := [9, 14]) (by kernel_rfl) (by simp) ?_
      refine AllReady.cons rfl (fun K hK => ?_) ?_
      · go_simp
        go_wp2_with (go_at_call 31; refine (cB _).mono ?_; rintro e w' ⟨rfl, rfl⟩)
        (try (refine hK _ _ ?_; clear hK K))
        refine wpAny_ready (rs := [10, 14]) (by kernel_rfl) (by simp) ?_
        refine AllReady.cons rfl (fun K hK => ?_) ?_
        · go_simp
          (try (refine hK _ _ ?_; clear hK K))
          refine wpAny_ready (rs := [14]) (by kernel_rfl) (by simp) ?_
          refine AllReady.cons rfl (fun K hK => ?_) ?_
          · go_simp
            (try (refine hK _ _ ?_; clear hK K))
            refine wpAny_take (i := 15) (v := ?_) rfl (by kernel_rfl) (by kernel_rfl) (by kernel_rfl) (fun _ _ _ h => h) (Or.inl ⟨by kernel_rfl, ?_⟩) ?_
            rotate_left
            · intro w; go_simp; (try with_reducible rfl)
            refine wpAny_take (i := 16) (v := ?_) rfl (by kernel_rfl) (by kernel_rfl) (by kernel_rfl) (fun _ _ _ h => h) (Or.inl ⟨by kernel_rfl, ?_⟩) ?_
            rotate_left
            · intro w; go_simp; (try with_reducible rfl)
            refine wpAny_done (by kernel_rfl) ?_ _
            (go_simp; exact Hh.out)
          · exact AllReady.nil
        · refine AllReady.cons rfl (fun K hK => ?_) ?_
          · go_simp
            (try (refine hK _ _ ?_; clear hK K))
            refine wpAny_ready (rs := [10]) (by kernel_rfl) (by simp) ?_
            refine AllReady.cons rfl (fun K hK => ?_) ?_
            · go_simp
              (try (refine hK _ _ ?_; clear hK K))
              refine wpAny_take (i := 15) (v := ?_) rfl (by kernel_rfl) (by kernel_rfl) (by kernel_rfl) (fun _ _ _ h => h) (Or.inl ⟨by kernel_rfl, ?_⟩) ?_
              rotate_left
              · intro w; go_simp; (try with_reducible rfl)
              refine wpAny_take (i := 16) (v := ?_) rfl (by kernel_rfl) (by kernel_rfl) (by kernel_rfl) (fun _ _ _ h => h) (Or.inl ⟨by kernel_rfl, ?_⟩) ?_
              rotate_left
              · intro w; go_simp; (try with_reducible rfl)
              refine wpAny_done (by kernel_rfl) ?_ _
              (go_simp; exact Hh.out)
            · exact AllReady.nil
          · exact AllReady.nil
      · refine AllReady.cons rfl (fun K hK => ?_) ?_
        · go_simp
          (try (refine hK _ _ ?_; clear hK K))
          refine wpAny_ready (rs := [9]) (by kernel_rfl) (by simp) ?_
          refine AllReady.cons rfl (fun K hK => ?_) ?_
          · go_simp
            go_wp2_with (go_at_call 31; refine (cB _).mono ?_; rintro e w' ⟨rfl, rfl⟩)
            (try (refine hK _ _ ?_; clear hK K))
            refine wpAny_ready (rs := [10]) (by kernel_rfl) (by simp) ?_
            refine AllReady.cons rfl (fun K hK => ?_) ?_
            · go_simp
              (try (refine hK _ _ ?_; clear hK K))
              refine wpAny_take (i := 15) (v := ?_) rfl (by kernel_rfl) (by kernel_rfl) (by kernel_rfl) (fun _ _ _ h => h) (Or.inl ⟨by kernel_rfl, ?_⟩) ?_
              rotate_left
              · intro w; go_simp; (try with_reducible rfl)
              refine wpAny_take (i := 16) (v := ?_) rfl (by kernel_rfl) (by kernel_rfl) (by kernel_rfl) (fun _ _ _ h => h) (Or.inl ⟨by kernel_rfl, ?_⟩) ?_
              rotate_left
              · intro w; go_simp; (try with_reducible rfl)
              refine wpAny_done (by kernel_rfl) ?_ _
              (go_simp; exact Hh.out)
            · exact AllReady.nil
          · exact AllReady.nil
        · exact AllReady.nil
    · exact AllReady.nil
  · have Hh := Lib.hid h
    clear h
    refine wp_region_any (by kernel_rfl) ?_
    try (change wpAny _ _ _ _ _ _ _ (World.drew _))
    refine wpAny_take (i := 0) (v := ?_) rfl (by kernel_rfl) (by kernel_rfl) (by kernel_rfl) (fun _ _ _ h => h) (Or.inl ⟨by kernel_rfl, ?_⟩) ?_
    rotate_left
    · intro w; go_simp; (try with_reducible rfl)
    refine wpAny_take (i := 1) (v := ?_) rfl (by kernel_rfl) (by kernel_rfl) (by kernel_rfl) (fun _ _ _ h => h) (Or.inl ⟨by kernel_rfl, ?_⟩) ?_
    rotate_left
    · intro w; go_simp; (try with_reducible rfl)
    refine wpAny_take (i := 2) (v := ?_) rfl (by kernel_rfl) (by kernel_rfl) (by kernel_rfl) (fun _ _ _ h => h) (Or.inl ⟨by kernel_rfl, ?_⟩) ?_
    rotate_left
    · intro w; go_simp; (try with_reducible rfl)
    refine wpAny_take (i := 3) (v := ?_) rfl (by kernel_rfl) (by kernel_rfl) (by kernel_rfl) (fun _ _ _ h => h) (Or.inl ⟨by kernel_rfl, ?_⟩) ?_
    rotate_left
    · intro w; go_simp; (try with_reducible rfl)
    refine wpAny_ready (rs := [4]) (by kernel_rfl) (by simp) ?_
    refine AllReady.cons rfl (fun K hK => ?_) ?_
    · go_simp
      go_wp2_with (go_at_call 30; refine (cI _).mono ?_; rintro e w' ⟨rfl, rfl⟩)
      (try (refine hK _ _ ?_; clear hK K))
      refine wpAny_take (i := 5) (v := ?_) rfl (by kernel_rfl) (by kernel_rfl) (by kernel_rfl) (fun _ _ _ h => h) (Or.inl ⟨by kernel_rfl, ?_⟩) ?_
      rotate_left
      · intro w; go_simp; (try with_reducible rfl)
      refine wpAny_take (i := 6) (v := ?_) rfl (by kernel_rfl) (by kernel_rfl) (by kernel_rfl) (fun _ _ _ h => h) (Or.inl ⟨by kernel_rfl, ?_⟩) ?_
      rotate_left
      · intro w; go_simp; (try with_reducible rfl)
      refine wpAny_take (i := 7) (v := ?_) rfl (by kernel_rfl) (by kernel_rfl) (by kernel_rfl) (fun _ _ _ h => h) (Or.inl ⟨by kernel_rfl, ?_⟩) ?_
      rotate_left
      · intro w; go_simp; (try with_reducible rfl)
      refine wpAny_take (i := 8) (v := ?_) rfl (by kernel_rfl) (by kernel_rfl) (by kernel_rfl) (fun _ _ _ h => h) (Or.inl ⟨by kernel_rfl, ?_⟩) ?_
      rotate_left
      · intro w; go_simp; (try with_reducible rfl)
      refine wpAny_take (i := 11) (v := ?_) rfl (by kernel_rfl) (by kernel_rfl) (by kernel_rfl) (fun _ _ _ h => h) (Or.inl ⟨by kernel_rfl, ?_⟩) ?_
      rotate_left
      · intro w; go_simp; (try with_reducible rfl)
      refine wpAny_take (i := 12) (v := ?_) rfl (by kernel_rfl) (by kernel_rfl) (by kernel_rfl) (fun _ _ _ h => h) (Or.inl ⟨by kernel_rfl, ?_⟩) ?_
      rotate_left
      · intro w; go_simp; (try with_reducible rfl)
      refine wpAny_take (i := 13) (v := ?_) rfl (by kernel_rfl) (by kernel_rfl) (by kernel_rfl) (fun _ _ _ h => h) (Or.inl ⟨by kernel_rfl, ?_⟩) ?_
      rotate_left
      · intro w; go_simp; (try with_reducible rfl)
      refine wpAny_ready (rs := [9, 14]) (by kernel_rfl) (by simp) ?_
      refine AllReady.cons rfl (fun K hK => ?_) ?_
      · go_simp
        go_wp2_with (go_at_call 31; refine (cB _).mono ?_; rintro e w' ⟨rfl, rfl⟩)
        (try (refine hK _ _ ?_; clear hK K))
        refine wpAny_ready (rs := [10, 14]) (by kernel_rfl) (by simp) ?_
        refine AllReady.cons rfl (fun K hK => ?_) ?_
        · go_simp
          (try (refine hK _ _ ?_; clear hK K))
          refine wpAny_ready (rs := [14]) (by kernel_rfl) (by simp) ?_
          refine AllReady.cons rfl (fun K hK => ?_) ?_
          · go_simp
            (try (refine hK _ _ ?_; clear hK K))
            refine wpAny_take (i := 15) (v := ?_) rfl (by kernel_rfl) (by kernel_rfl) (by kernel_rfl) (fun _ _ _ h => h) (Or.inl ⟨by kernel_rfl, ?_⟩) ?_
            rotate_left
            · intro w; go_simp; (try with_reducible rfl)
            refine wpAny_take (i := 16) (v := ?_) rfl (by kernel_rfl) (by kernel_rfl) (by kernel_rfl) (fun _ _ _ h => h) (Or.inl ⟨by kernel_rfl, ?_⟩) ?_
            rotate_left
            · intro w; go_simp; (try with_reducible rfl)
            refine wpAny_done (by kernel_rfl) ?_ _
            (go_simp; exact Hh.out)
          · exact AllReady.nil
        · refine AllReady.cons rfl (fun K hK => ?_) ?_
          · go_simp
            (try (refine hK _ _ ?_; clear hK K))
            refine wpAny_ready (rs := [10]) (by kernel_rfl) (by simp) ?_
            refine AllReady.cons rfl (fun K hK => ?_) ?_
            · go_simp
              (try (refine hK _ _ ?_; clear hK K))
              refine wpAny_take (i := 15) (v := ?_) rfl (by kernel_rfl) (by kernel_rfl) (by kernel_rfl) (fun _ _ _ h => h) (Or.inl ⟨by kernel_rfl, ?_⟩) ?_
              rotate_left
              · intro w; go_simp; (try with_reducible rfl)
              refine wpAny_take (i := 16) (v := ?_) rfl (by kernel_rfl) (by kernel_rfl) (by kernel_rfl) (fun _ _ _ h => h) (Or.inl ⟨by kernel_rfl, ?_⟩) ?_
              rotate_left
              · intro w; go_simp; (try with_reducible rfl)
              refine wpAny_done (by kernel_rfl) ?_ _
              (go_simp; exact Hh.out)
            · exact AllReady.nil
          · exact AllReady.nil
      · refine AllReady.cons rfl (fun K hK => ?_) ?_
        · go_simp
          (try (refine hK _ _ ?_; clear hK K))
          refine wpAny_ready (rs := [9]) (by kernel_rfl) (by simp) ?_
          refine AllReady.cons rfl (fun K hK => ?_) ?_
          · go_simp
            go_wp2_with (go_at_call 31; refine (cB _).mono ?_; rintro e w' ⟨rfl, rfl⟩)
            (try (refine hK _ _ ?_; clear hK K))
            refine wpAny_ready (rs := [10]) (by kernel_rfl) (by simp) ?_
            refine AllReady.cons rfl (fun K hK => ?_) ?_
            · go_simp
              (try (refine hK _ _ ?_; clear hK K))
              refine wpAny_take (i := 15) (v := ?_) rfl (by kernel_rfl) (by kernel_rfl) (by kernel_rfl) (fun _ _ _ h => h) (Or.inl ⟨by kernel_rfl, ?_⟩) ?_
              rotate_left
              · intro w; go_simp; (try with_reducible rfl)
              refine wpAny_take (i := 16) (v := ?_) rfl (by kernel_rfl) (by kernel_rfl) (by kernel_rfl) (fun _ _ _ h => h) (Or.inl ⟨by kernel_rfl, ?_⟩) ?_
              rotate_left
              · intro w; go_simp; (try with_reducible rfl)
              refine wpAny_done (by kernel_rfl) ?_ _
              (go_simp; exact Hh.out)
            · exact AllReady.nil
          · exact AllReady.nil
        · exact AllReady.nil
    · exact AllReady.nil
end Go.Proofs.YtifedkilbpkpaaaGreatDoor
/- Layer 3, the document: a character of a row, an escape, the begin of a name, and what an escape means, are walked. -/
set_option linter.unusedVariables false
set_option linter.unusedSimpArgs false
namespace Go.Proofs.YtifedkilbpkpaaaGreatDoor
open Go.RowKit Rn Tk
/-- the document's characters in memory, below block B -/
structure RL (w : World) (B : Nat) (A : Option Addr) (n cap : Nat) (l : List Int) : Prop where
  rd : Reads w B 1 A n (l.map n64)
  hB : B ≤ w.heap.size
  hn : n ≤ 1000000
  hc : n ≤ cap
  hm : cap ≤ maxLen
  ch : Chars l
section
variable {w w' : World} {B n cap : Nat} {A : Option Addr} {l : List Int}
theorem RL.len (h : RL w B A n cap l) : l.length = n := by simpa using h.rd.len
theorem RL.mv (h : RL w B A n cap l) (hb : Below w.heap.size w w') : RL w' B A n cap l :=
  ⟨h.rd.keep fun p hp => hb.cell (Nat.lt_of_lt_of_le hp h.hB), Nat.le_trans h.hB hb.size, h.hn, h.hc, h.hm, h.ch⟩
theorem RL.range (h : RL w B A n cap l) (m : Nat) : -1 ≤ pk l m ∧ pk l m ≤ 1114111 := pk_range h.ch m
theorem RL.cell (h : RL w B A n cap l) {m : Nat} (hm : m < n) : ∃ b off, A = some ⟨b, off, none⟩ ∧ w.cell? ⟨b, off + m, none⟩ = some (.int .i64 (pk l m)) := by
  obtain ⟨b, off, u, hA, _, hu, hcell⟩ := h.rd.at_ hm
  refine ⟨b, off, hA, ?_⟩
  have hl := h.len
  rw [List.getElem?_map, List.getElem?_eq_getElem (by omega)] at hu
  simp at hu
  rw [hcell, ← hu, pk, List.getElem?_eq_getElem (by omega)]; rfl
end
end Go.Proofs.YtifedkilbpkpaaaGreatDoor
/- Layer 3, the document: what an escape means is walked. -/
set_option linter.unusedVariables false
set_option linter.unusedSimpArgs false
namespace Go.Proofs.YtifedkilbpkpaaaGreatDoor
open Go.RowKit Rn Tk
theorem pk0 (l : List Int) (j : Nat) : pk l j = pk (l.drop j) 0 := by rw [pk_drop]; rfl
theorem pk1 (l : List Int) (j : Nat) : pk l (j + 1) = pk (l.drop j) 1 := by rw [pk_drop]
end Go.Proofs.YtifedkilbpkpaaaGreatDoor
set_option linter.unusedVariables false
set_option linter.unusedSimpArgs false
namespace Go.Proofs.YtifedkilbpkpaaaGreatDoor
open Go.RowKit Rn Tk
/-- a row of characters of its own, at block base or above -/
abbrev OutR (w : World) (base : Nat) (A : Option Addr) (c : Nat) (outs : List Int) : Prop := w.ownsRow base 3 1 (.slice A outs.length c) outs.length (outs.map n64)
theorem below_push {w w1 w2 : World} {o : Obj} {e : TypeId} {size n : Nat} {v : Value} {xs : List Value} (h : Below w.heap.size w w1) (hown : w1.ownsRow w.heap.size e size v n xs) (hg : (w1.alloc o).grownBy w2 v.ownBlock) : Below w.heap.size w w2 :=
  (h.grown (World.grownBy_alloc w1 o none) h.size (by simp)).grown hg (by have := h.size; simp; omega) (fun g hgr => (hown.lt g hgr).1)
theorem cell_new1 (w : World) (e : TypeId) (a : Value) : ∀ j u, [a][j]? = some u → (w.alloc (.cells #[a] e)).cell? ((⟨w.heap.size, 0, none⟩ : Addr).add j) = some u := by
  intro j u hu
  have h := ((RowAt.new w e #[a]).2 j u hu).1
  have ha : (⟨w.heap.size, 0, none⟩ : Addr).add j = ⟨w.heap.size, j, none⟩ := by unfold Addr.add; split <;> simp_all
  rw [ha]; exact h
end Go.Proofs.YtifedkilbpkpaaaGreatDoor
