/- Layer 4: the library's FormatInt at base 16 is walked, for every character; an escape. -/
import Derived.Test.YtfhdihdafmahgaaGreatDoorP03
import Derived.Test.YtfhdihdafmahgaaGreatDoorP08
import Derived.Test.YtfhdihdafmahgaaGreatDoorP06
import Derived.WalkMore
import Derived.Deep.RegionWith
import Derived.Test.YtfhdihdafmahgaaGreatDoorP01
import Derived.Deep.DeepCutAuto
import Derived.Laws.BitsAllLaws
import Derived.ScopeJumps
/- Layer 4, the document: a number in hex digits, an escape, a letter, a search in a list, are walked; and what two tokens must be kept apart. -/
set_option linter.unusedVariables false
set_option linter.unusedSimpArgs false
namespace Go.Proofs.YtfhdihdafmahgaaGreatDoor
open Go.RowKit Rn Tp
set_option maxRecDepth 100000 in
set_option maxHeartbeats 1000000 in
theorem rp_in (l : List Int) (A : Option Addr) (n cap : Nat) (c : Int) (w : World) (hr : Reads w w.heap.size 1 A n (l.map n64)) (hn : n ≤ 1000000) :
    Calls Tryz.prog 140 #[.slice A n cap, .int .i64 c] w fun e w' => e = .returned (.bool (decide (c ∈ l))) ∧ w = w' := by
  have hlen : l.length = n := by simpa using hr.len
  have Hlen := Lib.hid hlen
  clear hlen
  go_enter Tryz.func140, Tryz.ntmps140
  go_wp2_with fail
  go_loopw [5] (fun i wr => ∃ k : Nat, k ≤ n ∧ i = .int .i64 k ∧ w = wr ∧ Hid (c ∉ l.take k)) (fun i _ => n - (intOf i).toNat)
  case atStart => exact ⟨0, by omega, rfl, rfl, (by show c ∉ _; simp)⟩
  case round =>
    obtain ⟨k, hk, rfl, rfl, hx⟩ := hrel
    by_cases hlt : k < n
    · obtain ⟨b, off, u, hA, hbw, hu, hcell⟩ := hr.at_ hlt
      subst hA
      obtain ⟨d, hd⟩ : ∃ d, l[k]? = some d := ⟨_, List.getElem?_eq_getElem (by rw [Hlen.out]; omega)⟩
      rw [List.getElem?_map, hd] at hu
      obtain rfl : u = n64 d := by simpa using hu.symm
      unfold n64 at hcell
      have dk : decide ((k : Int) < (n : Int)) = true := by simp; omega
      by_cases hdc : d = c
      · have te : (d == c) = true := by simp [hdc]
        have hmem : c ∈ l := hdc ▸ List.mem_of_getElem? hd
        have Hm := Lib.hid hmem
        clear hdc hd hu hx hmem
        go_wp2
        go_ret
        exact ⟨ret_bool (by simp [Hm.out]), rfl⟩
      · have te : (d == c) = false := by simp [hdc]
        have hnew : Hid (c ∉ l.take (k + 1)) := by
          show c ∉ _
          rw [take_snoc l k d hd]
          have := hx.out
          simp only [List.mem_append, List.mem_singleton, not_or]
          exact ⟨this, fun e => hdc e.symm⟩
        clear hdc hd hu hx
        go_wp2_with fail
        go_roundw
        case rel => exact ⟨k + 1, by omega, by go_num, trivial, hnew⟩
        case measure => simp [intOf]; omega
    · obtain rfl : k = n := by omega
      have dk : decide ((k : Int) < (k : Int)) = false := by simp
      have hy := hx.out
      rw [← Hlen.out, List.take_length] at hy
      have Hy := Lib.hid hy
      clear hx hlt hk hy
      go_wp2
      go_ret
      exact ⟨ret_bool (by simp [Hy.out]), rfl⟩
end Go.Proofs.YtfhdihdafmahgaaGreatDoor
/- Layer 4, the document: the test of a character's bytes is walked apart, over a frame of letters. -/
set_option linter.unusedVariables false
set_option linter.unusedSimpArgs false
namespace Go.Proofs.YtfhdihdafmahgaaGreatDoor
open Go.RowKit Rn Tp
/-- a code's region of that number -/
def regionOf (r : Nat) : Code → Option Code
  | .seq a b => match regionOf r a with
    | some c => some c
    | none => regionOf r b
  | .block _ c => regionOf r c
  | .loop c => regionOf r c
  | .scope c => regionOf r c
  | .cond _ a b => match regionOf r a with
    | some c => some c
    | none => regionOf r b
  | .region k x y => if k = r then some (.region k x y) else none
  | _ => none
noncomputable def charsTest : Code := (regionOf 21 (Tryz.f139.body.getD .skip)).getD .skip
set_option maxRecDepth 1000000 in
set_option maxHeartbeats 4000000 in
theorem rp_cmp {wc : World} {A : Option Addr} {m c j : Nat} {DC : Int} {E T : List UInt8} (u0 u1 u2 u3 u4 u8 u9 u10 u11 u12 u13 u14 u15 u16 u17 u18 u19 u20 u21 u22 u23 u24 u25 u26 u27 u28 u29 u30 u31 u32 u33 u34 u35 u36 u37 u38 u39 u40 u41 u42 u43 u44 u45 u46 u47 u48 u49 u50 u51 u52 u53 u54 u55 u56 u57 u58 u59 u60 u61 u62 u63 u64 u65 u66 u67 u68 u69 u70 u71 u72 u73 u74 u75 u76 u77 u78 : Value)
    (tN : decide (DC < 0) = false) (hI : isB DC = true) (hDr : -100000000 ≤ DC ∧ DC ≤ 100000000) (hE : Lib.encodeRune DC = E) (hjm : j ≤ m) (hmc : m ≤ c)
    (hconvT : ∀ W : World, Below wc.heap.size wc W → (convert 22 9 (.slice A j c)).run Tryz.prog W = .ok (.string (bytesOf T)) W)
    (hsl : ∀ W, (Instr.slice 22 (.slice A m c) none (some (.int .i64 (j : Int))) none).run Tryz.prog W = .ok (.slice A j c) W) :
    Code.wp Tryz.prog charsTest (fun e a W => match e with
      | .normal => (∃ v54 v55 v56 v57 v58 v59 v60 v61 v62 v63 v64 v65 v66 v67 v68 v69 : Value, a = ⟨(List.toArray (u0 :: u1 :: u2 :: u3 :: u4 :: Value.slice A m c :: Value.int .i64 (j : Int) :: Value.int .i64 DC :: u8 :: u9 :: u10 :: u11 :: u12 :: u13 :: u14 :: u15 :: u16 :: u17 :: u18 :: u19 :: u20 :: u21 :: u22 :: u23 :: u24 :: u25 :: u26 :: u27 :: u28 :: u29 :: u30 :: u31 :: u32 :: u33 :: u34 :: u35 :: u36 :: u37 :: u38 :: u39 :: u40 :: u41 :: u42 :: u43 :: u44 :: u45 :: u46 :: u47 :: u48 :: u49 :: u50 :: u51 :: u52 :: u53 :: v54 :: v55 :: v56 :: v57 :: v58 :: v59 :: v60 :: v61 :: v62 :: v63 :: v64 :: v65 :: v66 :: v67 :: v68 :: v69 :: Value.bool (!decide (E = T)) :: u71 :: u72 :: u73 :: u74 :: u75 :: u76 :: u77 :: u78 :: [])), []⟩) ∧ Below wc.heap.size wc W
      | _ => False) ⟨(List.toArray (u0 :: u1 :: u2 :: u3 :: u4 :: Value.slice A m c :: Value.int .i64 (j : Int) :: Value.int .i64 DC :: u8 :: u9 :: u10 :: u11 :: u12 :: u13 :: u14 :: u15 :: u16 :: u17 :: u18 :: u19 :: u20 :: u21 :: u22 :: u23 :: u24 :: u25 :: u26 :: u27 :: u28 :: u29 :: u30 :: u31 :: u32 :: u33 :: u34 :: u35 :: u36 :: u37 :: u38 :: u39 :: u40 :: u41 :: u42 :: u43 :: u44 :: u45 :: u46 :: u47 :: u48 :: u49 :: u50 :: u51 :: u52 :: u53 :: u54 :: u55 :: u56 :: u57 :: u58 :: u59 :: u60 :: u61 :: u62 :: u63 :: u64 :: u65 :: u66 :: u67 :: u68 :: u69 :: u70 :: u71 :: u72 :: u73 :: u74 :: u75 :: u76 :: u77 :: u78 :: [])), []⟩ wc := by
  conv => arg 2; whnf
  have cI : ∀ W : World, Calls Tryz.prog 161 #[.int .i64 DC] W fun e w' => e = .returned (.bool true) ∧ W = w' := fun W => by
    have h := ref_is DC W (by omega) (by omega)
    rw [hI] at h; exact h
  have cB := fun W => ref_bytes DC W hI
  rw [hE] at cB
  have hrow0 : RowAt (wc.alloc (.cells (E.map b8).toArray 5)) wc.heap.size (E.map b8) := by simpa using RowAt.new wc 5 (E.map b8).toArray
  have hrow : ∀ k : Nat, RowAt ((wc.alloc (.cells (E.map b8).toArray 5)).drewN k) wc.heap.size (E.map b8) := fun k => hrow0
  have hconv : ∀ k : Nat, (convert 22 9 (.slice (some ⟨wc.heap.size, 0, none⟩) E.length E.length)).run Tryz.prog ((wc.alloc (.cells (E.map b8).toArray 5)).drewN k) = .ok (.string (bytesOf E)) ((wc.alloc (.cells (E.map b8).toArray 5)).drewN k) := fun k => by
    have hrd := (hrow k).reads (B := wc.heap.size + 1) (by omega)
    rw [List.length_map] at hrd
    exact run_str (P := Tryz.prog) Tryz.underlying22 Tryz.underlying5 Tryz.underlying9 E.length hrd
  have k0 : (convert 22 9 (.slice (some ⟨wc.heap.size, 0, none⟩) E.length E.length)).run Tryz.prog (wc.alloc (.cells (E.map b8).toArray 5)) = .ok (.string (bytesOf E)) (wc.alloc (.cells (E.map b8).toArray 5)) := hconv 0
  have k1 : (convert 22 9 (.slice (some ⟨wc.heap.size, 0, none⟩) E.length E.length)).run Tryz.prog ((wc.alloc (.cells (E.map b8).toArray 5)).drew) = .ok (.string (bytesOf E)) ((wc.alloc (.cells (E.map b8).toArray 5)).drew) := hconv 1
  have k2 : (convert 22 9 (.slice (some ⟨wc.heap.size, 0, none⟩) E.length E.length)).run Tryz.prog (wc.drew.alloc (.cells (E.map b8).toArray 5)) = .ok (.string (bytesOf E)) (wc.drew.alloc (.cells (E.map b8).toArray 5)) := hconv 1
  have m0 := hconvT (wc) (Below.refl _ _)
  have m1 := hconvT (wc.drew) (Below.refl _ _).drew
  have m2 := hconvT (wc.alloc (.cells (E.map b8).toArray 5)) ((Below.refl _ _).alloc (Nat.le_refl _) _)
  have m3 := hconvT ((wc.alloc (.cells (E.map b8).toArray 5)).drew) ((Below.refl _ _).alloc (Nat.le_refl _) _).drew
  have m4 := hconvT (wc.drew.alloc (.cells (E.map b8).toArray 5)) ((Below.refl _ _).drew.alloc (Nat.le_refl _) _)
  have hb : Below wc.heap.size wc (wc.alloc (.cells (E.map b8).toArray 5)).drew := ((Below.refl _ _).alloc (Nat.le_refl _) _).drew
  clear hconv hconvT hrow hrow0 hE hI
  have hne : (E = T ∧ ((bytesOf E).toList == (bytesOf T).toList) = true) ∨ (E ≠ T ∧ ¬ (bytesOf E).toList = (bytesOf T).toList ∧ ((bytesOf E).toList == (bytesOf T).toList) = false) := by
    by_cases h : E = T
    · left; exact ⟨h, by rw [h]; simp⟩
    · right; rw [bytesOf_toList, bytesOf_toList]; exact ⟨h, h, by simpa using h⟩
  rcases hne with ⟨h, q1⟩ | ⟨h, q1, q2⟩
  · have Hh := Lib.hid h
    clear h
    refine wp_region_any (by kernel_rfl) ?_
    try (change wpAny _ _ _ _ _ _ _ (World.drew _))
    refine wpAny_take (i := 0) (v := ?_) rfl (by kernel_rfl) (by kernel_rfl) (by kernel_rfl) (fun _ _ _ h => h) (Or.inl ⟨by kernel_rfl, ?_⟩) ?_
    rotate_left
    · intro w; go_simp; (try with_reducible rfl)
    refine wpAny_take (i := 1) (v := ?_) rfl (by kernel_rfl) (by kernel_rfl) (by kernel_rfl) (fun _ _ _ h => h) (Or.inl ⟨by kernel_rfl, ?_⟩) ?_
    rotate_left
    · intro w; go_simp; (try with_reducible rfl)
    refine wpAny_take (i := 2) (v := ?_) rfl (by kernel_rfl) (by kernel_rfl) (by kernel_rfl) (fun _ _ _ h => h) (Or.inl ⟨by kernel_rfl, ?_⟩) ?_
    rotate_left
    · intro w; go_simp; (try with_reducible rfl)
    refine wpAny_take (i := 3) (v := ?_) rfl (by kernel_rfl) (by kernel_rfl) (by kernel_rfl) (fun _ _ _ h => h) (Or.inl ⟨by kernel_rfl, ?_⟩) ?_
    rotate_left
    · intro w; go_simp; (try with_reducible rfl)
    refine wpAny_ready (rs := [4]) (by kernel_rfl) (by simp) ?_
    refine AllReady.cons rfl (fun K hK => ?_) ?_
    · go_simp
      go_wp2_with (go_at_call 161; refine (cI _).mono ?_; rintro e w' ⟨rfl, rfl⟩)
      (try (refine hK _ _ ?_; clear hK K))
      refine wpAny_take (i := 5) (v := ?_) rfl (by kernel_rfl) (by kernel_rfl) (by kernel_rfl) (fun _ _ _ h => h) (Or.inl ⟨by kernel_rfl, ?_⟩) ?_
      rotate_left
      · intro w; go_simp; (try with_reducible rfl)
      refine wpAny_take (i := 6) (v := ?_) rfl (by kernel_rfl) (by kernel_rfl) (by kernel_rfl) (fun _ _ _ h => h) (Or.inl ⟨by kernel_rfl, ?_⟩) ?_
      rotate_left
      · intro w; go_simp; (try with_reducible rfl)
      refine wpAny_take (i := 7) (v := ?_) rfl (by kernel_rfl) (by kernel_rfl) (by kernel_rfl) (fun _ _ _ h => h) (Or.inl ⟨by kernel_rfl, ?_⟩) ?_
      rotate_left
      · intro w; go_simp; (try with_reducible rfl)
      refine wpAny_take (i := 8) (v := ?_) rfl (by kernel_rfl) (by kernel_rfl) (by kernel_rfl) (fun _ _ _ h => h) (Or.inl ⟨by kernel_rfl, ?_⟩) ?_
      rotate_left
      · intro w; go_simp; (try with_reducible rfl)
      refine wpAny_take (i := 11) (v := ?_) rfl (by kernel_rfl) (by kernel_rfl) (by kernel_rfl) (fun _ _ _ h => h) (Or.inl ⟨by kernel_rfl, ?_⟩) ?_
      rotate_left
      · intro w; go_simp; (try with_reducible rfl)
      refine wpAny_take (i := 12) (v := ?_) rfl (by kernel_rfl) (by kernel_rfl) (by kernel_rfl) (fun _ _ _ h => h) (Or.inl ⟨by kernel_rfl, ?_⟩) ?_
      rotate_left
      · intro w; go_simp; (try with_reducible rfl)
      refine wpAny_take (i := 13) (v := ?_) rfl (by kernel_rfl) (by kernel_rfl) (by kernel_rfl) (fun _ _ _ h => h) (Or.inl ⟨by kernel_rfl, ?_⟩) ?_
      rotate_left
      · intro w; go_simp; (try with_reducible rfl)
      refine wpAny_ready (rs := [9, 14]) (by kernel_rfl) (by simp) ?_
      refine AllReady.cons rfl (fun K hK => ?_) ?_
      · go_simp
        go_wp2_with (go_at_call 162; refine (cB _).mono ?_; rintro e w' ⟨rfl, rfl⟩)
        (try (refine hK _ _ ?_; clear hK K))
        refine wpAny_ready (rs := [10, 14]) (by kernel_rfl) (by simp) ?_
        refine AllReady.cons rfl (fun K hK => ?_) ?_
        · go_simp
          (try (refine hK _ _ ?_; clear hK K))
          refine wpAny_ready (rs := [14]) (by kernel_rfl) (by simp) ?_
          refine AllReady.cons rfl (fun K hK => ?_) ?_
          · go_simp
            (try (refine hK _ _ ?_; clear hK K))
            refine wpAny_take (i := 15) (v := ?_) rfl (by kernel_rfl) (by kernel_rfl) (by kernel_rfl) (fun _ _ _ h => h) (Or.inl ⟨by kernel_rfl, ?_⟩) ?_
            rotate_left
            · intro w; go_simp; (try with_reducible rfl)
            refine wpAny_take (i := 16) (v := ?_) rfl (by kernel_rfl) (by kernel_rfl) (by kernel_rfl) (fun _ _ _ h => h) (Or.inl ⟨by kernel_rfl, ?_⟩) ?_
            rotate_left
            · intro w; go_simp; (try with_reducible rfl)
            refine wpAny_done (by kernel_rfl) ?_ _
            (go_simp; exact Hh.out)
          · exact AllReady.nil
        · refine AllReady.cons rfl (fun K hK => ?_) ?_
          · go_simp
            (try (refine hK _ _ ?_; clear hK K))
            refine wpAny_ready (rs := [10]) (by kernel_rfl) (by simp) ?_
            refine AllReady.cons rfl (fun K hK => ?_) ?_
            · go_simp
              (try (refine hK _ _ ?_; clear hK K))
              refine wpAny_take (i := 15) (v := ?_) rfl (by kernel_rfl) (by kernel_rfl) (by kernel_rfl) (fun _ _ _ h => h) (Or.inl ⟨by kernel_rfl, ?_⟩) ?_
              rotate_left
              · intro w; go_simp; (try with_reducible rfl)
              refine wpAny_take (i := 16) (v := ?_) rfl (by kernel_rfl) (by kernel_rfl) (by kernel_rfl) (fun _ _ _ h => h) (Or.inl ⟨by kernel_rfl, ?_⟩) ?_
              rotate_left
              · intro w; go_simp; (try with_reducible rfl)
              refine wpAny_done (by kernel_rfl) ?_ _
              (go_simp; exact Hh.out)
            · exact AllReady.nil
          · exact AllReady.nil
      · refine AllReady.cons rfl (fun K hK => ?_) ?_
        · go_simp
          (try (refine hK _ _ ?_; clear hK K))
          refine wpAny_ready (rs := [9]) (by kernel_rfl) (by simp) ?_
          refine AllReady.cons rfl (fun K hK => ?_) ?_
          · go_simp
            go_wp2_with (go_at_call 162; refine (cB _).mono ?_; rintro e w' ⟨rfl, rfl⟩)
            (try (refine hK _ _ ?_; clear hK K))
            refine wpAny_ready (rs := [10]) (by kernel_rfl) (by simp) ?_
            refine AllReady.cons rfl (fun K hK => ?_) ?_
            · go_simp
              (try (refine hK _ _ ?_; clear hK K))
              refine wpAny_take (i := 15) (v := ?_) rfl (by kernel_rfl) (by kernel_rfl) (by kernel_rfl) (fun _ _ _ h => h) (Or.inl ⟨by kernel_rfl, ?_⟩) ?_
              rotate_left
              · intro w; go_simp; (try with_reducible rfl)
              refine wpAny_take (i := 16) (v := ?_) rfl (by kernel_rfl) (by kernel_rfl) (by kernel_rfl) (fun _ _ _ h => h) (Or.inl ⟨by kernel_rfl, ?_⟩) ?_
              rotate_left
              · intro w; go_simp; (try with_reducible rfl)
              refine wpAny_done (by kernel_rfl) ?_ _
              (go_simp; exact Hh.out)
            · exact AllReady.nil
          · exact AllReady.nil
        · exact AllReady.nil
    · exact AllReady.nil
  · have Hh := Lib.hid h
    clear h
    refine wp_region_any (by kernel_rfl) ?_
    try (change wpAny _ _ _ _ _ _ _ (World.drew _))
    refine wpAny_take (i := 0) (v := ?_) rfl (by kernel_rfl) (by kernel_rfl) (by kernel_rfl) (fun _ _ _ h => h) (Or.inl ⟨by kernel_rfl, ?_⟩) ?_
    rotate_left
    · intro w; go_simp; (try with_reducible rfl)
    refine wpAny_take (i := 1) (v := ?_) rfl (by kernel_rfl) (by kernel_rfl) (by kernel_rfl) (fun _ _ _ h => h) (Or.inl ⟨by kernel_rfl, ?_⟩) ?_
    rotate_left
    · intro w; go_simp; (try with_reducible rfl)
    refine wpAny_take (i := 2) (v := ?_) rfl (by kernel_rfl) (by kernel_rfl) (by kernel_rfl) (fun _ _ _ h => h) (Or.inl ⟨by kernel_rfl, ?_⟩) ?_
    rotate_left
    · intro w; go_simp; (try with_reducible rfl)
    refine wpAny_take (i := 3) (v := ?_) rfl (by kernel_rfl) (by kernel_rfl) (by kernel_rfl) (fun _ _ _ h => h) (Or.inl ⟨by kernel_rfl, ?_⟩) ?_
    rotate_left
    · intro w; go_simp; (try with_reducible rfl)
    refine wpAny_ready (rs := [4]) (by kernel_rfl) (by simp) ?_
    refine AllReady.cons rfl (fun K hK => ?_) ?_
    · go_simp
      go_wp2_with (go_at_call 161; refine (cI _).mono ?_; rintro e w' ⟨rfl, rfl⟩)
      (try (refine hK _ _ ?_; clear hK K))
      refine wpAny_take (i := 5) (v := ?_) rfl (by kernel_rfl) (by kernel_rfl) (by kernel_rfl) (fun _ _ _ h => h) (Or.inl ⟨by kernel_rfl, ?_⟩) ?_
      rotate_left
      · intro w; go_simp; (try with_reducible rfl)
      refine wpAny_take (i := 6) (v := ?_) rfl (by kernel_rfl) (by kernel_rfl) (by kernel_rfl) (fun _ _ _ h => h) (Or.inl ⟨by kernel_rfl, ?_⟩) ?_
      rotate_left
      · intro w; go_simp; (try with_reducible rfl)
      refine wpAny_take (i := 7) (v := ?_) rfl (by kernel_rfl) (by kernel_rfl) (by kernel_rfl) (fun _ _ _ h => h) (Or.inl ⟨by kernel_rfl, ?_⟩) ?_
      rotate_left
      · intro w; go_simp; (try with_reducible rfl)
      refine wpAny_take (i := 8) (v := ?_) rfl (by kernel_rfl) (by kernel_rfl) (by kernel_rfl) (fun _ _ _ h => h) (Or.inl ⟨by kernel_rfl, ?_⟩) ?_
      rotate_left
      · intro w; go_simp; (try with_reducible rfl)
      refine wpAny_take (i := 11) (v := ?_) rfl (by kernel_rfl) (by kernel_rfl) (by kernel_rfl) (fun _ _ _ h => h) (Or.inl ⟨by kernel_rfl, ?_⟩) ?_
      rotate_left
      · intro w; go_simp; (try with_reducible rfl)
      refine wpAny_take (i := 12) (v := ?_) rfl (by kernel_rfl) (by kernel_rfl) (by kernel_rfl) (fun _ _ _ h => h) (Or.inl ⟨by kernel_rfl, ?_⟩) ?_
      rotate_left
      · intro w; go_simp; (try with_reducible rfl)
      refine wpAny_take (i := 13) (v := ?_) rfl (by kernel_rfl) (by kernel_rfl) (by kernel_rfl) (fun _ _ _ h => h) (Or.inl ⟨by kernel_rfl, ?_⟩) ?_
      rotate_left
      · intro w; go_simp; (try with_reducible rfl)
      refine wpAny_ready (rs := [9, 14]) (by kernel_rfl) (by simp) ?_
      refine AllReady.cons rfl (fun K hK => ?_) ?_
      · go_simp
        go_wp2_with (go_at_call 162; refine (cB _).mono ?_; rintro e w' ⟨rfl, rfl⟩)
        (try (refine hK _ _ ?_; clear hK K))
        refine wpAny_ready (rs := [10, 14]) (by kernel_rfl) (by simp) ?_
        refine AllReady.cons rfl (fun K hK => ?_) ?_
        · go_simp
          (try (refine hK _ _ ?_; clear hK K))
          refine wpAny_ready (rs := [14]) (by kernel_rfl) (by simp) ?_
          refine AllReady.cons rfl (fun K hK => ?_) ?_
          · go_simp
            (try (refine hK _ _ ?_; clear hK K))
            refine wpAny_take (i := 15) (v := ?_) rfl (by kernel_rfl) (by kernel_rfl) (by kernel_rfl) (fun _ _ _ h => h) (Or.inl ⟨by kernel_rfl, ?_⟩) ?_
            rotate_left
            · intro w; go_simp; (try with_reducible rfl)
            refine wpAny_take (i := 16) (v := ?_) rfl (by kernel_rfl) (by kernel_rfl) (by kernel_rfl) (fun _ _ _ h => h) (Or.inl ⟨by kernel_rfl, ?_⟩) ?_
            rotate_left
            · intro w; go_simp; (try with_reducible rfl)
            refine wpAny_done (by kernel_rfl) ?_ _
            (go_simp; exact Hh.out)
          · exact AllReady.nil
        · refine AllReady.cons rfl (fun K hK => ?_) ?_
          · go_simp
            (try (refine hK _ _ ?_; clear hK K))
            refine wpAny_ready (rs := [10]) (by kernel_rfl) (by simp) ?_
            refine AllReady.cons rfl (fun K hK => ?_) ?_
            · go_simp
              (try (refine hK _ _ ?_; clear hK K))
              refine wpAny_take (i := 15) (v := ?_) rfl (by kernel_rfl) (by kernel_rfl) (by kernel_rfl) (fun _ _ _ h => h) (Or.inl ⟨by kernel_rfl, ?_⟩) ?_
              rotate_left
              · intro w; go_simp; (try with_reducible rfl)
              refine wpAny_take (i := 16) (v := ?_) rfl (by kernel_rfl) (by kernel_rfl) (by kernel_rfl) (fun _ _ _ h => h) (Or.inl ⟨by kernel_rfl, ?_⟩) ?_
              rotate_left
              · intro w; go_simp; (try with_reducible rfl)
              refine wpAny_done (by kernel_rfl) ?_ _
              (go_simp; exact Hh.out)
            · exact AllReady.nil
          · exact AllReady.nil
      · refine AllReady.cons rfl (fun K hK => ?_) ?_
        · go_simp
          (try (refine hK _ _ ?_; clear hK K))
          refine wpAny_ready (rs := [9]) (by kernel_rfl) (by simp) ?_
          refine AllReady.cons rfl (fun K hK => ?_) ?_
          · go_simp
            go_wp2_with (go_at_call 162; refine (cB _).mono ?_; rintro e w' ⟨rfl, rfl⟩)
            (try (refine hK _ _ ?_; clear hK K))
            refine wpAny_ready (rs := [10]) (by kernel_rfl) (by simp) ?_
            refine AllReady.cons rfl (fun K hK => ?_) ?_
            · go_simp
              (try (refine hK _ _ ?_; clear hK K))
              refine wpAny_take (i := 15) (v := ?_) rfl (by kernel_rfl) (by kernel_rfl) (by kernel_rfl) (fun _ _ _ h => h) (Or.inl ⟨by kernel_rfl, ?_⟩) ?_
              rotate_left
              · intro w; go_simp; (try with_reducible rfl)
              refine wpAny_take (i := 16) (v := ?_) rfl (by kernel_rfl) (by kernel_rfl) (by kernel_rfl) (fun _ _ _ h => h) (Or.inl ⟨by kernel_rfl, ?_⟩) ?_
              rotate_left
              · intro w; go_simp; (try with_reducible rfl)
              refine wpAny_done (by kernel_rfl) ?_ _
              (go_simp; exact Hh.out)
            · exact AllReady.nil
          · exact AllReady.nil
        · exact AllReady.nil
    · exact AllReady.nil
end Go.Proofs.YtfhdihdafmahgaaGreatDoor
set_option linter.unusedVariables false
set_option linter.unusedSimpArgs false
namespace Go.Proofs.YtfhdihdafmahgaaGreatDoor
open Go.RowKit Rn Tp
/-- the table of trailing noughts, at the place of 16 -/
def Db (w : World) : Prop := w.cell? ⟨8, 15, none⟩ = some (.int .u8 4)
theorem Db.below {w w' : World} (h : Db w) (hb : Below w.heap.size w w') : Db w' := (hb.cell (p := ⟨_, 15, none⟩) (World.block_lt_of_cell? _ _ h)).trans h
/-- the row of digits, filled from its end -/
def Filled (w : World) (g : Nat) (T : List UInt8) : Prop := ∃ xs : List Value, xs.length = 65 ∧ RowAt w g xs ∧ ∀ (j : Nat) (b : UInt8), T[j]? = some b → xs[65 - T.length + j]? = some (b8 b)
theorem Filled.put {w : World} {g : Nat} {T : List UInt8} (h : Filled w g T) (hl : T.length < 65) (b : UInt8) : Filled (w.setCell ⟨g, 64 - T.length, none⟩ (.int .u8 (b.toNat : Int))) g (b :: T) := by
  obtain ⟨xs, h1, h2, h3⟩ := h
  refine ⟨xs.set (64 - T.length) (.int .u8 (b.toNat : Int)), by rw [List.length_set]; exact h1, h2.store _ _, fun j c hj => ?_⟩
  have e : 65 - (b :: T).length = 64 - T.length := by rw [List.length_cons]; omega
  rw [e]
  cases j with
  | zero =>
    simp at hj; subst hj
    rw [Nat.add_zero, List.getElem?_set_self (by omega)]; rfl
  | succ j =>
    rw [List.getElem?_set_ne (by omega)]
    have := h3 j c (by simpa using hj)
    rw [show 64 - T.length + (j + 1) = 65 - T.length + j by omega]; exact this
theorem Filled.at_ {w : World} {g : Nat} {T : List UInt8} (h : Filled w g T) (j : Nat) (hj : j < 65) : (∃ v, w.cell? ⟨g, j, none⟩ = some v) ∧ w.frozen? ⟨g, j, none⟩ = false := by
  obtain ⟨xs, h1, h2, _⟩ := h
  have := h2.2 j (xs[j]'(by omega)) (List.getElem?_eq_getElem (by omega))
  exact ⟨⟨_, this.1⟩, this.2⟩
theorem Filled.reads {w : World} {g : Nat} {T : List UInt8} (h : Filled w g T) (hl : T.length ≤ 65) (hT : T ≠ []) : Reads w (g + 1) 1 (some ⟨g, 65 - T.length, none⟩) T.length (T.map b8) := by
  obtain ⟨xs, h1, h2, h3⟩ := h
  refine ⟨by simp, fun _ => ⟨g, 65 - T.length, rfl, by omega, fun j u hu => ?_⟩⟩
  rw [List.getElem?_map] at hu
  cases hj : T[j]? with
  | none => rw [hj] at hu; cases hu
  | some b =>
    rw [hj] at hu
    injection hu with hu
    subst hu
    exact (h2.2 _ _ (h3 j b hj)).1
end Go.Proofs.YtfhdihdafmahgaaGreatDoor
