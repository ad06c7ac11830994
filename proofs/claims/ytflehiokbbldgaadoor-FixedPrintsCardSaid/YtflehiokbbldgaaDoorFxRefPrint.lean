/- Layer 1: the document's Print is walked. -/
import Derived.Test.YtflehiokbbldgaaDoorFxPrint
import Derived.Test.YtflehiokbbldgaaDoorFxRef
set_option linter.unusedVariables false
set_option linter.unusedSimpArgs false
namespace Go.Proofs.YtflehiokbbldgaaDoor
open Go.RowKit Fx
/-- string([]byte{b}) of a slice just made -/
theorem conv_one (b : UInt8) (W : World) : (convert 41 9 (.slice (some ⟨W.heap.size, 0, none⟩) 1 1)).run Tryd.prog (W.alloc (.cells #[.int .u8 b.toNat] 5)) = .ok (.string (bytesOf [b])) (W.alloc (.cells #[.int .u8 b.toNat] 5)) := by
  have hrow : RowAt (W.alloc (.cells #[.int .u8 b.toNat] 5)) W.heap.size ([b].map b8) := RowAt.new _ _ _
  have hr := (hrow.reads (B := W.heap.size + 1) (by omega))
  exact run_str (P := Tryd.prog) Tryd.underlying41 Tryd.underlying5 Tryd.underlying9 1 hr
theorem conv_dig (n : Nat) (h : n < 10) (W : World) : (convert 41 9 (.slice (some ⟨W.heap.size, 0, none⟩) 1 1)).run Tryd.prog (W.alloc (.cells #[.int .u8 (48 + (n : Int))] 5)) = .ok (.string (bytesOf [dig n])) (W.alloc (.cells #[.int .u8 (48 + (n : Int))] 5)) := by
  have e : ((dig n).toNat : Int) = 48 + (n : Int) := by
    have : ∀ k : Fin 10, ((dig k.val).toNat : Int) = 48 + (k.val : Int) := by decide
    exact this ⟨n, h⟩
  have := conv_one (dig n) W
  rwa [e] at this
namespace Fx
def PrLoop (a : Nat) (q : Nat) (T : List UInt8) : Prop := (T = [] ∧ q = a) ∨ (T ≠ [] ∧ Lib.decDigits a = (if q = 0 then [] else Lib.decDigits q) ++ T)
end Fx
theorem prloop_step {a q : Nat} {T : List UInt8} (h : PrLoop a q T) (hc : 0 < q ∨ T = []) : PrLoop a (q / 10) (dig (q % 10) :: T) := by
  refine .inr ⟨by simp, ?_⟩
  have key : Lib.decDigits q = (if q / 10 = 0 then [] else Lib.decDigits (q / 10)) ++ [dig (q % 10)] := by
    by_cases h10 : q < 10
    · rw [if_pos (by omega), dec_small h10, Nat.mod_eq_of_lt h10]; rfl
    · rw [if_neg (by omega), dec_big (by omega)]
  rcases h with ⟨h1, h2⟩ | ⟨h1, h2⟩
  · rw [← h2, key, h1]
  · rcases hc with hc | hc
    · rw [h2, if_neg (by omega), key]; simp
    · exact absurd hc h1
theorem prloop_end {a : Nat} {T : List UInt8} (h : PrLoop a 0 T) (hT : T ≠ []) : T = Lib.decDigits a := by
  rcases h with ⟨h1, _⟩ | ⟨_, h2⟩
  · exact absurd h1 hT
  · rw [h2]; simp
theorem prloop_len {a q : Nat} {T : List UInt8} (h : PrLoop a q T) {n : Nat} (hn : (Lib.decDigits a).length ≤ n) : T.length ≤ n := by
  rcases h with ⟨h1, _⟩ | ⟨_, h2⟩
  · rw [h1]; simp
  · rw [h2, List.length_append] at hn; omega
def strLen : Value → Nat
  | .string s => s.size
  | _ => 0
set_option maxRecDepth 100000 in
set_option maxHeartbeats 4000000 in
theorem rfx_print (n : Int) (w : World) (h1 : -9223372036854775808 ≤ n) (h2 : n ≤ 9223372036854775807) :
    Calls Tryd.prog 16 #[.int .i64 n] w fun e w' => e = .returned (.string (bytesOf (printP n))) ∧ Below w.heap.size w w' := by
  obtain ⟨neg, a, ha, hs, hn, hp⟩ := stop_form n
  rw [hp]
  clear hp
  obtain ⟨sg, hsg⟩ : ∃ sg, (if neg = true then [45] else [] : List UInt8) = sg := ⟨_, rfl⟩
  rw [hsg]
  have hsgl : sg.length ≤ 1 := by rw [← hsg]; cases neg <;> simp
  have hsgz := bytesOf_size sg
  have Hsg := Lib.hid hsg
  clear hsg
  obtain ⟨q, hq⟩ : ∃ q, a / 1000 = q := ⟨_, rfl⟩
  obtain ⟨r, hr⟩ : ∃ r, a % 1000 = r := ⟨_, rfl⟩
  have hqb : q ≤ 1099511627 := by omega
  have hrb : r < 1000 := by omega
  have hdl := deci_len q (by omega)
  have hqi : (a : Int).tdiv 1000 = (q : Int) := by rw [Int.tdiv_eq_ediv_of_nonneg (by omega)]; omega
  have hri : (a : Int).tmod 1000 = (r : Int) := by rw [Int.tmod_eq_emod_of_nonneg (by omega)]; omega
  have hqi2 : (a : Int) / 1000 = (q : Int) := by omega
  have hri2 : (a : Int) % 1000 = (r : Int) := by omega
  have Hs := Lib.hid hs
  have HP := Lib.hid (show printN a = Lib.decDigits q ++ fracT r by unfold printN; rw [hq, hr])
  clear hs hq hr
  go_enter Tryd.func16, Tryd.ntmps16
  go_wp2_with fail
  refine (rfx_stop n w h1 h2).mono ?_
  rintro e w1 ⟨rfl, rfl⟩
  go_upto_if 10 with (fail)
  go_cut [0, 3] (fun x s wx => x = .int .i64 (a : Nat) ∧ s = .string (bytesOf sg) ∧ wx = w)
  case first =>
    cases neg with
    | true =>
      have hp := hn rfl
      have hs := Hs.out
      simp only [if_true] at hs
      rw [hs]
      clear hs Hs hn
      go_wp2_with fail
      go_meet
      exact ⟨by simp, by rw [← Hsg.out]; rfl, rfl⟩
    | false =>
      have hs := Hs.out
      simp only [Bool.false_eq_true, if_false] at hs
      rw [hs]
      clear hs Hs hn
      go_wp2_with fail
      go_meet
      exact ⟨rfl, by rw [← Hsg.out]; rfl, rfl⟩
  case rest =>
    obtain ⟨rfl, rfl, hwc⟩ := hcut
    have hwc2 := hwc.symm
    subst hwc2
    clear hn Hs Hsg hwc
    go_upto_block 0 with (fail)
    go_cut [5] (fun t wx => t = .string (bytesOf (Lib.decDigits q)) ∧ Below w.heap.size w wx)
    case first =>
      go_wp2_with fail
      go_loopw [4, 5] (fun x t wr => ∃ (k : Nat) (T : List UInt8), k ≤ q ∧ PrLoop q k T ∧ x = .int .i64 (k : Nat) ∧ t = .string (bytesOf T) ∧ Below w.heap.size w wr) (fun x t _ => (intOf x).toNat * 2 + (if strLen t = 0 then 1 else 0))
      case atStart => exact ⟨q, [], Nat.le_refl _, .inl ⟨rfl, rfl⟩, rfl, rfl, Below.refl _ _⟩
      case round =>
        obtain ⟨k, T, hk, hT, rfl, rfl, hb⟩ := hrel
        have hsz := bytesOf_size T
        have hTb : T.length ≤ 14 := prloop_len hT hdl
        by_cases hgo : 0 < k ∨ T = []
        · obtain ⟨d, hd⟩ : ∃ d, k % 10 = d := ⟨_, rfl⟩
          obtain ⟨k2, hk2⟩ : ∃ k2, k / 10 = k2 := ⟨_, rfl⟩
          have hstep := prloop_step hT hgo
          rw [hd, hk2] at hstep
          have hconv := conv_dig d (by omega)
          have m1 : (k : Int).tmod 10 = (d : Int) := by rw [Int.tmod_eq_emod_of_nonneg (by omega)]; omega
          have m2 : (k : Int) % 10 = (d : Int) := by omega
          have m3 : (k : Int).tdiv 10 = (k2 : Int) := by rw [Int.tdiv_eq_ediv_of_nonneg (by omega)]; omega
          have m4 : (k : Int) / 10 = (k2 : Int) := by omega
          have hd9 : d ≤ 9 := by omega
          have hlt : k2 < k ∨ (k2 = 0 ∧ k = 0) := by omega
          have Hstep := Lib.hid hstep
          have hs1 := bytesOf_size [dig d]
          have hbn : Below w.heap.size w (wr.alloc (Obj.cells #[Value.int IntKind.u8 (48 + (d : Int))] 5)) := hb.alloc hb.size _
          have hmeas : k2 * 2 + (if strLen (Value.string (bytesOf (dig d :: T))) = 0 then 1 else 0) < k * 2 + (if strLen (Value.string (bytesOf T)) = 0 then 1 else 0) := by
            have e1 : strLen (Value.string (bytesOf (dig d :: T))) = T.length + 1 := by simp [strLen, bytesOf_size]
            have e2 : strLen (Value.string (bytesOf T)) = T.length := by simp [strLen, bytesOf_size]
            rw [e1, e2, if_neg (by omega)]
            rcases hlt with h | ⟨h, h'⟩
            · split <;> omega
            · rcases hgo with hg | hg
              · omega
              · rw [hg]; simp; omega
          have Hmeas := Lib.hid hmeas
          clear hstep hd hk2 hmeas hlt
          by_cases hk0 : 0 < k
          · clear hgo
            go_wp2_with fail
            refine ⟨⟨k2, dig d :: T, by omega, Hstep.out, rfl, by rw [bytesOf_append]; rfl, hbn⟩, ?_⟩
            rw [bytesOf_append]
            exact Hmeas.out
          · have hTe : T = [] := hgo.resolve_left hk0
            subst hTe
            obtain ⟨e1, e2⟩ := str_none
            clear hgo
            go_wp2_with fail
            refine ⟨⟨k2, dig d :: [], by omega, Hstep.out, rfl, by rw [bytesOf_append]; rfl, hbn⟩, ?_⟩
            rw [bytesOf_append]
            exact Hmeas.out
        · have hk0 : k = 0 := by omega
          have hTe : T ≠ [] := fun h => hgo (.inr h)
          subst hk0
          obtain ⟨e1, e2⟩ := str_some hTe
          have hfin := prloop_end hT hTe
          have Hfin := Lib.hid hfin
          clear hfin hgo hT
          go_wp2_with fail
          go_meet
          exact ⟨by rw [Hfin.out], hb⟩
    case rest =>
      obtain ⟨rfl, hb⟩ := hcut
      have hdz := bytesOf_size (Lib.decDigits q)
      by_cases hr0 : r = 0
      · have hz : ((r : Int) == 0) = true := by simp; omega
        have hf : fracT r = [] := by rw [hr0]; rfl
        have HF := Lib.hid hf
        clear hf hr0
        go_wp2
        go_ret
        exact ⟨congrArg (fun b => Ending.returned (Value.string b)) (by rw [HP.out, HF.out, List.append_nil]; exact bytesOf_append sg _), hb⟩
      · have hz : ((r : Int) == 0) = false := by simp; omega
        obtain ⟨a1, ha1⟩ : ∃ x, r / 100 = x := ⟨_, rfl⟩
        obtain ⟨a2, ha2⟩ : ∃ x, r % 100 = x := ⟨_, rfl⟩
        obtain ⟨a3, ha3⟩ : ∃ x, r / 10 % 10 = x := ⟨_, rfl⟩
        obtain ⟨a4, ha4⟩ : ∃ x, r % 10 = x := ⟨_, rfl⟩
        obtain ⟨a5, ha5⟩ : ∃ x, r / 10 = x := ⟨_, rfl⟩
        have hf : fracT r = 46 :: dig a1 :: ((if 0 < a2 then [dig a3] else []) ++ (if 0 < a4 then [dig a4] else [])) := by
          unfold fracT; rw [if_neg hr0, ha1, ha2, ha3, ha4]
        have c1 := conv_dig a1 (by omega)
        have c3 := conv_dig a3 (by omega)
        have c4 := conv_dig a4 (by omega)
        have m1 : (r : Int).tdiv 100 = (a1 : Int) := by rw [Int.tdiv_eq_ediv_of_nonneg (by omega)]; omega
        have m1' : (r : Int) / 100 = (a1 : Int) := by omega
        have m2 : (r : Int).tmod 100 = (a2 : Int) := by rw [Int.tmod_eq_emod_of_nonneg (by omega)]; omega
        have m2' : (r : Int) % 100 = (a2 : Int) := by omega
        have m5 : (r : Int).tdiv 10 = (a5 : Int) := by rw [Int.tdiv_eq_ediv_of_nonneg (by omega)]; omega
        have m5' : (r : Int) / 10 = (a5 : Int) := by omega
        have m3 : (a5 : Int).tmod 10 = (a3 : Int) := by rw [Int.tmod_eq_emod_of_nonneg (by omega)]; omega
        have m3' : (a5 : Int) % 10 = (a3 : Int) := by omega
        have m4 : (r : Int).tmod 10 = (a4 : Int) := by rw [Int.tmod_eq_emod_of_nonneg (by omega)]; omega
        have m4' : (r : Int) % 10 = (a4 : Int) := by omega
        have b1 : a1 ≤ 9 := by omega
        have b3 : a3 ≤ 9 := by omega
        have b4 : a4 ≤ 9 := by omega
        have s1 := bytesOf_size [dig a1]
        have s3 := bytesOf_size [dig a3]
        have s4 := bytesOf_size [dig a4]
        have HF := Lib.hid hf
        clear hf hr0 ha1 ha2 ha3 ha4 ha5
        go_upto_region 15 with (fail)
        go_cut [3] (fun t wx => t = .string (bytesOf (sg ++ Lib.decDigits q ++ [46, dig a1])) ∧ Below w.heap.size w wx)
        case first =>
          go_wp2_with fail
          go_meet
          refine ⟨congrArg Value.string ?_, hb.alloc hb.size _⟩
          rw [show (⟨#[46]⟩ : ByteArray) = bytesOf [46] from rfl]
          simp only [bytesOf_append]; simp
        case rest =>
          obtain ⟨rfl, hb2⟩ := hcut
          obtain ⟨S1, hS1⟩ : ∃ S1, sg ++ Lib.decDigits q ++ [46, dig a1] = S1 := ⟨_, rfl⟩
          have z1 := bytesOf_size S1
          have y1 : S1.length ≤ 20 := by rw [← hS1]; simp; omega
          rw [hS1]
          have HS1 := Lib.hid hS1
          clear hS1
          clear c1 m1 m1' hb
          go_upto_if 50 with (fail)
          go_cut [3] (fun t wx => t = .string (bytesOf (S1 ++ (if 0 < a2 then [dig a3] else []))) ∧ Below w.heap.size w wx)
          case first =>
            by_cases h2 : 0 < a2
            · go_wp2_with fail
              go_meet
              exact ⟨congrArg Value.string (by rw [if_pos h2]; simp only [bytesOf_append]), hb2.alloc hb2.size _⟩
            · go_wp2_with fail
              go_meet
              exact ⟨congrArg Value.string (by rw [if_neg h2, List.append_nil]), hb2⟩
          case rest =>
            obtain ⟨rfl, hb3⟩ := hcut
            clear hb2 c3
            obtain ⟨T2, hT2⟩ : ∃ T2, (if 0 < a2 then [dig a3] else [] : List UInt8) = T2 := ⟨_, rfl⟩
            have hT2l : T2.length ≤ 1 := by rw [← hT2]; split <;> simp
            rw [hT2] at HF ⊢
            clear hT2
            obtain ⟨S2, hS2⟩ : ∃ S2, S1 ++ T2 = S2 := ⟨_, rfl⟩
            have z2 := bytesOf_size S2
            have y2 : S2.length ≤ 21 := by rw [← hS2]; simp; omega
            rw [hS2]
            have HS2 := Lib.hid (show S2 = sg ++ (Lib.decDigits q ++ 46 :: dig a1 :: T2) by rw [← hS2, ← HS1.out]; simp)
            clear hS2 HS1 y1
            clear z1
            by_cases h4 : 0 < a4
            · have H : Hid (fracT r = 46 :: dig a1 :: (T2 ++ [dig a4])) := by show _ = _; rw [HF.out, if_pos h4]
              clear HF
              go_wp2
              go_ret
              exact ⟨congrArg (fun b => Ending.returned (Value.string b)) (by rw [HP.out, H.out, HS2.out]; simp only [bytesOf_append]; simp), hb3.alloc hb3.size _⟩
            · have H : Hid (fracT r = 46 :: dig a1 :: T2) := by show _ = _; rw [HF.out, if_neg h4, List.append_nil]
              clear HF
              go_wp2
              go_ret
              exact ⟨congrArg (fun b => Ending.returned (Value.string b)) (by rw [HP.out, H.out, HS2.out]), hb3⟩
end Go.Proofs.YtflehiokbbldgaaDoor
