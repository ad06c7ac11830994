/- The law PrintAscii is walked: what is printed of characters below 128 are such characters, and no line but of Space is in it. -/
import Derived.Test.YthimfoonalfoeaaDoorB25
set_option linter.unusedVariables false
set_option linter.unusedSimpArgs false
namespace Go.Proofs.YthimfoonalfoeaaDoor
open Go.RowKit Rn Tp Tk Fx
theorem join_len : ∀ {l : List GTok}, (∀ t ∈ l, t.text.length ≤ 1000000) → (joinP l).length ≤ 10000104 * l.length
  | [], _ => by simp [joinP]
  | [t], h => by
    have h1 := tokenP_len (h t (by simp))
    show (tokenP t).length ≤ 10000104 * 1
    omega
  | t :: u :: l, h => by
    have h1 := tokenP_len (h t (by simp))
    have h2 := join_len (l := u :: l) (fun x hx => h x (by simp [hx]))
    have h3 : (if apartB t.kind u.kind = true then ([47, 42, 42, 47] : List UInt8) else []).length ≤ 4 := by split <;> simp
    show (tokenP t ++ (_ ++ joinP (u :: l))).length ≤ 10000104 * ((u :: l).length + 1)
    rw [List.length_append, List.length_append]
    omega
theorem pairs_one : ∀ {l : List GTok}, pairsB l = true → ∀ t ∈ l, oneB t = true
  | [], _, t, h => by cases h
  | [a], h, t, ht => by
    obtain rfl : t = a := by simpa using ht
    simp only [pairsB, Bool.and_eq_true] at h
    exact h.1
  | a :: b :: l, h, t, ht => by
    simp only [pairsB, Bool.and_eq_true] at h
    rcases List.mem_cons.1 ht with rfl | h2
    · exact h.1.1.1.1
    · exact pairs_one h.2 t h2
theorem print_asc {l : List GTok} (h : rightB l = true) (ha : ∀ t ∈ l, ∀ b ∈ t.text, b.toNat < 128) : Asc (spacesN l) (printL l) := by
  have h2 := h
  unfold rightB at h2
  rw [Bool.and_eq_true] at h2
  unfold printL
  rw [if_pos h]
  exact join_asc (pairs_one h2.1) ha
theorem spaces_snoc {l : List GTok} {k : Nat} {t : GTok} (h : l[k]? = some t) : spacesN (l.take (k + 1)) = spacesN (l.take k) + if t.kind = 1 then 1 else 0 := by
  rw [take_snoc l k t h]
  simp [spacesN, List.countP_append, List.countP_cons]
theorem count_snoc {l : List UInt8} {k : Nat} {b : UInt8} (h : l[k]? = some b) : (l.take (k + 1)).count 10 = (l.take k).count 10 + if b = 10 then 1 else 0 := by
  rw [List.take_add_one, h, List.count_append]
  show _ + List.count 10 [b] = _
  rw [List.count_singleton]
  by_cases hb : b = 10 <;> simp [hb]
theorem spaces_le (l : List GTok) (k : Nat) : spacesN (l.take k) ≤ k := by
  unfold spacesN
  have := List.countP_le_length (p := fun t : GTok => decide (t.kind = 1)) (l := l.take k)
  rw [List.length_take] at this
  omega
set_option maxRecDepth 100000 in
set_option maxHeartbeats 8000000 in
theorem walk_PrintAscii (l : List GTok) (A : Option Addr) (n cap : Nat) (w : World)
    (hr : ReadsT w w.heap.size A n l) (hm : n ≤ cap) (hcap : cap ≤ maxLen) (hs : ∀ t ∈ l, t.text.length ≤ maxLen ∧ -9223372036854775808 ≤ t.n ∧ t.n ≤ 9223372036854775807) (hT : Tabs w) (hE : Env w) (hD : Db w) :
    Calls Tryd.prog 5 #[.slice A n cap] w fun e w' => e = .returned (.bool true) ∧ Below w.heap.size w w' := by
  unfold maxLen at hcap
  have cF := tp_few l A n cap w hr (by omega) (fun t ht => (hs t ht).1)
  have cAw := fun (W : World) (h : Below w.heap.size w W) => tp_awake W (hT.below h) (hE.below h) (hD.below h)
  cases hf : fewB l with
  | false =>
    rw [hf] at cF
    go_enter Tryd.func5, Tryd.ntmps5
    go_wp2_with fail
    refine cF.mono ?_
    rintro e w1 ⟨rfl, rfl⟩
    go_wp2_with fail
    refine (cAw _ (Below.refl _ _)).mono ?_
    rintro e w2 ⟨rfl, hb2⟩
    go_wp2
    go_ret
    exact ⟨rfl, hb2⟩
  | true =>
    rw [hf] at cF
    have ra := row_few hr hs hf
    have hn100 : n ≤ 100 := by have := (few_facts hf).1; have := hr.len; omega
    have hsm : ∀ t ∈ l, t.text.length ≤ 100 := (few_facts hf).2
    have cR := rp_rights l A n cap w ra
    cases hri : rightB l with
    | false =>
      rw [hri] at cR
      go_enter Tryd.func5, Tryd.ntmps5
      go_wp2_with fail
      refine cF.mono ?_
      rintro e w1 ⟨rfl, rfl⟩
      go_wp2_with fail
      refine cR.mono ?_
      rintro e w1 ⟨rfl, hb1⟩
      go_wp2_with fail
      refine (cAw _ hb1).mono ?_
      rintro e w2 ⟨rfl, hb2⟩
      go_wp2
      go_ret
      exact ⟨rfl, hb1.trans (hb2.mono hb1.size)⟩
    | true =>
      rw [hri] at cR
      have cP := fun (W : World) (h : Below w.heap.size w W) => tp_print l A n cap W (ra.more h) (hT.below h) (hE.below h) (hD.below h)
      have Hlen := Lib.hid hr.len
      have Hsm := Lib.hid hsm
      have Hasc := Lib.hid (fun ha => print_asc (l := l) hri ha)
      have hplen : (printL l).length ≤ 2000000000 := by
        have h1 : printL l = joinP l := by unfold printL; rw [if_pos hri]
        have h2 := join_len (l := l) (fun t ht => by have := hsm t ht; omega)
        have h3 := (few_facts hf).1
        rw [h1]
        omega
      clear hs hf hsm hri
      go_enter Tryd.func5, Tryd.ntmps5
      go_wp2_with fail
      refine cF.mono ?_
      rintro e w1 ⟨rfl, rfl⟩
      go_wp2_with fail
      refine cR.mono ?_
      rintro e w1 ⟨rfl, hb1⟩
      go_wp2_with fail
      go_loopw [3, 20] (fun s i wr => ∃ (k m : Nat), k ≤ n ∧ m ≤ k ∧ s = .int .i64 m ∧ i = .int .i64 k ∧ Hid (m = spacesN (l.take k)) ∧ Hid (∀ t ∈ l.take k, ∀ b ∈ t.text, b.toNat < 128) ∧ Below w.heap.size w wr) (fun _ i _ => n - (intOf i).toNat)
      case atStart => exact ⟨0, 0, by omega, by omega, rfl, rfl, rfl, (by show ∀ t ∈ _, _; simp), hb1⟩
      case round =>
        obtain ⟨k, m, hk, hmk, rfl, rfl, hsp, hx, hb⟩ := hrel
        have hrw := (ra.below hb).rd
        by_cases hlt : k < n
        · obtain ⟨b, off, t, hA, hbw, ht, c0, c1, c2⟩ := hrw.at_ hlt
          subst hA
          have dk : decide ((k : Int) < (n : Int)) = true := by simp; omega
          have hbs := hb.size
          have h100 := Hsm.out t (List.mem_of_getElem? ht)
          obtain ⟨WA, hWA⟩ : ∃ WA, wr.alloc (.cells #[.int .i64 t.kind, .string (bytesOf t.text), .int .i64 t.n] 26) = WA := ⟨_, rfl⟩
          have bA : Below wr.heap.size wr WA := by rw [← hWA]; exact (Below.refl _ _).alloc (Nat.le_refl _) _
          have rA : RowAt WA wr.heap.size [.int .i64 t.kind, .string (bytesOf t.text), .int .i64 t.n] := by rw [← hWA]; exact RowAt.new _ _ _
          have bA' := hb.trans (bA.mono hbs)
          have a0 : WA.cell? ⟨wr.heap.size, 0, none⟩ = some (.int .i64 t.kind) := (rA.2 0 _ rfl).1
          have a1 : WA.cell? ⟨wr.heap.size, 1, none⟩ = some (.string (bytesOf t.text)) := (rA.2 1 _ rfl).1
          have hz := bytesOf_size t.text
          have HWA := Lib.hid hWA
          have Hht := Lib.hid ht
          clear ht
          go_wp2_with fail
          go_loopw [27] (fun j wx => ∃ c : Nat, c ≤ t.text.length ∧ j = .int .i64 c ∧ wx = WA ∧ Hid (∀ b ∈ t.text.take c, b.toNat < 128)) (fun j _ => t.text.length - (intOf j).toNat)
          case atStart => exact ⟨0, by omega, rfl, rfl, (by show ∀ b ∈ _, _; simp)⟩
          case round =>
            obtain ⟨c, hc, rfl, rfl, hy⟩ := hrel
            by_cases hcl : c < t.text.length
            · have dc : decide ((c : Int) < (t.text.length : Int)) = true := by simp; omega
              obtain ⟨x, hxx⟩ : ∃ x, t.text[c]? = some x := ⟨_, List.getElem?_eq_getElem hcl⟩
              have hix := str_at (P := Tryd.prog) (T := 9) Tryd.underlying9 t.text .i64 c x hxx
              obtain ⟨z, hz2⟩ : ∃ z : Int, (x.toNat : Int) = z := ⟨_, rfl⟩
              simp only [hz2] at hix
              by_cases h128 : x.toNat < 128
              · have d128 : decide ((128 : Int) ≤ z) = false := by simp; omega
                have hnew : Hid (∀ b ∈ t.text.take (c + 1), b.toNat < 128) := by
                  show ∀ b ∈ _, _
                  intro y hy2
                  rw [List.take_add_one, hxx] at hy2
                  rcases List.mem_append.1 hy2 with h | h
                  · exact hy.out y h
                  · obtain rfl : y = x := by simpa using h
                    exact h128
                clear hxx hy h128
                go_wp2_with fail
                go_roundw
                case rel => exact ⟨c + 1, by omega, by go_num, trivial, hnew⟩
                case measure => simp [intOf]; omega
              · have d128 : decide ((128 : Int) ≤ z) = true := by simp; omega
                clear hxx hy h128
                go_wp2_with fail
                refine (cAw _ bA').mono ?_
                rintro e w2 ⟨rfl, hb2⟩
                go_wp2
                go_ret
                exact ⟨rfl, bA'.trans (hb2.mono bA'.size)⟩
            · obtain rfl : c = t.text.length := by omega
              have dc : decide ((t.text.length : Int) < (t.text.length : Int)) = false := by simp
              have hall := hy.out
              rw [List.take_length] at hall
              have hnew : Hid (∀ t ∈ l.take (k + 1), ∀ b ∈ t.text, b.toNat < 128) := by
                show ∀ t ∈ _, _
                rw [take_snoc l k t Hht.out]
                intro x hx2
                rcases List.mem_append.1 hx2 with h | h
                · exact hx.out x h
                · obtain rfl : x = t := by simpa using h
                  exact hall
              have hst := spaces_snoc Hht.out
              by_cases hk1 : t.kind = 1
              · have dk1 : (t.kind == 1) = true := by simp [hk1]
                have hsp' : Hid (m + 1 = spacesN (l.take (k + 1))) := by show m + 1 = _; rw [hst, if_pos hk1, ← hsp.out]
                clear hk1 hst hall hx hy
                go_wp2_with fail
                go_roundw
                case rel => exact ⟨k + 1, m + 1, by omega, by omega, by go_num, by go_num, hsp', hnew, bA'⟩
                case measure => simp [intOf]; omega
              · have dk1 : (t.kind == 1) = false := by simp [hk1]
                have hsp' : Hid (m = spacesN (l.take (k + 1))) := by show m = _; rw [hst, if_neg hk1, ← hsp.out]; rfl
                clear hk1 hst hall hx hy
                go_wp2_with fail
                go_roundw
                case rel => exact ⟨k + 1, m, by omega, by omega, rfl, by go_num, hsp', hnew, bA'⟩
                case measure => simp [intOf]; omega
        · obtain rfl : k = n := by omega
          have dk : decide ((k : Int) < (k : Int)) = false := by simp
          have hPA : Hid (Asc m (printL l)) := by
            show Asc _ _
            have h1 := hsp.out
            have h2 := hx.out
            rw [← Hlen.out, List.take_length] at h1 h2
            rw [h1]
            exact Hasc.out h2
          have cP1 := cP _ hb
          obtain ⟨S, hS⟩ : ∃ S, printL l = S := ⟨_, rfl⟩
          rw [hS] at hPA cP1 hplen
          have hmS : m ≤ 100 := by omega
          clear hsp hx hS cP Hasc
          go_wp2_with fail
          refine cP1.mono ?_
          rintro e w2 ⟨rfl, hb2⟩
          have hb2' := hb.trans (hb2.mono hb.size)
          have hz := bytesOf_size S
          go_wp2_with fail
          go_loopw [3, 47] (fun s i wr => ∃ (c d : Nat), c ≤ S.length ∧ d ≤ m ∧ s = .int .i64 d ∧ i = .int .i64 c ∧ wr = w2 ∧ Hid ((S.take c).count 10 + d = m)) (fun _ i _ => S.length - (intOf i).toNat)
          case atStart => exact ⟨0, m, by omega, by omega, rfl, rfl, rfl, (by show List.count 10 [] + m = m; simp)⟩
          case round =>
            obtain ⟨c, d, hc, hdm, rfl, rfl, rfl, hy⟩ := hrel
            by_cases hcl : c < S.length
            · have dc : decide ((c : Int) < (S.length : Int)) = true := by simp; omega
              obtain ⟨x, hxx⟩ : ∃ x, S[c]? = some x := ⟨_, List.getElem?_eq_getElem hcl⟩
              have hix := str_at (P := Tryd.prog) (T := 9) Tryd.underlying9 S .i64 c x hxx
              have h128 := hPA.out.1 x (List.mem_of_getElem? hxx)
              have hcs := count_snoc hxx
              have hcl2 : (S.take (c + 1)).count 10 ≤ m := by rw [← hPA.out.2]; exact (List.take_sublist _ _).count_le _
              by_cases h10 : x = 10
              · subst h10
                have hnew : Hid ((S.take (c + 1)).count 10 + (d - 1) = m) := by
                  have := hy.out
                  show _ = _
                  rw [if_pos rfl] at hcs
                  omega
                have hd1 : 1 ≤ d := by
                  have := hy.out
                  rw [if_pos rfl] at hcs
                  omega
                have hix2 : ∀ W, (Instr.index 9 (.string (bytesOf S)) (.int .i64 (c : Int))).run Tryd.prog W = .ok (.int .u8 10) W := hix
                clear hxx hcs hcl2 hy h128 hix
                go_wp2_with fail
                go_roundw
                case rel => exact ⟨c + 1, d - 1, by omega, by omega, by go_num, by go_num, trivial, hnew⟩
                case measure => simp [intOf]; omega
              · have hnew : Hid ((S.take (c + 1)).count 10 + d = m) := by
                  have := hy.out
                  show _ = _
                  rw [if_neg h10] at hcs
                  omega
                obtain ⟨z, hz2⟩ : ∃ z : Int, (x.toNat : Int) = z := ⟨_, rfl⟩
                simp only [hz2] at hix
                have d128 : decide ((128 : Int) ≤ z) = false := by simp; omega
                have d10 : (z == 10) = false := by
                  simp
                  intro h
                  exact h10 (UInt8.toNat_inj.1 (by show x.toNat = 10; omega))
                clear hxx hcs hcl2 hy h128 h10
                go_wp2_with fail
                go_roundw
                case rel => exact ⟨c + 1, d, by omega, by omega, rfl, by go_num, trivial, hnew⟩
                case measure => simp [intOf]; omega
            · obtain rfl : c = S.length := by omega
              have dc : decide ((S.length : Int) < (S.length : Int)) = false := by simp
              have hd0 : d = 0 := by
                have h1 := hy.out
                have h2 := hPA.out.2
                rw [List.take_length] at h1
                omega
              subst hd0
              clear hy hPA
              go_wp2_with fail
              refine (cAw _ hb2').mono ?_
              rintro e w3 ⟨rfl, hb3⟩
              go_wp2
              go_ret
              exact ⟨rfl, hb2'.trans (hb3.mono hb2'.size)⟩
end Go.Proofs.YthimfoonalfoeaaDoor
