/- A copy of rules with others appended: reads as both, one behind the other. -/
import Derived.Test.YtfhdihdafmahgaaGreatDoorV36
import Derived.Test.YtfhdihdafmahgaaGreatDoorV14
import Derived.Test.YtfhdihdafmahgaaGreatDoorV25
import Derived.Test.YtfhdihdafmahgaaGreatDoorV22
/- Layer 6: the program's tokens is walked: rules as tokens. -/
set_option linter.unusedVariables false
set_option linter.unusedSimpArgs false
namespace Go.Proofs.YtfhdihdafmahgaaGreatDoor
open Go.RowKit Rn Tp Ru
theorem take_flat_le {α : Type} (f : α → List GTok) (l : List α) (k : Nat) : ((l.take k).flatMap f).length ≤ (l.flatMap f).length := by
  have h : l.flatMap f = (l.take k).flatMap f ++ (l.drop k).flatMap f := by rw [← List.flatMap_append, List.take_append_drop]
  rw [h, List.length_append]; omega
theorem few_take {l : List Rule} (h : fewR l = true) (k : Nat) : (tokensP (l.take k)).length ≤ 14784 := by
  have h1 := take_flat_le ruleT l k
  have h2 := tokens_le h
  have h3 := (fewR_facts h).1
  unfold tokensP at *
  omega
set_option maxRecDepth 100000 in
set_option maxHeartbeats 16000000 in
theorem ru_tokens (rs : List Rule) (A : Option Addr) (n c : Nat) (w : World) (h : RulesS w (· < w.heap.size) A n rs) (hf : fewR rs = true) :
    Calls Tryz.prog 52 #[.slice A n c] w (TokOut (tokensP rs) w) := by
  have hlen := h.len
  have Hlen := Lib.hid hlen
  have Hf := Lib.hid hf
  have hn8 : n ≤ 8 := by have := (fewR_facts hf).1; omega
  obtain ⟨hi0, hi, hz0, hz1, hz2⟩ := info_take ru_tok_info
  obtain ⟨g4, hg4⟩ : ∃ g4, w.heap.size = g4 := ⟨_, rfl⟩
  obtain ⟨Za, hZa⟩ : ∃ Za, w.alloc (.cells #[.int .i64 0, .string ⟨#[]⟩, .int .i64 0] 58) = Za := ⟨_, rfl⟩
  have bZa : Below g4 w Za := by rw [← hZa, ← hg4]; exact Below.one _ _
  have rZa : RowAt Za g4 [.int .i64 0, .string ⟨#[]⟩, .int .i64 0] := by rw [← hZa, ← hg4]; exact RowAt.new _ _ _
  have hsz : Za.heap.size = g4 + 1 := by rw [← hZa, ← hg4]; simp
  obtain ⟨Zb, hZb⟩ : ∃ Zb, Za.alloc (.cells #[.int .i64 0, .string ⟨#[]⟩, .int .i64 0] 58) = Zb := ⟨_, rfl⟩
  have bZb : Below (g4 + 1) Za Zb := by rw [← hZb, ← hsz]; exact Below.one _ _
  have rZb : RowAt Zb (g4 + 1) [.int .i64 0, .string ⟨#[]⟩, .int .i64 0] := by rw [← hZb, ← hsz]; exact RowAt.new _ _ _
  have rZa' := rZa.below bZb (by omega)
  obtain ⟨m0, n0⟩ := rZa'.2 0 _ rfl
  obtain ⟨m1, n1⟩ := rZa'.2 1 _ rfl
  obtain ⟨m2, n2⟩ := rZa'.2 2 _ rfl
  obtain ⟨m3, n3⟩ := rZb.2 0 _ rfl
  obtain ⟨m4, n4⟩ := rZb.2 1 _ rfl
  obtain ⟨m5, n5⟩ := rZb.2 2 _ rfl
  obtain ⟨W1, hW1⟩ : ∃ W1, (((Zb.setCell ⟨g4, 0, none⟩ (.int .i64 12)).setCell ⟨g4, 1, none⟩ (.string ⟨#[123]⟩)).setCell ⟨g4, 2, none⟩ (.int .i64 0)) = W1 := ⟨_, rfl⟩
  have r1 : RowAt W1 g4 [.int .i64 12, .string ⟨#[123]⟩, .int .i64 0] := by rw [← hW1]; exact ((rZa'.store 0 (.int .i64 12)).store 1 (.string ⟨#[123]⟩)).store 2 (.int .i64 0)
  have b1 : Below g4 w W1 := by rw [← hW1]; exact (((bZa.trans (bZb.mono (by omega))).setCell (p := ⟨g4, 0, none⟩) (Nat.le_refl _) _).setCell (p := ⟨g4, 1, none⟩) (Nat.le_refl _) _).setCell (p := ⟨g4, 2, none⟩) (Nat.le_refl _) _
  have hk1 : ∀ b, b ≠ g4 → W1.heap[b]? = Zb.heap[b]? := fun b hb => by rw [← hW1]; exact ((Below.heap_setCell _ _ _ _ hb).trans (Below.heap_setCell _ _ _ _ hb)).trans (Below.heap_setCell _ _ _ _ hb)
  have hs1 : Zb.heap.size ≤ W1.heap.size := by rw [← hW1]; simp [World.setCell]
  have rb1 : RowAt W1 (g4 + 1) [.int .i64 0, .string ⟨#[]⟩, .int .i64 0] := by
    have e := hk1 (g4 + 1) (by omega)
    exact ⟨Nat.lt_of_lt_of_le rZb.1 hs1, fun j u hu => ⟨(World.cell?_of_block (w := Zb) (a := ⟨g4 + 1, j, none⟩) e).trans (rZb.2 j u hu).1, (World.frozen?_of_block (w := Zb) (a := ⟨g4 + 1, j, none⟩) e).trans (rZb.2 j u hu).2⟩⟩
  obtain ⟨e0, f0⟩ := rb1.2 0 _ rfl
  obtain ⟨e1, f1⟩ := rb1.2 1 _ rfl
  obtain ⟨e2, f2⟩ := rb1.2 2 _ rfl
  obtain ⟨W2, hW2⟩ : ∃ W2, (((W1.setCell ⟨g4 + 1, 0, none⟩ (.int .i64 13)).setCell ⟨g4 + 1, 1, none⟩ (.string ⟨#[125]⟩)).setCell ⟨g4 + 1, 2, none⟩ (.int .i64 0)) = W2 := ⟨_, rfl⟩
  have r2 : RowAt W2 (g4 + 1) [.int .i64 13, .string ⟨#[125]⟩, .int .i64 0] := by rw [← hW2]; exact ((rb1.store 0 (.int .i64 13)).store 1 (.string ⟨#[125]⟩)).store 2 (.int .i64 0)
  have hk2 : ∀ b, b ≠ g4 + 1 → W2.heap[b]? = W1.heap[b]? := fun b hb => by rw [← hW2]; exact ((Below.heap_setCell _ _ _ _ hb).trans (Below.heap_setCell _ _ _ _ hb)).trans (Below.heap_setCell _ _ _ _ hb)
  have hs2 : W1.heap.size ≤ W2.heap.size := by rw [← hW2]; simp [World.setCell]
  have r12 : RowAt W2 g4 [.int .i64 12, .string ⟨#[123]⟩, .int .i64 0] := by
    have e := hk2 g4 (by omega)
    exact ⟨Nat.lt_of_lt_of_le r1.1 hs2, fun j u hu => ⟨(World.cell?_of_block (w := W1) (a := ⟨g4, j, none⟩) e).trans (r1.2 j u hu).1, (World.frozen?_of_block (w := W1) (a := ⟨g4, j, none⟩) e).trans (r1.2 j u hu).2⟩⟩
  have b2 : Below g4 w W2 := by rw [← hW2]; exact ((b1.setCell (p := ⟨g4 + 1, 0, none⟩) (by show g4 ≤ g4 + 1; omega) _).setCell (p := ⟨g4 + 1, 1, none⟩) (by show g4 ≤ g4 + 1; omega) _).setCell (p := ⟨g4 + 1, 2, none⟩) (by show g4 ≤ g4 + 1; omega) _
  clear hlen hf hk1 hk2 rb1 r1 rZa' rZb rZa
  go_enter Tryz.func52, Tryz.ntmps52
  go_wp2_with fail
  obtain ⟨g5, hg5⟩ : ∃ g5, g4 + 1 = g5 := ⟨_, rfl⟩
  have hg45 : g4 ≠ g5 := by omega
  rw [hg5] at r2 ⊢
  go_loopw [3, 14] (fun v i wr => ∃ (k : Nat) (A1 : Option Addr) (c1 : Nat) (l1 : List GTok), k ≤ n ∧ i = .int .i64 (k : Int) ∧ v = .slice A1 l1.length c1 ∧ Hid (l1 = tokensP (rs.take k)) ∧ TR w wr A1 c1 l1 ∧ RowAt wr g4 [.int .i64 12, .string ⟨#[123]⟩, .int .i64 0] ∧ RowAt wr g5 [.int .i64 13, .string ⟨#[125]⟩, .int .i64 0] ∧ (Value.slice A1 l1.length c1).ownBlock ≠ some g4 ∧ (Value.slice A1 l1.length c1).ownBlock ≠ some g5) (fun _ i _ => n - (intOf i).toNat)
  case atStart => exact ⟨0, none, 0, [], by omega, rfl, rfl, rfl, ⟨by rw [hg4]; exact b2, World.ownsRow_nil _ _ _ _⟩, r12, r2, (fun e => by cases e), (fun e => by cases e)⟩
  case round =>
    obtain ⟨k, A1, c1, l1, hk, rfl, rfl, hl1, hT, o4, o5, ne4, ne5⟩ := hrel
    obtain ⟨u, hu⟩ : ∃ x, x = wr := ⟨_, rfl⟩
    subst hu
    have hb := hT.bel
    have hbs := hb.size
    by_cases hlt : k < n
    · obtain ⟨b, off, C1, d1, C2, d2, C3, d3, r, hA, hbl, hrk, x0, x1, x2, x3, hX1, hX2, hX3⟩ := h.at_ hlt
      subst hA
      have hki : (k : Int) < (n : Int) := by omega
      have hfr := (fewR_facts Hf.out).2 r (List.mem_of_getElem? hrk)
      obtain ⟨q1, _, q3, q4, q5⟩ := ruleFew_facts hfr
      obtain ⟨q6, q7⟩ := declsFew_facts q4
      have hdv : ∀ d ∈ r.decls, d.value.length ≤ 1000 := fun d hd => by have := (declFew_facts (q7 d hd)).2.1; omega
      have hdt := declsT_le q4
      have hrt := ruleT_le hfr
      have hrl := ruleT_len r
      have hil : (innerT r).length = (r.decls.flatMap declT).length + (r.margins.flatMap marginT).length := by unfold innerT; rw [List.length_append]
      have hl1l : l1.length ≤ 14784 := by rw [hl1.out]; exact few_take Hf.out k
      have hnx : tokensP (rs.take (k + 1)) = l1 ++ ruleT r := by rw [hl1.out]; unfold tokensP; exact flat_succ ruleT hrk
      replace x0 := (hb.cell (p := ⟨b, off + k * 4, none⟩) hbl).trans x0
      replace x1 := (hb.cell (p := ⟨b, off + k * 4 + 1, none⟩) hbl).trans x1
      replace x2 := (hb.cell (p := ⟨b, off + k * 4 + 2, none⟩) hbl).trans x2
      replace x3 := (hb.cell (p := ⟨b, off + k * 4 + 3, none⟩) hbl).trans x3
      obtain ⟨Zc, hZc⟩ : ∃ Zc, u.alloc (.cells #[.int .i64 0, .slice none 0 0, .slice none 0 0, .slice none 0 0] 39) = Zc := ⟨_, rfl⟩
      have bZc : Below u.heap.size u Zc := by rw [← hZc]; exact Below.one _ _
      have rZc : RowAt Zc u.heap.size [.int .i64 0, .slice none 0 0, .slice none 0 0, .slice none 0 0] := by rw [← hZc]; exact RowAt.new _ _ _
      obtain ⟨t0, s0⟩ := rZc.2 0 _ rfl
      obtain ⟨t1, s1⟩ := rZc.2 1 _ rfl
      obtain ⟨t2, s2⟩ := rZc.2 2 _ rfl
      obtain ⟨t3, s3⟩ := rZc.2 3 _ rfl
      obtain ⟨WA, hWA⟩ : ∃ WA, ((((Zc.setCell ⟨u.heap.size, 0, none⟩ (.int .i64 r.kind)).setCell ⟨u.heap.size, 1, none⟩ (.slice C1 r.prelude.length d1)).setCell ⟨u.heap.size, 2, none⟩ (.slice C2 r.decls.length d2)).setCell ⟨u.heap.size, 3, none⟩ (.slice C3 r.margins.length d3)) = WA := ⟨_, rfl⟩
      have bA : Below u.heap.size u WA := by rw [← hWA]; exact ((((bZc.setCell (p := ⟨u.heap.size, 0, none⟩) (Nat.le_refl _) _).setCell (p := ⟨u.heap.size, 1, none⟩) (Nat.le_refl _) _).setCell (p := ⟨u.heap.size, 2, none⟩) (Nat.le_refl _) _).setCell (p := ⟨u.heap.size, 3, none⟩) (Nat.le_refl _) _)
      have rA : RowAt WA u.heap.size [.int .i64 r.kind, .slice C1 r.prelude.length d1, .slice C2 r.decls.length d2, .slice C3 r.margins.length d3] := by rw [← hWA]; exact ((((rZc.store 0 (.int .i64 r.kind)).store 1 (.slice C1 r.prelude.length d1)).store 2 (.slice C2 r.decls.length d2)).store 3 (.slice C3 r.margins.length d3))
      have neg : (Value.slice A1 l1.length c1).ownBlock ≠ some u.heap.size := fun e => by have := (hT.own.lt _ e).2; omega
      have hTA := hT.below bA
      have o4A := o4.below bA o4.1
      have o5A := o5.below bA o5.1
      obtain ⟨a0, _⟩ := rA.2 0 _ rfl
      obtain ⟨pk, hpk⟩ : ∃ pk, (r.kind == 2) = pk := ⟨_, rfl⟩
      have hhd : headT r = if pk = true then [⟨4, pageS, 0⟩, ⟨1, [], 0⟩] else [] := by
        unfold headT
        by_cases e : r.kind = 2
        · rw [if_pos e, if_pos (by rw [← hpk]; simpa using e)]
        · rw [if_neg e, if_neg (by rw [← hpk]; simpa using e)]
      have Hhd := Lib.hid hhd
      have Hnx := Lib.hid hnx
      have Hl1 := hl1
      have HX1 := Lib.hid hX1
      have HX2 := Lib.hid hX2
      have HX3 := Lib.hid hX3
      have Q5 := Lib.hid q5
      have Hdv := Lib.hid hdv
      have Hil := Lib.hid hil
      have Hrl := Lib.hid hrl
      clear hT o4 o5 hhd hnx hl1 hX1 hX2 hX3 q4 q5 q7 hdv rZc hil hrl hrk
      go_upto_if 20 with (fail)
      go_cut [3] (fun x wx => ∃ (A5 : Option Addr) (c5 : Nat) (l5 : List GTok), x = .slice A5 l5.length c5 ∧ Hid (l5 = l1 ++ headT r) ∧ TR w wx A5 c5 l5 ∧ Far WA wx (.slice A1 l1.length c1) x)
      case first =>
        cases pk with
        | false =>
          have hh : Hid (l1 = l1 ++ headT r) := by show _ = _; rw [Hhd.out]; simp
          go_wp2_with fail
          go_meet
          exact ⟨A1, c1, l1, rfl, hh, hTA, far_below (Below.refl _ _)⟩
        | true =>
          go_wp2_with (at_builtin; refine wpList_append_own_at _ rfl _ _ 32 rfl w.heap.size 58 hi0 _ 3 32 Tryz.underlying32 hi hz0 hz1 hz2 rfl (by decide) _ l1.length (cellsG l1) rfl (hTA.own.alloc _) ⟨WA.heap.size, 0, none⟩ 2 2 [.int .i64 4, .string ⟨#[112, 97, 103, 101]⟩, .int .i64 0, .int .i64 1, .string ⟨#[]⟩, .int .i64 0] rfl rfl (cells_new_l _ _ _) (by intro u hu; simp at hu; rcases hu with rfl | rfl | rfl | rfl | rfl | rfl <;> rfl) (by unfold maxLen; omega) (by omega) (by have := hTA.bel.size; simp; omega) ?_; intro v' w5 hown hg _ hat)
          have hF := far_alloc (v := .slice A1 l1.length c1) hg hat
          obtain ⟨A5, c5, rfl, hT5⟩ := hTA.push (ts := [⟨4, pageS, 0⟩, ⟨1, [], 0⟩]) rfl rfl hown hg
          have hh : Hid (l1 ++ [⟨4, pageS, 0⟩, ⟨1, [], 0⟩] = l1 ++ headT r) := by show _ = _; rw [Hhd.out]; simp
          obtain ⟨l5, hl5⟩ : ∃ l5, l1 ++ [⟨4, pageS, 0⟩, ⟨1, [], 0⟩] = l5 := ⟨_, rfl⟩
          rw [hl5] at hh hT5 hF ⊢
          clear hl5 hown hg hat
          go_wp2_with fail
          go_meet
          exact ⟨A5, c5, l5, rfl, hh, hT5, hF⟩
      case rest =>
        obtain ⟨A5, c5, l5, rfl, hl5, hT5, hF5⟩ := hcut
        obtain ⟨w5, hw5⟩ : ∃ x, x = wc := ⟨_, rfl⟩
        subst hw5
        obtain ⟨r5, neg5⟩ := rA.far hF5 neg
        obtain ⟨o45, ne45⟩ := o4A.far hF5 ne4
        obtain ⟨o55, ne55⟩ := o5A.far hF5 ne5
        have hlh : l5.length = l1.length + (headT r).length := by rw [hl5.out, List.length_append]
        have hP5 : ReadsS w5 (· < w5.heap.size) 3 C1 r.prelude.length (cellsG r.prelude) := HX1.out.below hT5.bel
        have hlim : l5.length + r.prelude.length + 1 + (r.decls.flatMap declT).length ≤ 100000000 := by have := Hrl.out; omega
        clear hTA o4A o5A rA hF5 x0 x1 x2 x3 a0 t0 s0 t1 s1 t2 s2 t3 s3
        go_upto_region 8 with (fail)
        go_cut [3] (fun x wy => TokRet w w5 (.slice A5 l5.length c5) (l5 ++ r.prelude ++ [openT] ++ r.decls.flatMap declT) x wy)
        case first =>
          rename_i hKK
          refine Code.wp_mono ?_ (ru_tok_head _ _ _ _ _ _ _ _ _ _ _ _ _ _ _ _ _ _ _ _ _ _ _ _ _ _ _ _ _ _ _ _ _ _ _ _ _ _ _ _ _ _ _ _ _ _ _ _ _ _ _ _ _ _ _ _ _ _ _ _ _ _ _ hT5 neg5 ne45 r5 o45 hP5 HX2.out (by omega) Hdv.out hlim)
          intro e' a W hQ
          cases e' <;> first | exact hQ.elim | skip
          obtain ⟨v3, ⟨v26, v27, v28, v29, v30, v31, v32, v33, v34, v35, v36, rfl⟩, hRR⟩ := hQ
          refine hKK _ _ ?_
          go_meet
          exact hRR
        case rest =>
          obtain ⟨A6, c6, rfl, hT6, hF6⟩ := hcut
          obtain ⟨w6, hw6⟩ : ∃ x, x = wc := ⟨_, rfl⟩
          subst hw6
          obtain ⟨l6, hl6⟩ : ∃ l6, l5 ++ r.prelude ++ [openT] ++ r.decls.flatMap declT = l6 := ⟨_, rfl⟩
          rw [hl6] at hT6 hF6 ⊢
          obtain ⟨r6, neg6⟩ := r5.far hF6 neg5
          obtain ⟨o46, ne46⟩ := o45.far hF6 ne45
          obtain ⟨o56, ne56⟩ := o55.far hF6 ne55
          obtain ⟨y3, _⟩ := r6.2 3 _ rfl
          obtain ⟨mq, hmq⟩ : ∃ mq, r.margins.length = mq := ⟨_, rfl⟩
          have hmq8 : mq ≤ 8 := by omega
          have hl6l : l6.length = l5.length + r.prelude.length + 1 + (r.decls.flatMap declT).length := by rw [← hl6]; simp only [List.length_append, List.length_cons, List.length_nil]
          rw [hmq] at y3 HX3
          have Hmq := Lib.hid hmq
          have Hl6 := Lib.hid hl6
          clear hmq hl6 hT5 r5 o45 o55 hF6 hP5
          go_wp2_with fail
          go_loopw [3, 40] (fun v i wz => ∃ (j : Nat) (A7 : Option Addr) (c7 : Nat) (l7 : List GTok), j ≤ mq ∧ i = .int .i64 (j : Int) ∧ v = .slice A7 l7.length c7 ∧ Hid (l7 = l6 ++ (r.margins.take j).flatMap marginT) ∧ TR w wz A7 c7 l7 ∧ RowAt wz g4 [.int .i64 12, .string ⟨#[123]⟩, .int .i64 0] ∧ RowAt wz g5 [.int .i64 13, .string ⟨#[125]⟩, .int .i64 0] ∧ (Value.slice A7 l7.length c7).ownBlock ≠ some g4 ∧ (Value.slice A7 l7.length c7).ownBlock ≠ some g5) (fun _ i _ => mq - (intOf i).toNat)
          case atStart => exact ⟨0, A6, c6, l6, by omega, rfl, rfl, (by show _ = _; simp), hT6, o46, o56, ne46, ne56⟩
          case round =>
            obtain ⟨j, A7, c7, l7, hj, rfl, rfl, hl7, hT7, o47, o57, ne47, ne57⟩ := hrel
            obtain ⟨wz, huz⟩ : ∃ x, x = wr := ⟨_, rfl⟩
            subst huz
            have hbz := hT7.bel
            have hl7l : l7.length ≤ l6.length + (r.margins.flatMap marginT).length := by
              have h1 := take_flat_le marginT r.margins j
              rw [hl7.out, List.length_append]; omega
            have hl7m : l7.length ≤ 20000 := by have := Hrl.out; have := Hil.out; omega
            by_cases hjl : j < mq
            · obtain ⟨b', off', C4, d4, m, hA, hbl', hmj, y0, y1, hXm⟩ := HX3.out.at_ hjl
              subst hA
              have hji : (j : Int) < (mq : Int) := by omega
              obtain ⟨z1, z2⟩ := marginFew_facts (Q5.out m (List.mem_of_getElem? hmj))
              obtain ⟨z3, z4⟩ := declsFew_facts z2
              have hdm : ∀ d ∈ m.decls, d.value.length ≤ 1000 := fun d hd => by have := (declFew_facts (z4 d hd)).2.1; omega
              have hmt := declsT_le z2
              replace y0 := (hbz.cell (p := ⟨b', off' + j * 2, none⟩) hbl').trans y0
              replace y1 := (hbz.cell (p := ⟨b', off' + j * 2 + 1, none⟩) hbl').trans y1
              obtain ⟨WB, hWB⟩ : ∃ WB, wz.alloc (.cells #[.string (bytesOf m.name), .slice C4 m.decls.length d4] 41) = WB := ⟨_, rfl⟩
              have bB : Below wz.heap.size wz WB := by rw [← hWB]; exact Below.one _ _
              have rB : RowAt WB wz.heap.size [.string (bytesOf m.name), .slice C4 m.decls.length d4] := by rw [← hWB]; exact RowAt.new _ _ _
              have negm : (Value.slice A7 l7.length c7).ownBlock ≠ some wz.heap.size := fun e => by have := (hT7.own.lt _ e).2; omega
              have hTB := hT7.below bB
              have o4B := o47.below bB o47.1
              have o5B := o57.below bB o57.1
              obtain ⟨p0, _⟩ := rB.2 0 _ rfl
              obtain ⟨k0, _⟩ := o4B.2 0 _ rfl
              obtain ⟨k1, _⟩ := o4B.2 1 _ rfl
              obtain ⟨k2, _⟩ := o4B.2 2 _ rfl
              have Hmj := Lib.hid hmj
              clear hT7 o47 o57 hmj z2 z4
              go_upto_region 13 with (at_builtin; refine wpList_append_own_at _ rfl _ _ 32 rfl w.heap.size 58 hi0 _ 3 32 Tryz.underlying32 hi hz0 hz1 hz2 rfl (by decide) _ l7.length (cellsG l7) rfl (hTB.own.alloc _) ⟨WB.heap.size, 0, none⟩ 2 2 [.int .i64 4, .string (bytesOf m.name), .int .i64 0, .int .i64 12, .string ⟨#[123]⟩, .int .i64 0] rfl rfl (cells_new_l _ _ _) (by intro u hu; simp at hu; rcases hu with rfl | rfl | rfl | rfl | rfl | rfl <;> rfl) (by unfold maxLen; omega) (by omega) (by have := hTB.bel.size; simp; omega) ?_; intro v' w8 hown hg _ hat)
              have hF8 := far_alloc (v := .slice A7 l7.length c7) hg hat
              obtain ⟨A8, c8, rfl, hT8⟩ := hTB.push (ts := [⟨4, m.name, 0⟩, openT]) rfl rfl hown hg
              obtain ⟨l8, hl8⟩ : ∃ l8, l7 ++ [⟨4, m.name, 0⟩, openT] = l8 := ⟨_, rfl⟩
              rw [hl8] at hT8 hF8 ⊢
              have hl8l : l8.length = l7.length + 2 := by rw [← hl8]; simp
              obtain ⟨r8, neg8⟩ := rB.far hF8 negm
              obtain ⟨o48, ne48⟩ := o4B.far hF8 ne47
              obtain ⟨o58, ne58⟩ := o5B.far hF8 ne57
              have Hl8 := Lib.hid hl8
              clear hown hg hat hF8 hTB rB o4B o5B hl8
              refine Code.wp_mono ?_ (ru_tok_margin _ _ _ _ _ _ _ _ _ _ _ _ _ _ _ _ _ _ _ _ _ _ _ _ _ _ _ _ _ _ _ _ _ _ _ _ _ _ _ _ _ _ _ _ _ _ _ _ _ _ _ _ _ _ _ _ _ _ _ _ _ _ _ hT8 neg8 ne58 r8 o58 hXm (by omega) hdm (by omega))
              intro e' a W hQ
              cases e' <;> first | exact hQ.elim | skip
              obtain ⟨v3, ⟨v51, v52, v53, v54, v55, v56, v57, v58, rfl⟩, A9, c9, rfl, hT9, hF9⟩ := hQ
              obtain ⟨o49, ne49⟩ := o48.far hF9 ne48
              obtain ⟨o59, ne59⟩ := o58.far hF9 ne58
              have hnew : Hid (l8 ++ m.decls.flatMap declT ++ [shutT] = l6 ++ (r.margins.take (j + 1)).flatMap marginT) := by
                show _ = _
                rw [flat_succ marginT Hmj.out, ← List.append_assoc, ← hl7.out, ← Hl8.out]
                unfold marginT
                simp
              obtain ⟨l9, hl9⟩ : ∃ l9, l8 ++ m.decls.flatMap declT ++ [shutT] = l9 := ⟨_, rfl⟩
              rw [hl9] at hT9 hnew ne49 ne59 ⊢
              have wj : IntKind.i64.wrap ((j : Int) + 1) = (j : Int) + 1 := by rw [IntKind.wrap_i64]; omega
              clear hl9 hF9 hT8 r8 o48 o58
              go_wp2_with fail
              go_roundw
              case rel => first | exact ⟨j + 1, A9, c9, l9, by omega, by go_num, rfl, hnew, hT9, o49, o59, ne49, ne59⟩ | exact ⟨_, _, _, ⟨j + 1, by omega, by go_num, A9, c9, l9, rfl, hnew, hT9, o49, o59, ne49, ne59⟩, rfl, rfl, rfl⟩
              case measure => simp [intOf]; omega
            · obtain rfl : j = mq := by omega
              have dj : ¬ (j : Int) < (j : Int) := by omega
              obtain ⟨k0, _⟩ := o57.2 0 _ rfl
              obtain ⟨k1, _⟩ := o57.2 1 _ rfl
              obtain ⟨k2, _⟩ := o57.2 2 _ rfl
              have wk : IntKind.i64.wrap ((k : Int) + 1) = (k : Int) + 1 := by rw [IntKind.wrap_i64]; omega
              go_wp2_with (at_builtin; refine wpList_append_own_at _ rfl _ _ 32 rfl w.heap.size 58 hi0 _ 3 32 Tryz.underlying32 hi hz0 hz1 hz2 rfl (by decide) _ l7.length (cellsG l7) rfl (hT7.own.alloc _) ⟨wz.heap.size, 0, none⟩ 1 1 [.int .i64 13, .string ⟨#[125]⟩, .int .i64 0] rfl rfl (cells_new_l _ _ _) (by intro u hu; simp at hu; rcases hu with rfl | rfl | rfl <;> rfl) (by unfold maxLen; omega) (by omega) (by have := hT7.bel.size; simp; omega) ?_; intro v' w10 hown hg _ hat)
              have hF10 := far_alloc (v := .slice A7 l7.length c7) hg hat
              obtain ⟨A10, c10, rfl, hT10⟩ := hT7.push (ts := [shutT]) rfl rfl hown hg
              obtain ⟨o410, ne410⟩ := o47.far hF10 ne47
              obtain ⟨o510, ne510⟩ := o57.far hF10 ne57
              have hnew : Hid (l7 ++ [shutT] = tokensP (rs.take (k + 1))) := by
                show _ = _
                have h7 := hl7.out
                rw [← Hmq.out, List.take_length] at h7
                rw [Hnx.out, h7, ← Hl6.out, hl5.out]
                unfold ruleT innerT
                simp
              obtain ⟨l10, hl10⟩ : ∃ l10, l7 ++ [shutT] = l10 := ⟨_, rfl⟩
              rw [hl10] at hT10 hnew ne410 ne510 ⊢
              clear hl10 hown hg hat hF10 hT7 o47 o57
              go_wp2_with fail
              go_roundw
              case rel => first | exact ⟨k + 1, A10, c10, l10, by omega, by go_num, rfl, hnew, hT10, o410, o510, ne410, ne510⟩ | exact ⟨_, _, _, _, ⟨k + 1, by omega, by go_num, A10, c10, l10, rfl, hnew, hT10, o410, o510, ne410, ne510⟩, rfl, rfl, rfl, rfl⟩
              case measure => simp [intOf]; omega
    · obtain rfl : k = n := by omega
      have dk : ¬ (k : Int) < (k : Int) := by omega
      have hfin : TokOut (tokensP rs) w (.returned (.slice A1 l1.length c1)) u := by
        have h1 := hl1.out
        rw [← Hlen.out, List.take_length] at h1
        rw [← h1]
        exact ⟨A1, c1, rfl, hT⟩
      have HF := Lib.hid hfin
      clear hfin hT
      go_wp2_with fail
      go_ret
      exact HF.out
end Go.Proofs.YtfhdihdafmahgaaGreatDoor
/- Layer 6: the law's own is walked: a copy of rules. -/
set_option linter.unusedVariables false
set_option linter.unusedSimpArgs false
namespace Go.Proofs.YtfhdihdafmahgaaGreatDoor
open Go.RowKit Rn Tp Ru
namespace Ru
/-- rules that may be copied here -/
def smallR (r : Rule) : Prop := r.prelude.length ≤ 1000 ∧ r.decls.length ≤ 1000 ∧ (∀ d ∈ r.decls, d.value.length ≤ 1000000) ∧ r.margins.length ≤ 1000 ∧ ∀ m ∈ r.margins, m.decls.length ≤ 1000 ∧ ∀ d ∈ m.decls, d.value.length ≤ 1000000
end Ru
/-- a row of rules of the call's own -/
structure OJ (rs : List Rule) (w wr : World) (k : Nat) (v : Value) (mr : List MRule) : Prop where
  bel : Below w.heap.size w wr
  own : wr.ownsRow w.heap.size 39 4 v mr.length (cellsR mr)
  rd : RulesM wr (RS w wr v) mr
  e1 : mr.map (·.r) = rs.take k
/-- a row of margin rules of the call's own -/
structure MJ (ms : List Margin) (w wr : World) (k : Nat) (v : Value) (mm : List MMargin) : Prop where
  bel : Below w.heap.size w wr
  own : wr.ownsRow w.heap.size 41 2 v mm.length (cellsM mm)
  rd : MarginsM wr (RS w wr v) mm
  e1 : mm.map (·.m) = ms.take k
section
variable {rs : List Rule} {ms : List Margin} {k : Nat} {w wr W w3 : World} {v v' : Value} {mr : List MRule} {mm : List MMargin} {o : Obj}
theorem OJ.start (rs : List Rule) (w : World) : OJ rs w w 0 (.slice none 0 0) [] := ⟨Below.refl _ _, World.ownsRow_nil _ _ _ _, (fun m hm => by cases hm), (by simp)⟩
theorem OJ.below (h : OJ rs w wr k v mr) (hb : Below wr.heap.size wr W) : OJ rs w W k v mr :=
  ⟨h.bel.trans (hb.mono h.bel.size), own_below h.own hb, (h.rd.keep (Kept.of_below hb (fun b h => h.2.1))).more (fun b hb' => ⟨hb'.1, Nat.lt_of_lt_of_le hb'.2.1 hb.size, hb'.2.2⟩), h.e1⟩
theorem OJ.push {m : MRule} (h : OJ rs w W k v mr) (hm : m.Reads W (RS w W v)) (hw : w.heap.size ≤ W.heap.size)
    (hown : w3.ownsRow w.heap.size 39 4 v' (mr.length + 1) (cellsR mr ++ m.cells)) (hg : (W.alloc o).grownBy w3 v.ownBlock) (hat : v'.ownBlock = v.ownBlock ∨ v'.ownBlock = some (W.heap.size + 1))
    (h1 : rs[k]? = some m.r) : OJ rs w w3 (k + 1) v' (mr ++ [m]) := by
  have hsz : W.heap.size + 1 ≤ w3.heap.size := by have := hg.size; simpa using this
  have hS : ∀ b, RS w W v b → RS w w3 v' b := fun b hb => ⟨hb.1, by have := hb.2.1; omega, by
    rcases hat with e | e
    · rw [e]; exact hb.2.2
    · rw [e]; intro e2; injection e2 with e2; have := hb.2.1; omega⟩
  have hkA : Kept (RS w W v) W (W.alloc o) := Kept.of_alloc o (fun b hb => hb.2.1)
  have hkG : Kept (RS w W v) (W.alloc o) w3 := Kept.of_grown hg (fun b hb => ⟨by have := hb.2.1; simp; omega, fun e => hb.2.2 e.symm⟩)
  have hk := hkA.trans hkG
  refine ⟨push_below h.bel hw h.own hg, by rw [List.length_append, cellsR_snoc]; exact hown, ?_, ?_⟩
  · exact ((h.rd.keep hk).more hS).snoc ((hm.keep hk).more hS)
  · rw [List.map_append, h.e1, List.take_add_one, h1]; rfl
theorem MJ.start (ms : List Margin) (w : World) : MJ ms w w 0 (.slice none 0 0) [] := ⟨Below.refl _ _, World.ownsRow_nil _ _ _ _, (fun m hm => by cases hm), (by simp)⟩
theorem MJ.below (h : MJ ms w wr k v mm) (hb : Below wr.heap.size wr W) : MJ ms w W k v mm :=
  ⟨h.bel.trans (hb.mono h.bel.size), own_below h.own hb, (h.rd.keep (Kept.of_below hb (fun b h => h.2.1))).more (fun b hb' => ⟨hb'.1, Nat.lt_of_lt_of_le hb'.2.1 hb.size, hb'.2.2⟩), h.e1⟩
theorem MJ.push {m : MMargin} (h : MJ ms w W k v mm) (hm : DeclsS W (RS w W v) m.A m.m.decls.length m.m.decls) (hw : w.heap.size ≤ W.heap.size)
    (hown : w3.ownsRow w.heap.size 41 2 v' (mm.length + 1) (cellsM mm ++ m.cells)) (hg : (W.alloc o).grownBy w3 v.ownBlock) (hat : v'.ownBlock = v.ownBlock ∨ v'.ownBlock = some (W.heap.size + 1))
    (h1 : ms[k]? = some m.m) : MJ ms w w3 (k + 1) v' (mm ++ [m]) := by
  have hsz : W.heap.size + 1 ≤ w3.heap.size := by have := hg.size; simpa using this
  have hS : ∀ b, RS w W v b → RS w w3 v' b := fun b hb => ⟨hb.1, by have := hb.2.1; omega, by
    rcases hat with e | e
    · rw [e]; exact hb.2.2
    · rw [e]; intro e2; injection e2 with e2; have := hb.2.1; omega⟩
  have hkA : Kept (RS w W v) W (W.alloc o) := Kept.of_alloc o (fun b hb => hb.2.1)
  have hkG : Kept (RS w W v) (W.alloc o) w3 := Kept.of_grown hg (fun b hb => ⟨by have := hb.2.1; simp; omega, fun e => hb.2.2 e.symm⟩)
  have hk := hkA.trans hkG
  refine ⟨push_below h.bel hw h.own hg, by rw [List.length_append, cellsM_snoc]; exact hown, ?_, ?_⟩
  · exact ((h.rd.keep hk).more hS).snoc ((hm.keep hk).more hS)
  · rw [List.map_append, h.e1, List.take_add_one, h1]; rfl
theorem MJ.done {A : Option Addr} {c : Nat} (h : MJ ms w wr ms.length (.slice A mm.length c) mm) : MarginsS wr (Fresh w wr) A ms.length ms := by
  have he : mm.map (·.m) = ms := by rw [h.e1, List.take_length]
  have hl : ms.length = mm.length := by rw [← he, List.length_map]
  refine ⟨mm, he, ?_, h.rd.more (fun b hb => ⟨hb.1, hb.2.1⟩)⟩
  rw [hl]
  exact ReadsS.of_own h.own (fun b hb => h.own.lt b hb)
theorem OJ.done {A : Option Addr} {n c : Nat} (h : OJ rs w wr rs.length (.slice A n c) mr) : RulesS wr (Fresh w wr) A rs.length rs := by
  have he : mr.map (·.r) = rs := by rw [h.e1, List.take_length]
  have hl : rs.length = mr.length := by rw [← he, List.length_map]
  refine ⟨mr, he, ?_, h.rd.more (fun b hb => ⟨hb.1, hb.2.1⟩)⟩
  rw [hl]
  obtain ⟨A', c', hv, _, _⟩ := own_form h.own
  injection hv with hv1 hv2 hv3
  subst hv1 hv2 hv3
  exact ReadsS.of_own h.own (fun b hb => h.own.lt b hb)
end
def OwnAll (rs : List Rule) (w : World) (e : Ending) (w' : World) : Prop := ∃ (A : Option Addr) (c : Nat) (mr : List MRule), e = .returned (.slice A rs.length c) ∧ OJ rs w w' rs.length (.slice A rs.length c) mr
set_option maxRecDepth 100000 in
set_option maxHeartbeats 8000000 in
theorem ru_own (rs : List Rule) (A : Option Addr) (n c : Nat) (w : World) (h : RulesS w (· < w.heap.size) A n rs) (hn : n ≤ 1000) (hs : ∀ r ∈ rs, smallR r) :
    Calls Tryz.prog 15 #[.slice A n c] w (OwnAll rs w) := by
  have hlen := h.len
  have Hlen := Lib.hid hlen
  have Hs := Lib.hid hs
  obtain ⟨ri0, ri, rz0, rz1, rz2⟩ := info_take ru_rule_info
  clear hlen hs
  go_enter Tryz.func15, Tryz.ntmps15
  go_wp2_with fail
  go_loopw [4, 12] (fun v i wr => ∃ (k : Nat) (A1 : Option Addr) (n1 c1 : Nat) (mr : List MRule), k ≤ n ∧ i = .int .i64 (k : Int) ∧ v = .slice A1 n1 c1 ∧ Hid (n1 = k ∧ mr.length = k) ∧ OJ rs w wr k (.slice A1 n1 c1) mr) (fun _ i _ => n - (intOf i).toNat)
  case atStart => exact ⟨0, none, 0, 0, [], by omega, rfl, rfl, ⟨rfl, rfl⟩, OJ.start rs w⟩
  case round =>
    obtain ⟨k, A1, n1, c1, mr, hk, rfl, rfl, hmr, hJ⟩ := hrel
    obtain ⟨u, hu⟩ : ∃ x, x = wr := ⟨_, rfl⟩
    subst hu
    have hb := hJ.bel
    have hbs := hb.size
    by_cases hlt : k < n
    · obtain ⟨b, off, C1, d1, C2, d2, C3, d3, r, hA, hbl, hrk, f0, f1, f2, f3, hX1, hX2, hX3⟩ := h.at_ hlt
      subst hA
      have hki : (k : Int) < (n : Int) := by omega
      obtain ⟨m1, m2, m3, m4, m5⟩ := Hs.out r (List.mem_of_getElem? hrk)
      replace f0 := (hb.cell (p := ⟨b, off + k * 4, none⟩) hbl).trans f0
      replace f1 := (hb.cell (p := ⟨b, off + k * 4 + 1, none⟩) hbl).trans f1
      replace f2 := (hb.cell (p := ⟨b, off + k * 4 + 2, none⟩) hbl).trans f2
      replace f3 := (hb.cell (p := ⟨b, off + k * 4 + 3, none⟩) hbl).trans f3
      obtain ⟨Zb, hZb⟩ : ∃ Zb, u.alloc (.cells #[.int .i64 0, .slice none 0 0, .slice none 0 0, .slice none 0 0] 39) = Zb := ⟨_, rfl⟩
      have bZb : Below u.heap.size u Zb := by rw [← hZb]; exact (Below.refl _ _).alloc (Nat.le_refl _) _
      have rZb : RowAt Zb u.heap.size [.int .i64 0, .slice none 0 0, .slice none 0 0, .slice none 0 0] := by rw [← hZb]; exact RowAt.new _ _ _
      obtain ⟨mZb0, nZb0⟩ := rZb.2 0 _ rfl
      obtain ⟨mZb1, nZb1⟩ := rZb.2 1 _ rfl
      obtain ⟨mZb2, nZb2⟩ := rZb.2 2 _ rfl
      obtain ⟨mZb3, nZb3⟩ := rZb.2 3 _ rfl
      obtain ⟨WA, hWA⟩ : ∃ WA, ((((Zb.setCell ⟨u.heap.size, 0, none⟩ (.int .i64 r.kind)).setCell ⟨u.heap.size, 1, none⟩ (.slice C1 r.prelude.length d1)).setCell ⟨u.heap.size, 2, none⟩ (.slice C2 r.decls.length d2)).setCell ⟨u.heap.size, 3, none⟩ (.slice C3 r.margins.length d3)) = WA := ⟨_, rfl⟩
      have bA : Below u.heap.size u WA := by rw [← hWA]; exact ((((bZb.setCell (p := ⟨u.heap.size, 0, none⟩) (Nat.le_refl _) _).setCell (p := ⟨u.heap.size, 1, none⟩) (Nat.le_refl _) _).setCell (p := ⟨u.heap.size, 2, none⟩) (Nat.le_refl _) _).setCell (p := ⟨u.heap.size, 3, none⟩) (Nat.le_refl _) _)
      have rA : RowAt WA u.heap.size [.int .i64 r.kind, .slice C1 r.prelude.length d1, .slice C2 r.decls.length d2, .slice C3 r.margins.length d3] := by rw [← hWA]; exact ((((rZb.store 0 (.int .i64 r.kind)).store 1 (.slice C1 r.prelude.length d1)).store 2 (.slice C2 r.decls.length d2)).store 3 (.slice C3 r.margins.length d3))
      have hBA := hb.trans (bA.mono hbs)
      have hgA := rA.1
      have l0 := hJ.own.lt
      have HJ := Lib.hid hJ
      have Hrk := Lib.hid hrk
      have M5 := Lib.hid m5
      have hP0 := hX1.keep (Kept.of_below hBA (fun b h => h))
      have hP1 : ReadsS WA (· < WA.heap.size) 3 C1 r.prelude.length (cellsG r.prelude) := hP0.more (fun b h => Nat.lt_of_lt_of_le h hBA.size)
      have hD1 := hX2.below hBA
      have hX3' := hX3
      clear hJ hrk m5 hX1 hX2 hX3 hP0
      go_upto_region 6 with (fail)
      go_cut [6] (fun x wx => x = .pointer (some ⟨u.heap.size, 0, none⟩) ∧ OwnRet r u.heap.size (.slice C3 r.margins.length d3) WA wx)
      case first =>
        rename_i hKK
        refine Code.wp_mono ?_ (ru_own_fill _ _ _ _ _ _ _ _ _ _ _ _ _ _ _ _ _ _ _ _ _ _ _ _ _ _ _ _ _ _ _ _ _ _ _ _ _ _ _ _ _ _ _ _ _ _ _ _ _ _ rA hP1 hD1 m1 m2 m3)
        intro e' a W hQ
        cases e' <;> first | exact hQ.elim | skip
        obtain ⟨⟨v16, v17, v18, v19, v20, v21, v22, v23, v24, v25, rfl⟩, hRR⟩ := hQ
        refine hKK _ _ ?_
        go_meet
        exact ⟨rfl, hRR⟩
      case rest =>
        obtain ⟨rfl, hRR⟩ := hcut
        obtain ⟨wF, huF⟩ : ∃ x, x = wc := ⟨_, rfl⟩
        subst huF
        obtain ⟨B1, e1, B2, e2, rF, hPF, hDF, hbF⟩ := hRR
        have bF : Below u.heap.size u wF := bA.trans hbF
        have sA := bA.size
        have sF := hbF.size
        have hMF : MarginsS wF (· < wF.heap.size) C3 r.margins.length r.margins := ((hX3'.keep (Kept.of_below (hb.trans (bF.mono hbs)) (fun b h => h))).more (fun b h => Nat.lt_of_lt_of_le h (hb.trans (bF.mono hbs)).size))
        obtain ⟨y3, _⟩ := rF.2 3 _ rfl
        obtain ⟨mq, hmq⟩ : ∃ mq, r.margins.length = mq := ⟨_, rfl⟩
        rw [hmq] at hMF y3 m4
        have Hmq := Lib.hid hmq
        have RF := Lib.hid rF
        have PF := Lib.hid hPF
        have DF := Lib.hid hDF
        clear hmq rF hPF hDF hP1 hD1 rA f0 f1 f2 f3 mZb0 mZb1 mZb2 mZb3 nZb0 nZb1 nZb2 nZb3
        go_wp2_with fail
        go_loopw [7, 29] (fun v i wx => ∃ (j : Nat) (A4 : Option Addr) (n4 c4 : Nat) (mm : List MMargin), j ≤ mq ∧ i = .int .i64 (j : Int) ∧ v = .slice A4 n4 c4 ∧ Hid (n4 = mm.length ∧ mm.length = j) ∧ MJ r.margins wF wx j (.slice A4 n4 c4) mm) (fun _ i _ => mq - (intOf i).toNat)
        case atStart => exact ⟨0, none, 0, 0, [], by omega, rfl, rfl, ⟨rfl, rfl⟩, MJ.start _ wF⟩
        case round =>
          obtain ⟨j, A4, n4, c4, mm, hj, rfl, rfl, hmm, hM⟩ := hrel
          obtain ⟨wx, hux⟩ : ∃ x, x = wr := ⟨_, rfl⟩
          subst hux
          have hbx := hM.bel
          have sx := hbx.size
          by_cases hjl : j < mq
          · obtain ⟨b', off', A5, c5, m, hA, hbl', hmj, g0, g1, hX⟩ := hMF.at_ hjl
            subst hA
            have hji : (j : Int) < (mq : Int) := by omega
            obtain ⟨n1', n2'⟩ := M5.out m (List.mem_of_getElem? hmj)
            replace g0 := (hbx.cell (p := ⟨b', off' + j * 2, none⟩) hbl').trans g0
            replace g1 := (hbx.cell (p := ⟨b', off' + j * 2 + 1, none⟩) hbl').trans g1
            obtain ⟨WB, hWB⟩ : ∃ WB, wx.alloc (.cells #[.string (bytesOf m.name), .slice A5 m.decls.length c5] 41) = WB := ⟨_, rfl⟩
            have bB : Below wx.heap.size wx WB := by rw [← hWB]; exact (Below.refl _ _).alloc (Nat.le_refl _) _
            have rB : RowAt WB wx.heap.size [.string (bytesOf m.name), .slice A5 m.decls.length c5] := by rw [← hWB]; exact RowAt.new _ _ _
            have hBB := hbx.trans (bB.mono sx)
            have hMB := hM.below bB
            have hDB := hX.below hBB
            obtain ⟨q1, q2⟩ := hmm.out
            subst q1
            have hml : mm.length ≤ 1000 := by omega
            have Q2 := Lib.hid q2
            clear q2
            have hoB := hMB.own
            have HM := Lib.hid hMB
            have Hmj := Lib.hid hmj
            have lB := hoB.lt
            clear hM hmj hX hMB
            go_upto_region 11 with (fail)
            refine Code.wp_mono ?_ (ru_own_push _ _ _ _ _ _ _ _ _ _ _ _ _ _ _ _ _ _ _ _ _ _ _ _ _ _ _ _ _ _ _ _ _ _ _ _ _ _ _ _ _ _ _ _ _ _ _ _ _ rB hDB hoB (by have := hBB.size; omega) hml n1' n2')
            intro e' a W hQ
            cases e' <;> first | exact hQ.elim | skip
            obtain ⟨v7, ⟨v33, v34, v35, v36, v37, v38, v39, v40, v41, v42, rfl⟩, A9, c9, w9, o9, hD9, hb9, hown9, hg9, hat9⟩ := hQ
            have hM9 := HM.out.below hb9
            have s9 := hb9.size
            have sB := hBB.size
            have hM10 := hM9.push (m := ⟨m, A9, c9⟩) (hD9.more (fun b hb => ⟨by have := hb.1; omega, hb.2, fun e => by have := (lB b e).2; have := hb.1; omega⟩)) hM9.bel.size hown9 hg9 hat9 Hmj.out
            obtain ⟨A10, c10, hv10, _, _⟩ := own_form hown9
            subst hv10
            have hmm' : Hid (mm.length + 1 = (mm ++ [(⟨m, A9, c9⟩ : MMargin)]).length ∧ (mm ++ [(⟨m, A9, c9⟩ : MMargin)]).length = j + 1) := ⟨by simp, by simp [Q2.out]⟩
            have HM10 := Lib.hid hM10
            have wj : IntKind.i64.wrap ((j : Int) + 1) = (j : Int) + 1 := by rw [IntKind.wrap_i64]; omega
            clear hown9 hg9 hat9 hD9 hM9 hM10 HM hoB hDB rB
            go_wp2_with fail
            go_roundw
            case rel => exact ⟨_, _, _, ⟨j + 1, by omega, by go_num, A10, mm.length + 1, c10, rfl, _, hmm', HM10.out⟩, rfl, rfl, rfl⟩
            case measure => simp [intOf]; omega
          · obtain rfl : j = mq := by omega
            have dj : ¬ (j : Int) < (j : Int) := by omega
            obtain ⟨q1, q2⟩ := hmm.out
            subst q1
            have hMd : MarginsS wx (Fresh wF wx) A4 r.margins.length r.margins := by
              have h1 := hM
              rw [← Hmq.out] at h1
              exact h1.done
            have hgF := RF.out.1
            have rX := RF.out.below hbx hgF
            obtain ⟨x3, xf3⟩ := rX.2 3 _ rfl
            have rG := rX.store 3 (.slice A4 mm.length c4)
            have bG : Below u.heap.size u (wx.setCell ⟨u.heap.size, 3, none⟩ (.slice A4 mm.length c4)) := (bF.trans (hbx.mono (by omega))).setCell (p := ⟨u.heap.size, 3, none⟩) (Nat.le_refl _) _
            have hne : ∀ x, wF.heap.size ≤ x → x ≠ u.heap.size := fun x hx => by omega
            have hPx := PF.out.keep (Kept.of_below hbx (fun b h => h.2))
            have hDx := DF.out.keep (Kept.of_below hbx (fun b h => h.2))
            have hPG := hPx.keep (Kept.setCell (p := ⟨u.heap.size, 3, none⟩) (.slice A4 mm.length c4) (fun x hx => by have := hx.1; show x ≠ u.heap.size; omega))
            have hDG := hDx.keep (Kept.setCell (p := ⟨u.heap.size, 3, none⟩) (.slice A4 mm.length c4) (fun x hx => by have := hx.1; show x ≠ u.heap.size; omega))
            have hMG := hMd.keep (Kept.setCell (p := ⟨u.heap.size, 3, none⟩) (.slice A4 mm.length c4) (fun x hx => by have := hx.1; show x ≠ u.heap.size; omega))
            have szG : wx.heap.size ≤ (wx.setCell ⟨u.heap.size, 3, none⟩ (.slice A4 mm.length c4)).heap.size := by simp [World.setCell]
            obtain ⟨WG, hWG⟩ : ∃ WG, wx.setCell ⟨u.heap.size, 3, none⟩ (.slice A4 mm.length c4) = WG := ⟨_, rfl⟩
            rw [hWG] at rG bG hPG hDG hMG szG
            obtain ⟨z0, _⟩ := rG.2 0 _ rfl
            obtain ⟨z1, _⟩ := rG.2 1 _ rfl
            obtain ⟨z2, _⟩ := rG.2 2 _ rfl
            obtain ⟨z3, _⟩ := rG.2 3 _ rfl
            have hlq : mm.length = r.margins.length := by rw [Hmq.out]; exact q2
            have hJG := HJ.out.below bG
            have hm : MRule.Reads WG (RS w WG (.slice A1 n1 c1)) ⟨r, B1, e1, B2, e2, A4, c4⟩ :=
              ⟨hPG.more (fun b hb => ⟨by have := hb.1; omega, by have := hb.2; omega, fun e => by have := (l0 b e).2; have := hb.1; omega⟩),
                hDG.more (fun b hb => ⟨by have := hb.1; omega, by have := hb.2; omega, fun e => by have := (l0 b e).2; have := hb.1; omega⟩),
                hMG.more (fun b hb => ⟨by have := hb.1; omega, by have := hb.2; omega, fun e => by have := (l0 b e).2; have := hb.1; omega⟩)⟩
            have hwG : w.heap.size ≤ WG.heap.size := hJG.bel.size
            obtain ⟨t1, t2⟩ := hmr.out
            subst t1
            have T2 := Lib.hid t2
            have hoG := hJG.own
            have HJG := Lib.hid hJG
            have Hm := Lib.hid hm
            have wk : IntKind.i64.wrap ((n1 : Int) + 1) = (n1 : Int) + 1 := by rw [IntKind.wrap_i64]; omega
            have hmrl : mr.length ≤ 1000 := by omega
            have Hlq := Lib.hid hlq
            clear t2 q2 hlq
            clear hJG hm rX rG hPx hDx hPG hDG hMG hMd hM HJ
            go_wp2_with (at_builtin; refine wpList_append_own_at _ rfl _ _ 24 rfl w.heap.size 39 ri0 _ 4 80 Tryz.underlying24 ri rz0 rz1 rz2 rfl (by decide) _ mr.length (cellsR mr) rfl (hoG.alloc _) ⟨WG.heap.size, 0, none⟩ 1 1 [.int .i64 r.kind, .slice B1 r.prelude.length e1, .slice B2 r.decls.length e2, .slice A4 mm.length c4] rfl rfl (cells_new4 _ _ _ _ _ _) (by intro u hu; simp at hu; rcases hu with rfl | rfl | rfl | rfl <;> rfl) (by unfold maxLen; omega) (by omega) (by simp; omega) ?_; intro v' w10 hown10 hg10 _ hat)
            rw [Hlq.out] at hown10
            have hJ10 := HJG.out.push (m := ⟨r, B1, e1, B2, e2, A4, c4⟩) Hm.out hwG hown10 hg10 (hat.imp (fun e => e) (fun e => e.trans (by simp))) Hrk.out
            obtain ⟨A11, c11, hv11, _, _⟩ := own_form hown10
            subst hv11
            have hmr' : Hid (mr.length + 1 = n1 + 1 ∧ (mr ++ [(⟨r, B1, e1, B2, e2, A4, c4⟩ : MRule)]).length = n1 + 1) := ⟨by rw [T2.out], by simp [T2.out]⟩
            have HJ10 := Lib.hid hJ10
            clear hown10 hg10 hat Hm hoG HJG hJ10
            go_wp2_with fail
            go_roundw
            case rel => exact ⟨n1 + 1, A11, mr.length + 1, c11, _, by omega, by go_num, rfl, hmr', HJ10.out⟩
            case measure => simp [intOf]; omega
    · obtain rfl : k = n := by omega
      have dk : ¬ (k : Int) < (k : Int) := by omega
      have hfin : OwnAll rs w (.returned (.slice A1 n1 c1)) u := by
        obtain ⟨t1, t2⟩ := hmr.out
        have hl := Hlen.out
        subst t1
        rw [← hl] at hJ ⊢
        exact ⟨A1, c1, mr, rfl, hJ⟩
      have HF := Lib.hid hfin
      clear hfin hJ
      go_wp2_with fail
      go_ret
      exact HF.out
end Go.Proofs.YtfhdihdafmahgaaGreatDoor
set_option linter.unusedVariables false
set_option linter.unusedSimpArgs false
namespace Go.Proofs.YtfhdihdafmahgaaGreatDoor
open Go.RowKit Rn Tp Ru
theorem cellsR_one (l : List MRule) : ∀ u ∈ cellsR l, u.oneCell' = true := by
  intro u hu
  unfold cellsR at hu
  obtain ⟨x, _, h⟩ := List.mem_flatMap.1 hu
  unfold MRule.cells at h
  simp only [List.mem_cons, List.not_mem_nil, or_false] at h
  rcases h with rfl | rfl | rfl | rfl <;> rfl
theorem OJ.app {a b : List Rule} {w W w' : World} {A : Option Addr} {c m B0 : Nat} {mr mb : List MRule} {v' : Value} (h : OJ a w W a.length (.slice A a.length c) mr)
    (hb : mb.map (·.r) = b) (hbm : RulesM W (· < B0) mb) (hB0 : B0 ≤ w.heap.size) (hm : m = mb.length)
    (hown : w'.ownsRow w.heap.size 39 4 v' (a.length + m) (cellsR mr ++ cellsR mb)) (hg : W.grownBy w' (Value.slice A a.length c).ownBlock)
    (hat : v'.ownBlock = (Value.slice A a.length c).ownBlock ∨ v'.ownBlock = some W.heap.size) :
    ∃ A' c', v' = .slice A' (a ++ b).length c' ∧ RulesS w' (· < w'.heap.size) A' (a ++ b).length (a ++ b) ∧ Below w.heap.size w w' := by
  have he : mr.map (·.r) = a := by rw [h.e1, List.take_length]
  have hl : mb.length = b.length := by rw [← hb, List.length_map]
  have hsz := hg.size
  have hws := h.bel.size
  have hlen : (a ++ b).length = a.length + m := by rw [List.length_append, hm, hl]
  obtain ⟨A', c', rfl, _, _⟩ := own_form hown
  have hlt : ∀ k, (Value.slice A a.length c).ownBlock = some k → w.heap.size ≤ k := fun k hk => (h.own.lt k hk).1
  refine ⟨A', c', by rw [hlen], ?_, h.bel.grown hg hws hlt⟩
  refine ⟨mr ++ mb, by rw [List.map_append, he, hb], ?_, ?_⟩
  · rw [hlen]
    have : cellsR (mr ++ mb) = cellsR mr ++ cellsR mb := by unfold cellsR; rw [List.flatMap_append]
    rw [this]
    exact ReadsS.of_own hown (fun b hb => (hown.lt b hb).2)
  · intro x hx
    rcases List.mem_append.1 hx with hx | hx
    · exact ((h.rd x hx).keep (Kept.of_grown hg (fun b hb => ⟨hb.2.1, fun e => hb.2.2 e.symm⟩))).more (fun b hb => Nat.lt_of_lt_of_le hb.2.1 hsz)
    · exact ((hbm x hx).keep (Kept.of_grown hg (fun b hb => ⟨by have : b < B0 := hb; omega, fun e => by have := hlt b e.symm; have : b < B0 := hb; omega⟩))).more (fun b hb => by have : b < B0 := hb; show b < _; omega)
section
variable {P : Program} {w : World}
/-- an append behind a guard that lets it pass -/
theorem wpList_append_reads_g {ops : Array Oper} {rest : List Oper} {o : Oper} {a : Act} {Q : Exit → Act → World → Prop} (hgd : Region.wanted o (yielded ops a.tmps) = true) (s x : Operand) (t : TypeId)
    (ho : o.op = .call { callee := .builtin .append, args := #[s, x], argTypes := #[t, t] })
    (base : Nat) (e : TypeId) (i : TypeInfo) (z : Value) (size bytes : Nat) (ht : P.underlying t = some (.slice e)) (hi : P.info? e = some i) (hz : i.zero = some z)
    (hsize : i.size = size) (hby : i.bytes = bytes) (hzs : z.cells.size = size) (hsz : 0 < size)
    (v : Value) (n : Nat) (xs : List Value) (hs : a.eval s = v) (hown : w.ownsRow base e size v n xs)
    (B : Nat) (A : Option Addr) (m c : Nat) (news : List Value) (hx : a.eval x = .slice A m c) (hr : Reads w B size A m news) (h1 : ∀ u ∈ news, u.oneCell' = true)
    (h63 : n + m ≤ maxLen) (hbytes : (n + m) * bytes ≤ 140737488355328) (hbase : base ≤ w.heap.size)
    (h : ∀ v' w', w'.ownsRow base e size v' (n + m) (xs ++ news) → w.grownBy w' v.ownBlock → (v'.ownBlock = v.ownBlock ∨ v'.ownBlock = some w.heap.size) → wpList P ops Q rest (a.put o.dst v') w') : wpList P ops Q (o :: rest) a w :=
  wpList_step fun K hK => by rw [if_pos hgd]; exact wp_append_reads_at w s x t ho base e i z size bytes ht hi hz hsize hby hzs hsz v n xs hs hown B A m c news hx hr h1 h63 hbytes hbase fun v' w' h2 h3 h4 => hK _ _ (h v' w' h2 h3 h4)
end
end Go.Proofs.YtfhdihdafmahgaaGreatDoor
