/- The law RulesParse is walked: the rules of any bytes are the document's. -/
import Derived.Test.YtfhdihdafmahgaaGreatDoorP24
import Derived.Test.YtfhdihdafmahgaaGreatDoorP34
import Derived.Test.YtfhdihdafmahgaaGreatDoorP11
/- Layer 6: what is parsed of a sheet is no longer than the sheet. Plain laws. -/
set_option linter.unusedVariables false
set_option linter.unusedSimpArgs false
namespace Go.Proofs.YtfhdihdafmahgaaGreatDoor
open Go.RowKit Rn Tp Ru
theorem seg_le (l : List GTok) (k z : Nat) : (segP l k z).length ≤ l.length := by rw [seg_length]; omega
theorem imp_len {v y : List GTok} (h : importantP v = some y) : y.length ≤ v.length := by
  unfold importantP at h
  have hv : v.reverse.length = v.length := List.length_reverse
  split at h
  · cases h
  · rename_i t r hr
    rw [hr] at hv
    split at h
    · have h1 := dropS_len r
      split at h
      · cases h
      · rename_i u q hq
        rw [hq] at h1
        split at h
        · injection h with h
          rw [← h, List.length_reverse]
          have := dropS_len q
          simp only [List.length_cons] at hv h1
          omega
        · cases h
    · cases h
theorem decl_len {s : List GTok} {d : Decl} (h : declP s = some d) : d.value.length ≤ s.length := by
  unfold declP at h
  split at h
  · cases h
  · rename_i t r
    split at h
    · have h1 := dropS_len r
      split at h
      · cases h
      · rename_i c q hq
        rw [hq] at h1
        split at h
        · have h2 := trim_len q
          simp only [List.length_cons] at h1 ⊢
          cases hi : importantP (trimL q) with
          | some y =>
            simp only [hi] at h
            have := imp_len hi
            split at h
            · injection h with h
              rw [← h]
              simp only []
              omega
            · cases h
          | none =>
            simp only [hi] at h
            split at h
            · injection h with h
              rw [← h]
              simp only []
              omega
            · cases h
        · cases h
    · cases h
theorem decls_big {l : List GTok} {k z : Nat} : ∀ d ∈ declsP l k z, d.value.length ≤ l.length := by
  intro d hd
  unfold declsP at hd
  obtain ⟨x, _, hx⟩ := List.mem_filterMap.1 hd
  unfold declOf at hx
  split at hx
  · split at hx
    · cases hx
    · exact Nat.le_trans (decl_len hx) (seg_le _ _ _)
  · cases hx
theorem margins_big {l : List GTok} {k z : Nat} (hz : z ≤ l.length) : ∀ m ∈ marginsP l k z, m.decls.length ≤ l.length ∧ ∀ d ∈ m.decls, d.value.length ≤ l.length := by
  intro m hm
  unfold marginsP at hm
  obtain ⟨x, _, hx⟩ := List.mem_filterMap.1 hm
  unfold marginOf at hx
  split at hx
  · split at hx
    · injection hx with hx
      rw [← hx]
      exact ⟨Nat.le_trans (decls_len _ _ _) (by omega), decls_big⟩
    · cases hx
  · cases hx
theorem end_le (l : List GTok) (e : Nat) : (endP l e).toNat ≤ l.length := by
  rcases end_cases l e with h | ⟨x, h, _, h2⟩
  · rw [h]; simp
  · rw [h]; simpa using h2
theorem ruleAt_big {l : List GTok} (hl : l.length ≤ 1000000) {t : GTok} {k e : Nat} {r : Rule} (h : ruleAt l t k e = some r) : bigR r := by
  cases hg : ruleG l t e with
  | false => rw [rule_no hg] at h; cases h
  | true =>
    obtain ⟨_, _, h3⟩ := rule_yes (k := k) hg
    rw [h3] at h
    split at h
    · injection h with h
      rw [← h]
      have h0 := end_le l e
      have h1 := trim_len (segP l (fromP t k) e)
      have h2 := seg_le l (fromP t k) e
      have h3 := decls_len l (e + 1) (endP l e).toNat
      have h4 := margins_len l (e + 1) (endP l e).toNat
      refine ⟨by simp only []; omega, by simp only []; omega, ?_, fun d hd => Nat.le_trans (decls_big d hd) hl, fun m hm => ?_⟩
      · simp only []
        split
        · omega
        · simp
      · simp only [] at hm
        split at hm
        · obtain ⟨q1, q2⟩ := margins_big h0 m hm
          exact ⟨by omega, fun d hd => Nat.le_trans (q2 d hd) hl⟩
        · cases hm
    · cases h
theorem rulesF_big {l : List GTok} (hl : l.length ≤ 1000000) : ∀ f k, ∀ r ∈ rulesF l f k, bigR r
  | 0, k, r, h => by cases h
  | f + 1, k, r, h => by
    unfold rulesF at h
    split at h
    · cases h
    · split at h
      · exact rulesF_big hl f _ r h
      · rcases List.mem_append.1 h with h | h
        · rename_i t _ _ _
          cases hx : ruleAt l t k (ruleEnd l t k) with
          | none => rw [hx] at h; cases h
          | some y =>
            rw [hx] at h
            simp only [Option.toList_some, List.mem_singleton] at h
            rw [h]; exact ruleAt_big hl hx
        · exact rulesF_big hl f _ r h
theorem parse_big {l : List GTok} (hl : l.length ≤ 1000000) : ∀ r ∈ (parseT l).2, bigR r := by
  intro r hr
  unfold parseT at hr
  split at hr
  · cases hr
  · split at hr
    · cases hr
    · exact rulesF_big hl _ _ r hr
theorem parse_len (l : List GTok) : (parseT l).2.length ≤ 1024 := by
  unfold parseT
  split
  · simp
  · split
    · simp
    · simp only []; omega
/-- what Parse hands back: the rules, and why not -/
def Ru.parseOut (n0 : Nat) (T : List Tk.Tok) : List Rule × Int :=
  if 65536 < n0 ∨ 16384 < T.length then ([], 2) else if (parseT (T.map Tk.Tok.g)).1 = 0 then ((parseT (T.map Tk.Tok.g)).2, 0) else ([], (parseT (T.map Tk.Tok.g)).1)
theorem RulesS.nil_ {w : World} {S : Nat → Prop} {A : Option Addr} : RulesS w S A 0 [] := ⟨[], rfl, ReadsS.nil, fun x hx => by cases hx⟩
theorem ParseRet.out {n0 : Nat} {T : List Tk.Tok} {w : World} {e : Ending} {w' : World} (h : ParseRet n0 T w e w') :
    Below w.heap.size w w' ∧ ∃ A c, e = .returned (.tuple #[.slice A (parseOut n0 T).1.length c, .int .i64 (parseOut n0 T).2]) ∧ RulesS w' (Fresh w w') A (parseOut n0 T).1.length (parseOut n0 T).1 := by
  obtain ⟨hb, h⟩ := h
  refine ⟨hb, ?_⟩
  unfold parseOut
  split at h
  · rename_i h1
    rw [if_pos h1]
    exact ⟨none, 0, h, RulesS.nil_⟩
  · rename_i h1
    rw [if_neg h1]
    split at h
    · rename_i h2
      rw [if_pos h2]
      exact h
    · rename_i h2
      rw [if_neg h2]
      exact ⟨none, 0, h, RulesS.nil_⟩
theorem out_big (n0 : Nat) (T : List Tk.Tok) : (parseOut n0 T).1.length ≤ 1024 ∧ ∀ r ∈ (parseOut n0 T).1, bigR r := by
  unfold parseOut
  split
  · exact ⟨by simp, fun r hr => by cases hr⟩
  · rename_i h1
    split
    · exact ⟨parse_len _, parse_big (by rw [List.length_map]; omega)⟩
    · exact ⟨by simp, fun r hr => by cases hr⟩
end Go.Proofs.YtfhdihdafmahgaaGreatDoor
set_option linter.unusedVariables false
set_option linter.unusedSimpArgs false
namespace Go.Proofs.YtfhdihdafmahgaaGreatDoor
open Go.RowKit Rn Tp Ru
set_option maxRecDepth 100000 in
set_option maxHeartbeats 8000000 in
theorem walk_RulesParse (bs : List UInt8) (A : Option Addr) (n c : Nat) (w : World) (hr : Reads w w.heap.size 1 A n (bs.map b8)) (hm : n ≤ c) (hc : c ≤ maxLen) (hT : Tabs w) (hE : Env w) (hD : Db w) (hB : Boxed w) :
    Calls Tryz.prog 3 #[.slice A n c] w fun e w' => e = .returned (.bool true) ∧ Below w.heap.size w w' := by
  have cAw := fun (W : World) (h : Below w.heap.size w W) => ru_awake W (hT.below h) (hE.below h) (hB.below h)
  by_cases hbig : 600 < n
  · have d0 : (600 : Int) < (n : Int) := by omega
    have cA := cAw w (Below.refl _ _)
    clear cAw hr
    go_enter Tryz.func3, Tryz.ntmps3
    go_wp2_with fail
    refine cA.mono ?_
    rintro e w1 ⟨rfl, hb1⟩
    go_wp2_with fail
    go_ret
    exact ⟨rfl, hb1⟩
  · have d0 : ¬ (600 : Int) < (n : Int) := by omega
    have cP := ru_parse bs A n c w hr hm hc hT hE hB
    have cR := fun (W : World) (h : Below w.heap.size w W) => rr_parse bs A n c W ((hr.below h).more h.size) hm hc
    obtain ⟨T, hTT⟩ : ∃ T, Tk.scanT (readP bs) = T := ⟨_, rfl⟩
    rw [hTT] at cP
    simp only [hTT] at cR
    obtain ⟨ho1, ho2⟩ := out_big n T
    clear hTT hr
    go_enter Tryz.func3, Tryz.ntmps3
    go_wp2_with fail
    refine cP.mono ?_
    intro e w1 hp
    obtain ⟨hb1, A1, c1, rfl, hS1⟩ := hp.out
    have s1 := hb1.size
    have cR1 := cR w1 hb1
    clear cP cR hp
    go_wp2_with fail
    refine cR1.mono ?_
    intro e w2 hp
    obtain ⟨hb2, A2, c2, rfl, hS2⟩ := hp.out
    have hB2 := hb1.trans (hb2.mono s1)
    have s2 := hB2.size
    obtain ⟨rs, hrs⟩ : ∃ rs, (parseOut n T).1 = rs := ⟨_, rfl⟩
    obtain ⟨er, her⟩ : ∃ er, (parseOut n T).2 = er := ⟨_, rfl⟩
    rw [hrs] at hS1 hS2 ho1 ho2
    rw [hrs, her]
    have h1 := (hS1.more (S' := (· < w1.heap.size)) (fun b h => h.2)).below hb2
    have h2 := hS2.more (S' := (· < w2.heap.size)) (fun b h => h.2)
    have cS := ru_same rs rs A1 A2 rs.length rs.length c1 c2 w2 h1 h2 (by omega) ho2
    rw [decide_eq_true rfl] at cS
    have dee : (er == er) = true := by simp
    clear cR1 hp hS1 hS2 h1 h2 hrs her
    go_wp2_with fail
    refine cS.mono ?_
    rintro e w3 ⟨rfl, hb3⟩
    have hB3 := hB2.trans (hb3.mono s2)
    clear cS
    go_wp2_with fail
    refine (cAw _ hB3).mono ?_
    rintro e w4 ⟨rfl, hb4⟩
    go_wp2_with fail
    go_ret
    exact ⟨rfl, hB3.trans (hb4.mono hB3.size)⟩
end Go.Proofs.YtfhdihdafmahgaaGreatDoor
