/- Layer 3: a character's token is walked: the program's map of kinds is made, and read. -/
import Derived.Test.YtfhdihdafmahgaaGreatDoorB04
import Derived.ScopeJumps
import Derived.WalkMore
import Derived.WalkSmall
import Derived.Lib.SliceRun
import Derived.Test.YtfhdihdafmahgaaGreatDoorB03
import Derived.BigRegion
import Derived.Maps.OwnSet
import Derived.Handy
/- Layer 5: the program's Ends is walked. -/
set_option linter.unusedVariables false
set_option linter.unusedSimpArgs false
namespace Go.Proofs.YtfhdihdafmahgaaGreatDoor
open Go.RowKit Rn Tp Ru
/-- a block holds so many numbers -/
structure OutAt (w : World) (g n : Nat) (φ : Nat → Int) : Prop where
  lt : g < w.heap.size
  cell : ∀ j, j < n → w.cell? ⟨g, j, none⟩ = some (.int .i64 (φ j)) ∧ w.frozen? ⟨g, j, none⟩ = false
theorem OutAt.keep {w w' : World} {g n : Nat} {φ : Nat → Int} (h : OutAt w g n φ) (hs : w.heap.size ≤ w'.heap.size) (hk : w'.heap[g]? = w.heap[g]?) : OutAt w' g n φ :=
  ⟨Nat.lt_of_lt_of_le h.lt hs, fun j hj => ⟨(World.cell?_of_block (w := w) (a := ⟨g, j, none⟩) hk).trans (h.cell j hj).1, (World.frozen?_of_block (w := w) (a := ⟨g, j, none⟩) hk).trans (h.cell j hj).2⟩⟩
theorem OutAt.below {w w' : World} {g n B : Nat} {φ : Nat → Int} (h : OutAt w g n φ) (hb : Below B w w') (hg : g < B) : OutAt w' g n φ := h.keep hb.size (hb.block g hg)
theorem OutAt.grown {w w' : World} {g n : Nat} {φ : Nat → Int} {row : Option Nat} (h : OutAt w g n φ) (hg : w.grownBy w' row) (hr : some g ≠ row) : OutAt w' g n φ := h.keep hg.size (hg.block g h.lt hr)
theorem OutAt.drew {w : World} {g n : Nat} {φ : Nat → Int} (h : OutAt w g n φ) : OutAt w.drew g n φ := ⟨h.lt, h.cell⟩
theorem OutAt.drewN {w : World} {g n : Nat} {φ : Nat → Int} (h : OutAt w g n φ) (k : Nat) : OutAt (w.drewN k) g n φ := ⟨h.lt, h.cell⟩
theorem OutAt.store {w : World} {g n : Nat} {φ : Nat → Int} (h : OutAt w g n φ) (k : Nat) (hk : k < n) (v : Int) : OutAt (w.setCell ⟨g, k, none⟩ (.int .i64 v)) g n (fun j => if j = k then v else φ j) := by
  refine ⟨by simpa [World.setCell] using h.lt, fun j hj => ?_⟩
  have hfr : ∀ p, (w.setCell ⟨g, k, none⟩ (.int .i64 v)).frozen? p = w.frozen? p := fun p => World.frozen?_setCell _ _ _ _
  rw [hfr]
  refine ⟨?_, (h.cell j hj).2⟩
  by_cases e : j = k
  · subst e
    rw [if_pos rfl]
    exact World.cell?_setCell_same w ⟨g, j, none⟩ (.int .i64 v) (h.cell j hj).1
  · rw [if_neg e]
    rw [World.cell?_setCell_other w _ _ _ (by intro h2; injection h2 with _ h2; exact e h2.symm)]
    exact (h.cell j hj).1
theorem OutAt.congr {w : World} {g n : Nat} {φ ψ : Nat → Int} (h : OutAt w g n φ) (he : ∀ j, j < n → φ j = ψ j) : OutAt w g n ψ := ⟨h.lt, fun j hj => by rw [← he j hj]; exact h.cell j hj⟩
theorem OutAt.of_own {w : World} {base g n c : Nat} {e : TypeId} {z : Int} (h : w.ownsRow base e 1 (.slice (some ⟨g, 0, none⟩) n c) n (List.replicate n (Value.int .i64 z))) (hn : 0 < n ∨ g < w.heap.size) : OutAt w g n (fun _ => z) := by
  obtain ⟨_, ⟨hv, _⟩ | ⟨g', cap, cur, hv, hg, hh, hnc, _, hsz, htake⟩⟩ := h
  · cases hv
  · injection hv with hv _ hv2
    injection hv with hv
    injection hv with hv
    subst hv hv2
    refine ⟨(Array.getElem?_eq_some_iff.1 hh).1, fun j hj => ?_⟩
    have h1 : cur[j]? = some (Value.int .i64 z) := by
      have : (cur.toList.take (n * 1))[j]? = (List.replicate n (Value.int .i64 z))[j]? := by rw [htake]
      rw [List.getElem?_take, if_pos (by omega), List.getElem?_replicate, if_pos hj, Array.getElem?_toList] at this
      exact this
    exact ⟨by simp [World.cell?, hh, h1], by simp [World.frozen?, hh]⟩
/-- what stands in the cells when so many tokens are gone through -/
def partE (l : List GTok) (k : Nat) (j : Nat) : Int := if j < k then (if j ∈ stackP l k then -1 else endP l j) else 0
def stackV (l : List GTok) (k : Nat) : List Value := (stackP l k).reverse.map fun j => Value.int .i64 ((j : Nat) : Int)
theorem stackV_len (l : List GTok) (k : Nat) : (stackV l k).length = (stackP l k).length := by simp [stackV]
theorem stack_len (l : List GTok) : ∀ k, (stackP l k).length ≤ k
  | 0 => Nat.le_refl _
  | k + 1 => by
    have ih := stack_len l k
    rw [stack_succ]
    unfold stepP
    split
    · omega
    · split
      · simp; omega
      · split
        · simp
        · rename_i heq
          rw [heq] at ih
          simp only [List.length_cons] at ih
          split
          · omega
          · first | (rw [heq]; simp; omega) | (simp; omega)
structure EJ (w w' : World) (l : List GTok) (k : Nat) (v : Value) : Prop where
  bel : Below w.heap.size w w'
  out : OutAt w' w.heap.size l.length (partE l k)
  own : w'.ownsRow (w.heap.size + 1) 3 1 v (stackP l k).length (stackV l k)
  deep : ∀ i, i ≤ k → (stackP l i).length ≤ 64
  kn : k ≤ l.length
theorem step_push {l : List GTok} {k : Nat} {t : GTok} (ht : l[k]? = some t) (ho : opensP t ≠ []) : stackP l (k + 1) = k :: stackP l k := by
  rw [stack_succ]; unfold stepP; rw [ht]; simp only [if_pos ho]
theorem step_pop {l : List GTok} {k p : Nat} {t : GTok} {r : List Nat} (ht : l[k]? = some t) (ho : opensP t = []) (hs : stackP l k = p :: r) (h13 : t.kind = 13) (hp : l[p]?.map opensP = some t.text) : stackP l (k + 1) = r := by
  rw [stack_succ]; unfold stepP; rw [ht, hs]; simp only [ho]; rw [if_neg (by simp), if_pos ⟨h13, hp⟩]
theorem step_stay {l : List GTok} {k : Nat} {t : GTok} (ht : l[k]? = some t) (ho : opensP t = []) (h : ∀ p r, stackP l k = p :: r → ¬ (t.kind = 13 ∧ l[p]?.map opensP = some t.text)) : stackP l (k + 1) = stackP l k := by
  rw [stack_succ]; unfold stepP; rw [ht]; simp only [ho]; rw [if_neg (by simp)]
  cases hs : stackP l k with
  | nil => rfl
  | cons p r => simp only []; rw [if_neg (h p r hs)]
/-- what is popped ends there -/
theorem pop_end {l : List GTok} {k p : Nat} {r : List Nat} (hk : k < l.length) (hs : stackP l k = p :: r) (hs2 : stackP l (k + 1) = r) : endP l p = (k : Int) := by
  have hp : p ∈ stackP l k := by rw [hs]; simp
  have hlt := stack_lt l k p hp
  obtain ⟨t, ht, ho⟩ := stack_open l k p hp
  have hsort := stack_sorted l k
  rw [hs] at hsort
  refine end_eq ht ho hlt (by omega) (fun i hi hik => ?_) (fun _ => ?_)
  · refine Classical.byContradiction fun hn => ?_
    have := gone_on l hn (by omega) (k - (i + 1))
    rw [show i + 1 + (k - (i + 1)) = k by omega] at this
    exact this hp
  · rw [hs2]
    intro h
    have := (List.pairwise_cons.1 hsort).1 p h
    omega
/-- what is open at the end ends there -/
theorem last_end {l : List GTok} {p : Nat} (hp : p ∈ stackP l l.length) : endP l p = (l.length : Int) := by
  have hlt := stack_lt l _ p hp
  obtain ⟨t, ht, ho⟩ := stack_open l _ p hp
  refine end_eq ht ho hlt (Nat.le_refl _) (fun i hi hik => ?_) (fun h => absurd h (Nat.lt_irrefl _))
  refine Classical.byContradiction fun hn => ?_
  have := gone_on l hn (by omega) (l.length - (i + 1))
  rw [show i + 1 + (l.length - (i + 1)) = l.length by omega] at this
  exact this hp
theorem no_open {l : List GTok} {k : Nat} {t : GTok} (ht : l[k]? = some t) (ho : opensP t = []) : endP l k = -1 := end_else fun u hu => by rw [ht] at hu; injection hu with hu; rw [← hu]; exact ho
/-- the cells, a token further on -/
theorem part_push {l : List GTok} {k : Nat} {t : GTok} (ht : l[k]? = some t) (ho : opensP t ≠ []) (j : Nat) : (if j = k then -1 else partE l k j) = partE l (k + 1) j := by
  unfold partE
  rw [step_push ht ho]
  by_cases e : j = k
  · subst e; simp
  · simp only [if_neg e, List.mem_cons, e, false_or]
    by_cases h : j < k
    · rw [if_pos h, if_pos (show j < k + 1 by omega)]; simp
    · rw [if_neg h, if_neg (show ¬ j < k + 1 by omega)]; simp
theorem part_stay {l : List GTok} {k : Nat} {t : GTok} (ht : l[k]? = some t) (ho : opensP t = []) (hs : stackP l (k + 1) = stackP l k) (j : Nat) : (if j = k then -1 else partE l k j) = partE l (k + 1) j := by
  unfold partE
  rw [hs]
  by_cases e : j = k
  · subst e
    have : j ∉ stackP l j := fun h => Nat.lt_irrefl _ (stack_lt l j j h)
    rw [if_pos rfl, if_pos (by omega), if_neg this, no_open ht ho]
  · simp only [if_neg e]
    by_cases h : j < k
    · rw [if_pos h, if_pos (show j < k + 1 by omega)]
    · rw [if_neg h, if_neg (show ¬ j < k + 1 by omega)]
theorem part_pop {l : List GTok} {k p : Nat} {t : GTok} {r : List Nat} (ht : l[k]? = some t) (ho : opensP t = []) (hs : stackP l k = p :: r) (hs2 : stackP l (k + 1) = r) (j : Nat) : (if j = p then (k : Int) else if j = k then -1 else partE l k j) = partE l (k + 1) j := by
  have hk : k < l.length := (List.getElem?_eq_some_iff.1 ht).1
  have hp : p < k := stack_lt l k p (by rw [hs]; simp)
  have hpr : p ∉ r := by
    have hsort := stack_sorted l k
    rw [hs] at hsort
    intro h
    have := (List.pairwise_cons.1 hsort).1 p h
    omega
  unfold partE
  rw [hs2]
  by_cases e : j = p
  · subst e
    rw [if_pos rfl, if_pos (by omega), if_neg hpr, pop_end hk hs hs2]
  · rw [if_neg e]
    by_cases e2 : j = k
    · subst e2
      have : j ∉ r := fun h => Nat.lt_irrefl _ (stack_lt l j j (by rw [hs]; exact List.mem_cons_of_mem _ h))
      rw [if_pos rfl, if_pos (by omega), if_neg this, no_open ht ho]
    · simp only [if_neg e2]
      by_cases h : j < k
      · rw [if_pos h, if_pos (show j < k + 1 by omega), hs]; simp [e]
      · rw [if_neg h, if_neg (show ¬ j < k + 1 by omega)]
theorem ru_int_info : (Tryz.prog.info? 3).map (fun i => (i.zero, i.size, i.bytes)) = some (some (.int .i64 0), 1, 8) := by kernel_rfl
theorem info_take {o : Option TypeInfo} {z : Value} {s b : Nat} (h : o.map (fun i => (i.zero, i.size, i.bytes)) = some (some z, s, b)) : ∃ i, o = some i ∧ i.zero = some z ∧ i.size = s ∧ i.bytes = b := by
  cases o with
  | none => cases h
  | some i => simp at h; exact ⟨i, rfl, h.1, h.2.1, h.2.2⟩
/-- what holds at each jump: over the whole frame -/
def EJump (w : World) (A : Option Addr) (n c : Nat) (l : List GTok) (a' : Act) (w' : World) : Prop :=
  ∃ (k : Nat) (v u1 u7 u8 u9 u10 u11 u12 u13 u14 u15 u16 u17 u18 u19 u20 u21 u22 u23 u24 u25 u26 u27 u28 u29 u30 u31 u32 u33 u34 u35 u36 u37 u38 u39 u40 u41 u42 u43 u44 u45 u46 u47 u48 u49 u50 u51 u52 u53 u54 u55 u56 u57 u58 u59 u60 u61 u62 u63 u64 u65 u66 u67 u68 u69 u70 u71 u72 u73 u74 u75 u76 u77 u78 u79 u80 u81 u82 u83 u84 : Value), a' = { tmps := #[.slice A n c, u1, .slice none 0 0, .int .i64 0, .slice (some ⟨w.heap.size, 0, none⟩) n n, v, .int .i64 (k : Int), u7, u8, u9, u10, u11, u12, u13, u14, u15, u16, u17, u18, u19, u20, u21, u22, u23, u24, u25, u26, u27, u28, u29, u30, u31, u32, u33, u34, u35, u36, u37, u38, u39, u40, u41, u42, u43, u44, u45, u46, u47, u48, u49, u50, u51, u52, u53, u54, u55, u56, u57, u58, u59, u60, u61, u62, u63, u64, u65, u66, u67, u68, u69, u70, u71, u72, u73, u74, u75, u76, u77, u78, u79, u80, u81, u82, u83, u84], defers := [] } ∧ EJ w w' l k v
theorem ownsRow_base {w : World} {base base' : Nat} {e : TypeId} {size : Nat} {v : Value} {n : Nat} {xs : List Value} (h : w.ownsRow base e size v n xs) (hb : base' ≤ base) : w.ownsRow base' e size v n xs := by
  obtain ⟨h1, h2⟩ := h
  refine ⟨h1, ?_⟩
  rcases h2 with h2 | ⟨g, cap, cur, a1, a2, a3⟩
  · exact .inl h2
  · exact .inr ⟨g, cap, cur, a1, by omega, a3⟩
def atOf (a : Act) : Nat := (intOf (a.tmps.getD 6 undef)).toNat
def EndsRet (l : List GTok) (n : Nat) (w : World) (e : Ending) (w' : World) : Prop :=
  if deepB l = true then e = .returned (.tuple #[.slice (some ⟨w.heap.size, 0, none⟩) n n, .int .i64 0]) ∧ EndsS w' (fun b => b = w.heap.size) (some ⟨w.heap.size, 0, none⟩) n l ∧ w.heap.size < w'.heap.size
  else e = .returned (.tuple #[.slice none 0 0, .int .i64 3])
set_option maxRecDepth 100000 in
set_option maxHeartbeats 4000000 in
theorem nest_ends (l : List GTok) (A : Option Addr) (n c : Nat) (w : World) (h : ReadsS w (· < w.heap.size) 3 A n (cellsG l)) (hn : n ≤ 1000000) :
    Calls Tryz.prog 22 #[.slice A n c] w fun e w' => Below w.heap.size w w' ∧ EndsRet l n w e w' := by
  have hlen := h.toks_len
  have Hlen := Lib.hid hlen
  clear hlen
  obtain ⟨hi0, hi, hz0, hz1, hz2⟩ := info_take ru_int_info
  go_enter Tryz.func22, Tryz.ntmps22
  go_wp2_with fail
  refine wp_scope_pass 0 (EJump w A n c l) (fun a' _ => n - atOf a') rfl ?_ ?_
  · rintro a' w1 ⟨k, v, u1, u7, u8, u9, u10, u11, u12, u13, u14, u15, u16, u17, u18, u19, u20, u21, u22, u23, u24, u25, u26, u27, u28, u29, u30, u31, u32, u33, u34, u35, u36, u37, u38, u39, u40, u41, u42, u43, u44, u45, u46, u47, u48, u49, u50, u51, u52, u53, u54, u55, u56, u57, u58, u59, u60, u61, u62, u63, u64, u65, u66, u67, u68, u69, u70, u71, u72, u73, u74, u75, u76, u77, u78, u79, u80, u81, u82, u83, u84, rfl, hJ⟩
    obtain ⟨A2, c2, rfl, hcc, hcm⟩ := own_form hJ.own
    have hrow := hJ.own.lt
    have hdp := hJ.deep
    have hsl := stack_len l k
    have hkl := hJ.kn
    have hgl : w.heap.size < w1.heap.size := hJ.out.lt
    have hbs := hJ.bel.size
    have hd64 := hJ.deep k (Nat.le_refl _)
    by_cases hlt : k < n
    · obtain ⟨b, off, t, rfl, hbl, ht, c0, c1, c2'⟩ := h.tok hlt
      have d0 : ((k : Int) == (n : Int)) = false := by simp; omega
      have d1 : (k : Int) < (n : Int) := by omega
      replace c0 := (hJ.bel.cell (p := ⟨b, off + k * 3, none⟩) hbl).trans c0
      replace c1 := (hJ.bel.cell (p := ⟨b, off + k * 3 + 1, none⟩) hbl).trans c1
      replace c2' := (hJ.bel.cell (p := ⟨b, off + k * 3 + 2, none⟩) hbl).trans c2'
      obtain ⟨WA, hWA⟩ : ∃ WA, w1.alloc (.cells #[.int .i64 t.kind, .string (bytesOf t.text), .int .i64 t.n] 58) = WA := ⟨_, rfl⟩
      have bA : Below w1.heap.size w1 WA := by rw [← hWA]; exact (Below.refl _ _).alloc (Nat.le_refl _) _
      have rA : RowAt WA w1.heap.size [.int .i64 t.kind, .string (bytesOf t.text), .int .i64 t.n] := by rw [← hWA]; exact RowAt.new _ _ _
      have oA := hJ.out.below bA hgl
      obtain ⟨q1, q2⟩ := oA.cell k (by rw [Hlen.out]; exact hlt)
      have oB := oA.store k (by rw [Hlen.out]; exact hlt) (-1)
      obtain ⟨WB, hWB⟩ : ∃ WB, WA.setCell ⟨w.heap.size, k, none⟩ (.int .i64 (-1)) = WB := ⟨_, rfl⟩
      rw [hWB] at oB
      have ownB : WB.ownsRow (w.heap.size + 1) 3 1 (.slice A2 (stackP l k).length c2) (stackP l k).length (stackV l k) := by
        rw [← hWB]; exact ownsRow_setCell_below (own_below hJ.own bA) (by simp) _
      have bB : Below w.heap.size w WB := by
        rw [← hWB]; exact (hJ.bel.trans (bA.mono hbs)).setCell (Nat.le_refl _) _
      have rB : RowAt WB w1.heap.size [.int .i64 t.kind, .string (bytesOf t.text), .int .i64 t.n] := by
        refine ⟨by rw [← hWB]; simpa [World.setCell] using rA.1, fun j u hu => ?_⟩
        obtain ⟨z1, z2⟩ := rA.2 j u hu
        rw [← hWB]
        exact ⟨(World.cell?_setCell_other WA _ _ _ (by intro e; injection e with e; omega)).trans z1, by rw [World.frozen?_setCell]; exact z2⟩
      obtain ⟨y0, _⟩ := rB.2 0 _ rfl
      obtain ⟨y1, _⟩ := rB.2 1 _ rfl
      obtain ⟨y2, _⟩ := rB.2 2 _ rfl
      have hlB := rB.1
      clear hJ rA oA
      go_wp2_with fail
      refine (nest_opens t WB).mono ?_
      rintro e w2 ⟨rfl, hb2⟩
      have ht0 := Lib.hid ht
      have oC := oB.below hb2 (by omega)
      have ownC := own_below ownB hb2
      have bC : Below w.heap.size w w2 := bB.trans (hb2.mono (by omega))
      replace y0 := (hb2.cell (p := ⟨w1.heap.size, 0, none⟩) hlB).trans y0
      replace y1 := (hb2.cell (p := ⟨w1.heap.size, 1, none⟩) hlB).trans y1
      have hs2 := hb2.size
      have hl2 : w1.heap.size < w2.heap.size := by omega
      clear rB oB ownB bB q1 q2 hWB hWA c0 c1 c2' bA y2
      by_cases ho : opensP t = []
      · have Ho := Lib.hid ho
        obtain ⟨s1, s2⟩ := txt_is ho
        have hw1 : IntKind.i64.wrap ((k : Int) + 1) = (k : Int) + 1 := by rw [IntKind.wrap_i64]; omega
        have hstay : stackP l (k + 1) = stackP l k → Hid (∀ W, Below w2.heap.size w2 W → EJ w W l (k + 1) (.slice A2 (stackP l k).length c2)) := fun hs W hW =>
          ⟨bC.trans (hW.mono (by omega)), (oC.below hW (by omega)).congr (fun j _ => part_stay ht ho hs j), by
            have := own_below ownC hW
            unfold stackV at this ⊢
            rw [hs]; exact this, fun i hi => by
            rcases Nat.lt_or_ge i (k + 1) with h1 | h1
            · exact hdp i (by omega)
            · rw [show i = k + 1 by omega, hs]; omega, by rw [Hlen.out]; omega⟩
        by_cases hk13 : t.kind = 13
        · have k13 : (t.kind == 13) = true := by simpa using hk13
          obtain ⟨S, hS⟩ : ∃ S, stackP l k = S := ⟨_, rfl⟩
          cases S with
          | nil =>
            have hJ2 := hstay (step_stay ht ho (fun p r hpr => by rw [hS] at hpr; cases hpr))
            obtain ⟨m, hmm⟩ : ∃ m, (stackP l k).length = m := ⟨_, rfl⟩
            have d64 : decide ((0 : Int) < (m : Int)) = false := by rw [← hmm, hS]; simp
            have d65 : decide (0 < m) = false := by rw [← hmm, hS]; simp
            rw [hmm] at ownC hcc hsl hd64 hstay hJ2 ⊢
            clear hmm
            clear hstay ownC oC hdp hd64 ho ht ht0 hS hk13
            go_wp2_with fail
            go_quiet (fail)
            go_wp2_with fail
            go_step3
            refine ⟨rfl, ⟨k + 1, _, _, _, _, _, _, _, _, _, _, _, _, _, _, _, _, _, _, _, _, _, _, _, _, _, _, _, _, _, _, _, _, _, _, _, _, _, _, _, _, _, _, _, _, _, _, _, _, _, _, _, _, _, _, _, _, _, _, _, _, _, _, _, _, _, _, _, _, _, _, _, _, _, _, _, _, _, _, _, _, rfl, hJ2.out _ (below_drewN (Below.refl _ _) _)⟩, ?_⟩
            show n - ((k : Int) + 1).toNat < n - (k : Int).toNat
            omega
          | cons p r =>
            have hm : (stackP l k).length = r.length + 1 := by rw [hS]; rfl
            obtain ⟨m, hmm⟩ : ∃ m, (stackP l k).length = m := ⟨_, rfl⟩
            have hp : p < k := stack_lt l k p (by rw [hS]; simp)
            obtain ⟨b', off', tp, hA', _, htp, e0, e1, e2⟩ := h.tok (k := p) (by omega)
            injection hA' with hA'
            injection hA' with q1 q2
            subst q1 q2
            have bC0 := bC
            replace e0 := (bC0.cell (p := ⟨b, off + p * 3, none⟩) hbl).trans e0
            replace e1 := (bC0.cell (p := ⟨b, off + p * 3 + 1, none⟩) hbl).trans e1
            replace e2 := (bC0.cell (p := ⟨b, off + p * 3 + 2, none⟩) hbl).trans e2
            have hVm : (stackV l k)[m - 1]? = some (.int .i64 (p : Int)) := by
              unfold stackV
              rw [hS, List.map_reverse, List.map_cons, List.reverse_cons, show m - 1 = (List.map (fun j : Nat => Value.int .i64 (j : Int)) r).reverse.length by simp; omega, List.getElem?_append_right (Nat.le_refl _)]
              simp
            obtain ⟨g2, off2, hA2, hg2, hcell2⟩ := (Reads.of_own ownC).2 (by omega)
            have e3 := hcell2 _ _ hVm
            have hrow2 := hrow g2 (by rw [hA2]; rfl)
            rw [hmm] at ownC hcc hsl hd64 hstay ⊢
            have hop : (l[p]?.map opensP) = some (opensP tp) := by rw [htp]; rfl
            have dm : decide ((0 : Int) < (m : Int)) = true := by simp; omega
            have dm2 : decide (0 < m) = true := by simp; omega
            have dw : IntKind.i64.wrap ((m : Int) - 1) = (m : Int) - 1 := by rw [IntKind.wrap_i64]; omega
            have dn : ((m : Int) - 1).toNat = m - 1 := by omega
            have d5 : (0 : Int) ≤ (m : Int) - 1 := by omega
            have d6 : (m : Int) - 1 < (m : Int) := by omega
            have d7 : (p : Int) < (n : Int) := by omega
            obtain ⟨q, hq⟩ : ∃ q, decide (opensP tp = t.text) = q := ⟨_, rfl⟩
            have dq : ((bytesOf (opensP tp)).toList == (bytesOf t.text).toList) = q := by rw [bytesOf_toList, bytesOf_toList, ← hq]; rw [Bool.eq_iff_iff]; simp
            subst hA2
            have x0 := bw_cell (B := w2.heap.size) y0 hl2
            have x1 := bw_cell (B := w2.heap.size) y1 hl2
            have x2 := bw_cell (B := w2.heap.size) e0 (by show b < _; omega)
            have x3 := bw_cell (B := w2.heap.size) e1 (by show b < _; omega)
            have x4 := bw_cell (B := w2.heap.size) e2 (by show b < _; omega)
            have x5 := bw_cell (B := w2.heap.size) e3 hg2
            have ht1 := Lib.hid ht
            have hS1 := Lib.hid hS
            have hop1 := Lib.hid hop
            have hq1 := Lib.hid hq
            have hk1 := Lib.hid hk13
            have hmm1 := Lib.hid hmm
            have hm1 := Lib.hid hm
            clear ht hS hop hq hk13 hmm hm hVm htp e0 e1 e2 y0 y1 hcell2 e3 ho ht0
            go_wp2_with fail
            refine wp_region_bw w2.heap.size (by kernel_rfl) (by kernel_rfl) ?_
            repeat (go_big_quiet_step (first | (go_at_call 58; rename_i W; exact calls_bw (Nat.le_refl _) (nest_opens tp W.val))))
            refine wpQuiet_nil ?_
            intro _ hw'
            obtain ⟨W, rfl⟩ := hw'
            have hWb := W.is
            cases q with
            | true =>
              have hpop := step_pop ht1.out Ho.out hS1.out hk1.out (by rw [hop1.out]; congr 1; exact of_decide_eq_true hq1.out)
              have hpart := fun j => part_pop ht1.out Ho.out hS1.out hpop j
              have HP : Hid (∀ j, (if j = p then (k : Int) else if j = k then -1 else partE l k j) = partE l (k + 1) j) := hpart
              have HS : Hid (stackV l k = stackV l (k + 1) ++ [.int .i64 (p : Int)]) := by
                show _ = _
                unfold stackV
                rw [hpop, hS1.out]; simp
              have HL : Hid ((stackP l (k + 1)).length = m - 1) := by
                show _ = _
                rw [hpop, ← hmm1.out, hm1.out]; simp
              have oW := oC.below hWb (by omega)
              obtain ⟨p1, p2⟩ := oW.cell p (by rw [Hlen.out]; omega)
              have oX := oW.store p (by rw [Hlen.out]; omega) (k : Int)
              have ownW := own_below ownC hWb
              have bW : Below w.heap.size w W.val := bC.trans (hWb.mono (by omega))
              clear hpart hpop hstay ownC oC bC
              have x5W := x5 W
              have dcap : (m : Int) - 1 ≤ (c2 : Int) := by omega
              have hoff : off2 = 0 := by
                obtain ⟨g3, cap3, hv, _, _⟩ := ownW.form (by omega)
                injection hv with hv
                injection hv with hv
                injection hv
              have ownX := ownsRow_setCell_below ownW (a := ⟨w.heap.size, p, none⟩) (by simp) (.int .i64 (k : Int))
              have ownY : (W.val.setCell ⟨w.heap.size, p, none⟩ (.int .i64 (k : Int))).ownsRow (w.heap.size + 1) 3 1 (.slice (some ⟨g2, off2, none⟩) (m - 1) c2) (stackP l (k + 1)).length (stackV l (k + 1)) := by
                rw [HL.out]
                rw [hoff] at ownX ⊢
                rw [HS.out] at ownX
                have e : m - 1 + 1 = m := by omega
                refine ownsRow_pop (n := m - 1) (last := [.int .i64 (p : Int)]) (by rw [stackV_len, HL.out]; omega) ?_
                rw [e]; exact ownX
              have bX : Below w.heap.size w (W.val.setCell ⟨w.heap.size, p, none⟩ (.int .i64 (k : Int))) := bW.setCell (Nat.le_refl _) _
              have hJ2 : Hid (EJ w (W.val.setCell ⟨w.heap.size, p, none⟩ (.int .i64 (k : Int))) l (k + 1) (.slice (some ⟨g2, off2, none⟩) (m - 1) c2)) := ⟨bX, oX.congr (fun j _ => HP.out j), ownY, fun i hi => by
                rcases Nat.lt_or_ge i (k + 1) with h1 | h1
                · exact hdp i (by omega)
                · rw [show i = k + 1 by omega, HL.out]; omega, by rw [Hlen.out]; omega⟩
              clear ownX ownY bX oX ownW oW hdp hd64 hoff
              go_wp2_with fail
              go_step3
              refine ⟨rfl, ⟨k + 1, _, _, _, _, _, _, _, _, _, _, _, _, _, _, _, _, _, _, _, _, _, _, _, _, _, _, _, _, _, _, _, _, _, _, _, _, _, _, _, _, _, _, _, _, _, _, _, _, _, _, _, _, _, _, _, _, _, _, _, _, _, _, _, _, _, _, _, _, _, _, _, _, _, _, _, _, _, _, _, _, rfl, hJ2.out⟩, ?_⟩
              show n - ((k : Int) + 1).toNat < n - (k : Int).toNat
              omega
            | false =>
              have hJ2 := hstay (step_stay ht1.out Ho.out (fun p' r' hpr hh => by
                rw [hS1.out] at hpr
                injection hpr with e1 e2
                subst e1
                rw [hop1.out] at hh
                have := of_decide_eq_false hq1.out
                exact this (by have := hh.2; injection this)))
              clear hstay ownC oC hdp hd64
              go_wp2_with fail
              go_step3
              refine ⟨rfl, ⟨k + 1, _, _, _, _, _, _, _, _, _, _, _, _, _, _, _, _, _, _, _, _, _, _, _, _, _, _, _, _, _, _, _, _, _, _, _, _, _, _, _, _, _, _, _, _, _, _, _, _, _, _, _, _, _, _, _, _, _, _, _, _, _, _, _, _, _, _, _, _, _, _, _, _, _, _, _, _, _, _, _, _, rfl, hJ2.out _ hWb⟩, ?_⟩
              show n - ((k : Int) + 1).toNat < n - (k : Int).toNat
              omega
        · have k13 : (t.kind == 13) = false := by simpa using hk13
          have hJ2 := hstay (step_stay ht ho (fun p r _ hpr => hk13 hpr.1))
          clear hstay ownC oC hdp hd64 ho ht ht0 hk13
          go_wp2_with fail
          go_quiet (fail)
          go_wp2_with fail
          go_step3
          refine ⟨rfl, ⟨k + 1, _, _, _, _, _, _, _, _, _, _, _, _, _, _, _, _, _, _, _, _, _, _, _, _, _, _, _, _, _, _, _, _, _, _, _, _, _, _, _, _, _, _, _, _, _, _, _, _, _, _, _, _, _, _, _, _, _, _, _, _, _, _, _, _, _, _, _, _, _, _, _, _, _, _, _, _, _, _, _, _, rfl, hJ2.out _ (below_drewN (Below.refl _ _) _)⟩, ?_⟩
          show n - ((k : Int) + 1).toNat < n - (k : Int).toNat
          omega
      · obtain ⟨s1, s2⟩ := txt_not ho
        have hk13 : (t.kind == 13) = false := by
          have : t.kind ≠ 13 := fun e => ho (by unfold opensP; simp [e])
          simpa using this
        have hpush := step_push ht ho
        have hpart := fun j => part_push ht ho j
        have hV : stackV l k ++ [Value.int .i64 (k : Int)] = stackV l (k + 1) := by unfold stackV; rw [hpush]; simp
        have hL : (stackP l k).length + 1 = (stackP l (k + 1)).length := by rw [hpush]; rfl
        have HV := Lib.hid hV
        have HL := Lib.hid hL
        have HP : Hid (∀ j, (if j = k then -1 else partE l k j) = partE l (k + 1) j) := hpart
        clear hpart hV hL hpush ho ht
        go_wp2_with (at_builtin; refine wpList_append_own _ rfl _ _ 51 rfl (w.heap.size + 1) 3 hi0 (.int .i64 0) 1 8 Tryz.underlying51 hi hz0 hz1 hz2 rfl (by decide) _ _ _ rfl (ownC.alloc _) ⟨w2.heap.size, 0, none⟩ 1 1 [.int .i64 (k : Int)] rfl rfl ?e1 ?e2 ?e3 ?e4 ?e5 ?_)
        case e1 => exact cell_one_new _ _ _
        case e2 => intro u hu; simp at hu; subst hu; rfl
        case e3 => unfold maxLen; omega
        case e4 => omega
        case e5 => simp; omega
        intro v' w3 hown3 hgrow _
        rw [HV.out, HL.out] at hown3
        have hsz3 := hgrow.size
        have hown2lt := ownC.lt
        have oD := (oC.below ((Below.refl w2.heap.size w2).alloc (Nat.le_refl _) (.cells #[.int .i64 (k : Int)] 3)) (by omega)).grown hgrow (by intro e; have := (hown2lt _ e.symm).1; omega)
        have bD : Below w.heap.size w w3 := push_below (bC.mono (Nat.le_refl _)) (by omega) (ownsRow_base ownC (by omega)) hgrow
        have hne : some w1.heap.size ≠ (Value.slice A2 (stackP l k).length c2).ownBlock := fun e => by have := (hrow _ e.symm).2; omega
        have z0 := World.cell?_alloc_lt w2 (.cells #[.int .i64 (k : Int)] 3) ⟨w1.heap.size, 0, none⟩ hl2
        replace y0 := hgrow.cell (z0.trans y0) hne
        have z1 := World.cell?_alloc_lt w2 (.cells #[.int .i64 (k : Int)] 3) ⟨w1.heap.size, 1, none⟩ hl2
        replace y1 := hgrow.cell (z1.trans y1) hne
        obtain ⟨A3, c3, rfl, hcc3, hcm3⟩ := own_form hown3
        clear ownC oC hgrow z0 z1 hown2lt hb2 hrow
        by_cases hdeep : 64 < (stackP l (k + 1)).length
        · have dd : decide ((64 : Int) < ((stackP l (k + 1)).length : Int)) = true := by simp; omega
          have hfin : deepB l = false := by
            unfold deepB
            rw [List.all_eq_false]
            exact ⟨k + 1, List.mem_range.2 (by rw [Hlen.out]; omega), by simp; omega⟩
          have HF := Lib.hid hfin
          clear hfin hdp hd64
          go_wp2_with fail
          simp only [Exit.jump]
          go_ret2
          refine ⟨bD, ?_⟩
          unfold EndsRet
          rw [HF.out, if_neg (by decide)]
          rfl
        · have dd : decide ((64 : Int) < ((stackP l (k + 1)).length : Int)) = false := by simp; omega
          have hw1 : IntKind.i64.wrap ((k : Int) + 1) = (k : Int) + 1 := by rw [IntKind.wrap_i64]; omega
          have hJ2 : ∀ m, EJ w (w3.drewN m) l (k + 1) (.slice A3 (stackP l (k + 1)).length c3) := fun m => ⟨below_drewN bD _, (oD.drewN _).congr (fun j _ => HP.out j), own_drewN hown3 _, fun i hi => by
            rcases Nat.lt_or_ge i (k + 1) with h1 | h1
            · exact hdp i (by omega)
            · rw [show i = k + 1 by omega]; omega, by rw [Hlen.out]; omega⟩
          clear hdp hd64 hdeep
          go_wp2_with fail
          go_quiet (fail)
          go_wp2_with fail
          go_step3
          refine ⟨rfl, ⟨k + 1, _, _, _, _, _, _, _, _, _, _, _, _, _, _, _, _, _, _, _, _, _, _, _, _, _, _, _, _, _, _, _, _, _, _, _, _, _, _, _, _, _, _, _, _, _, _, _, _, _, _, _, _, _, _, _, _, _, _, _, _, _, _, _, _, _, _, _, _, _, _, _, _, _, _, _, _, _, _, _, _, rfl, hJ2 _⟩, ?_⟩
          show n - ((k : Int) + 1).toNat < n - (k : Int).toNat
          omega
    · obtain rfl : k = n := by have := Hlen.out; omega
      have d0 : ((k : Int) == (k : Int)) = true := by simp
      have hdB : deepB l = true := by
        unfold deepB
        rw [List.all_eq_true]
        intro i hi
        have := hdp i (by have := List.mem_range.1 hi; have := Hlen.out; omega)
        simpa using this
      obtain ⟨m, hmm⟩ : ∃ m, (stackP l k).length = m := ⟨_, rfl⟩
      have ownJ := hJ.own
      rw [hmm] at ownJ hcc hsl hd64 ⊢
      have HDB := Lib.hid hdB
      have Hmm := Lib.hid hmm
      have w1k : ∀ i : Nat, i < m → IntKind.i64.wrap ((i : Int) + 1) = (i : Int) + 1 := fun i hi => by rw [IntKind.wrap_i64]; omega
      have bJ := hJ.bel
      have oJ := hJ.out
      clear hJ hdB hmm hdp
      go_wp2_with fail
      go_loopw [20] (fun x wx => ∃ i : Nat, i ≤ m ∧ x = .int .i64 (i : Int) ∧ Below w.heap.size w wx ∧ OutAt wx w.heap.size l.length (fun j => if j ∈ (stackP l k).reverse.take i then (k : Int) else partE l k j) ∧ wx.ownsRow (w.heap.size + 1) 3 1 (.slice A2 m c2) m (stackV l k)) (fun x _ => m - (intOf x).toNat)
      case atStart => exact ⟨0, Nat.zero_le _, rfl, bJ, oJ.congr (fun j _ => by simp), ownJ⟩
      case round =>
        obtain ⟨i, him, rfl, hb, ho, hown⟩ := hrel
        by_cases hi' : i < m
        · have e0 : decide ((i : Int) < (m : Int)) = true := by simp; omega
          have e1 : (i : Int) < (m : Int) := by omega
          have hlen2 : (stackP l k).reverse.length = m := by rw [List.length_reverse]; exact Hmm.out
          obtain ⟨p, hp⟩ : ∃ p, (stackP l k).reverse[i]? = some p := ⟨_, List.getElem?_eq_getElem (by rw [hlen2]; exact hi')⟩
          have hpk : p < k := stack_lt l k p (by have := List.mem_of_getElem? hp; simpa using this)
          have hv : (stackV l k)[i]? = some (.int .i64 (p : Int)) := by unfold stackV; rw [List.getElem?_map, hp]; rfl
          obtain ⟨g2, off2, hA2, hg2, hc2'⟩ := (Reads.of_own hown).2 (by omega)
          have x1 := hc2' i _ hv
          obtain ⟨y1, y2⟩ := ho.cell p (by rw [Hlen.out]; exact hpk)
          have oS := ho.store p (by rw [Hlen.out]; exact hpk) (k : Int)
          have bS := hb.setCell (p := ⟨w.heap.size, p, none⟩) (Nat.le_refl _) (.int .i64 (k : Int))
          have ownS := ownsRow_setCell_below hown (a := ⟨w.heap.size, p, none⟩) (by simp) (.int .i64 (k : Int))
          have oT : Hid (OutAt (wr.setCell ⟨w.heap.size, p, none⟩ (.int .i64 (k : Int))) w.heap.size l.length (fun j => if j ∈ (stackP l k).reverse.take (i + 1) then (k : Int) else partE l k j)) := by
            refine oS.congr fun j _ => ?_
            rw [List.take_add_one, hp, Option.toList_some]
            simp only [List.mem_append, List.mem_singleton]
            by_cases q1 : j = p
            · simp [q1]
            · simp [q1]
          have d7 : (p : Int) < (k : Int) := by omega
          have wi := w1k i hi'
          subst hA2
          clear hc2' hv hp oS ho hown w1k hlen2
          go_wp2_with fail
          go_roundw
          case rel => exact ⟨i + 1, by omega, by go_num, bS, oT.out, ownS⟩
          case measure => simp [intOf]; omega
        · obtain rfl : i = m := by omega
          have e0 : decide ((i : Int) < (i : Int)) = false := by simp
          have hfin : Hid (EndsS wr (fun b => b = w.heap.size) (some ⟨w.heap.size, 0, none⟩) k l) := by
            refine ⟨by rw [endsV_len, Hlen.out]; omega, fun _ => ⟨w.heap.size, 0, rfl, rfl, fun j u hu => ?_⟩⟩
            have hj : j < l.length := by have := (List.getElem?_eq_some_iff.1 hu).1; rwa [endsV_len] at this
            rw [endsV_at l hj] at hu
            injection hu with hu
            rw [Nat.zero_add, (ho.cell j hj).1, ← hu]
            congr 2
            rw [List.take_of_length_le (by rw [List.length_reverse, Hmm.out]; omega)]
            have hjk : j < k := by have := Hlen.out; omega
            simp only [List.mem_reverse]
            by_cases hmem : j ∈ stackP l k
            · rw [if_pos hmem]
              have := last_end (l := l) (p := j) (by rw [Hlen.out]; exact hmem)
              rw [this, Hlen.out]
            · rw [if_neg hmem]; unfold partE; rw [if_pos hjk, if_neg hmem]
          have hgl2 := ho.lt
          clear ho hown w1k
          go_wp2_with fail
          simp only [Exit.jump]
          go_ret2
          refine ⟨hb, ?_⟩
          unfold EndsRet
          rw [HDB.out, if_pos rfl]
          exact ⟨rfl, hfin.out, hgl2⟩
  · intro hrest
    go_wp2_with (at_make; refine wpList_make_full _ rfl _ _ 51 rfl w.heap.size 3 hi0 (.int .i64 0) 1 Tryz.underlying51 hi hz0 hz1 _ _ _ _ n rfl rfl rfl rfl ?b2 ?b3 ?b4 ?_)
    case b2 => rw [hz2]; omega
    case b3 => unfold maxLen; omega
    case b4 => exact Nat.le_refl _
    intro w0 hown0 hg0
    have hown0' : w0.ownsRow w.heap.size 3 1 (.slice (some ⟨w.heap.size, 0, none⟩) n n) n (List.replicate n (.int .i64 0)) := by
      have e : (madeCells #[Value.int .i64 0] n).toList = List.replicate n (Value.int .i64 0) := toList_madeCells_one _ _
      rw [e] at hown0; exact hown0
    have hgs := (hown0.lt w.heap.size rfl).2
    have hout := OutAt.of_own hown0' (.inr hgs)
    have hJ0 : EJ w w0 l 0 (.slice none 0 0) := ⟨(Below.refl _ _).grown hg0 (Nat.le_refl _) (by simp), by rw [Hlen.out]; exact hout, World.ownsRow_nil _ _ _ _, fun i hi => by rw [Nat.le_zero.1 hi]; simp [stackP], Nat.zero_le _⟩
    clear hown0 hown0' hout
    go_wp2_with fail
    go_step3
    rename_i K hK
    exact hK _ _ (hrest _ _ ⟨0, .slice none 0 0, _, _, _, _, _, _, _, _, _, _, _, _, _, _, _, _, _, _, _, _, _, _, _, _, _, _, _, _, _, _, _, _, _, _, _, _, _, _, _, _, _, _, _, _, _, _, _, _, _, _, _, _, _, _, _, _, _, _, _, _, _, _, _, _, _, _, _, _, _, _, _, _, _, _, _, _, _, _, _, rfl, hJ0⟩)
end Go.Proofs.YtfhdihdafmahgaaGreatDoor
/- Layer 6: rules that the laws go through: how many tokens they are. Plain laws. -/
set_option linter.unusedVariables false
set_option linter.unusedSimpArgs false
namespace Go.Proofs.YtfhdihdafmahgaaGreatDoor
open Go.RowKit Rn Tp Ru
namespace Ru
def few4 (l : List GTok) : Bool := decide (l.length ≤ 100) && l.all (fun t => decide (t.text.length ≤ 100))
def declFew (d : Decl) : Bool := decide (d.name.length ≤ 100) && decide (d.value.length ≤ 20) && few4 d.value
def declsFew (l : List Decl) : Bool := decide (l.length ≤ 8) && l.all declFew
def marginFew (m : Margin) : Bool := decide (m.name.length ≤ 100) && declsFew m.decls
def ruleFew (r : Rule) : Bool := decide (r.prelude.length ≤ 20) && few4 r.prelude && decide (r.margins.length ≤ 8) && declsFew r.decls && r.margins.all marginFew
/-- may rules be gone through? -/
def fewR (l : List Rule) : Bool := decide (l.length ≤ 8) && l.all ruleFew
/-- each token of rules is so -/
def AllT (P : GTok → Prop) (l : List Rule) : Prop := ∀ r ∈ l, (∀ t ∈ r.prelude, P t) ∧ (∀ d ∈ r.decls, ∀ t ∈ d.value, P t) ∧ (∀ m ∈ r.margins, ∀ d ∈ m.decls, ∀ t ∈ d.value, P t)
def num64 (t : GTok) : Prop := -9223372036854775808 ≤ t.n ∧ t.n ≤ 9223372036854775807
/-- a token that is not too great -/
def smallT (t : GTok) : Prop := t.text.length ≤ 1000000 ∧ -9223372036854775808 ≤ t.n ∧ t.n ≤ 9223372036854775807
end Ru
theorem declFew_facts {d : Decl} (h : declFew d = true) : d.name.length ≤ 100 ∧ d.value.length ≤ 20 ∧ ∀ t ∈ d.value, t.text.length ≤ 100 := by
  unfold declFew few4 at h
  simp only [Bool.and_eq_true, decide_eq_true_eq, List.all_eq_true] at h
  exact ⟨h.1.1, h.1.2, h.2.2⟩
theorem declsFew_facts {l : List Decl} (h : declsFew l = true) : l.length ≤ 8 ∧ ∀ d ∈ l, declFew d = true := by
  unfold declsFew at h
  simp only [Bool.and_eq_true, decide_eq_true_eq, List.all_eq_true] at h
  exact h
theorem marginFew_facts {m : Margin} (h : marginFew m = true) : m.name.length ≤ 100 ∧ declsFew m.decls = true := by
  unfold marginFew at h
  simp only [Bool.and_eq_true, decide_eq_true_eq] at h
  exact h
theorem ruleFew_facts {r : Rule} (h : ruleFew r = true) : r.prelude.length ≤ 20 ∧ (∀ t ∈ r.prelude, t.text.length ≤ 100) ∧ r.margins.length ≤ 8 ∧ declsFew r.decls = true ∧ ∀ m ∈ r.margins, marginFew m = true := by
  unfold ruleFew few4 at h
  simp only [Bool.and_eq_true, decide_eq_true_eq, List.all_eq_true] at h
  exact ⟨h.1.1.1.1, h.1.1.1.2.2, h.1.1.2, h.1.2, h.2⟩
theorem fewR_facts {l : List Rule} (h : fewR l = true) : l.length ≤ 8 ∧ ∀ r ∈ l, ruleFew r = true := by
  unfold fewR at h
  simp only [Bool.and_eq_true, decide_eq_true_eq, List.all_eq_true] at h
  exact h
theorem flat_le {α : Type} {f : α → List GTok} {b : Nat} : ∀ {l : List α}, (∀ x ∈ l, (f x).length ≤ b) → (l.flatMap f).length ≤ b * l.length
  | [], _ => by simp
  | x :: l, h => by
    have h1 := h x (by simp)
    have h2 := flat_le (l := l) (fun y hy => h y (by simp [hy]))
    rw [List.flatMap_cons, List.length_append, List.length_cons, Nat.mul_add]; omega
theorem declT_le {d : Decl} (h : declFew d = true) : (declT d).length ≤ 25 := by
  have := (declFew_facts h).2.1
  rw [declT_len]
  split <;> simp [impT] <;> omega
theorem declsT_le {l : List Decl} (h : declsFew l = true) : (l.flatMap declT).length ≤ 200 := by
  obtain ⟨h1, h2⟩ := declsFew_facts h
  have := flat_le (f := declT) (b := 25) (l := l) (fun d hd => declT_le (h2 d hd))
  omega
theorem marginT_le {m : Margin} (h : marginFew m = true) : (marginT m).length ≤ 203 := by
  have := declsT_le (marginFew_facts h).2
  unfold marginT; simp at this ⊢; omega
theorem ruleT_le {r : Rule} (h : ruleFew r = true) : (ruleT r).length ≤ 1848 := by
  obtain ⟨h1, _, h2, h3, h4⟩ := ruleFew_facts h
  have a := declsT_le h3
  have b := flat_le (f := marginT) (b := 203) (l := r.margins) (fun m hm => marginT_le (h4 m hm))
  rw [ruleT_len]
  unfold headT innerT
  rw [List.length_append]
  split <;> simp at a b ⊢ <;> omega
theorem tokens_le {l : List Rule} (h : fewR l = true) : (tokensP l).length ≤ 1848 * l.length := flat_le (fun r hr => ruleT_le ((fewR_facts h).2 r hr))
theorem mem_declT {P : GTok → Prop} {d : Decl} (h1 : P ⟨2, d.name, 0⟩) (h2 : P ⟨14, [], 0⟩) (h3 : ∀ t ∈ d.value, P t) (h4 : ∀ t ∈ impT, P t) (h5 : P semiT) : ∀ t ∈ declT d, P t := by
  intro t ht
  unfold declT at ht
  simp only [List.mem_append, List.mem_cons, List.not_mem_nil, or_false] at ht
  rcases ht with (rfl | rfl) | h | h | rfl
  · exact h1
  · exact h2
  · exact h3 t h
  · split at h
    · exact h4 t h
    · cases h
  · exact h5
/-- the tokens of rules are small, if theirs are -/
theorem tokens_small {l : List Rule} (h : fewR l = true) (hn : AllT num64 l) : ∀ t ∈ tokensP l, smallT t := by
  obtain ⟨_, h2⟩ := fewR_facts h
  have lit : ∀ (k : Int) (x : List UInt8), x.length ≤ 100 → smallT ⟨k, x, 0⟩ := fun k x hx => ⟨by show x.length ≤ _; omega, by show (-9223372036854775808 : Int) ≤ 0; decide, by show (0 : Int) ≤ 9223372036854775807; decide⟩
  have imp : ∀ t ∈ impT, smallT t := fun t ht => by
    unfold impT at ht
    simp only [List.mem_cons, List.not_mem_nil, or_false] at ht
    rcases ht with rfl | rfl
    · exact lit _ _ (by decide)
    · exact lit _ _ (by decide)
  have dec : ∀ d : Decl, declFew d = true → (∀ t ∈ d.value, num64 t) → ∀ t ∈ declT d, smallT t := fun d hd hv => by
    obtain ⟨g1, g2, g3⟩ := declFew_facts hd
    exact mem_declT (lit _ _ g1) (lit _ _ (by decide)) (fun t ht => ⟨by have := g3 t ht; omega, hv t ht⟩) imp (lit _ _ (by decide))
  intro t ht
  obtain ⟨r, hr, ht⟩ := List.mem_flatMap.1 ht
  obtain ⟨r1, r2, r3, r4, r5⟩ := ruleFew_facts (h2 r hr)
  obtain ⟨n1, n2, n3⟩ := hn r hr
  unfold ruleT headT innerT at ht
  simp only [List.mem_append] at ht
  rcases ht with h | h | h | ((h | h) | h)
  · split at h
    · simp only [List.mem_cons, List.not_mem_nil, or_false] at h
      rcases h with rfl | rfl
      · exact lit _ _ (by decide)
      · exact lit _ _ (by decide)
    · cases h
  · exact ⟨by have := r2 t h; omega, n1 t h⟩
  · rw [List.mem_singleton.1 h]; exact lit _ _ (by decide)
  · obtain ⟨d, hd, h⟩ := List.mem_flatMap.1 h
    exact dec d ((declsFew_facts r4).2 d hd) (n2 d hd) t h
  · obtain ⟨m, hm, h⟩ := List.mem_flatMap.1 h
    obtain ⟨m1, m2⟩ := marginFew_facts (r5 m hm)
    unfold marginT at h
    simp only [List.mem_append] at h
    rcases h with h | h | h | h
    · rw [List.mem_singleton.1 h]; exact lit _ _ m1
    · rw [List.mem_singleton.1 h]; exact lit _ _ (by decide)
    · obtain ⟨d, hd, h⟩ := List.mem_flatMap.1 h
      exact dec d ((declsFew_facts m2).2 d hd) (n3 m hm d hd) t h
    · rw [List.mem_singleton.1 h]; exact lit _ _ (by decide)
  · rw [List.mem_singleton.1 h]; exact lit _ _ (by decide)
end Go.Proofs.YtfhdihdafmahgaaGreatDoor
/- Layer 6: the program's slices.Clone (of tokens), cut and find are walked. -/
set_option linter.unusedVariables false
set_option linter.unusedSimpArgs false
namespace Go.Proofs.YtfhdihdafmahgaaGreatDoor
open Go.RowKit Rn Tp Ru
/-- the blocks that a call made -/
abbrev Fresh (w w' : World) : Nat → Prop := fun b => w.heap.size ≤ b ∧ b < w'.heap.size
theorem cells_one (l : List GTok) : ∀ u ∈ cellsG l, u.oneCell' = true := by
  intro u hu
  obtain ⟨t, ht, hu⟩ := List.mem_flatMap.1 hu
  unfold cells1 at hu
  simp only [List.mem_cons, List.not_mem_nil, or_false] at hu
  rcases hu with rfl | rfl | rfl <;> rfl
theorem ru_tok_info : (Tryz.prog.info? 58).map (fun i => (i.zero, i.size, i.bytes)) = some (some (.agg #[.int .i64 0, .string ⟨#[]⟩, .int .i64 0]), 3, 32) := by kernel_rfl
set_option maxRecDepth 100000 in
set_option maxHeartbeats 2000000 in
theorem ru_clone (l : List GTok) (A : Option Addr) (n c : Nat) (w : World) (h : ReadsS w (· < w.heap.size) 3 A n (cellsG l)) (hn : n ≤ 1000000) :
    Calls Tryz.prog 61 #[.slice A n c] w fun e w' => (∃ A' c', e = .returned (.slice A' n c') ∧ n ≤ c' ∧ ReadsS w' (Fresh w w') 3 A' n (cellsG l)) ∧ Below w.heap.size w w' := by
  have h1 := cells_one l
  obtain ⟨hi0, hi, hz0, hz1, hz2⟩ := info_take ru_tok_info
  have hnq := fun W : World => Lib.run_eql_slice_nil (P := Tryz.prog) W 32 58 A n c 0 0 Tryz.underlying32
  go_enter Tryz.func61, Tryz.ntmps61
  cases A with
  | none =>
    have hn0 : n = 0 := by
      rcases Nat.eq_zero_or_pos n with h0 | h0
      · exact h0
      · obtain ⟨b, off, h, _⟩ := h.2 h0
        cases h
    subst hn0
    have hl : cellsG l = [] := List.eq_nil_of_length_eq_zero (by simpa using h.1)
    have Hl := Lib.hid hl
    clear hl h h1
    simp only [Option.isNone] at hnq
    go_wp2_with fail
    go_ret
    exact ⟨⟨none, 0, rfl, Nat.le_refl _, by rw [Hl.out]; exact ReadsS.nil⟩, Below.refl _ _⟩
  | some a =>
    simp only [Option.isNone] at hnq
    have hR : Reads w w.heap.size 3 (some a) n (cellsG l) := h
    have hR2 := hR.alloc (Nat.le_refl _) (.cells #[] 58)
    have own0 := World.ownsRow_made (base := w.heap.size) (e := 58) (size := 3) w #[] 0 (Nat.le_refl _) (Nat.zero_le _) rfl
    have b0 : Below w.heap.size w (w.alloc (.cells #[] 58)) := (Below.refl _ _).alloc (Nat.le_refl _) _
    go_wp2_with (at_builtin; refine wpList_append_reads _ rfl _ _ 32 rfl w.heap.size 58 hi0 _ 3 32 Tryz.underlying32 hi hz0 hz1 hz2 rfl (by decide) _ 0 [] rfl own0 w.heap.size (some a) n c (cellsG l) rfl hR2 h1 ?e3 ?e4 ?e5 ?_)
    case e3 => unfold maxLen; omega
    case e4 => omega
    case e5 => simp
    intro v' w1 hown hg
    try simp only [Nat.zero_add, List.nil_append] at hown
    obtain ⟨A', c', rfl, hcc, _⟩ := own_form hown
    have hlt := hown.lt
    have hgs := hg.size
    have hB := b0.grown hg (by simp) (fun k hk => (own0.lt k hk).1)
    clear own0 hR hR2
    go_wp2_with fail
    go_ret
    exact ⟨⟨A', c', rfl, by first | exact hcc | omega, ReadsS.of_own hown hlt⟩, hB⟩
/-- a part of a row of tokens -/
theorem cellsG_seg (l : List GTok) (k z : Nat) : cellsG (segP l k z) = ((cellsG l).take (z * 3)).drop (k * 3) := by
  have ht : ∀ (l : List GTok) (z : Nat), cellsG (l.take z) = (cellsG l).take (z * 3) := by
    intro l
    induction l with
    | nil => intro z; simp [cellsG]
    | cons t l ih =>
      intro z
      cases z with
      | zero => simp [cellsG]
      | succ z =>
        have := ih z
        unfold cellsG at this ⊢
        rw [List.take_succ_cons, List.flatMap_cons, List.flatMap_cons, this, show (z + 1) * 3 = (cells1 t).length + z * 3 by rw [cells1_len]; omega, List.take_length_add_append]
  have hd : ∀ (l : List GTok) (k : Nat), cellsG (l.drop k) = (cellsG l).drop (k * 3) := by
    intro l
    induction l with
    | nil => intro z; simp [cellsG]
    | cons t l ih =>
      intro z
      cases z with
      | zero => simp [cellsG]
      | succ z =>
        have := ih z
        unfold cellsG at this ⊢
        rw [List.drop_succ_cons, List.flatMap_cons, this, show (z + 1) * 3 = (cells1 t).length + z * 3 by rw [cells1_len]; omega, List.drop_length_add_append]
  unfold segP
  rw [hd, ht]
theorem ReadsS.seg {w : World} {S : Nat → Prop} {A : Option Addr} {n c : Nat} {l : List GTok} (h : ReadsS w S 3 A n (cellsG l)) {k z : Nat} (hk : k ≤ z) (hz : z ≤ n) (hc : n ≤ c) : ReadsS w S 3 (cutAt A c k 3) (z - k) (cellsG (segP l k z)) := by
  have hl := h.toks_len
  have hsl := seg_len l (k := k) (z := z) (by omega)
  refine ⟨by rw [cellsG, flat_len cells1_len, hsl], fun hn => ?_⟩
  obtain ⟨b, off, rfl, hb, hcell⟩ := h.2 (by omega)
  unfold cutAt
  rw [if_neg (by omega)]
  refine ⟨b, off + k * 3, ?_, hb, fun j u hu => ?_⟩
  · unfold Addr.add; simp
  · rw [cellsG_seg, List.getElem?_drop, List.getElem?_take] at hu
    rw [Nat.add_assoc]
    split at hu
    · exact hcell _ u hu
    · cases hu
theorem run_part {P : Program} {T e s : Nat} (ht : P.underlying T = some (.slice e)) (hel : P.elem T = e) (hs : ∀ W, (sizeOf e).run P W = .ok s W) (A : Option Addr) (n c : Nat) (kd kd' : IntKind) (a b : Nat) (h : a ≤ b) (hb : b ≤ c) (W : World) :
    (Instr.slice T (.slice A n c) (some (.int kd (a : Int))) (some (.int kd' (b : Int))) none).run P W = .ok (.slice (cutAt A c a s) (b - a) (c - a)) W := by
  rw [run_slice_lh W T A n c (by rw [hel]; exact ht) kd kd' (a : Int) (b : Int) (by omega) (by omega) (by omega), hel, hs]
  simp [sliced, cutAt]
/-- a parser: the tokens, and where brackets end -/
structure Par (w : World) (p : Nat) (l : List GTok) (A : Option Addr) (n c : Nat) (A' : Option Addr) (c' : Nat) : Prop where
  lt : p < w.heap.size
  c0 : w.cell? ⟨p, 0, none⟩ = some (.slice A n c)
  c1 : w.cell? ⟨p, 1, none⟩ = some (.slice A' n c')
  tk : ReadsS w (· < w.heap.size) 3 A n (cellsG l)
  en : EndsS w (· < w.heap.size) A' n l
  hn : n ≤ 1000000
  hc : n ≤ c
  sm : ∀ t ∈ l, smallT t
theorem ReadsS.below {w w' : World} {size n : Nat} {A : Option Addr} {xs : List Value} (h : ReadsS w (· < w.heap.size) size A n xs) (hb : Below w.heap.size w w') : ReadsS w' (· < w'.heap.size) size A n xs :=
  (h.keep (Kept.of_below hb (fun b h => h))).more (fun b h => Nat.lt_of_lt_of_le h hb.size)
theorem Kept.setCell {S : Nat → Prop} {w : World} {p : Addr} (u : Value) (h : ∀ b, S b → b ≠ p.block) : Kept S w (w.setCell p u) := fun b hb => Below.heap_setCell _ _ _ _ (h b hb)
theorem RowAt.below {w w' : World} {g B : Nat} {xs : List Value} (h : RowAt w g xs) (hb : Below B w w') (hg : g < B) : RowAt w' g xs :=
  ⟨Nat.lt_of_lt_of_le h.1 hb.size, fun j u hu => ⟨(hb.cell (p := ⟨g, j, none⟩) hg).trans (h.2 j u hu).1, (hb.frozen (p := ⟨g, j, none⟩) hg).trans (h.2 j u hu).2⟩⟩
theorem Par.below {w w' : World} {p : Nat} {l : List GTok} {A : Option Addr} {n c : Nat} {A' : Option Addr} {c' : Nat} (h : Par w p l A n c A' c') (hb : Below w.heap.size w w') : Par w' p l A n c A' c' :=
  ⟨Nat.lt_of_lt_of_le h.lt hb.size, (hb.cell (p := ⟨p, 0, none⟩) h.lt).trans h.c0, (hb.cell (p := ⟨p, 1, none⟩) h.lt).trans h.c1, h.tk.below hb, h.en.below hb, h.hn, h.hc, h.sm⟩
theorem seg_nil_of {l : List GTok} {k z : Nat} (h : (segP l k z).length = 0) : segP l k z = [] := List.eq_nil_of_length_eq_zero h
def CutRet (m : List GTok) (w : World) (e : Ending) (w' : World) : Prop := (∃ A' c', e = .returned (.slice A' m.length c') ∧ m.length ≤ c' ∧ ReadsS w' (Fresh w w') 3 A' m.length (cellsG m)) ∧ Below w.heap.size w w'
set_option maxRecDepth 100000 in
set_option maxHeartbeats 2000000 in
theorem ru_cut (l : List GTok) (p : Nat) (A : Option Addr) (n c : Nat) (A' : Option Addr) (c' k z : Nat) (w : World) (h : Par w p l A n c A' c') (hk : k ≤ z) (hz : z ≤ n) :
    Calls Tryz.prog 29 #[.pointer (some ⟨p, 0, none⟩), .int .i64 (k : Int), .int .i64 (z : Int)] w (CutRet (trimL (segP l k z)) w) := by
  have hn := h.hn
  have x0 := h.c0
  have cT := nest_trim l (· < w.heap.size) A n c k z w h.tk hn hk hz
  have hel : Tryz.prog.elem 32 = 58 := by kernel_rfl
  have hsz : ∀ W, (sizeOf 58).run Tryz.prog W = .ok 3 W := fun W => by
    obtain ⟨hi0, hi, hz0, hz1, hz2⟩ := info_take ru_tok_info
    simp [sizeOf, typeInfo, hi, hz1]
  go_enter Tryz.func29, Tryz.ntmps29
  go_wp2_with fail
  refine cT.mono ?_
  rintro e w1 ⟨⟨j, i, rfl, h1, h2, h3, _, hseg⟩, rfl⟩
  have hp := fun W => run_part (P := Tryz.prog) Tryz.underlying32 hel hsz A n c .i64 .i64 j i h2 (by have := h.hc; omega) W
  have hR := h.tk.seg (c := c) h2 (by omega) h.hc
  rw [← hseg] at hR
  have hlen : (trimL (segP l k z)).length = i - j := by rw [hseg, seg_len _ (by have := h.tk.toks_len; omega)]
  have cC := ru_clone (trimL (segP l k z)) (cutAt A c j 3) (i - j) (c - j) w1 hR (by omega)
  have Hlen := Lib.hid hlen
  have Hel := Lib.hid hel
  clear hseg hlen hR cT h hel hsz
  go_wp2_with fail
  refine cC.mono ?_
  rintro e w2 ⟨⟨A2, c2, rfl, hcc2, hR2⟩, hb2⟩
  go_wp2_with fail
  go_ret
  unfold CutRet
  rw [Hlen.out]
  exact ⟨⟨A2, c2, rfl, hcc2, hR2⟩, hb2⟩
def findZ (l : List GTok) (is : GTok → Bool) (k z : Nat) : Nat := findP l is k z
set_option maxRecDepth 100000 in
set_option maxHeartbeats 2000000 in
theorem ru_find (l : List GTok) (is : GTok → Bool) (f p : Nat) (A : Option Addr) (n c : Nat) (A' : Option Addr) (c' k z : Nat) (w : World) (h : Par w p l A n c A' c') (hk : k ≤ z) (hz : z ≤ n) (hf : Asks f is l w) (hen : ∀ (args : Array Value) (W : World), (callFunc f args).run Tryz.prog W = .ok (.enter f args) W) :
    Calls Tryz.prog 26 #[.pointer (some ⟨p, 0, none⟩), .int .i64 (k : Int), .int .i64 (z : Int), .func (.func f) #[] #[]] w fun e w' => e = .returned (.int .i64 (findP l is k z : Nat)) ∧ Below w.heap.size w w' := by
  have hn := h.hn
  have x0 := bw_cell (B := w.heap.size) h.c0 h.lt
  have x1 := bw_cell (B := w.heap.size) h.c1 h.lt
  have cF := fun W : BW w.heap.size w => nest_find l is f A A' n c c' k z W.val (h.tk.below W.is) (h.en.below W.is) hn hk hz (fun t ht X hX => hf t ht X (W.is.trans (hX.mono W.is.size))) hen
  have hbd := find_bounds (l := l) is (k := k) (z := z) (by have := h.tk.toks_len; omega) hk
  obtain ⟨q, hq⟩ : ∃ q, findP l is k z = q := ⟨_, rfl⟩
  have hI : findI l is k z = if q < z then (q : Int) else -1 := by unfold findI; rw [hq]
  rw [hq] at hbd ⊢
  rw [hI] at cF
  clear hI hq h hf hen
  go_enter Tryz.func26, Tryz.ntmps26
  go_wp2_with fail
  refine wp_region_bw w.heap.size (by kernel_rfl) (by kernel_rfl) ?_
  repeat (go_big_quiet_step (first | (go_at_call 59; rename_i W; exact calls_bw (Nat.le_refl _) (cF W))))
  refine wpQuiet_nil ?_
  intro _ hw'
  obtain ⟨W, rfl⟩ := hw'
  have hWb := W.is
  by_cases hlt : q < z
  · rw [if_pos hlt]
    have d0 : decide ((0 : Int) ≤ (q : Int)) = true := by simp
    go_wp2_with fail
    go_ret
    exact ⟨rfl, hWb⟩
  · obtain rfl : q = z := by omega
    rw [if_neg hlt]
    go_wp2_with fail
    go_ret
    exact ⟨rfl, hWb⟩
end Go.Proofs.YtfhdihdafmahgaaGreatDoor
/- Layer 3: how long a decimal is hangs on its characters alone: plain laws. -/
set_option linter.unusedVariables false
set_option linter.unusedSimpArgs false
namespace Go.Proofs.YtfhdihdafmahgaaGreatDoor
open Go.RowKit Rn Tk Fx
namespace Np
def asciiT (r : List Int) : List UInt8 := (r.takeWhile (fun c => decide (c < 128))).map Tk.byteOf
def numU (b : UInt8) : Bool := isD b || decide (b.toNat = 43 ∨ b.toNat = 45 ∨ b.toNat = 46 ∨ b.toNat = 101 ∨ b.toNat = 69)
/-- nothing of a decimal goes on there -/
def StopY (y : List UInt8) : Prop := ∀ b t, y = b :: t → numU b = false
theorem stop_isD {y : List UInt8} (h : StopY y) : digs y = 0 := by
  cases y with
  | nil => rfl
  | cons b t =>
    have := h b t rfl
    unfold numU at this
    simp at this
    unfold digs
    rw [List.takeWhile_cons, if_neg (by simp [this.1])]; rfl
theorem digs_app (x y : List UInt8) (h : StopY y) : digs (x ++ y) = digs x := by
  induction x with
  | nil => rw [List.nil_append, stop_isD h]; rfl
  | cons b t ih =>
    unfold digs at ih ⊢
    rw [List.cons_append, List.takeWhile_cons, List.takeWhile_cons]
    split
    · simp only [List.length_cons, ih]
    · rfl
theorem drop_app (x y : List UInt8) {i : Nat} (hi : i ≤ x.length) : (x ++ y).drop i = x.drop i ++ y := by
  rw [List.drop_append_of_le_length hi]
theorem sgn_app (x y : List UInt8) (h : StopY y) : sgn (x ++ y) = sgn x := by
  cases x with
  | nil =>
    cases y with
    | nil => rfl
    | cons b t =>
      have := h b t rfl
      unfold numU at this
      simp at this
      show (if b.toNat = 43 ∨ b.toNat = 45 then 1 else 0) = 0
      rw [if_neg (by omega)]
  | cons b t => rfl
theorem get_app (x y : List UInt8) (h : StopY y) {i : Nat} (hi : i ≤ x.length) : ((x ++ y)[i]? = some 46 ↔ x[i]? = some 46) ∧ isE (x ++ y)[i]? = isE x[i]? := by
  by_cases hl : i < x.length
  · rw [List.getElem?_append_left hl]; exact ⟨Iff.rfl, rfl⟩
  · rw [List.getElem?_append_right (by omega), show i - x.length = 0 by omega, List.getElem?_eq_none (by omega : x.length ≤ i)]
    cases y with
    | nil => exact ⟨Iff.rfl, rfl⟩
    | cons b t =>
      have := h b t rfl
      unfold numU at this
      simp at this
      refine ⟨⟨fun hb => ?_, fun hb => by cases hb⟩, ?_⟩
      · simp at hb; subst hb; exact absurd rfl this.2.2.2.1
      · simp [isE]; omega
theorem sgn_len (x : List UInt8) : sgn x ≤ x.length := by
  cases x with
  | nil => exact Nat.le_refl _
  | cons b t => simp only [sgn, List.length_cons]; split <;> omega
theorem exp_app (x y : List UInt8) (h : StopY y) : expLen (x ++ y) = expLen x := by
  unfold expLen
  rw [sgn_app x y h, drop_app x y (sgn_len x), digs_app _ y h]
theorem int_len (x : List UInt8) : sgn x + digs (x.drop (sgn x)) ≤ x.length := by
  have h1 := sgn_len x
  have h2 := digs_le (x.drop (sgn x))
  rw [List.length_drop] at h2; omega
theorem frac_app (x y : List UInt8) (h : StopY y) {a : Nat} (ha : a ≤ x.length) : ((x ++ y)[a]? = some 46 ∧ 0 < digs ((x ++ y).drop (a + 1))) ↔ (x[a]? = some 46 ∧ 0 < digs (x.drop (a + 1))) := by
  have hg := (get_app x y h ha).1
  constructor
  · rintro ⟨h1, h2⟩
    have h3 := hg.1 h1
    have hlt := (List.getElem?_eq_some_iff.1 h3).1
    rw [drop_app x y (by omega), digs_app _ y h] at h2
    exact ⟨h3, h2⟩
  · rintro ⟨h1, h2⟩
    have hlt := (List.getElem?_eq_some_iff.1 h1).1
    rw [drop_app x y (by omega), digs_app _ y h]
    exact ⟨hg.2 h1, h2⟩
theorem body_app (x y : List UInt8) (h : StopY y) : bodyLen (x ++ y) = bodyLen x := by
  unfold bodyLen
  simp only [sgn_app x y h, drop_app x y (sgn_len x), digs_app _ y h]
  have hf := frac_app x y h (int_len x)
  by_cases hc : x[sgn x + digs (x.drop (sgn x))]? = some 46 ∧ 0 < digs (x.drop (sgn x + digs (x.drop (sgn x)) + 1))
  · have hlt := (List.getElem?_eq_some_iff.1 hc.1).1
    rw [if_pos hc, if_pos (hf.2 hc), drop_app x y (by omega), digs_app _ y h]
  · rw [if_neg hc, if_neg (fun h' => hc (hf.1 h'))]
theorem some_app (x y : List UInt8) (h : StopY y) : some_ (x ++ y) = some_ x := by
  unfold some_
  simp only [sgn_app x y h, drop_app x y (sgn_len x), digs_app _ y h]
  rw [Bool.eq_iff_iff, decide_eq_true_iff, decide_eq_true_iff, frac_app x y h (int_len x)]
theorem body_len (x : List UInt8) : bodyLen x ≤ x.length := by
  unfold bodyLen
  simp only
  split
  · rename_i hc
    have hlt := (List.getElem?_eq_some_iff.1 hc.1).1
    have := digs_le (x.drop (sgn x + digs (x.drop (sgn x)) + 1))
    rw [List.length_drop] at this; omega
  · exact int_len x
theorem len_app (x y : List UInt8) (h : StopY y) : lenP (x ++ y) = lenP x := by
  unfold lenP
  rw [some_app x y h]
  split
  · rfl
  simp only [body_app x y h]
  have hb := body_len x
  have hg := (get_app x y h hb).2
  rw [hg]
  by_cases he : isE x[bodyLen x]? = true
  · have hlt : bodyLen x < x.length := by
      by_cases hl : bodyLen x < x.length
      · exact hl
      · rw [List.getElem?_eq_none (by omega)] at he; cases he
    rw [drop_app x y (by omega), exp_app _ y h]
  · rw [if_neg (fun h' => he h'.1), if_neg (fun h' => he h'.1)]
theorem numU_byte {c : Int} (h0 : 0 ≤ c) (h1 : c < 128) : numU (Tk.byteOf c) = numB c := by
  have : ∀ k : Fin 128, numU (Tk.byteOf (k.val : Int)) = numB (k.val : Int) := by decide +kernel
  have h := this ⟨c.toNat, by omega⟩
  have e : ((c.toNat : Nat) : Int) = c := by omega
  simp only [e] at h; exact h
theorem ascii_num (r : List Int) (hr : ∀ c ∈ r, 0 ≤ c) : ∃ y, asciiT r = numText r ++ y ∧ StopY y := by
  induction r with
  | nil => exact ⟨[], rfl, fun b t h => by cases h⟩
  | cons c r ih =>
    obtain ⟨y, h1, h2⟩ := ih (fun d hd => hr d (by simp [hd]))
    have hc := hr c (by simp)
    unfold asciiT numText at *
    cases hb : numB c with
    | true =>
      have hlt : c < 128 := by unfold numB at hb; simp at hb; omega
      have e1 : (c :: r).takeWhile (fun c => decide (c < 128)) = c :: r.takeWhile (fun c => decide (c < 128)) := by rw [List.takeWhile_cons]; simp [hlt]
      have e2 : (c :: r).takeWhile numB = c :: r.takeWhile numB := by rw [List.takeWhile_cons, hb]; rfl
      rw [e1, e2, List.map_cons, List.map_cons, h1]
      exact ⟨y, rfl, h2⟩
    | false =>
      have e2 : (c :: r).takeWhile numB = [] := by rw [List.takeWhile_cons, hb]; rfl
      rw [e2]
      refine ⟨_, (List.nil_append _).symm, ?_⟩
      intro b t hbt
      by_cases hlt : c < 128
      · have e1 : (c :: r).takeWhile (fun c => decide (c < 128)) = c :: r.takeWhile (fun c => decide (c < 128)) := by rw [List.takeWhile_cons]; simp [hlt]
        rw [e1, List.map_cons] at hbt
        injection hbt with e1 e2
        rw [← e1, numU_byte hc hlt, hb]
      · have e1 : (c :: r).takeWhile (fun c => decide (c < 128)) = [] := by rw [List.takeWhile_cons]; simp [hlt]
        rw [e1] at hbt
        cases hbt
theorem len_ascii (r : List Int) (hr : ∀ c ∈ r, 0 ≤ c) : lenP (asciiT r) = lenP (numText r) ∧ (asciiT r).take (lenP (numText r)) = (numText r).take (lenP (numText r)) := by
  obtain ⟨y, h1, h2⟩ := ascii_num r hr
  refine ⟨by rw [h1, len_app _ y h2], ?_⟩
  rw [h1, List.take_append_of_le_length]
  unfold lenP
  split
  · exact Nat.zero_le _
  simp only
  have hb := body_len (numText r)
  split
  · rename_i hc
    have hlt : bodyLen (numText r) < (numText r).length := by
      by_cases hl : bodyLen (numText r) < (numText r).length
      · exact hl
      · rw [List.getElem?_eq_none (by omega)] at hc; simp [isE] at hc
    have h3 : expLen ((numText r).drop (bodyLen (numText r) + 1)) ≤ ((numText r).drop (bodyLen (numText r) + 1)).length := by
      unfold expLen
      split
      · exact int_len _
      · exact Nat.zero_le _
    rw [List.length_drop] at h3; omega
  · exact hb
/-- may a decimal begin with that? -/
def numStart (c : Int) : Bool := decide (c = 43 ∨ c = 45 ∨ c = 46 ∨ (48 ≤ c ∧ c ≤ 57))
theorem num_none {r : List Int} (hr : ∀ c ∈ r, 0 ≤ c) (h : numStart (pk r 0) = false) : lenP (numText r) = 0 := by
  cases r with
  | nil => rfl
  | cons c r =>
    rw [pk_cons0] at h
    have hc := hr c (by simp)
    have hx : ∀ b t, numText (c :: r) = b :: t → isD b = false ∧ b.toNat ≠ 43 ∧ b.toNat ≠ 45 ∧ b.toNat ≠ 46 := by
      intro b t hbt
      unfold numText at hbt
      rw [List.takeWhile_cons] at hbt
      split at hbt
      · rename_i hb
        rw [List.map_cons] at hbt
        injection hbt with e1 e2
        unfold numStart at h
        simp at h
        have hlt : c < 128 := by unfold numB at hb; simp at hb; omega
        have hn : (b.toNat : Int) = c := by
          rw [← e1]; unfold Tk.byteOf; rw [UInt8.toNat_ofNat']; omega
        refine ⟨?_, by omega, by omega, by omega⟩
        unfold isD; simp; omega
      · cases hbt
    generalize numText (c :: r) = x at hx
    cases x with
    | nil => rfl
    | cons b t =>
      obtain ⟨h1, h2, h3, h4⟩ := hx b t rfl
      have hs : sgn (b :: t) = 0 := by show (if _ then 1 else 0) = 0; rw [if_neg (by omega)]
      have hd : digs (b :: t) = 0 := by unfold digs; rw [List.takeWhile_cons, if_neg (by simp [h1])]; rfl
      unfold lenP
      rw [if_pos]
      unfold some_
      simp only [hs, List.drop_zero, hd]
      simp
      intro hb; subst hb; exact absurd rfl h4
theorem number_none {r : List Int} (h : lenP (numText r) = 0) : numberT r = none := by unfold numberT; simp only [h, if_pos]
end Np
end Go.Proofs.YtfhdihdafmahgaaGreatDoor
/- Layer 1: a decimal put together of its parts, with whatever behind it: plain laws. -/
set_option linter.unusedVariables false
set_option linter.unusedSimpArgs false
namespace Go.Proofs.YtfhdihdafmahgaaGreatDoor
open Go.RowKit Fx
namespace Fx
/-- parts that make a decimal -/
structure Parts (sg I P F E S2 X : List UInt8) : Prop where
  hsg : sg = [] ∨ ∃ b, sg = [b] ∧ (b.toNat = 43 ∨ b.toNat = 45)
  hI : ∀ b ∈ I, isD b = true
  hF : ∀ b ∈ F, isD b = true
  hP : (P = [] ∧ F = []) ∨ (P = [46] ∧ F ≠ [])
  hE : (E = [] ∧ S2 = [] ∧ X = []) ∨ (∃ e, E = [e] ∧ (e.toNat = 101 ∨ e.toNat = 69) ∧ X ≠ [])
  hS : S2 = [] ∨ ∃ b, S2 = [b] ∧ (b.toNat = 43 ∨ b.toNat = 45)
  hX : ∀ b ∈ X, isD b = true
  some : I ≠ [] ∨ F ≠ []
def glue (sg I P F E S2 X : List UInt8) : List UInt8 := sg ++ (I ++ (P ++ F)) ++ (E ++ (S2 ++ X))
end Fx
theorem Dec.parts {l sg I P F E S2 X : List UInt8} (D : Dec l sg I P F E S2 X) : Parts sg I P F E S2 X :=
  ⟨D.hsg, D.hI, D.hF, D.hP, D.hE, D.hS, D.hX, D.some⟩
theorem digs_app (I t : List UInt8) (h : ∀ b ∈ I, isD b = true) : digs (I ++ t) = I.length + digs t := by
  unfold digs
  induction I with
  | nil => simp
  | cons b I ih =>
    rw [List.cons_append, List.takeWhile_cons, if_pos (h b (by simp)), List.length_cons, ih (fun c hc => h c (by simp [hc])), List.length_cons]
    omega
theorem digs_stop {b : UInt8} (t : List UInt8) (h : isD b = false) : digs (b :: t) = 0 := by
  unfold digs; rw [List.takeWhile_cons, if_neg (by rw [h]; simp)]; rfl
theorem digs_nil : digs [] = 0 := rfl
theorem sgn_digit {b : UInt8} (t : List UInt8) (h : isD b = true) : sgn (b :: t) = 0 := by
  have := isD_range h
  unfold sgn; simp only []; rw [if_neg (by omega)]
theorem sgn_of {sg : List UInt8} (t : List UInt8) (h : sg = [] ∨ ∃ b, sg = [b] ∧ (b.toNat = 43 ∨ b.toNat = 45)) (h2 : sg = [] → sgn t = 0) : sgn (sg ++ t) = sg.length := by
  rcases h with h | ⟨b, h, hb⟩
  · rw [h]; exact h2 h
  · rw [h]; exact if_pos hb
theorem sgn_digits {X : List UInt8} (t : List UInt8) (hX : ∀ b ∈ X, isD b = true) (hne : X ≠ []) : sgn (X ++ t) = 0 := by
  cases X with
  | nil => exact absurd rfl hne
  | cons b X => exact sgn_digit _ (hX b (by simp))
theorem isE_notD {e : UInt8} (h : e.toNat = 101 ∨ e.toNat = 69) : isD e = false := by unfold isD; simp; omega
/-- the longest decimal is at least as long as the one that stands there; its parts are read, where an exponent stands or nothing is behind -/
theorem glue_body {sg I P F E S2 X : List UInt8} (D : Parts sg I P F E S2 X) (rest : List UInt8) (hr : E = [] → rest = []) :
    sgn (glue sg I P F E S2 X ++ rest) = sg.length ∧ digs ((glue sg I P F E S2 X ++ rest).drop sg.length) = I.length ∧ bodyLen (glue sg I P F E S2 X ++ rest) = sg.length + I.length + P.length + F.length ∧ some_ (glue sg I P F E S2 X ++ rest) = true
      ∧ intP (glue sg I P F E S2 X ++ rest) = I ∧ fracP (glue sg I P F E S2 X ++ rest) = F := by
  obtain ⟨Y, hY⟩ : ∃ Y, E ++ (S2 ++ X) ++ rest = Y := ⟨_, rfl⟩
  have hYd : digs Y = 0 ∧ Y[0]? ≠ some 46 := by
    rw [← hY]
    rcases D.hE with ⟨h1, h2, h3⟩ | ⟨e, h1, h2, _⟩
    · rw [h1, h2, h3, hr h1]; exact ⟨rfl, by simp⟩
    · rw [h1]
      refine ⟨digs_stop _ (isE_notD h2), ?_⟩
      simp; intro h; subst h; revert h2; decide
  have hl : glue sg I P F E S2 X ++ rest = sg ++ (I ++ (P ++ (F ++ Y))) := by rw [← hY]; unfold glue; simp
  have hs : sgn (sg ++ (I ++ (P ++ (F ++ Y)))) = sg.length := by
    refine sgn_of _ D.hsg fun _ => ?_
    by_cases hI : I = []
    · have hF : F ≠ [] := D.some.resolve_left (fun h => h hI)
      rcases D.hP with ⟨_, h⟩ | ⟨h, _⟩
      · exact absurd h hF
      · rw [hI, h]; rfl
    · exact sgn_digits _ D.hI hI
  have hd : (sg ++ (I ++ (P ++ (F ++ Y)))).drop sg.length = I ++ (P ++ (F ++ Y)) := by simp
  have hn : digs (I ++ (P ++ (F ++ Y))) = I.length := by
    rw [digs_app _ _ D.hI]
    rcases D.hP with ⟨h, h2⟩ | ⟨h, _⟩
    · rw [h, h2]; simp only [List.nil_append]; omega
    · rw [h]; rw [List.cons_append, digs_stop _ (by rfl)]; omega
  have hd2 : (sg ++ (I ++ (P ++ (F ++ Y)))).drop (sg.length + I.length) = P ++ (F ++ Y) := by
    rw [← List.drop_drop, hd]; simp
  have hat : (sg ++ (I ++ (P ++ (F ++ Y))))[sg.length + I.length]? = (P ++ (F ++ Y))[0]? := by
    rw [← hd2, List.getElem?_drop]; simp
  rw [hl]
  rcases D.hP with ⟨h, h2⟩ | ⟨h, h2⟩
  · have hno : ¬ (P ++ (F ++ Y))[0]? = some 46 := by rw [h, h2]; exact hYd.2
    have hI : I ≠ [] := D.some.resolve_right (fun h => h h2)
    have hIl := List.length_pos_iff.2 hI
    refine ⟨hs, by rw [hd, hn], ?_, ?_, ?_, ?_⟩
    · unfold bodyLen; simp only []; rw [hs, hd, hn, hat, if_neg (fun x => hno x.1), h, h2]; simp
    · unfold some_; simp only []; rw [hs, hd, hn]; simp [hIl]
    · unfold intP; rw [hs, hd, hn]; simp
    · unfold fracP; simp only []; rw [hs, hd, hn, hat, if_neg (fun x => hno x.1), h2]
  · have hyes : (P ++ (F ++ Y))[0]? = some 46 := by rw [h]; rfl
    have hFl := List.length_pos_iff.2 h2
    have hd3 : (sg ++ (I ++ (P ++ (F ++ Y)))).drop (sg.length + I.length + 1) = F ++ Y := by
      rw [← List.drop_drop, hd2, h]; rfl
    have hnF : digs (F ++ Y) = F.length := by rw [digs_app _ _ D.hF, hYd.1]; omega
    refine ⟨hs, by rw [hd, hn], ?_, ?_, ?_, ?_⟩
    · unfold bodyLen; simp only []; rw [hs, hd, hn, hat, hd3, hnF, if_pos ⟨hyes, hFl⟩, h]; simp; 
    · unfold some_; simp only []; rw [hs, hd, hn, hat, hd3, hnF]; simp [hyes, hFl]
    · unfold intP; rw [hs, hd, hn]; simp
    · unfold fracP; simp only []; rw [hs, hd, hn, hat, hd3, hnF, if_pos ⟨hyes, hFl⟩]; simp
theorem glue_len (sg I P F E S2 X : List UInt8) : (glue sg I P F E S2 X).length = sg.length + I.length + P.length + F.length + E.length + S2.length + X.length := by
  unfold glue; simp; omega
/-- a decimal with an exponent, whatever stands behind -/
theorem glue_exp {sg I P F E S2 X : List UInt8} (D : Parts sg I P F E S2 X) (hE : E ≠ []) (rest : List UInt8) :
    lenP (glue sg I P F E S2 X ++ rest) = (glue sg I P F E S2 X).length + digs rest ∧ expP (glue sg I P F E S2 X ++ rest) = S2 ++ X ++ rest := by
  obtain ⟨h1, h2, h3, h4, _, _⟩ := glue_body D rest (fun h => absurd h hE)
  obtain ⟨e, he1, he2, hX⟩ : ∃ e, E = [e] ∧ (e.toNat = 101 ∨ e.toNat = 69) ∧ X ≠ [] := by
    rcases D.hE with ⟨h, _⟩ | h
    · exact absurd h hE
    · exact h
  have hl : glue sg I P F E S2 X ++ rest = (sg ++ (I ++ (P ++ F))) ++ (e :: (S2 ++ (X ++ rest))) := by unfold glue; rw [he1]; simp
  have hA : (sg ++ (I ++ (P ++ F))).length = sg.length + I.length + P.length + F.length := by simp; omega
  have hat : (glue sg I P F E S2 X ++ rest)[sg.length + I.length + P.length + F.length]? = some e := by
    rw [hl, List.getElem?_append_right (by omega), hA]; simp
  have hdr : (glue sg I P F E S2 X ++ rest).drop (sg.length + I.length + P.length + F.length + 1) = S2 ++ (X ++ rest) := by
    rw [hl, ← List.drop_drop, ← hA, List.drop_left]; rfl
  have hie : isE (some e) = true := by unfold isE; simpa using he2
  have hsg : sgn (S2 ++ (X ++ rest)) = S2.length := sgn_of _ D.hS fun _ => sgn_digits _ D.hX hX
  have hXl := List.length_pos_iff.2 hX
  have hdx : digs ((S2 ++ (X ++ rest)).drop S2.length) = X.length + digs rest := by rw [List.drop_left, digs_app _ _ D.hX]
  have hexp : expLen (S2 ++ (X ++ rest)) = S2.length + (X.length + digs rest) := by
    unfold expLen; rw [hsg, hdx, if_pos (by omega)]
  have hSl : S2.length ≤ 1 := by
    rcases D.hS with h | ⟨b, h, _⟩ <;> rw [h] <;> simp
  constructor
  · unfold lenP
    simp only []
    rw [h4, if_neg (by simp), h3, hat, hdr, hexp, if_pos ⟨hie, by omega⟩, glue_len, he1]
    simp; omega
  · unfold expP
    rw [h3, hat, if_pos hie, hdr, List.append_assoc]
/-- parts make a decimal -/
theorem glue_is {sg I P F E S2 X : List UInt8} (D : Parts sg I P F E S2 X) :
    isP (glue sg I P F E S2 X) = true ∧ intP (glue sg I P F E S2 X) = I ∧ fracP (glue sg I P F E S2 X) = F ∧ expP (glue sg I P F E S2 X) = S2 ++ X ∧ lenP (glue sg I P F E S2 X) = (glue sg I P F E S2 X).length := by
  obtain ⟨h1, h2, h3, h4, h5, h6⟩ := glue_body D [] (fun _ => rfl)
  rw [List.append_nil] at h1 h2 h3 h4 h5 h6
  have hpos : 0 < (glue sg I P F E S2 X).length := by
    rw [glue_len]
    rcases D.some with h | h <;> have := List.length_pos_iff.2 h <;> omega
  have hne : glue sg I P F E S2 X ≠ [] := List.length_pos_iff.1 hpos
  have hlen : lenP (glue sg I P F E S2 X) = (glue sg I P F E S2 X).length ∧ expP (glue sg I P F E S2 X) = S2 ++ X := by
    by_cases hE : E = []
    · have hE2 : S2 = [] ∧ X = [] := by
        rcases D.hE with ⟨_, h, h2⟩ | ⟨e, h, _⟩
        · exact ⟨h, h2⟩
        · rw [hE] at h; cases h
      have hnone : (glue sg I P F E S2 X)[sg.length + I.length + P.length + F.length]? = none := by
        refine List.getElem?_eq_none ?_
        rw [glue_len, hE, hE2.1, hE2.2]; simp
      constructor
      · unfold lenP
        simp only []
        rw [h4, if_neg (by simp), h3, hnone, if_neg (fun h => by have := h.1; simp [isE] at this), glue_len, hE, hE2.1, hE2.2]; simp
      · unfold expP
        rw [h3, hnone, if_neg (by simp [isE]), hE2.1, hE2.2]; rfl
    · obtain ⟨a, b⟩ := glue_exp D hE []
      rw [List.append_nil] at a b
      rw [List.append_nil] at b
      exact ⟨by rw [a]; rfl, b⟩
  exact ⟨decide_eq_true ⟨hne, hlen.1⟩, h5, h6, hlen.2, hlen.1⟩
/-- a decimal is no longer than the longest one -/
theorem glue_le {sg I P F E S2 X : List UInt8} (D : Parts sg I P F E S2 X) (rest : List UInt8) : (glue sg I P F E S2 X).length ≤ lenP (glue sg I P F E S2 X ++ rest) := by
  by_cases hE : E = []
  · have hE2 : S2 = [] ∧ X = [] := by
      rcases D.hE with ⟨_, h, h2⟩ | ⟨e, h, _⟩
      · exact ⟨h, h2⟩
      · rw [hE] at h; cases h
    obtain ⟨l, hl⟩ : ∃ l, glue sg I P F E S2 X ++ rest = l := ⟨_, rfl⟩
    have hl2 : l = sg ++ (I ++ (P ++ (F ++ rest))) := by rw [← hl]; unfold glue; rw [hE, hE2.1, hE2.2]; simp
    have hs : sgn l = sg.length := by
      rw [hl2]
      refine sgn_of _ D.hsg fun _ => ?_
      by_cases hI : I = []
      · have hF : F ≠ [] := D.some.resolve_left (fun h => h hI)
        rcases D.hP with ⟨_, h⟩ | ⟨h, _⟩
        · exact absurd h hF
        · rw [hI, h]; rfl
      · exact sgn_digits _ D.hI hI
    have hd : l.drop sg.length = I ++ (P ++ (F ++ rest)) := by rw [hl2]; simp
    have hbody : some_ l = true ∧ (glue sg I P F E S2 X).length ≤ bodyLen l := by
      rw [glue_len, hE, hE2.1, hE2.2]
      rcases D.hP with ⟨h, h2⟩ | ⟨h, h2⟩
      · have hI : I ≠ [] := D.some.resolve_right (fun h => h h2)
        have hIl := List.length_pos_iff.2 hI
        have hdg : I.length ≤ digs (I ++ (P ++ (F ++ rest))) := by rw [digs_app _ _ D.hI]; omega
        constructor
        · unfold some_; simp only []; rw [hs, hd]; exact decide_eq_true (.inl (by omega))
        · unfold bodyLen; simp only []; rw [hs, hd, h, h2] at *; simp only [List.length_nil, List.nil_append] at *
          split <;> omega
      · have hFl := List.length_pos_iff.2 h2
        have hn : digs (I ++ (P ++ (F ++ rest))) = I.length := by rw [digs_app _ _ D.hI, h, List.cons_append, digs_stop _ (by rfl)]; omega
        have hd2 : l.drop (sg.length + I.length) = P ++ (F ++ rest) := by rw [← List.drop_drop, hd]; simp
        have hat : l[sg.length + I.length]? = some 46 := by
          have : l[sg.length + I.length]? = (P ++ (F ++ rest))[0]? := by rw [← hd2, List.getElem?_drop]; simp
          rw [this, h]; rfl
        have hd3 : l.drop (sg.length + I.length + 1) = F ++ rest := by rw [← List.drop_drop, hd2, h]; rfl
        have hnF : F.length ≤ digs (F ++ rest) := by rw [digs_app _ _ D.hF]; omega
        constructor
        · unfold some_; simp only []; rw [hs, hd, hn, hat, hd3]; exact decide_eq_true (.inr ⟨rfl, by omega⟩)
        · unfold bodyLen; simp only []; rw [hs, hd, hn, hat, hd3, if_pos ⟨rfl, by omega⟩, h]; simp; omega
    rw [hl]
    refine Nat.le_trans hbody.2 ?_
    unfold lenP
    simp only []
    rw [hbody.1, if_neg (by simp)]
    split <;> omega
  · rw [(glue_exp D hE rest).1]; omega
/-- a text's longest decimal, taken apart -/
theorem len_parts {l : List UInt8} (h : 0 < lenP l) : ∃ sg I P F E S2 X, Parts sg I P F E S2 X ∧ l.take (lenP l) = glue sg I P F E S2 X := by
  have hsome : some_ l = true := by
    cases hs : some_ l with
    | true => rfl
    | false => rw [lenP_none hs] at h; omega
  obtain ⟨A, hA⟩ : ∃ A, bodyLen l = A := ⟨_, rfl⟩
  have hAl := bodyLen_le l
  have ht := lenP_tail hsome hA
  have hk0 := sgn_le l
  have hn0 := digs_le (l.drop (sgn l))
  rw [List.length_drop] at hn0
  have e1 : l.take (sgn l + digs (l.drop (sgn l))) = l.take (sgn l) ++ intP l := by rw [List.take_add]; rfl
  have hItail : ∀ b ∈ intP l, isD b = true := by unfold intP; exact digs_all _
  have hFtail : ∀ b ∈ fracP l, isD b = true := by
    unfold fracP
    simp only []
    split
    · exact digs_all _
    · simp
  have hbody : ∃ P, l.take A = l.take (sgn l) ++ (intP l ++ (P ++ fracP l)) ∧ ((P = [] ∧ fracP l = []) ∨ (P = [46] ∧ fracP l ≠ [])) ∧ (intP l ≠ [] ∨ fracP l ≠ []) := by
    by_cases hd : l[sgn l + digs (l.drop (sgn l))]? = Option.some 46 ∧ 0 < digs (l.drop (sgn l + digs (l.drop (sgn l)) + 1))
    · have hF : fracP l = (l.drop (sgn l + digs (l.drop (sgn l)) + 1)).take (digs (l.drop (sgn l + digs (l.drop (sgn l)) + 1))) := by
        unfold fracP; simp only []; rw [if_pos hd]
      have hFl : (fracP l).length = digs (l.drop (sgn l + digs (l.drop (sgn l)) + 1)) := by
        have := digs_le (l.drop (sgn l + digs (l.drop (sgn l)) + 1))
        rw [hF, List.length_take]; omega
      have hA2 : A = sgn l + digs (l.drop (sgn l)) + 1 + digs (l.drop (sgn l + digs (l.drop (sgn l)) + 1)) := by
        rw [← hA]; unfold bodyLen; simp only []; rw [if_pos hd]
      have hFne : fracP l ≠ [] := by intro h0; rw [h0] at hFl; simp at hFl; omega
      refine ⟨[46], ?_, .inr ⟨rfl, hFne⟩, .inr hFne⟩
      rw [hA2, List.take_add, ← hF, take_snoc _ _ _ hd.1, e1]
      simp
    · have hF : fracP l = [] := by unfold fracP; simp only []; rw [if_neg hd]
      have hA2 : A = sgn l + digs (l.drop (sgn l)) := by
        rw [← hA]; unfold bodyLen; simp only []; rw [if_neg hd]
      have hIlen : (intP l).length = digs (l.drop (sgn l)) := by
        unfold intP; rw [List.length_take, List.length_drop]; omega
      refine ⟨[], ?_, .inl ⟨rfl, hF⟩, .inl ?_⟩
      · rw [hA2, e1, hF]; simp
      · intro h0
        rw [h0] at hIlen
        unfold some_ at hsome
        have hd2 := of_decide_eq_true hsome
        rcases hd2 with hd2 | hd2
        · simp at hIlen; omega
        · exact hd hd2
  obtain ⟨P, hb1, hb2, hb3⟩ := hbody
  by_cases hx : isE l[A]? = true ∧ 0 < digs (l.drop (A + 1 + sgn (l.drop (A + 1))))
  · have hL := ht.2 hx.1 _ _ rfl rfl
    rw [if_pos hx.2] at hL
    obtain ⟨e, he, hee⟩ : ∃ e, l[A]? = some e ∧ (e.toNat = 101 ∨ e.toNat = 69) := by
      rcases isE_cases l A with ⟨hge, hE⟩ | ⟨e, he, ⟨h1, _⟩ | ⟨h1, _⟩ | ⟨_, _, h3⟩⟩
      · rw [hE] at hx; exact absurd hx.1 (by simp)
      · exact ⟨e, he, .inl h1⟩
      · exact ⟨e, he, .inr h1⟩
      · rw [h3] at hx; exact absurd hx.1 (by simp)
    refine ⟨l.take (sgn l), intP l, P, fracP l, [e], (l.drop (A + 1)).take (sgn (l.drop (A + 1))), (l.drop (A + 1 + sgn (l.drop (A + 1)))).take (digs (l.drop (A + 1 + sgn (l.drop (A + 1))))), ⟨sgn_shape l, hItail, hFtail, hb2, .inr ⟨e, rfl, hee, ?_⟩, sgn_shape _, digs_all _, hb3⟩, ?_⟩
    · intro h0
      have h1 := congrArg List.length h0
      have := digs_le (l.drop (A + 1 + sgn (l.drop (A + 1))))
      rw [List.length_take, List.length_nil] at h1
      omega
    · rw [hL]
      unfold glue
      rw [← hb1]
      rw [List.take_add, List.take_add, take_snoc _ _ _ he]
      simp
  · have hL : lenP l = A := by
      cases hE : isE l[A]? with
      | false => exact ht.1 hE
      | true =>
        rw [hE] at hx
        have := ht.2 hE _ _ rfl rfl
        rw [if_neg (fun h => hx ⟨rfl, h⟩)] at this
        exact this
    refine ⟨l.take (sgn l), intP l, P, fracP l, [], [], [], ⟨sgn_shape l, hItail, hFtail, hb2, .inl ⟨rfl, rfl, rfl⟩, .inl rfl, by simp, hb3⟩, ?_⟩
    rw [hL]; unfold glue; rw [← hb1]; simp
/-- FixedBegins: the longest decimal is one -/
theorem begins_is (l : List UInt8) : isP (l.take (lenP l)) = decide (0 < lenP l) := by
  by_cases h : 0 < lenP l
  · obtain ⟨sg, I, P, F, E, S2, X, D, e⟩ := len_parts h
    rw [e, (glue_is D).1, decide_eq_true h]
  · have h0 : lenP l = 0 := by omega
    rw [h0]; rfl
/-- and none is longer -/
theorem begins_none (l : List UInt8) (k : Nat) (h : lenP l < k) (hk : k ≤ l.length) : isP (l.take k) = false := by
  cases hp : isP (l.take k) with
  | false => rfl
  | true =>
    exfalso
    obtain ⟨sg, I, P, F, E, S2, X, D⟩ := dec_of_isP hp
    have hD : l.take k = glue sg I P F E S2 X := D.all
    have := glue_le D.parts (l.drop k)
    rw [← hD, List.take_append_drop, List.length_take] at this
    omega
theorem lenP_le (l : List UInt8) : lenP l ≤ l.length := by
  by_cases h : 0 < lenP l
  · obtain ⟨sg, I, P, F, E, S2, X, D, e⟩ := len_parts h
    by_cases hle : lenP l ≤ l.length
    · exact hle
    · have h2 := (glue_is D).2.2.2.2
      rw [← e, List.take_of_length_le (by omega)] at h2
      omega
  · omega
end Go.Proofs.YtfhdihdafmahgaaGreatDoor
/- Layer 1: a printed number, parsed: plain laws. -/
set_option linter.unusedVariables false
set_option linter.unusedSimpArgs false
namespace Go.Proofs.YtfhdihdafmahgaaGreatDoor
open Go.RowKit Fx
namespace Fx
def fracD (r : Nat) : List UInt8 := (fracT r).drop 1
def fracPt (r : Nat) : List UInt8 := if r = 0 then [] else [46]
def scaleN (a : Nat) (e : Int) : Nat := if 0 ≤ e then 10 ^ e.toNat * a else a / 10 ^ (-e).toNat
end Fx
theorem frac_facts : ∀ r : Fin 1000, fracT r.val = fracPt r.val ++ fracD r.val ∧ (r.val ≠ 0 → fracD r.val ≠ []) ∧ (r.val = 0 → fracD r.val = []) ∧ (fracD r.val).all isD = true ∧ (fracD r.val).length ≤ 3 ∧ vA (fracD r.val) 3 = r.val := by decide +kernel
theorem dig_isD {n : Nat} (h : n < 10) : isD (dig n) = true ∧ dv (dig n) = n := by
  have : ∀ k : Fin 10, isD (dig k.val) = true ∧ dv (dig k.val) = k.val := by decide
  exact this ⟨n, h⟩
theorem dec_facts : ∀ k q, q ≤ k → (∀ b ∈ Lib.decDigits q, isD b = true) ∧ val (Lib.decDigits q) = q ∧ Lib.decDigits q ≠ [] := by
  intro k
  induction k with
  | zero =>
    intro q h
    obtain rfl : q = 0 := by omega
    rw [dec_small (by omega)]
    refine ⟨?_, by decide, by simp⟩
    intro b hb
    simp at hb; subst hb; decide
  | succ k ih =>
    intro q h
    by_cases h10 : q < 10
    · rw [dec_small h10]
      have := dig_isD h10
      refine ⟨?_, by simp [val, this.2], by simp⟩
      intro b hb
      simp at hb; subst hb; exact this.1
    · rw [dec_big (by omega)]
      obtain ⟨h1, h2, h3⟩ := ih (q / 10) (by omega)
      have := dig_isD (n := q % 10) (by omega)
      refine ⟨?_, ?_, by simp⟩
      · intro b hb
        rcases List.mem_append.1 hb with hb | hb
        · exact h1 b hb
        · simp at hb; subst hb; exact this.1
      · rw [val_snoc, h2, this.2]; omega
theorem vA_app (a b : List UInt8) (j : Nat) : vA (a ++ b) (a.length + j) = 10 ^ j * val a + vA b j := by
  induction j with
  | zero =>
    rw [Nat.add_zero, vA_append_len a b _ (Nat.le_refl _), val_vA a _ (Nat.le_refl _), List.take_length]; simp [vA]
  | succ j ih =>
    rw [← Nat.add_assoc, vA_succ, ih, vA_succ, List.getElem?_append_right (by omega), Nat.pow_succ, Nat.add_sub_cancel_left]
    have : 10 ^ j * 10 * val a = 10 * (10 ^ j * val a) := by rw [Nat.mul_comm (10 ^ j) 10, Nat.mul_assoc]
    omega
theorem vA_down (d : List UInt8) (h : ∀ b ∈ d, isD b = true) (i : Nat) : vA d i = vA d (i + 1) / 10 := by
  rw [vA_succ]
  have : ((d[i]?).map dv).getD 0 ≤ 9 := by
    cases hb : d[i]? with
    | none => simp
    | some b =>
      have := isD_range (h b (List.mem_of_getElem? hb))
      simp [dv]; omega
  omega
theorem vA_downs (d : List UInt8) (h : ∀ b ∈ d, isD b = true) (i k : Nat) : vA d i = vA d (i + k) / 10 ^ k := by
  induction k with
  | zero => simp
  | succ k ih => rw [ih, vA_down d h (i + k), Nat.div_div_eq_div_mul, Nat.pow_succ, Nat.mul_comm 10, ← Nat.add_assoc]
/-- the digits of a printed number -/
theorem print_digits (a : Nat) (e : Int) (he : -3 ≤ e) :
    foldN (Lib.decDigits (a / 1000) ++ fracD (a % 1000)) ((Lib.decDigits (a / 1000)).length + e + 3) = min (scaleN a e) M := by
  obtain ⟨h1, h2, h3⟩ := dec_facts _ (a / 1000) (Nat.le_refl _)
  obtain ⟨f1, f2, f3, f4, f5, f6⟩ := frac_facts ⟨a % 1000, by omega⟩
  simp only [] at f1 f2 f3 f4 f5 f6
  have hI := List.length_pos_iff.2 h3
  obtain ⟨I, hIe⟩ : ∃ I, Lib.decDigits (a / 1000) = I := ⟨_, rfl⟩
  obtain ⟨F, hFe⟩ : ∃ F, fracD (a % 1000) = F := ⟨_, rfl⟩
  rw [hIe] at h1 h2 h3 hI ⊢
  rw [hFe] at f2 f3 f4 f5 f6 ⊢
  have hall : ∀ b ∈ I ++ F, isD b = true := by
    intro b hb
    rcases List.mem_append.1 hb with hb | hb
    · exact h1 b hb
    · exact List.all_eq_true.1 f4 b hb
  have h0 : vA (I ++ F) (I.length + 3) = a := by rw [vA_app, h2, f6]; omega
  unfold foldN scaleN
  congr 1
  by_cases hp : 0 ≤ e
  · rw [if_pos hp, show (((I.length : Int) + e + 3).toNat) = (I.length + 3) + e.toNat by omega, vA_past _ (by rw [List.length_append]; omega), h0]
  · rw [if_neg hp, vA_downs _ hall (((I.length : Int) + e + 3).toNat) (-e).toNat, show ((I.length : Int) + e + 3).toNat + (-e).toNat = I.length + 3 by omega, h0]
theorem printN_parts (neg : Bool) (a : Nat) (E S2 X : List UInt8)
    (hE : (E = [] ∧ S2 = [] ∧ X = []) ∨ (∃ e, E = [e] ∧ (e.toNat = 101 ∨ e.toNat = 69) ∧ X ≠ [])) (hS : S2 = [] ∨ ∃ b, S2 = [b] ∧ (b.toNat = 43 ∨ b.toNat = 45)) (hX : ∀ b ∈ X, isD b = true) :
    Parts (if neg = true then [45] else []) (Lib.decDigits (a / 1000)) (fracPt (a % 1000)) (fracD (a % 1000)) E S2 X
      ∧ (if neg = true then [45] else []) ++ printN a ++ (E ++ (S2 ++ X)) = glue (if neg = true then [45] else []) (Lib.decDigits (a / 1000)) (fracPt (a % 1000)) (fracD (a % 1000)) E S2 X := by
  obtain ⟨h1, h2, h3⟩ := dec_facts _ (a / 1000) (Nat.le_refl _)
  obtain ⟨f1, f2, f3, f4, f5, f6⟩ := frac_facts ⟨a % 1000, by omega⟩
  simp only [] at f1 f2 f3 f4 f5 f6
  refine ⟨⟨?_, h1, List.all_eq_true.1 f4, ?_, hE, hS, hX, .inl h3⟩, ?_⟩
  · cases neg
    · exact .inl rfl
    · exact .inr ⟨45, rfl, .inr rfl⟩
  · by_cases h0 : a % 1000 = 0
    · exact .inl ⟨by rw [h0]; rfl, f3 h0⟩
    · exact .inr ⟨if_neg h0, f2 h0⟩
  · unfold glue printN; rw [f1]
theorem glue_head {sg I P F E S2 X : List UInt8} (hI : ∀ b ∈ I, isD b = true) (hne : I ≠ []) (neg : Bool) (hs : sg = if neg = true then [45] else []) : ((glue sg I P F E S2 X)[0]? = some 45) = (neg = true) := by
  cases neg with
  | true => simp only [if_true] at hs; rw [hs]; simp [glue]
  | false =>
    simp only [Bool.false_eq_true, if_false] at hs
    rw [hs]
    cases I with
    | nil => exact absurd rfl hne
    | cons b I =>
      have := isD_range (hI b (by simp))
      simp [glue]
      intro h; subst h; revert this; decide
/-- a printed number with an exponent is so many times as much -/
theorem parse_made (neg : Bool) (a : Nat) (E S2 X : List UInt8)
    (hE : (E = [] ∧ S2 = [] ∧ X = []) ∨ (∃ e, E = [e] ∧ (e.toNat = 101 ∨ e.toNat = 69) ∧ X ≠ [])) (hS : S2 = [] ∨ ∃ b, S2 = [b] ∧ (b.toNat = 43 ∨ b.toNat = 45)) (hX : ∀ b ∈ X, isD b = true)
    (e : Int) (he : powP (S2 ++ X) = e) (h3 : -3 ≤ e) (l : List UInt8) (hl : l = (if neg = true then [45] else []) ++ printN a ++ (E ++ (S2 ++ X))) :
    isP l = true ∧ lenP l = l.length ∧ parseP l = if neg = true then -((min (scaleN a e) M : Nat) : Int) else ((min (scaleN a e) M : Nat) : Int) := by
  obtain ⟨D, hg⟩ := printN_parts neg a E S2 X hE hS hX
  rw [hg] at hl
  obtain ⟨g1, g2, g3, g4, g5⟩ := glue_is D
  rw [hl]
  refine ⟨g1, g5, ?_⟩
  obtain ⟨h1, h2, h4⟩ := dec_facts _ (a / 1000) (Nat.le_refl _)
  unfold parseP numP
  rw [if_pos g1, g2, g3, g4, he, print_digits a e h3]
  simp only [glue_head h1 h4 neg rfl]
theorem parse_print (n : Int) : isP (printP n) = true ∧ lenP (printP n) = (printP n).length ∧ parseP (printP n) = stopZ n := by
  obtain ⟨neg, a, ha, hs, hn, hp⟩ := stop_form n
  obtain ⟨h1, h2, h3⟩ := parse_made neg a [] [] [] (.inl ⟨rfl, rfl, rfl⟩) (.inl rfl) (by simp) 0 rfl (by omega) (printP n) (by rw [hp]; simp)
  refine ⟨h1, h2, ?_⟩
  rw [h3, hs]
  have : min (scaleN a 0) M = a := by unfold scaleN M; simp; omega
  rw [this]
theorem printP_len (n : Int) : (printP n).length ≤ 20 := by
  obtain ⟨neg, a, ha, hs, hn, hp⟩ := stop_form n
  rw [hp]
  have h1 := deci_len (a / 1000) (by omega)
  obtain ⟨f1, f2, f3, f4, f5, f6⟩ := frac_facts ⟨a % 1000, by omega⟩
  simp only [] at f1 f5
  unfold printN
  rw [f1]
  have : (fracPt (a % 1000)).length ≤ 1 := by unfold fracPt; split <;> simp
  simp only [List.length_append]
  cases neg <;> simp <;> omega
namespace Fx
/-- what the law's loops make of a number -/
def ups (n : Int) : Nat → Int
  | 0 => n
  | k + 1 => ups n k * 10
def downs (n : Int) : Nat → Int
  | 0 => n
  | k + 1 => (downs n k).tdiv 10
def shiftZ (n e : Int) : Int := downs (ups n e.toNat) (-e).toNat
/-- the law's exponents -/
def expT (e : Int) : List UInt8 := if e = -3 then [45, 51] else if e = -2 then [45, 50] else if e = -1 then [45, 49] else if e = 0 then [48] else if e = 1 then [43, 49] else if e = 2 then [50] else [51]
end Fx
theorem ups_abs (n : Int) (k : Nat) : ups n k = n * 10 ^ k := by
  induction k with
  | zero => simp [ups]
  | succ k ih => rw [ups, ih, Int.pow_succ, Int.mul_assoc]
theorem tdiv10 (x : Nat) : (x : Int).tdiv 10 = ((x / 10 : Nat) : Int) := by rw [Int.tdiv_eq_ediv_of_nonneg (by omega)]; omega
theorem downs_pos (a k : Nat) : downs (a : Int) k = ((a / 10 ^ k : Nat) : Int) := by
  induction k with
  | zero => simp [downs]
  | succ k ih => rw [downs, ih, tdiv10, Nat.div_div_eq_div_mul, Nat.pow_succ]
theorem downs_neg (a k : Nat) : downs (-(a : Int)) k = -((a / 10 ^ k : Nat) : Int) := by
  induction k with
  | zero => simp [downs]
  | succ k ih => rw [downs, ih, Int.neg_tdiv, tdiv10, Nat.div_div_eq_div_mul, Nat.pow_succ]
theorem shift_parse (n e : Int) (h1 : -1073741824 ≤ n) (h2 : n ≤ 1073741824) (h3 : -3 ≤ e) (h4 : e ≤ 3) :
    isP (printP n ++ 101 :: expT e) = true ∧ parseP (printP n ++ 101 :: expT e) = stopZ (shiftZ n e) := by
  have hst : stopZ n = n := stopZ_of (by omega) (by omega)
  obtain ⟨neg, a, ha, hs, hn, hp⟩ := stop_form n
  rw [hst] at hs
  have hab : a ≤ 1073741824 := by cases neg <;> simp at hs <;> omega
  have key : ∀ (S2 X : List UInt8), expT e = S2 ++ X → X ≠ [] → (S2 = [] ∨ ∃ b, S2 = [b] ∧ (b.toNat = 43 ∨ b.toNat = 45)) → (∀ b ∈ X, isD b = true) → powP (S2 ++ X) = e →
      isP (printP n ++ 101 :: expT e) = true ∧ parseP (printP n ++ 101 :: expT e) = if neg = true then -((min (scaleN a e) M : Nat) : Int) else ((min (scaleN a e) M : Nat) : Int) := by
    intro S2 X h5 h6 h7 h8 h9
    obtain ⟨r1, r2, r3⟩ := parse_made neg a [101] S2 X (.inr ⟨101, rfl, .inl rfl, h6⟩) h7 h8 e h9 h3 (printP n ++ 101 :: expT e) (by rw [hp, h5]; simp)
    exact ⟨r1, r3⟩
  have fin : (isP (printP n ++ 101 :: expT e) = true ∧ parseP (printP n ++ 101 :: expT e) = if neg = true then -((min (scaleN a e) M : Nat) : Int) else ((min (scaleN a e) M : Nat) : Int)) := by
    have h : e = -3 ∨ e = -2 ∨ e = -1 ∨ e = 0 ∨ e = 1 ∨ e = 2 ∨ e = 3 := by omega
    rcases h with rfl | rfl | rfl | rfl | rfl | rfl | rfl
    · exact key [45] [51] rfl (by simp) (.inr ⟨45, rfl, .inr rfl⟩) (by decide) (by decide)
    · exact key [45] [50] rfl (by simp) (.inr ⟨45, rfl, .inr rfl⟩) (by decide) (by decide)
    · exact key [45] [49] rfl (by simp) (.inr ⟨45, rfl, .inr rfl⟩) (by decide) (by decide)
    · exact key [] [48] rfl (by simp) (.inl rfl) (by decide) (by decide)
    · exact key [43] [49] rfl (by simp) (.inr ⟨43, rfl, .inl rfl⟩) (by decide) (by decide)
    · exact key [] [50] rfl (by simp) (.inl rfl) (by decide) (by decide)
    · exact key [] [51] rfl (by simp) (.inl rfl) (by decide) (by decide)
  refine ⟨fin.1, ?_⟩
  rw [fin.2]
  clear fin key hp
  have hsh : shiftZ n e = if neg = true then -((scaleN a e : Nat) : Int) else ((scaleN a e : Nat) : Int) := by
    unfold shiftZ scaleN
    by_cases hp : 0 ≤ e
    · rw [if_pos hp, show (-e).toNat = 0 by omega]
      show ups n e.toNat = _
      rw [ups_abs]
      cases neg <;> simp only [Bool.false_eq_true, if_false, if_true] at hs ⊢ <;> rw [hs]
      · push_cast; rw [Int.mul_comm]
      · push_cast; rw [Int.neg_mul, Int.mul_comm]
    · rw [if_neg hp, show e.toNat = 0 by omega]
      show downs n _ = _
      cases neg <;> simp only [Bool.false_eq_true, if_false, if_true] at hs ⊢ <;> rw [hs]
      · rw [downs_pos]
      · rw [downs_neg]
  rw [hsh]
  generalize scaleN a e = x
  unfold stopZ M
  cases neg <;> simp only [Bool.false_eq_true, if_false, if_true] <;> omega
end Go.Proofs.YtfhdihdafmahgaaGreatDoor
/- Layer 4: a printed number ahead of a name: how long its decimal is. Plain laws. -/
set_option linter.unusedVariables false
set_option linter.unusedSimpArgs false
namespace Go.Proofs.YtfhdihdafmahgaaGreatDoor
open Go.RowKit Rn Tk Fx
namespace Nm
/-- what stands there is no digit, no point, no e -/
def StopM (y : List UInt8) : Prop := ∀ b t, y = b :: t → isD b = false ∧ b.toNat ≠ 46 ∧ b.toNat ≠ 101 ∧ b.toNat ≠ 69
theorem stop_isD {y : List UInt8} (h : StopM y) : digs y = 0 := by
  cases y with
  | nil => rfl
  | cons b t =>
    unfold digs
    rw [List.takeWhile_cons, if_neg (by simp [(h b t rfl).1])]; rfl
theorem digs_app (x y : List UInt8) (h : StopM y) : digs (x ++ y) = digs x := by
  induction x with
  | nil => rw [List.nil_append, stop_isD h]; rfl
  | cons b t ih =>
    unfold digs at ih ⊢
    rw [List.cons_append, List.takeWhile_cons, List.takeWhile_cons]
    split
    · simp only [List.length_cons, ih]
    · rfl
theorem sgn_app (x y : List UInt8) (h : x ≠ []) : sgn (x ++ y) = sgn x := by
  obtain ⟨b, t, rfl⟩ := List.exists_cons_of_ne_nil h
  rfl
theorem get_app (x y : List UInt8) (h : StopM y) {i : Nat} (hi : i ≤ x.length) : ((x ++ y)[i]? = some 46 ↔ x[i]? = some 46) ∧ isE (x ++ y)[i]? = isE x[i]? := by
  by_cases hl : i < x.length
  · rw [List.getElem?_append_left hl]; exact ⟨Iff.rfl, rfl⟩
  · rw [List.getElem?_append_right (by omega), show i - x.length = 0 by omega, List.getElem?_eq_none (by omega : x.length ≤ i)]
    cases y with
    | nil => exact ⟨Iff.rfl, rfl⟩
    | cons b t =>
      have := h b t rfl
      refine ⟨⟨fun hb => ?_, fun hb => by cases hb⟩, ?_⟩
      · simp at hb; subst hb; exact absurd rfl this.2.1
      · simp [isE]; omega
theorem frac_app (x y : List UInt8) (h : StopM y) {a : Nat} (ha : a ≤ x.length) : ((x ++ y)[a]? = some 46 ∧ 0 < digs ((x ++ y).drop (a + 1))) ↔ (x[a]? = some 46 ∧ 0 < digs (x.drop (a + 1))) := by
  have hg := (get_app x y h ha).1
  constructor
  · rintro ⟨h1, h2⟩
    have h3 := hg.1 h1
    have hlt := (List.getElem?_eq_some_iff.1 h3).1
    rw [Np.drop_app x y (by omega), digs_app _ y h] at h2
    exact ⟨h3, h2⟩
  · rintro ⟨h1, h2⟩
    have hlt := (List.getElem?_eq_some_iff.1 h1).1
    rw [Np.drop_app x y (by omega), digs_app _ y h]
    exact ⟨hg.2 h1, h2⟩
theorem body_app (x y : List UInt8) (hx : x ≠ []) (h : StopM y) : bodyLen (x ++ y) = bodyLen x := by
  unfold bodyLen
  simp only [sgn_app x y hx, Np.drop_app x y (Np.sgn_len x), digs_app _ y h]
  have hf := frac_app x y h (Np.int_len x)
  by_cases hc : x[sgn x + digs (x.drop (sgn x))]? = some 46 ∧ 0 < digs (x.drop (sgn x + digs (x.drop (sgn x)) + 1))
  · have hlt := (List.getElem?_eq_some_iff.1 hc.1).1
    rw [if_pos hc, if_pos (hf.2 hc), Np.drop_app x y (by omega), digs_app _ y h]
  · rw [if_neg hc, if_neg (fun h' => hc (hf.1 h'))]
theorem some_app (x y : List UInt8) (hx : x ≠ []) (h : StopM y) : some_ (x ++ y) = some_ x := by
  unfold some_
  simp only [sgn_app x y hx, Np.drop_app x y (Np.sgn_len x), digs_app _ y h]
  rw [Bool.eq_iff_iff, decide_eq_true_iff, decide_eq_true_iff, frac_app x y h (Np.int_len x)]
/-- a decimal without an exponent, all of it, stays as long -/
theorem len_app (x y : List UInt8) (hx : x ≠ []) (h : StopM y) (hb : bodyLen x = x.length) : lenP (x ++ y) = lenP x := by
  unfold lenP
  rw [some_app x y hx h]
  split
  · rfl
  simp only [body_app x y hx h]
  have hg := (get_app x y h (i := bodyLen x) (by omega)).2
  have hn : isE x[bodyLen x]? = false := by rw [hb, List.getElem?_eq_none (Nat.le_refl _)]; rfl
  rw [hg, hn]
  simp
end Nm
theorem dig_frac : ∀ r : Fin 1000, ∀ b ∈ fracT r.val, isD b = true ∨ b = 46 := by decide +kernel
theorem printP_bytes (n : Int) : ∀ b ∈ Fx.printP n, isD b = true ∨ b = 45 ∨ b = 46 := by
  intro b hb
  unfold Fx.printP at hb
  rcases List.mem_append.1 hb with hb | hb
  · split at hb
    · exact .inr (.inl (by simpa using hb))
    · cases hb
  · unfold printN at hb
    rcases List.mem_append.1 hb with hb | hb
    · exact .inl ((dec_facts _ _ (Nat.le_refl _)).1 b hb)
    · have hm : (stopZ n).natAbs % 1000 < 1000 := Nat.mod_lt _ (by omega)
      rcases dig_frac ⟨_, hm⟩ b hb with h | h
      · exact .inl h
      · exact .inr (.inr h)
theorem printP_ne (n : Int) : Fx.printP n ≠ [] := by
  have h := (dec_facts _ ((stopZ n).natAbs / 1000) (Nat.le_refl _)).2.2
  unfold Fx.printP printN
  intro e
  have := (List.append_eq_nil_iff.1 e).2
  exact h (List.append_eq_nil_iff.1 this).1
theorem printP_body (n : Int) : bodyLen (Fx.printP n) = (Fx.printP n).length := by
  have hp := (parse_print n).2.1
  have hb := Np.body_len (Fx.printP n)
  have hne := printP_ne n
  have hpos := List.length_pos_iff.2 hne
  have hE : isE (Fx.printP n)[bodyLen (Fx.printP n)]? = false := by
    cases h : (Fx.printP n)[bodyLen (Fx.printP n)]? with
    | none => rfl
    | some b =>
      have := printP_bytes n b (List.mem_of_getElem? h)
      unfold isE
      simp only
      rcases this with h1 | rfl | rfl
      · unfold isD at h1; simp at h1 ⊢; omega
      · decide
      · decide
  unfold lenP at hp
  split at hp
  · omega
  · simp only [hE] at hp
    simpa using hp
end Go.Proofs.YtfhdihdafmahgaaGreatDoor
/- Layer 3: white space and comments are walked. -/
set_option linter.unusedVariables false
set_option linter.unusedSimpArgs false
namespace Go.Proofs.YtfhdihdafmahgaaGreatDoor
open Go.RowKit Rn Tk
section
variable {w : World} {B S P n cap k : Nat} {A : Option Addr} {l : List Int}
theorem tk_peek0 (h : At w B S P A n cap l k) : Calls Tryz.prog 56 #[.pointer (some ⟨P, 0, none⟩), .int .i64 0] w fun e w' => e = .returned (.int .i32 (pk (l.drop k) 0)) ∧ w.grownBy w' none := by
  have := tk_peek 0 h (by omega); rwa [Int.natCast_zero] at this
theorem tk_peek1 (h : At w B S P A n cap l k) : Calls Tryz.prog 56 #[.pointer (some ⟨P, 0, none⟩), .int .i64 1] w fun e w' => e = .returned (.int .i32 (pk (l.drop k) 1)) ∧ w.grownBy w' none := by
  have := tk_peek 1 h (by omega); rwa [Int.natCast_one] at this
theorem tk_escape0 (h : At w B S P A n cap l k) : Calls Tryz.prog 88 #[.pointer (some ⟨S, 0, none⟩), .int .i64 0] w fun e w' => e = .returned (.bool (esc (l.drop k))) ∧ w.grownBy w' none := by
  have := tk_escape 0 h (by omega); rwa [Int.natCast_zero, Nat.add_zero] at this
theorem tk_escape1 (h : At w B S P A n cap l k) : Calls Tryz.prog 88 #[.pointer (some ⟨S, 0, none⟩), .int .i64 1] w fun e w' => e = .returned (.bool (esc (l.drop (k + 1)))) ∧ w.grownBy w' none := by
  have := tk_escape 1 h (by omega); rwa [Int.natCast_one] at this
theorem tk_begins0 (h : At w B S P A n cap l k) : Calls Tryz.prog 91 #[.pointer (some ⟨S, 0, none⟩), .int .i64 0] w fun e w' => e = .returned (.bool (beg (l.drop k))) ∧ w.grownBy w' none := by
  have := tk_begins 0 h (by omega); rwa [Int.natCast_zero, Nat.add_zero] at this
theorem tk_begins1 (h : At w B S P A n cap l k) : Calls Tryz.prog 91 #[.pointer (some ⟨S, 0, none⟩), .int .i64 1] w fun e w' => e = .returned (.bool (beg (l.drop (k + 1)))) ∧ w.grownBy w' none := by
  have := tk_begins 1 h (by omega); rwa [Int.natCast_one] at this
end
theorem spacesT_white {r : List Int} (h : whiteB (pk r 0) = true) : spacesT r = (true, (spacesT r.tail).2) := by rw [spacesT, dif_pos h]
theorem spacesT_comment {r : List Int} (h : whiteB (pk r 0) = false) (h2 : pk r 0 = 47 ∧ pk r 1 = 42) : spacesT r = spacesT (skipC r.tail.tail) := by rw [spacesT, dif_neg (by simp [h]), dif_pos h2]
theorem spacesT_end {r : List Int} (h : whiteB (pk r 0) = false) (h2 : ¬ (pk r 0 = 47 ∧ pk r 1 = 42)) : spacesT r = (false, r) := by rw [spacesT, dif_neg (by simp [h]), dif_neg h2]
theorem skipC_on {l : List Int} {j : Nat} (hj : j < l.length) (h : ¬ (pk (l.drop j) 0 = 42 ∧ pk (l.drop j) 1 = 47)) : skipC (l.drop j) = skipC (l.drop (j + 1)) := by
  rw [List.drop_eq_getElem_cons hj] at h ⊢
  rw [pk_cons0, pk_cons] at h
  rw [skipC, if_neg h]
theorem skipC_stop {l : List Int} {j : Nat} (hj : j < l.length) (h : pk (l.drop j) 0 = 42 ∧ pk (l.drop j) 1 = 47) : skipC (l.drop j) = l.drop (j + 2) := by
  rw [List.drop_eq_getElem_cons hj] at h ⊢
  rw [pk_cons0, pk_cons] at h
  rw [skipC, if_pos h, List.tail_drop]
set_option maxRecDepth 100000 in
set_option maxHeartbeats 1000000 in
theorem tk_space {w : World} {B S P n cap k : Nat} {A : Option Addr} {l : List Int} (h : At w B S P A n cap l k) (hch : Chars l) :
    Calls Tryz.prog 55 #[.pointer (some ⟨S, 0, none⟩)] w fun e w' => e = .returned (.bool (spacesT (l.drop k)).1) ∧ Mv P w w' ∧ ∃ k', k ≤ k' ∧ l.drop k' = (spacesT (l.drop k)).2 ∧ At w' B S P A n cap l k' := by
  have hlen := h.len
  have hn := h.hn
  have Hr := Lib.hid (fun j m => pk_range (hch.drop j) m)
  have Hch := Lib.hid hch
  obtain ⟨T, hT⟩ : ∃ T, spacesT (l.drop k) = T := ⟨_, rfl⟩
  rw [hT]
  have HT := Lib.hid hT
  clear hT hch
  go_enter Tryz.func55, Tryz.ntmps55
  go_wp2_with fail
  go_loopw [3] (fun x wr => ∃ (k2 : Nat) (b : Bool), k ≤ k2 ∧ Hid ((b || (spacesT (l.drop k2)).1, (spacesT (l.drop k2)).2) = T) ∧ x = .bool b ∧ At wr B S P A n cap l k2 ∧ Mv P w wr) (fun _ wr => n - posOf P wr)
  case atStart => exact ⟨k, false, Nat.le_refl _, (by show _ = _; rw [HT.out]; simp), rfl, h, Mv.refl _ _⟩
  case round =>
    obtain ⟨k2, b, hkk, hrun, rfl, hat, hmv⟩ := hrel
    have hk2 := hat.hk
    have hpos := hat.pos
    have hp := fun w' (g : wr.grownBy w' none) => tk_peek0 (hat.mv g)
    have hp1 := fun w' (g : wr.grownBy w' none) => tk_peek1 (hat.mv g)
    have ks := fun w' (g : wr.grownBy w' none) => (hat.mv g).s0
    obtain ⟨c, hc⟩ : ∃ c, pk (l.drop k2) 0 = c := ⟨_, rfl⟩
    obtain ⟨d, hd⟩ : ∃ d, pk (l.drop k2) 1 = d := ⟨_, rfl⟩
    have hcr := Hr.out k2 0
    rw [hc] at hp hcr
    rw [hd] at hp1
    have x0 := hat.s0
    cases hw : whiteB c with
    | true =>
      have hkn : k2 < n := by
        have := pk_pos (l := l.drop k2) (m := 0) (by rw [hc]; unfold whiteB at hw; simp at hw; omega)
        rw [List.length_drop] at this; omega
      have hnew : ((true || (spacesT (l.drop (k2 + 1))).1, (spacesT (l.drop (k2 + 1))).2) = T) := by
        rw [← hrun.out, spacesT_white (r := l.drop k2) (by rw [hc]; exact hw), List.tail_drop]; simp
      have Hnew := Lib.hid hnew
      clear hnew hrun
      go_wp2_with fail
      refine (hp wr (World.grownBy.refl _ _)).mono ?_
      rintro e w1 ⟨rfl, g1⟩
      have hat1 := hat.mv g1
      have hmv1 := hmv.trans (Mv.of g1)
      have y1 := hat1.s0
      have y2 := hat1.p0
      have y3 := hat1.p1
      have y4 := hat1.fz
      have h5 := hat1.store (k' := k2 + 1) (by omega)
      have m5 := hmv1.trans (Mv.store w1 P (.int .i64 ((k2 + 1 : Nat) : Int)))
      have q5 := h5.pos
      push_cast at h5 m5 q5
      go_wp2_with fail
      refine (rn_white c _).mono ?_
      rintro e w3 ⟨rfl, rfl⟩
      rw [hw]
      go_wp2_with fail
      go_roundw
      case rel => exact ⟨k2 + 1, true, by omega, Hnew, rfl, h5, m5⟩
      case measure => rw [q5, hpos]; omega
    | false =>
      by_cases hcd : c = 47 ∧ d = 42
      · have hk1 : k2 + 1 < n := by
          have := pk_pos (l := l.drop k2) (m := 1) (by rw [hd]; omega)
          rw [List.length_drop] at this; omega
        have hnew : ((b || (spacesT (skipC (l.drop (k2 + 2)))).1, (spacesT (skipC (l.drop (k2 + 2)))).2) = T) := by
          rw [← hrun.out, spacesT_comment (r := l.drop k2) (by rw [hc]; exact hw) (by rw [hc, hd]; exact hcd), List.tail_drop, List.tail_drop]
        have Hnew := Lib.hid hnew
        have t47 := eq_t hcd.1
        have t42 := eq_t hcd.2
        clear hnew hrun hcd
        go_wp2_with fail
        refine (hp wr (World.grownBy.refl _ _)).mono ?_
        rintro e w1 ⟨rfl, g1⟩
        have y1 := ks w1 g1
        go_wp2_with fail
        refine (rn_white c _).mono ?_
        rintro e w3 ⟨rfl, rfl⟩
        rw [hw]
        go_wp2_with fail
        refine (hp w1 g1).mono ?_
        rintro e w2 ⟨rfl, g2⟩
        have g2 := g1.trans g2
        have y2 := ks w2 g2
        go_wp2_with fail
        refine (hp1 w2 g2).mono ?_
        rintro e w3 ⟨rfl, g3⟩
        have g3 := g2.trans g3
        have hat3 := hat.mv g3
        have hmv3 := hmv.trans (Mv.of g3)
        have z1 := hat3.s0
        have z2 := hat3.p0
        have z3 := hat3.p1
        have z4 := hat3.fz
        have h5 := hat3.store (k' := k2 + 2) (by omega)
        have m5 := hmv3.trans (Mv.store w3 P (.int .i64 ((k2 + 2 : Nat) : Int)))
        push_cast at h5 m5
        have q0 : k ≤ k2 + 2 := by omega
        clear hp hp1 ks y1 y2 x0
        go_upto_block 3 with (fail)
        go_cut [3] (fun x wx => x = .bool b ∧ ∃ j, k2 + 2 ≤ j ∧ Hid (skipC (l.drop (k2 + 2)) = skipC (l.drop j)) ∧ Hid (j = n ∨ (j < n ∧ pk (l.drop j) 0 = 42 ∧ pk (l.drop j) 1 = 47)) ∧ At wx B S P A n cap l j ∧ Mv P w wx)
        case first =>
          go_wp2_with fail
          go_loopw [47] (fun z wi => ∃ j, k2 + 2 ≤ j ∧ Hid (skipC (l.drop (k2 + 2)) = skipC (l.drop j)) ∧ At wi B S P A n cap l j ∧ Mv P w wi) (fun _ wi => n - posOf P wi)
          case atStart => exact ⟨k2 + 2, Nat.le_refl _, rfl, h5, m5⟩
          case round =>
            obtain ⟨j, hj, hrj, hatj, hmvj⟩ := hrel
            have hjn := hatj.hk
            have hposj := hatj.pos
            have ks := hatj.s0
            have hp := tk_peek0 hatj
            have Hre := fun (e : Int) (he : pk (l.drop j) 0 = e) => he
            by_cases hjl : j < n
            · obtain ⟨e0, he0⟩ : ∃ c, pk (l.drop j) 0 = c := ⟨_, rfl⟩
              have hpos0 := isB_range (pk_is (l := l) Hch.out (m := j) (by omega))
              rw [show pk l j = pk (l.drop j) 0 from by rw [pk_drop]; rfl, he0] at hpos0
              have d0 : decide ((0 : Int) ≤ e0) = true := by simp; omega
              rw [he0] at hp
              have hp' := fun w' (g : wr.grownBy w' none) => tk_peek0 (hatj.mv g)
              have hp1 := fun w' (g : wr.grownBy w' none) => tk_peek1 (hatj.mv g)
              have ks' := fun w' (g : wr.grownBy w' none) => (hatj.mv g).s0
              obtain ⟨e1, he1⟩ : ∃ c, pk (l.drop j) 1 = c := ⟨_, rfl⟩
              rw [he0] at hp'
              rw [he1] at hp1
              by_cases h42 : e0 = 42
              · by_cases h47 : e1 = 47
                · have hst : Hid (j = n ∨ (j < n ∧ pk (l.drop j) 0 = 42 ∧ pk (l.drop j) 1 = 47)) := .inr ⟨hjl, by rw [he0]; exact h42, by rw [he1]; exact h47⟩
                  have t42 : (e0 != 42) = false := by simp [h42]
                  have t47 : (e1 != 47) = false := by simp [h47]
                  clear h42 h47 he0 he1
                  go_wp2_with fail
                  refine hp.mono ?_
                  rintro e w5 ⟨rfl, g5⟩
                  have y5 := ks' w5 g5
                  go_wp2_with fail
                  refine (hp' w5 g5).mono ?_
                  rintro e w6 ⟨rfl, g6⟩
                  have g6 := g5.trans g6
                  have y6 := ks' w6 g6
                  go_wp2_with fail
                  refine (hp1 w6 g6).mono ?_
                  rintro e w7 ⟨rfl, g7⟩
                  have g7 := g6.trans g7
                  go_wp2_with fail
                  go_meet
                  exact ⟨rfl, j, hj, hrj, hst, hatj.mv g7, hmvj.trans (Mv.of g7)⟩
                · have hnx : Hid (skipC (l.drop (k2 + 2)) = skipC (l.drop (j + 1))) := by
                    show _ = _; rw [hrj.out, skipC_on (by omega) (by rw [he1]; exact fun h => h47 h.2)]
                  have t42 : (e0 != 42) = false := by simp [h42]
                  have t47 : (e1 != 47) = true := by simp [h47]
                  clear h42 h47 he0 he1
                  go_wp2_with fail
                  refine hp.mono ?_
                  rintro e w5 ⟨rfl, g5⟩
                  have y5 := ks' w5 g5
                  go_wp2_with fail
                  refine (hp' w5 g5).mono ?_
                  rintro e w6 ⟨rfl, g6⟩
                  have g6 := g5.trans g6
                  have y6 := ks' w6 g6
                  go_wp2_with fail
                  refine (hp1 w6 g6).mono ?_
                  rintro e w7 ⟨rfl, g7⟩
                  have g7 := g6.trans g7
                  have hat7 := hatj.mv g7
                  have u1 := hat7.s0
                  have u2 := hat7.p0
                  have u3 := hat7.p1
                  have u4 := hat7.fz
                  have h8 := hat7.store (k' := j + 1) (by omega)
                  have m8 := (hmvj.trans (Mv.of g7)).trans (Mv.store w7 P (.int .i64 ((j + 1 : Nat) : Int)))
                  have q8 := h8.pos
                  push_cast at h8 m8 q8
                  go_wp2_with fail
                  go_roundw
                  case rel => exact ⟨j + 1, by omega, hnx, h8, m8⟩
                  case measure => rw [q8, hposj]; omega
              · have hnx : Hid (skipC (l.drop (k2 + 2)) = skipC (l.drop (j + 1))) := by
                  show _ = _; rw [hrj.out, skipC_on (by omega) (by rw [he0]; exact fun h => h42 h.1)]
                have t42 : (e0 != 42) = true := by simp [h42]
                clear h42 he0 he1
                go_wp2_with fail
                refine hp.mono ?_
                rintro e w5 ⟨rfl, g5⟩
                have y5 := ks' w5 g5
                go_wp2_with fail
                refine (hp' w5 g5).mono ?_
                rintro e w6 ⟨rfl, g6⟩
                have g6 := g5.trans g6
                have hat7 := hatj.mv g6
                have u1 := hat7.s0
                have u2 := hat7.p0
                have u3 := hat7.p1
                have u4 := hat7.fz
                have h8 := hat7.store (k' := j + 1) (by omega)
                have m8 := (hmvj.trans (Mv.of g6)).trans (Mv.store w6 P (.int .i64 ((j + 1 : Nat) : Int)))
                have q8 := h8.pos
                push_cast at h8 m8 q8
                go_wp2_with fail
                go_roundw
                case rel => exact ⟨j + 1, by omega, hnx, h8, m8⟩
                case measure => rw [q8, hposj]; omega
            · have hpe := pk_end (l := l) (k := j) (m := 0) (by omega)
              rw [hpe] at hp
              have hst : Hid (j = n ∨ (j < n ∧ pk (l.drop j) 0 = 42 ∧ pk (l.drop j) 1 = 47)) := .inl (by omega)
              clear hpe
              go_wp2_with fail
              refine hp.mono ?_
              rintro e w5 ⟨rfl, g5⟩
              go_wp2_with fail
              go_meet
              exact ⟨rfl, j, hj, hrj, hst, hatj.mv g5, hmvj.trans (Mv.of g5)⟩
        case rest =>
          obtain ⟨rfl, j, hj, hrj, hstop, hatj, hmvj⟩ := hcut
          have hjn := hatj.hk
          obtain ⟨j', hj'⟩ : ∃ j', min (j + 2) n = j' := ⟨_, rfl⟩
          have hmin : min ((j : Int) + 2) (n : Int) = (j' : Int) := by omega
          have hj'n : j' ≤ n := by omega
          have hdrop : skipC (l.drop (k2 + 2)) = l.drop j' := by
            rw [hrj.out]
            rcases hstop.out with h | ⟨h1, h2⟩
            · have e1 : j' = n := by omega
              have e2 : l.drop j = [] := List.drop_eq_nil_of_le (by omega)
              have e3 : l.drop j' = [] := List.drop_eq_nil_of_le (by omega)
              rw [e2, e3]; rfl
            · rw [skipC_stop (by omega) h2]
              have := pk_pos (l := l.drop j) (m := 1) (by rw [h2.2]; omega)
              rw [List.length_drop] at this
              have e1 : j' = j + 2 := by omega
              rw [e1]
          have Hnew2 := Hnew.out
          rw [hdrop] at Hnew2
          have HN := Lib.hid Hnew2
          have hkj : k ≤ j' := by omega
          have hlt : n - j' < n - k2 := by omega
          clear Hnew2 hdrop hj' hstop hrj Hnew
          have u1 := hatj.s0
          have u2 := hatj.p0
          have u3 := hatj.p1
          have u4 := hatj.fz
          have h8 := hatj.store hj'n
          have m8 := hmvj.trans (Mv.store wc P (.int .i64 (j' : Int)))
          have gd : ∀ W : World, W.grownBy W.drew none := fun W => ⟨rfl, rfl, rfl, Nat.le_refl _, fun _ _ _ => rfl⟩
          have h8 := h8.mv (gd _)
          have m8 := m8.trans (Mv.of (gd _))
          have q8 := h8.pos
          go_wp2_with fail
          go_region
          all_goals
            go_wp2_with fail
            go_roundw
            case rel => exact ⟨j', b, hkj, HN, rfl, h8, m8⟩
            case measure => rw [q8, hpos]; exact hlt
      · have hend : (b, l.drop k2) = T := by
          rw [← hrun.out, spacesT_end (r := l.drop k2) (by rw [hc]; exact hw) (by rw [hc, hd]; exact hcd)]; simp
        have Hend := Lib.hid hend
        clear hend hrun
        by_cases h47 : c = 47
        · have t47 := eq_t h47
          have t42 := eq_f (show ¬ d = 42 from fun h => hcd ⟨h47, h⟩)
          clear hcd h47
          go_wp2_with fail
          refine (hp wr (World.grownBy.refl _ _)).mono ?_
          rintro e w1 ⟨rfl, g1⟩
          have y1 := ks w1 g1
          go_wp2_with fail
          refine (rn_white c _).mono ?_
          rintro e w3 ⟨rfl, rfl⟩
          rw [hw]
          go_wp2_with fail
          refine (hp w1 g1).mono ?_
          rintro e w2 ⟨rfl, g2⟩
          have g2 := g1.trans g2
          have y2 := ks w2 g2
          go_wp2_with fail
          refine (hp1 w2 g2).mono ?_
          rintro e w3 ⟨rfl, g3⟩
          have g3 := g2.trans g3
          go_wp2_with fail
          go_ret
          exact ⟨by rw [← Hend.out]; rfl, hmv.trans (Mv.of g3), k2, hkk, by rw [← Hend.out], hat.mv g3⟩
        · have t47 := eq_f h47
          go_wp2_with fail
          refine (hp wr (World.grownBy.refl _ _)).mono ?_
          rintro e w1 ⟨rfl, g1⟩
          have y1 := ks w1 g1
          go_wp2_with fail
          refine (rn_white c _).mono ?_
          rintro e w3 ⟨rfl, rfl⟩
          rw [hw]
          go_wp2_with fail
          refine (hp w1 g1).mono ?_
          rintro e w2 ⟨rfl, g2⟩
          have g2 := g1.trans g2
          go_wp2_with fail
          go_ret
          exact ⟨by rw [← Hend.out]; rfl, hmv.trans (Mv.of g2), k2, hkk, by rw [← Hend.out], hat.mv g2⟩
end Go.Proofs.YtfhdihdafmahgaaGreatDoor
set_option linter.unusedVariables false
set_option linter.unusedSimpArgs false
namespace Go.Proofs.YtfhdihdafmahgaaGreatDoor
open Go.RowKit Go.Maps Rn Tk
/-- a token in memory -/
def tokV (t : Tok) : Value := .agg #[.int .i64 (t.kind : Int), .string (bytesOf t.text), .int .i64 t.n]
/-- a token that lies in memory, handed back -/
theorem results_tok {fn : Func} {p : Tmp} (h : fn.results = #[.cell p 58]) (tmps : Array Value) (w : World) (g : Nat) (a b c : Value) (hp : tmps.getD p undef = .pointer (some ⟨g, 0, none⟩)) (hr : RowAt w g [a, b, c]) : (results fn tmps).run Tryz.prog w = .ok (.agg #[a, b, c]) w := by
  obtain ⟨c0, _⟩ := hr.2 0 _ rfl
  obtain ⟨c1, _⟩ := hr.2 1 _ rfl
  obtain ⟨c2, _⟩ := hr.2 2 _ rfl
  have hp' : tmps[p]?.getD undef = .pointer (some ⟨g, 0, none⟩) := by simpa using hp
  simp [results, h, hp', asAddr, go_sem, c0, c1, c2]
theorem keyed32 : Keyed Tryz.prog 21 := int_keyed Tryz.underlying21
theorem zero_int (w : World) : (zeroValue 3).run Tryz.prog w = .ok (.int .i64 0) w := by kernel_rfl
abbrev KMap (w : World) (b n : Nat) (D : DataW Unit) : Prop := w.ownsMap Tryz.prog 21 (plainElem Tryz.prog 3) b n D
theorem kmap_put {w : World} {b n : Nat} {D : DataW Unit} (h : KMap w b n D) (hn : n < 100) (k v : Int) (hk : (Lit.int .i32 k).wf = true) (hv : (Lit.int .i64 v).wf = true) :
    ∃ w', (Instr.mapUpdate 150 (.map (some b)) (.int .i32 k) (.int .i64 v)).run Tryz.prog w = .ok () w' ∧ KMap w' b (n + 1) (D.put (.int .i32 k) (.lit (.int .i64 v))) ∧ w.grownBy w' (some b) :=
  h.update keyed32 Tryz.underlying150 (by unfold maxLen; omega) (keyOf_int_mk Tryz.underlying21 hk) (plainElem_int Tryz.underlying3 hv)
def signD : DataW Unit := .map [(.int .i32 40, .lit (.int .i64 12)), (.int .i32 41, .lit (.int .i64 13)), (.int .i32 44, .lit (.int .i64 16)), (.int .i32 58, .lit (.int .i64 14)), (.int .i32 59, .lit (.int .i64 15)), (.int .i32 91, .lit (.int .i64 12)), (.int .i32 93, .lit (.int .i64 13)), (.int .i32 123, .lit (.int .i64 12)), (.int .i32 125, .lit (.int .i64 13))]
theorem signD_puts : (((((((((DataW.map [] : DataW Unit).put (.int .i32 40) (.lit (.int .i64 12))).put (.int .i32 91) (.lit (.int .i64 12))).put (.int .i32 123) (.lit (.int .i64 12))).put (.int .i32 41) (.lit (.int .i64 13))).put (.int .i32 93) (.lit (.int .i64 13))).put (.int .i32 125) (.lit (.int .i64 13))).put (.int .i32 58) (.lit (.int .i64 14))).put (.int .i32 59) (.lit (.int .i64 15))).put (.int .i32 44) (.lit (.int .i64 16)) = signD := by rfl
theorem sign_at (c : Int) : (Maps.has signD (.int .i32 c) = true ∧ signD.atKey (.int .i32 c) (.lit (.int .i64 0)) = .lit (.int .i64 (signK c)) ∧ signK c ≠ 11) ∨ (Maps.has signD (.int .i32 c) = false ∧ signK c = 11) := by
  by_cases h : c = 40 ∨ c = 41 ∨ c = 44 ∨ c = 58 ∨ c = 59 ∨ c = 91 ∨ c = 93 ∨ c = 123 ∨ c = 125
  · left
    rcases h with rfl | rfl | rfl | rfl | rfl | rfl | rfl | rfl | rfl <;> exact ⟨rfl, rfl, by decide⟩
  · right
    constructor
    · simp only [Maps.has, signD, List.any_cons, List.any_nil, Lit.sameKey]
      simp; omega
    · unfold signK
      rw [if_neg (by omega), if_neg (by omega), if_neg (by omega), if_neg (by omega), if_neg (by omega)]
theorem grown_new {w W : World} {row : Option Nat} (h : w.grownBy W row) {p : Addr} (hp : w.heap.size ≤ p.block) (v : Value) : w.grownBy (W.setCell p v) row := by
  refine ⟨h.os, h.tape, h.output, by simpa [World.setCell] using h.size, fun i hi hne => ?_⟩
  rw [← h.block i hi hne]
  simp only [World.setCell]
  rw [Array.getElem?_modify, if_neg (by omega)]
theorem grownBy_set (W : World) (p : Addr) (v : Value) : W.grownBy (W.setCell p v) (some p.block) := by
  refine ⟨rfl, rfl, rfl, by simp [World.setCell], fun i hi hne => ?_⟩
  simp only [World.setCell]
  rw [Array.getElem?_modify, if_neg (fun e => hne (by rw [e]))]
theorem RowAt.grown {w w' : World} {g : Nat} {xs : List Value} {row : Option Nat} (h : RowAt w g xs) (hg : w.grownBy w' row) (hne : some g ≠ row) : RowAt w' g xs :=
  ⟨Nat.lt_of_lt_of_le h.1 hg.size, fun j u hu => ⟨(hg.cell_far ⟨g, j, none⟩ h.1 hne).trans (h.2 j u hu).1, (hg.frozen_far ⟨g, j, none⟩ h.1 hne).trans (h.2 j u hu).2⟩⟩
set_option maxRecDepth 100000 in
set_option maxHeartbeats 1000000 in
theorem tk_sign (c : Int) (w : World) (hc : -2147483648 ≤ c ∧ c ≤ 2147483647) :
    Calls Tryz.prog 92 #[.int .i32 c] w fun e w' => e = .returned (tokV (signT c)) ∧ w.grownBy w' none := by
  obtain ⟨wA, hwA⟩ : ∃ wA, w.alloc (.cells #[.int .i64 0, .string ⟨#[]⟩, .int .i64 0] 58) = wA := ⟨_, rfl⟩
  have hszA : wA.heap.size = w.heap.size + 1 := by rw [← hwA]; simp
  have K0 : KMap (wA.alloc (.map #[] 0)) wA.heap.size 0 (.map []) := World.ownsMap_made _ _ _ _
  rw [hszA] at K0
  obtain ⟨w1, r1, K1, g1⟩ := kmap_put K0 (by omega) 40 12 (by decide) (by decide)
  obtain ⟨w2, r2, K2, g2⟩ := kmap_put K1 (by omega) 91 12 (by decide) (by decide)
  obtain ⟨w3, r3, K3, g3⟩ := kmap_put K2 (by omega) 123 12 (by decide) (by decide)
  obtain ⟨w4, r4, K4, g4⟩ := kmap_put K3 (by omega) 41 13 (by decide) (by decide)
  obtain ⟨w5, r5, K5, g5⟩ := kmap_put K4 (by omega) 93 13 (by decide) (by decide)
  obtain ⟨w6, r6, K6, g6⟩ := kmap_put K5 (by omega) 125 13 (by decide) (by decide)
  obtain ⟨w7, r7, K7, g7⟩ := kmap_put K6 (by omega) 58 14 (by decide) (by decide)
  obtain ⟨w8, r8, K8, g8⟩ := kmap_put K7 (by omega) 59 15 (by decide) (by decide)
  obtain ⟨w9, r9, K9, g9⟩ := kmap_put K8 (by omega) 44 16 (by decide) (by decide)
  rw [signD_puts] at K9
  have g : (wA.alloc (.map #[] 0)).grownBy w9 (some (w.heap.size + 1)) := (((((((g1.trans g2).trans g3).trans g4).trans g5).trans g6).trans g7).trans g8).trans g9
  have hcw : (Lit.int .i32 c).wf = true := WalkArith.wf_i32 (by omega)
  obtain ⟨v, ps, rl, hv⟩ := K9.look_ok keyed32 Tryz.underlying150 (zero_int _) (plainElem_int Tryz.underlying3 (by decide)) (keyOf_int_mk Tryz.underlying21 hcw)
  obtain ⟨x, rfl, hx, _⟩ := plainElem_int_inv Tryz.underlying3 hv
  have hx' := (Prod.mk.inj hx).1
  clear g1 g2 g3 g4 g5 g6 g7 g8 g9 K1 K2 K3 K4 K5 K6 K7 K8 K9 K0 hv hx
  have hmm := @run_makeMap Tryz.prog
  have hR : RowAt w9 w.heap.size [.int .i64 0, .string ⟨#[]⟩, .int .i64 0] := by
    refine RowAt.grown (w := wA.alloc (.map #[] 0)) (RowAt.grown (w := wA) ?_ (World.grownBy_alloc _ _ none) (by simp)) g (by intro e; injection e with e; omega)
    rw [← hwA]; exact RowAt.new _ _ _
  have gw9 : w.grownBy w9 none := by
    have e1 : w.grownBy wA none := by rw [← hwA]; exact World.grownBy_alloc _ _ _
    exact (e1.trans (World.grownBy_alloc _ _ _)).andThen g fun j hj => by injection hj with hj; exact .inl (by omega)
  obtain ⟨Kd, hKd⟩ : ∃ K, signK c = K := ⟨_, rfl⟩
  have hsz9 : w.heap.size + 1 < w9.heap.size := by have := g.size; simp at this; omega
  have HA := Lib.hid hszA
  have HK := Lib.hid hKd
  have hb : ∃ b, Maps.has signD (.int .i32 c) = b ∧ (b = true → x = (Kd : Int)) ∧ (b = false → Kd = 11) := by
    rcases sign_at c with ⟨h1, h2, _⟩ | ⟨h1, h2⟩
    · refine ⟨true, h1, fun _ => ?_, fun h => (by cases h)⟩
      rw [hx', hKd] at h2; injection h2 with h2; injection h2
    · exact ⟨false, h1, fun h => (by cases h), fun _ => (by rw [← hKd]; exact h2)⟩
  obtain ⟨b, hb1, hb2, hb3⟩ := hb
  rw [hb1] at rl
  clear hb1 hx' hKd
  go_enter Tryz.func92, Tryz.ntmps92
  go_upto_if 16 with (fail)
  go_cut [4] (fun y wx => y = .int .i64 (Kd : Int) ∧ wx = w9)
  case first =>
    cases b with
    | true =>
      have := hb2 rfl
      go_wp2_with fail
      go_meet
      exact ⟨rfl, rfl⟩
    | false =>
      have := hb3 rfl
      go_wp2_with fail
      go_meet
      exact ⟨by rw [this]; rfl, rfl⟩
  case rest =>
    obtain ⟨rfl, rfl⟩ := hcut
    have hKc : Kd = 11 ∨ Kd = 12 ∨ Kd = 13 ∨ Kd = 14 ∨ Kd = 15 ∨ Kd = 16 := by rw [← HK.out]; unfold signK; (repeat' split) <;> simp
    clear r1 r2 r3 r4 r5 r6 r7 r8 r9 rl g hb2 hb3 hcw
    rcases hKc with rfl | rfl | rfl | rfl | rfl | rfl
    case inr.inr.inr.inl | inr.inr.inr.inr.inl | inr.inr.inr.inr.inr =>
      have hsg : signT c = ⟨signK c, [], 0⟩ := by unfold signT; rw [HK.out]; rfl
      have HS := Lib.hid hsg
      obtain ⟨x0, y0⟩ := hR.2 0 _ rfl
      obtain ⟨x1, y1⟩ := hR.2 1 _ rfl
      obtain ⟨x2, y2⟩ := hR.2 2 _ rfl
      have hlt : w.heap.size < wc.heap.size := hR.1
      clear hsg
      go_wp2_with fail
      have hfin := (((hR.store 0 (.int .i64 ((signK c : Nat) : Int))).store 1 (.string ⟨#[]⟩)).store 2 (.int .i64 0)).grown (World.grownBy_alloc _ (.cells #[.int .i64 ((signK c : Nat) : Int), .string ⟨#[]⟩, .int .i64 0] 58) none) (by simp)
      rw [HK.out] at hfin
      refine bodyPost_ret (results_tok rfl _ _ _ _ _ _ rfl hfin) rfl ?_
      refine ⟨by rw [HS.out, HK.out]; rfl, ?_⟩
      repeat (first | exact gw9 | refine grown_new ?_ (Nat.le_refl _) _ | refine World.grownBy.trans ?_ (World.grownBy_alloc _ _ _))
    all_goals
      have hsg : signT c = ⟨signK c, writeP [c], 0⟩ := by unfold signT; rw [HK.out]; rfl
      have HS := Lib.hid hsg
      have hlt : w.heap.size < wc.heap.size := hR.1
      clear hsg
      have hrow : ∀ K : Int, RowAt ((wc.alloc (.cells #[.int .i64 K, .string ⟨#[]⟩, .int .i64 0] 58)).alloc (.cells #[.int .i32 c] 21)) (wc.heap.size + 1) ([c].map r32) := fun K => by
        have h := RowAt.new (wc.alloc (.cells #[.int .i64 K, .string ⟨#[]⟩, .int .i64 0] 58)) 21 #[.int .i32 c]
        have e : (wc.alloc (.cells #[.int .i64 K, .string ⟨#[]⟩, .int .i64 0] 58)).heap.size = wc.heap.size + 1 := by simp
        rw [e] at h; exact h
      have hrT : ∀ K : Int, RowAt ((wc.alloc (.cells #[.int .i64 K, .string ⟨#[]⟩, .int .i64 0] 58)).alloc (.cells #[.int .i32 c] 21)) wc.heap.size [.int .i64 K, .string ⟨#[]⟩, .int .i64 0] := fun K =>
        (RowAt.new _ _ _).grown (World.grownBy_alloc _ _ none) (by simp)
      have hrR : ∀ K : Int, RowAt ((wc.alloc (.cells #[.int .i64 K, .string ⟨#[]⟩, .int .i64 0] 58)).alloc (.cells #[.int .i32 c] 21)) w.heap.size [.int .i64 0, .string ⟨#[]⟩, .int .i64 0] := fun K =>
        (hR.grown (World.grownBy_alloc _ _ none) (by simp)).grown (World.grownBy_alloc _ _ none) (by simp)
      have hg : ∀ K : Int, w.grownBy ((wc.alloc (.cells #[.int .i64 K, .string ⟨#[]⟩, .int .i64 0] 58)).alloc (.cells #[.int .i32 c] 21)) none := fun K =>
        (gw9.trans (World.grownBy_alloc _ _ _)).trans (World.grownBy_alloc _ _ _)
      have hsz : ∀ K : Int, ((wc.alloc (.cells #[.int .i64 K, .string ⟨#[]⟩, .int .i64 0] 58)).alloc (.cells #[.int .i32 c] 21)).heap.size = wc.heap.size + 2 := fun K => by simp
      go_wp2_with fail
      refine (rn_write [c] _ 1 1 _ (by rw [hsz]; exact (hrow _).reads (by omega)) (by intro d hd; simp at hd; subst hd; exact hc) (by omega)).mono ?_
      rintro e w10 ⟨v10, rfl, hown, hb10⟩
      obtain ⟨A, cp, rfl, _, _⟩ := own_form hown
      have hrd10 := Reads.of_own hown
      have hstr := run_str (P := Tryz.prog) (src := 22) (dst := 9) Tryz.underlying22 Tryz.underlying5 Tryz.underlying9 cp hrd10
      have g10 := below_grown hb10
      have gw := (hg _).trans g10
      have rT := (hrT _).grown g10 (by simp)
      have rR := (hrR _).grown g10 (by simp)
      obtain ⟨x0, y0⟩ := rR.2 0 _ rfl
      obtain ⟨x1, y1⟩ := rR.2 1 _ rfl
      obtain ⟨x2, y2⟩ := rR.2 2 _ rfl
      obtain ⟨t0, u0⟩ := rT.2 0 _ rfl
      obtain ⟨t1, u1⟩ := rT.2 1 _ rfl
      obtain ⟨t2, u2⟩ := rT.2 2 _ rfl
      have hne : ¬ w.heap.size = wc.heap.size := by omega
      have hne2 : ¬ wc.heap.size = w.heap.size := by omega
      have hfin := (((rR.grown (grownBy_set w10 ⟨wc.heap.size, 1, none⟩ (.string (bytesOf (writeP [c])))) (by simp; omega)).store 0 (.int .i64 ((signK c : Nat) : Int))).store 1 (.string (bytesOf (writeP [c])))).store 2 (.int .i64 0)
      rw [HK.out] at hfin
      clear hrow hrT hrR hg hown hrd10 hb10 hR
      go_wp2_with fail
      refine bodyPost_ret (results_tok rfl _ _ _ _ _ _ rfl hfin) rfl ?_
      refine ⟨by rw [HS.out, HK.out]; rfl, ?_⟩
      exact grown_new (grown_new (grown_new (grown_new gw (Nat.le_of_lt hlt) _) (Nat.le_refl _) _) (Nat.le_refl _) _) (Nat.le_refl _) _
end Go.Proofs.YtfhdihdafmahgaaGreatDoor
