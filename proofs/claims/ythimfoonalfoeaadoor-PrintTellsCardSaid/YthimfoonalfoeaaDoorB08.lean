/- Layer 3: a text in quotes is walked. -/
import Derived.Test.YthimfoonalfoeaaDoorB07
import Derived.Deep.RegionLaw
import Derived.Deep.AppendLies
set_option linter.unusedVariables false
set_option linter.unusedSimpArgs false
namespace Go.Proofs.YthimfoonalfoeaaDoor
open Go.RowKit Rn Tk
theorem meantT_chars {r : List Int} (h : Chars r) : Chars (meantT r).2 := by
  obtain ⟨j, hj⟩ := meantT_drop r
  rw [hj]; exact h.drop j
theorem quoteT_is (e : Int) (r : List Int) (h : Chars r) : Chars (quoteT e r).1 := by
  fun_induction quoteT e r with
  | case1 => intro c hc; cases hc
  | case2 => intro c hc; cases hc
  | case3 t h2 => intro c hc; cases hc
  | case4 c t h1 h2 h3 ih =>
    have ht : Chars t := fun d hd => h d (List.mem_cons_of_mem _ hd)
    intro d hd
    rcases List.mem_cons.1 hd with rfl | hd
    · refine meantT_is ht ?_
      rintro rfl
      unfold esc at h3
      have := (of_decide_eq_true h3).2.1
      rw [pk_cons, pk_nil] at this; omega
    · exact ih (meantT_chars ht) d hd
  | case5 t h1 h2 h3 ih => exact ih (fun d hd => h d (List.mem_cons_of_mem _ (List.mem_of_mem_tail hd)))
  | case6 c t h1 h2 h3 h4 ih =>
    intro d hd
    rcases List.mem_cons.1 hd with rfl | hd
    · exact h d (by simp)
    · exact ih (fun d hd => h d (List.mem_cons_of_mem _ hd)) d hd
/-- what the loop keeps in memory of its own -/
structure TxM (wr : World) (P R O : Nat) (v : Value) (outs : List Int) : Prop where
  hO : wr.cell? ⟨O, 0, none⟩ = some v
  hOf : wr.frozen? ⟨O, 0, none⟩ = false
  hOl : O < wr.heap.size
  hR : RowAt wr R [.int .i64 0, .string ⟨#[]⟩, .int .i64 0]
  hown : wr.ownsRow (O + 1) 21 1 v outs.length (outs.map r32)
  hPR : P < R
  hRO : R < O
theorem TxM.mvP {wr w' : World} {P R O : Nat} {v : Value} {outs : List Int} (h : TxM wr P R O v outs) (g : Mv P wr w') : TxM w' P R O v outs := by
  have h1 := h.hPR
  have h2 := h.hRO
  exact ⟨(g.cell_far ⟨O, 0, none⟩ h.hOl (by simp; omega)).trans h.hO, (g.frozen_far ⟨O, 0, none⟩ h.hOl (by simp; omega)).trans h.hOf, Nat.lt_of_lt_of_le h.hOl g.size, h.hR.grown g (by simp; omega), own_mv h.hown (by omega) g, h1, h2⟩
theorem TxM.push {wr w1 : World} {P R O : Nat} {v v' : Value} {outs : List Int} {o : Obj} (h : TxM wr P R O v outs) (c : Int) (hown' : w1.ownsRow (O + 1) 21 1 v' (outs.length + 1) (outs.map r32 ++ [r32 c])) (hg : (wr.alloc o).grownBy w1 v.ownBlock) : TxM (w1.setCell ⟨O, 0, none⟩ v') P R O v' (outs ++ [c]) := by
  have h1 := h.hPR
  have h2 := h.hRO
  have hOl := h.hOl
  have ne : ∀ b, b ≤ O → some b ≠ v.ownBlock := fun b hb e => by have := (h.hown.lt b e.symm).1; omega
  have ga : wr.grownBy (wr.alloc o) none := World.grownBy_alloc _ _ _
  have cO : w1.cell? ⟨O, 0, none⟩ = some v := (hg.cell_far ⟨O, 0, none⟩ (Nat.lt_of_lt_of_le hOl ga.size) (ne _ (Nat.le_refl _))).trans ((ga.cell_far ⟨O, 0, none⟩ hOl (by simp)).trans h.hO)
  have fO : w1.frozen? ⟨O, 0, none⟩ = false := (hg.frozen_far ⟨O, 0, none⟩ (Nat.lt_of_lt_of_le hOl ga.size) (ne _ (Nat.le_refl _))).trans ((ga.frozen_far ⟨O, 0, none⟩ hOl (by simp)).trans h.hOf)
  refine ⟨World.cell?_setCell_same _ _ _ cO, (World.frozen?_setCell _ _ _ _).trans fO, ?_, ?_, ?_, h1, h2⟩
  · have := hg.size; have := ga.size; simp [World.setCell]; omega
  · exact ((h.hR.grown ga (by simp)).grown hg (ne _ (by omega))).grown (grownBy_set _ _ _) (by simp; omega)
  · have hk := hown'.kept (grownBy_set w1 ⟨O, 0, none⟩ v') (by
      cases hb : v'.ownBlock with
      | none => exact .inl rfl
      | some g => refine .inr ?_; intro e; injection e with e; have := (hown'.lt g hb).1; simp at e; omega)
    simpa using hk
theorem TxM.after {wr w1 : World} {P R O : Nat} {v : Value} {outs : List Int} {o : Obj} (h : TxM wr P R O v outs) (hg : (wr.alloc o).grownBy w1 v.ownBlock) : w1.cell? ⟨O, 0, none⟩ = some v ∧ w1.frozen? ⟨O, 0, none⟩ = false := by
  have hOl := h.hOl
  have ne : some O ≠ v.ownBlock := fun e => by have := (h.hown.lt O e.symm).1; omega
  have ga : wr.grownBy (wr.alloc o) none := World.grownBy_alloc _ _ _
  exact ⟨(hg.cell_far ⟨O, 0, none⟩ (Nat.lt_of_lt_of_le hOl ga.size) ne).trans ((ga.cell_far ⟨O, 0, none⟩ hOl (by simp)).trans h.hO), (hg.frozen_far ⟨O, 0, none⟩ (Nat.lt_of_lt_of_le hOl ga.size) ne).trans ((ga.frozen_far ⟨O, 0, none⟩ hOl (by simp)).trans h.hOf)⟩
theorem TxM.at_ {wr w1 : World} {B S P R O n cap k2 : Nat} {A : Option Addr} {l : List Int} {v v' : Value} {outs : List Int} {o : Obj} (h : TxM wr P R O v outs) (ha : At wr B S P A n cap l k2) (hS : S < O) (hg : (wr.alloc o).grownBy w1 v.ownBlock) : At (w1.setCell ⟨O, 0, none⟩ v') B S P A n cap l k2 :=
  (ha.push (base := O + 1) (by omega) h.hown hg).grown (grownBy_set _ _ _) (by intro g hg; simp at hg; omega)
theorem TxM.mv_ {w wr w1 : World} {P R O : Nat} {v v' : Value} {outs : List Int} {o : Obj} (h : TxM wr P R O v outs) (hm : Mv P w wr) (hw : w.heap.size ≤ O) (hg : (wr.alloc o).grownBy w1 v.ownBlock) : Mv P w (w1.setCell ⟨O, 0, none⟩ v') :=
  grown_new ((hm.trans (Mv.of (World.grownBy_alloc _ _ _))).andThen hg fun j hj => .inl (by have := (h.hown.lt j hj).1; omega)) hw _
theorem quoteT_at {e : Int} {r : List Int} (hr : r ≠ []) : quoteT e r = if pk r 0 = 10 then ([], true, r) else if pk r 0 = e then ([], false, r.tail) else if esc r = true then ((meantT r.tail).1 :: (quoteT e (meantT r.tail).2).1, (quoteT e (meantT r.tail).2).2) else if pk r 0 = 92 then quoteT e r.tail.tail else (pk r 0 :: (quoteT e r.tail).1, (quoteT e r.tail).2) := by
  cases r with
  | nil => exact absurd rfl hr
  | cons c t => rw [quoteT]; rfl
theorem quoteT_nil (e : Int) : quoteT e [] = ([], false, []) := by rw [quoteT]
theorem drop_ne {l : List Int} {k : Nat} (h : k < l.length) : l.drop k ≠ [] := by
  intro h0; have := congrArg List.length h0; rw [List.length_drop] at this; simp at this; omega
theorem gdrew (W : World) : W.grownBy W.drew none := ⟨rfl, rfl, rfl, Nat.le_refl _, fun _ _ _ => rfl⟩
/-- what the loop keeps -/
def TxRel (w : World) (B S P R O : Nat) (A : Option Addr) (n cap : Nat) (l : List Int) (k : Nat) (e : Int) (wr : World) : Prop :=
  ∃ (k2 : Nat) (outs : List Int) (v : Value), k + 1 ≤ k2 ∧ Hid (quoteT e (l.drop (k + 1)) = (outs ++ (quoteT e (l.drop k2)).1, (quoteT e (l.drop k2)).2)) ∧ outs.length + k + 1 ≤ k2 ∧ TxM wr P R O v outs ∧ At wr B S P A n cap l k2 ∧ Mv P w wr
end Go.Proofs.YthimfoonalfoeaaDoor
