/- Words for memory that the other texts of this claim use: a slice that reads as a list (nil let in), kept over draws, new blocks, stores and calls; append onto a row of the call's own from such a slice. No conditions. -/
import Derived.Test.YtflehiokbbldgaaDoorChecked
import Derived.WalkKit
import Derived.ProofKit
import Derived.Outline
import Derived.Below
import Derived.Lib.Hide
import Derived.Laws.OwnMore
import Derived.Laws.Rows
import Derived.Deep.AppendLies
import Derived.Deep.Draws
import Derived.Maps.AppendAt
import Derived.RegionTactic
import Derived.OwnWalk
import Derived.WalkSpells
import Derived.WalkLawsBesides
import Derived.BigQuiet
import Derived.Deep.QuietTactic
set_option linter.unusedVariables false
namespace Go.Proofs.YtflehiokbbldgaaDoor
open Go.RowKit

theorem ret_bool {a b : Bool} (h : a = b) : Ending.returned (.bool a) = .returned (.bool b) := by rw [h]
theorem ret_int {k : IntKind} {a b : Int} (h : a = b) : Ending.returned (.int k a) = .returned (.int k b) := by rw [h]

/-- The slice value '.slice A n c' reads as the cells xs (size cells an element), and lies below block B. -/
def Reads (w : World) (B size : Nat) (A : Option Addr) (n : Nat) (xs : List Value) : Prop :=
  xs.length = n * size ∧ (0 < n → ∃ b off, A = some ⟨b, off, none⟩ ∧ b < B ∧ ∀ j u, xs[j]? = some u → w.cell? ⟨b, off + j, none⟩ = some u)

section
variable {w w' : World} {B B' size n : Nat} {A : Option Addr} {xs : List Value}
theorem Reads.none_ : Reads w B size A 0 [] := ⟨by simp, fun h => absurd h (by omega)⟩
theorem Reads.len (h : Reads w B 1 A n xs) : xs.length = n := by have := h.1; omega
theorem Reads.open_ (h : Reads w B size A n xs) (hn : 0 < n) : ∃ b off, A = some ⟨b, off, none⟩ ∧ b < B ∧ ∀ j u, xs[j]? = some u → w.cell? ⟨b, off + j, none⟩ = some u := h.2 hn
theorem Reads.at_ {k : Nat} (h : Reads w B 1 A n xs) (hk : k < n) : ∃ b off u, A = some ⟨b, off, none⟩ ∧ b < B ∧ xs[k]? = some u ∧ w.cell? ⟨b, off + k, none⟩ = some u := by
  obtain ⟨b, off, e, hb, hc⟩ := h.2 (by omega)
  have hl : k < xs.length := by have := h.1; omega
  exact ⟨b, off, xs[k], e, hb, List.getElem?_eq_getElem hl, hc k _ (List.getElem?_eq_getElem hl)⟩
theorem Reads.keep (h : Reads w B size A n xs) (hk : ∀ p : Addr, p.block < B → w'.cell? p = w.cell? p) : Reads w' B size A n xs :=
  ⟨h.1, fun hn => by
    obtain ⟨b, off, e, hb, hc⟩ := h.2 hn
    exact ⟨b, off, e, hb, fun j u hu => (hk _ hb).trans (hc j u hu)⟩⟩
theorem Reads.more (h : Reads w B size A n xs) (hB : B ≤ B') : Reads w B' size A n xs :=
  ⟨h.1, fun hn => by
    obtain ⟨b, off, e, hb, hc⟩ := h.2 hn
    exact ⟨b, off, e, by omega, hc⟩⟩
theorem Reads.below (h : Reads w B size A n xs) (hb : Below B w w') : Reads w' B size A n xs := h.keep fun _ hp => hb.cell hp
theorem Reads.drew (h : Reads w B size A n xs) : Reads w.drew B size A n xs := h
theorem Reads.drewN (h : Reads w B size A n xs) (k : Nat) : Reads (w.drewN k) B size A n xs := h
theorem Reads.alloc (h : Reads w B size A n xs) (hB : B ≤ w.heap.size) (o : Obj) : Reads (w.alloc o) B size A n xs := h.keep fun p hp => World.cell?_alloc_lt w o p (by omega)
theorem Reads.setCell (h : Reads w B size A n xs) {p : Addr} (hB : B ≤ p.block) (u : Value) : Reads (w.setCell p u) B size A n xs :=
  h.keep fun q hq => World.cell?_setCell_other w p q u (fun e => by subst e; omega)
theorem Reads.grown (h : Reads w B size A n xs) {row : Option Nat} (hg : w.grownBy w' row) (hB : B ≤ w.heap.size) (hr : ∀ g, row = some g → B ≤ g) : Reads w' B size A n xs :=
  h.keep fun p hp => World.cell?_of_block (hg.block p.block (by omega) (fun e => by have := hr _ e.symm; omega))
theorem Reads.cut (h : Reads w B 1 A n xs) {k cap : Nat} (hk : k ≤ n) (hc : n ≤ cap) :
    Reads w B 1 (if cap = k then A else A.map (·.add k)) (n - k) (xs.drop k) := by
  refine ⟨by have := h.len; rw [List.length_drop]; omega, fun hn => ?_⟩
  obtain ⟨b, off, rfl, hb, hcell⟩ := h.2 (by omega)
  rw [if_neg (by omega)]
  refine ⟨b, off + k, ?_, hb, fun j u hu => ?_⟩
  · unfold Addr.add; simp
  · rw [Nat.add_assoc]
    exact hcell _ u (by rw [← hu, List.getElem?_drop])
theorem Reads.take (h : Reads w B 1 A n xs) {k : Nat} (hk : k ≤ n) : Reads w B 1 A k (xs.take k) := by
  refine ⟨by have := h.len; rw [List.length_take]; omega, fun hn => ?_⟩
  obtain ⟨b, off, e, hb, hcell⟩ := h.2 (by omega)
  refine ⟨b, off, e, hb, fun j u hu => hcell j u ?_⟩
  rw [List.getElem?_take] at hu
  split at hu
  · exact hu
  · cases hu
theorem Reads.of_own {base : Nat} {e : TypeId} {c : Nat} (h : w.ownsRow base e size (.slice A n c) n xs) : Reads w w.heap.size size A n xs := by
  refine ⟨h.1, fun hn => ?_⟩
  obtain ⟨g, cap, hv, _, hlt⟩ := h.form hn
  have hA : A = some ⟨g, 0, none⟩ := by injection hv
  subst hA
  refine ⟨g, 0, rfl, hlt, fun j u hu => ?_⟩
  have := h.cells (g := g) rfl j u hu
  rw [Nat.zero_add]
  by_cases hj : j = 0
  · subst hj; simpa [Addr.add] using this
  · simpa [Addr.add, hj] using this
end

/-- Where 's[k:]' begins. -/
def cutAt (A : Option Addr) (c k s : Nat) : Option Addr := if c = k then A else A.map (·.add (k * s))
theorem run_cut {P : Program} {T e s : Nat} (ht : P.underlying T = some (.slice e)) (hel : P.elem T = e) (hs : ∀ W, (sizeOf e).run P W = .ok s W) (A : Option Addr) (n c : Nat) (kd : IntKind) (N : Nat) (h : N ≤ n) (W : World) :
    (Instr.slice T (.slice A n c) (some (.int kd (N : Int))) none none).run P W = .ok (.slice (cutAt A c N s) (n - N) (c - N)) W := by
  rw [run_slice_l W T A n c (by rw [hel]; exact ht) kd (N : Int) (by omega) (by omega), hel, hs]
  simp [sliced, cutAt]
theorem Reads.cutA {w : World} {B n c k : Nat} {A : Option Addr} {xs : List Value} (h : Reads w B 1 A n xs) (hk : k ≤ n) (hc : n ≤ c) : Reads w B 1 (cutAt A c k 1) (n - k) (xs.drop k) := by
  have := h.cut (cap := c) hk hc
  unfold cutAt
  rwa [Nat.mul_one]
/-- An owned row's value is a slice of just that length. -/
theorem own_form {w : World} {base : Nat} {e : TypeId} {size : Nat} {v : Value} {n : Nat} {xs : List Value} (h : w.ownsRow base e size v n xs) : ∃ A c, v = .slice A n c ∧ n ≤ c ∧ c ≤ maxLen := by
  obtain ⟨h0, ⟨rfl, rfl⟩ | ⟨g, cap, cur, rfl, h1, h2, h3, h4, _⟩⟩ := h
  · exact ⟨none, 0, rfl, Nat.le_refl _, Nat.zero_le _⟩
  · exact ⟨_, _, rfl, h3, h4⟩

theorem own_below {w w' : World} {base : Nat} {e : TypeId} {size : Nat} {v : Value} {n : Nat} {xs : List Value} (h : w.ownsRow base e size v n xs) (hb : Below w.heap.size w w') : w'.ownsRow base e size v n xs :=
  h.kept (row := none) ⟨hb.os, hb.tape, hb.output, hb.size, fun k hk _ => hb.block k hk⟩ (by cases v.ownBlock <;> simp)
theorem own_drewN {w : World} {base : Nat} {e : TypeId} {size : Nat} {v : Value} {n : Nat} {xs : List Value} (h : w.ownsRow base e size v n xs) (k : Nat) : (w.drewN k).ownsRow base e size v n xs := h
section
variable {w w1 w2 : World} {B size n : Nat} {e : TypeId} {v : Value} {xs : List Value} {o : Obj}
/-- What an append onto an owned row (its source laid in a new block) leaves as it was. -/
theorem push_below (hb : Below B w w1) (hB : B ≤ w1.heap.size) (hown : w1.ownsRow B e size v n xs) (hg : (w1.alloc o).grownBy w2 v.ownBlock) : Below B w w2 :=
  (hb.alloc hB o).grown hg (by simp; omega) (fun k hk => (hown.lt k hk).1)
theorem push_reads {A : Option Addr} {s m : Nat} {ys : List Value} (h : Reads w1 B s A m ys) (hB : B ≤ w1.heap.size) (hown : w1.ownsRow B e size v n xs) (hg : (w1.alloc o).grownBy w2 v.ownBlock) : Reads w2 B s A m ys :=
  (h.alloc hB o).grown hg (by simp; omega) (fun k hk => (hown.lt k hk).1)
end
/-- Block g begins with these cells, none frozen. -/
def RowAt (w : World) (g : Nat) (xs : List Value) : Prop := g < w.heap.size ∧ ∀ j u, xs[j]? = some u → w.cell? ⟨g, j, none⟩ = some u ∧ w.frozen? ⟨g, j, none⟩ = false
theorem RowAt.store {w : World} {g : Nat} {xs : List Value} (h : RowAt w g xs) (j : Nat) (u : Value) : RowAt (w.setCell ⟨g, j, none⟩ u) g (xs.set j u) := by
  refine ⟨by simpa [World.setCell] using h.1, fun i x hi => ?_⟩
  have hfr : ∀ p, (w.setCell ⟨g, j, none⟩ u).frozen? p = w.frozen? p := fun p => World.frozen?_setCell _ _ _ _
  rw [hfr]
  by_cases e : i = j
  · subst e
    rw [List.getElem?_set] at hi
    simp only [if_true] at hi
    split at hi
    · rename_i hl
      cases hi
      have := h.2 i xs[i] (List.getElem?_eq_getElem hl)
      exact ⟨World.cell?_setCell_same _ _ _ this.1, this.2⟩
    · cases hi
  · rw [List.getElem?_set_ne (by omega)] at hi
    have := h.2 i x hi
    exact ⟨(World.cell?_setCell_other w _ _ u (by intro e2; injection e2; omega)).trans this.1, this.2⟩
theorem RowAt.new (w : World) (e : TypeId) (cs : Array Value) : RowAt (w.alloc (.cells cs e)) w.heap.size cs.toList := by
  refine ⟨by simp, fun j u hu => ?_⟩
  have h := heap_alloc_new w (.cells cs e)
  constructor
  · unfold World.cell?
    rw [h]
    simpa using hu
  · unfold World.frozen?
    rw [h]
    simp
theorem RowAt.reads {w : World} {g B : Nat} {xs : List Value} (h : RowAt w g xs) (hB : g < B) : Reads w B 1 (some ⟨g, 0, none⟩) xs.length xs :=
  ⟨by simp, fun _ => ⟨g, 0, rfl, hB, fun j u hu => by rw [Nat.zero_add]; exact (h.2 j u hu).1⟩⟩
theorem below_drewN {B : Nat} {a w : World} (h : Below B a w) (n : Nat) : Below B a (w.drewN n) := ⟨h.os, h.tape, h.output, h.size, h.block⟩
/-- One byte, one rune, one number, as a cell. -/
def b8 (b : UInt8) : Value := .int .u8 b.toNat
def r32 (c : Int) : Value := .int .i32 c
def n64 (c : Int) : Value := .int .i64 c
end Go.Proofs.YtflehiokbbldgaaDoor
