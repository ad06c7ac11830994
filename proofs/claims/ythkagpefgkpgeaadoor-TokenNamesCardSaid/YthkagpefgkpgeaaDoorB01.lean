/- runes.Lower and runes.Hex are walked. -/
import Derived.Test.YthkagpefgkpgeaaDoorChecked
import Derived.WalkKit
import Derived.ProofKit
import Derived.Outline
import Derived.Below
import Derived.Lib.Hide
import Derived.Laws.OwnMore
import Derived.Laws.Rows
import Derived.Deep.AppendLies
import Derived.Deep.Draws
import Derived.Maps.AppendAt
import Derived.RegionTactic
import Derived.OwnWalk
import Derived.WalkSpells
import Derived.WalkLawsBesides
import Derived.BigQuiet
import Derived.Deep.QuietTactic
import Derived.Shelf.Spec.DecodeRune
import Derived.Laws.IdiomStrings
import Derived.Laws.BytesArg
import Derived.Lib.IndexBytes
import Derived.Shelf.Lays7
import Derived.Shelf.Strings.Trim
import Derived.Shelf.Small.Utf8
import Derived.Shelf.Small.Strs
import Derived.Shelf.Utf8.AppendRunePlain
import Derived.Shelf.Strconv.Atoi
import Derived.Shelf.Strconv.Itoa0
import Derived.Shelf.Strconv.Itoa1
import Derived.Shelf.LaysM
import Derived.Shelf.Strconv.Itoa2
import Derived.Shelf.Strconv.Itoa3
import Derived.Shelf.Strings.Search1
import Derived.Shelf.Strings.Search2
import Derived.Shelf.Strings.Cut
import Derived.Shelf.Strings.Shaped
import Derived.Shelf.Strings.Runes
import Derived.Shelf.Strings.IndexAny
import Derived.Shelf.Strings.AsciiSet
import Derived.Shelf.Strings.IndexAnyAll
import Derived.Shelf.Unicode.DecodeSlow
import Derived.Shelf.Unicode.DecodeAny
import Derived.Test.YthkagpefgkpgeaaDoorProg
import Derived.Lib.ConvBytes
import Derived.Shelf.Strings.SlTrimAscii
import Derived.Deep.DeepCutAuto
import Derived.Deep.CutBlock
/- Words for memory that the other texts of this claim use: a slice that reads as a list (nil let in), kept over draws, new blocks, stores and calls; append onto a row of the call's own from such a slice. No conditions. -/
set_option linter.unusedVariables false
namespace Go.Proofs.YthkagpefgkpgeaaDoor
open Go.RowKit

theorem ret_bool {a b : Bool} (h : a = b) : Ending.returned (.bool a) = .returned (.bool b) := by rw [h]
theorem ret_int {k : IntKind} {a b : Int} (h : a = b) : Ending.returned (.int k a) = .returned (.int k b) := by rw [h]

/-- The slice value '.slice A n c' reads as the cells xs (size cells an element), and lies below block B. -/
def Reads (w : World) (B size : Nat) (A : Option Addr) (n : Nat) (xs : List Value) : Prop :=
  xs.length = n * size ∧ (0 < n → ∃ b off, A = some ⟨b, off, none⟩ ∧ b < B ∧ ∀ j u, xs[j]? = some u → w.cell? ⟨b, off + j, none⟩ = some u)

section
variable {w w' : World} {B B' size n : Nat} {A : Option Addr} {xs : List Value}
theorem Reads.none_ : Reads w B size A 0 [] := ⟨by simp, fun h => absurd h (by omega)⟩
theorem Reads.len (h : Reads w B 1 A n xs) : xs.length = n := by have := h.1; omega
theorem Reads.open_ (h : Reads w B size A n xs) (hn : 0 < n) : ∃ b off, A = some ⟨b, off, none⟩ ∧ b < B ∧ ∀ j u, xs[j]? = some u → w.cell? ⟨b, off + j, none⟩ = some u := h.2 hn
theorem Reads.at_ {k : Nat} (h : Reads w B 1 A n xs) (hk : k < n) : ∃ b off u, A = some ⟨b, off, none⟩ ∧ b < B ∧ xs[k]? = some u ∧ w.cell? ⟨b, off + k, none⟩ = some u := by
  obtain ⟨b, off, e, hb, hc⟩ := h.2 (by omega)
  have hl : k < xs.length := by have := h.1; omega
  exact ⟨b, off, xs[k], e, hb, List.getElem?_eq_getElem hl, hc k _ (List.getElem?_eq_getElem hl)⟩
theorem Reads.keep (h : Reads w B size A n xs) (hk : ∀ p : Addr, p.block < B → w'.cell? p = w.cell? p) : Reads w' B size A n xs :=
  ⟨h.1, fun hn => by
    obtain ⟨b, off, e, hb, hc⟩ := h.2 hn
    exact ⟨b, off, e, hb, fun j u hu => (hk _ hb).trans (hc j u hu)⟩⟩
theorem Reads.more (h : Reads w B size A n xs) (hB : B ≤ B') : Reads w B' size A n xs :=
  ⟨h.1, fun hn => by
    obtain ⟨b, off, e, hb, hc⟩ := h.2 hn
    exact ⟨b, off, e, by omega, hc⟩⟩
theorem Reads.below (h : Reads w B size A n xs) (hb : Below B w w') : Reads w' B size A n xs := h.keep fun _ hp => hb.cell hp
theorem Reads.drew (h : Reads w B size A n xs) : Reads w.drew B size A n xs := h
theorem Reads.drewN (h : Reads w B size A n xs) (k : Nat) : Reads (w.drewN k) B size A n xs := h
theorem Reads.alloc (h : Reads w B size A n xs) (hB : B ≤ w.heap.size) (o : Obj) : Reads (w.alloc o) B size A n xs := h.keep fun p hp => World.cell?_alloc_lt w o p (by omega)
theorem Reads.setCell (h : Reads w B size A n xs) {p : Addr} (hB : B ≤ p.block) (u : Value) : Reads (w.setCell p u) B size A n xs :=
  h.keep fun q hq => World.cell?_setCell_other w p q u (fun e => by subst e; omega)
theorem Reads.grown (h : Reads w B size A n xs) {row : Option Nat} (hg : w.grownBy w' row) (hB : B ≤ w.heap.size) (hr : ∀ g, row = some g → B ≤ g) : Reads w' B size A n xs :=
  h.keep fun p hp => World.cell?_of_block (hg.block p.block (by omega) (fun e => by have := hr _ e.symm; omega))
theorem Reads.cut (h : Reads w B 1 A n xs) {k cap : Nat} (hk : k ≤ n) (hc : n ≤ cap) :
    Reads w B 1 (if cap = k then A else A.map (·.add k)) (n - k) (xs.drop k) := by
  refine ⟨by have := h.len; rw [List.length_drop]; omega, fun hn => ?_⟩
  obtain ⟨b, off, rfl, hb, hcell⟩ := h.2 (by omega)
  rw [if_neg (by omega)]
  refine ⟨b, off + k, ?_, hb, fun j u hu => ?_⟩
  · unfold Addr.add; simp
  · rw [Nat.add_assoc]
    exact hcell _ u (by rw [← hu, List.getElem?_drop])
theorem Reads.take (h : Reads w B 1 A n xs) {k : Nat} (hk : k ≤ n) : Reads w B 1 A k (xs.take k) := by
  refine ⟨by have := h.len; rw [List.length_take]; omega, fun hn => ?_⟩
  obtain ⟨b, off, e, hb, hcell⟩ := h.2 (by omega)
  refine ⟨b, off, e, hb, fun j u hu => hcell j u ?_⟩
  rw [List.getElem?_take] at hu
  split at hu
  · exact hu
  · cases hu
theorem Reads.of_own {base : Nat} {e : TypeId} {c : Nat} (h : w.ownsRow base e size (.slice A n c) n xs) : Reads w w.heap.size size A n xs := by
  refine ⟨h.1, fun hn => ?_⟩
  obtain ⟨g, cap, hv, _, hlt⟩ := h.form hn
  have hA : A = some ⟨g, 0, none⟩ := by injection hv
  subst hA
  refine ⟨g, 0, rfl, hlt, fun j u hu => ?_⟩
  have := h.cells (g := g) rfl j u hu
  rw [Nat.zero_add]
  by_cases hj : j = 0
  · subst hj; simpa [Addr.add] using this
  · simpa [Addr.add, hj] using this
end

/-- Where 's[k:]' begins. -/
def cutAt (A : Option Addr) (c k s : Nat) : Option Addr := if c = k then A else A.map (·.add (k * s))
theorem run_cut {P : Program} {T e s : Nat} (ht : P.underlying T = some (.slice e)) (hel : P.elem T = e) (hs : ∀ W, (sizeOf e).run P W = .ok s W) (A : Option Addr) (n c : Nat) (kd : IntKind) (N : Nat) (h : N ≤ n) (W : World) :
    (Instr.slice T (.slice A n c) (some (.int kd (N : Int))) none none).run P W = .ok (.slice (cutAt A c N s) (n - N) (c - N)) W := by
  rw [run_slice_l W T A n c (by rw [hel]; exact ht) kd (N : Int) (by omega) (by omega), hel, hs]
  simp [sliced, cutAt]
theorem Reads.cutA {w : World} {B n c k : Nat} {A : Option Addr} {xs : List Value} (h : Reads w B 1 A n xs) (hk : k ≤ n) (hc : n ≤ c) : Reads w B 1 (cutAt A c k 1) (n - k) (xs.drop k) := by
  have := h.cut (cap := c) hk hc
  unfold cutAt
  rwa [Nat.mul_one]
/-- An owned row's value is a slice of just that length. -/
theorem own_form {w : World} {base : Nat} {e : TypeId} {size : Nat} {v : Value} {n : Nat} {xs : List Value} (h : w.ownsRow base e size v n xs) : ∃ A c, v = .slice A n c ∧ n ≤ c ∧ c ≤ maxLen := by
  obtain ⟨h0, ⟨rfl, rfl⟩ | ⟨g, cap, cur, rfl, h1, h2, h3, h4, _⟩⟩ := h
  · exact ⟨none, 0, rfl, Nat.le_refl _, Nat.zero_le _⟩
  · exact ⟨_, _, rfl, h3, h4⟩

theorem own_below {w w' : World} {base : Nat} {e : TypeId} {size : Nat} {v : Value} {n : Nat} {xs : List Value} (h : w.ownsRow base e size v n xs) (hb : Below w.heap.size w w') : w'.ownsRow base e size v n xs :=
  h.kept (row := none) ⟨hb.os, hb.tape, hb.output, hb.size, fun k hk _ => hb.block k hk⟩ (by cases v.ownBlock <;> simp)
theorem own_drewN {w : World} {base : Nat} {e : TypeId} {size : Nat} {v : Value} {n : Nat} {xs : List Value} (h : w.ownsRow base e size v n xs) (k : Nat) : (w.drewN k).ownsRow base e size v n xs := h
section
variable {w w1 w2 : World} {B size n : Nat} {e : TypeId} {v : Value} {xs : List Value} {o : Obj}
/-- What an append onto an owned row (its source laid in a new block) leaves as it was. -/
theorem push_below (hb : Below B w w1) (hB : B ≤ w1.heap.size) (hown : w1.ownsRow B e size v n xs) (hg : (w1.alloc o).grownBy w2 v.ownBlock) : Below B w w2 :=
  (hb.alloc hB o).grown hg (by simp; omega) (fun k hk => (hown.lt k hk).1)
theorem push_reads {A : Option Addr} {s m : Nat} {ys : List Value} (h : Reads w1 B s A m ys) (hB : B ≤ w1.heap.size) (hown : w1.ownsRow B e size v n xs) (hg : (w1.alloc o).grownBy w2 v.ownBlock) : Reads w2 B s A m ys :=
  (h.alloc hB o).grown hg (by simp; omega) (fun k hk => (hown.lt k hk).1)
end
/-- Block g begins with these cells, none frozen. -/
def RowAt (w : World) (g : Nat) (xs : List Value) : Prop := g < w.heap.size ∧ ∀ j u, xs[j]? = some u → w.cell? ⟨g, j, none⟩ = some u ∧ w.frozen? ⟨g, j, none⟩ = false
theorem RowAt.store {w : World} {g : Nat} {xs : List Value} (h : RowAt w g xs) (j : Nat) (u : Value) : RowAt (w.setCell ⟨g, j, none⟩ u) g (xs.set j u) := by
  refine ⟨by simpa [World.setCell] using h.1, fun i x hi => ?_⟩
  have hfr : ∀ p, (w.setCell ⟨g, j, none⟩ u).frozen? p = w.frozen? p := fun p => World.frozen?_setCell _ _ _ _
  rw [hfr]
  by_cases e : i = j
  · subst e
    rw [List.getElem?_set] at hi
    simp only [if_true] at hi
    split at hi
    · rename_i hl
      cases hi
      have := h.2 i xs[i] (List.getElem?_eq_getElem hl)
      exact ⟨World.cell?_setCell_same _ _ _ this.1, this.2⟩
    · cases hi
  · rw [List.getElem?_set_ne (by omega)] at hi
    have := h.2 i x hi
    exact ⟨(World.cell?_setCell_other w _ _ u (by intro e2; injection e2; omega)).trans this.1, this.2⟩
theorem RowAt.new (w : World) (e : TypeId) (cs : Array Value) : RowAt (w.alloc (.cells cs e)) w.heap.size cs.toList := by
  refine ⟨by simp, fun j u hu => ?_⟩
  have h := heap_alloc_new w (.cells cs e)
  constructor
  · unfold World.cell?
    rw [h]
    simpa using hu
  · unfold World.frozen?
    rw [h]
    simp
theorem RowAt.reads {w : World} {g B : Nat} {xs : List Value} (h : RowAt w g xs) (hB : g < B) : Reads w B 1 (some ⟨g, 0, none⟩) xs.length xs :=
  ⟨by simp, fun _ => ⟨g, 0, rfl, hB, fun j u hu => by rw [Nat.zero_add]; exact (h.2 j u hu).1⟩⟩
theorem below_drewN {B : Nat} {a w : World} (h : Below B a w) (n : Nat) : Below B a (w.drewN n) := ⟨h.os, h.tape, h.output, h.size, h.block⟩
/-- One byte, one rune, one number, as a cell. -/
def b8 (b : UInt8) : Value := .int .u8 b.toNat
def r32 (c : Int) : Value := .int .i32 c
def n64 (c : Int) : Value := .int .i64 c
end Go.Proofs.YthkagpefgkpgeaaDoor
/- The pure functions of layer 2 (package runes and its reference) are walked: each answers what the plain function of the same name says. No conditions but the ranges of the integer kinds. -/
set_option linter.unusedVariables false
namespace Go.Proofs.YthkagpefgkpgeaaDoor
open Go.RowKit
namespace Rn
/-- a character? -/
def isB (c : Int) : Bool := decide (0 ≤ c ∧ c ≤ 1114111 ∧ (c < 55296 ∨ 57343 < c))
def letterB (c : Int) : Bool := decide ((97 ≤ c ∧ c ≤ 122) ∨ (65 ≤ c ∧ c ≤ 90))
def beginsB (c : Int) : Bool := letterB c || decide (c = 95) || (decide (128 ≤ c) && isB c)
def digitB (c : Int) : Bool := decide (48 ≤ c ∧ c ≤ 57)
def withinB (c : Int) : Bool := beginsB c || digitB c || decide (c = 45)
def whiteB (c : Int) : Bool := decide (c = 9 ∨ c = 10 ∨ c = 32)
def hexI (c : Int) : Int := if 48 ≤ c ∧ c ≤ 57 then c - 48 else if 97 ≤ c ∧ c ≤ 102 then c - 87 else if 65 ≤ c ∧ c ≤ 70 then c - 55 else -1
end Rn
open Rn

theorem rn_is (c : Int) (w : World) :
    Calls Tryd.prog 36 #[.int .i32 c] w fun e w' => e = .returned (.bool (isB c)) ∧ w = w' := by
  go_enter Tryd.func36, Tryd.ntmps36
  go_wp2
  all_goals (go_ret; refine ⟨ret_bool ?_, rfl⟩)
  all_goals (first | rfl | (unfold isB; rw [Bool.eq_iff_iff]; simp [*]; done) | (unfold isB; rw [Bool.eq_iff_iff]; simp [*]; omega))
theorem rn_letter (c : Int) (w : World) :
    Calls Tryd.prog 39 #[.int .i32 c] w fun e w' => e = .returned (.bool (letterB c)) ∧ w = w' := by
  go_enter Tryd.func39, Tryd.ntmps39
  go_wp2
  all_goals (go_ret; refine ⟨ret_bool ?_, rfl⟩)
  all_goals (first | rfl | (unfold letterB; rw [Bool.eq_iff_iff]; simp [*]; done) | (unfold letterB; rw [Bool.eq_iff_iff]; simp [*]; omega))
theorem rn_begins (c : Int) (w : World) :
    Calls Tryd.prog 29 #[.int .i32 c] w fun e w' => e = .returned (.bool (beginsB c)) ∧ w = w' := by
  go_enter Tryd.func29, Tryd.ntmps29
  go_wp2_with (first | (go_at_call 39; refine (rn_letter _ _).mono ?_; rintro e w' ⟨rfl, rfl⟩) | (go_at_call 36; refine (rn_is _ _).mono ?_; rintro e w' ⟨rfl, rfl⟩))
  all_goals (go_ret; refine ⟨ret_bool ?_, rfl⟩)
  all_goals (first | rfl | (unfold beginsB; rw [Bool.eq_iff_iff]; simp [*]; done) | (unfold beginsB; rw [Bool.eq_iff_iff]; simp [*]; omega))
theorem rn_digit (c : Int) (w : World) :
    Calls Tryd.prog 30 #[.int .i32 c] w fun e w' => e = .returned (.bool (digitB c)) ∧ w = w' := by
  go_enter Tryd.func30, Tryd.ntmps30
  go_wp2
  all_goals (go_ret; refine ⟨ret_bool ?_, rfl⟩)
  all_goals (first | rfl | (unfold digitB; rw [Bool.eq_iff_iff]; simp [*]; done) | (unfold digitB; rw [Bool.eq_iff_iff]; simp [*]; omega))
theorem rn_within (c : Int) (w : World) :
    Calls Tryd.prog 18 #[.int .i32 c] w fun e w' => e = .returned (.bool (withinB c)) ∧ w = w' := by
  go_enter Tryd.func18, Tryd.ntmps18
  go_wp2_with (first | (go_at_call 29; refine (rn_begins _ _).mono ?_; rintro e w' ⟨rfl, rfl⟩) | (go_at_call 30; refine (rn_digit _ _).mono ?_; rintro e w' ⟨rfl, rfl⟩))
  all_goals (go_ret; refine ⟨ret_bool ?_, rfl⟩)
  all_goals (first | rfl | (unfold withinB; rw [Bool.eq_iff_iff]; simp [*]; done) | (unfold withinB; rw [Bool.eq_iff_iff]; simp [*]; omega))
theorem rn_white (c : Int) (w : World) :
    Calls Tryd.prog 16 #[.int .i32 c] w fun e w' => e = .returned (.bool (whiteB c)) ∧ w = w' := by
  go_enter Tryd.func16, Tryd.ntmps16
  go_wp2
  all_goals (go_ret; refine ⟨ret_bool ?_, rfl⟩)
  all_goals (first | rfl | (unfold whiteB; rw [Bool.eq_iff_iff]; simp [*]; done) | (unfold whiteB; rw [Bool.eq_iff_iff]; simp [*]; omega))
end Go.Proofs.YthkagpefgkpgeaaDoor
/- runes.bounds and runes.next are walked: the first character of a slice of bytes and how many bytes it has, for every slice of bytes that is not empty. The library's DecodeRune is taken by its contract; its two tables are asked of the world. -/
set_option linter.unusedVariables false
namespace Go.Proofs.YthkagpefgkpgeaaDoor
open Go.RowKit
namespace Rn
/-- of a first byte: how many bytes; the second one's bounds -/
def bN (c : Nat) : Nat := if c < 128 then 1 else if c < 194 ∨ 244 < c then 0 else if c < 224 then 2 else if c < 240 then 3 else 4
def bLo (c : Nat) : Nat := if c < 194 ∨ 244 < c then 0 else if c = 224 then 160 else if c = 240 then 144 else 128
def bHi (c : Nat) : Nat := if c < 194 ∨ 244 < c then 0 else if c = 237 then 159 else if c = 244 then 143 else 191
/-- may a byte stand at place k? -/
def okAt (bs : List UInt8) (lo hi k : Nat) : Bool := match bs[k]? with
  | none => false
  | some b => if k = 1 then decide (lo ≤ b.toNat ∧ b.toNat ≤ hi) else decide (128 ≤ b.toNat ∧ b.toNat ≤ 191)
/-- the first place from k on, of so many, at which none may -/
def scan (bs : List UInt8) (lo hi : Nat) : Nat → Nat → Nat
  | 0, k => k
  | f + 1, k => if okAt bs lo hi k then scan bs lo hi f (k + 1) else k
/-- the character of so many bytes -/
def val (bs : List UInt8) (n : Nat) : Nat :=
  let b := fun k => (bs[k]?.getD 0).toNat
  if n = 1 then b 0 else if n = 2 then b 0 % 32 * 64 + b 1 % 64 else if n = 3 then b 0 % 16 * 4096 + b 1 % 64 * 64 + b 2 % 64
  else b 0 % 8 * 262144 + b 1 % 64 * 4096 + b 2 % 64 * 64 + b 3 % 64
/-- where the scan of a first byte's character ends -/
def loAt (c j : Nat) : Nat := if j = 1 then bLo c else 128
def hiAt (c j : Nat) : Nat := if j = 1 then bHi c else 191
def stopP (bs : List UInt8) : Nat := let c := (bs[0]?.getD 0).toNat; scan bs (bLo c) (bHi c) (bN c - 1) 1
/-- the first character, and how many bytes it has -/
def nextC (bs : List UInt8) : Int := let n := bN (bs[0]?.getD 0).toNat
  if n = 0 then 65533 else if stopP bs < n then 65533 else val bs n
def nextN (bs : List UInt8) : Nat := let n := bN (bs[0]?.getD 0).toNat
  if n = 0 then 1 else if stopP bs < n then stopP bs else n
end Rn
open Rn
theorem scan_stuck {bs : List UInt8} {lo hi k : Nat} (f : Nat) (h : okAt bs lo hi k = false) : scan bs lo hi f k = k := by
  cases f with
  | zero => rfl
  | succ f => simp [scan, h]
theorem scan_step {bs : List UInt8} {lo hi k : Nat} (f : Nat) (h : okAt bs lo hi k = true) : scan bs lo hi (f + 1) k = scan bs lo hi f (k + 1) := by simp [scan, h]
theorem next_stop {bs : List UInt8} {j : Nat} (hz : ¬ bN (bs[0]?.getD 0).toNat = 0) (hs : stopP bs = j) (hj : j < bN (bs[0]?.getD 0).toNat) : nextC bs = 65533 ∧ nextN bs = j := by
  simp [nextC, nextN, hz, hs, hj]
theorem next_full {bs : List UInt8} (hz : ¬ bN (bs[0]?.getD 0).toNat = 0) (hs : stopP bs = bN (bs[0]?.getD 0).toNat) : nextC bs = val bs (bN (bs[0]?.getD 0).toNat) ∧ nextN bs = bN (bs[0]?.getD 0).toNat := by
  simp [nextC, nextN, hz, hs]
theorem okAt_none {bs : List UInt8} {lo hi k : Nat} (h : bs.length ≤ k) : okAt bs lo hi k = false := by
  simp [okAt, List.getElem?_eq_none h]
theorem okAt_some {bs : List UInt8} {c k : Nat} {b : UInt8} (h : bs[k]? = some b) : okAt bs (bLo c) (bHi c) k = decide (loAt c k ≤ b.toNat ∧ b.toNat ≤ hiAt c k) := by
  unfold okAt loAt hiAt
  rw [h]
  by_cases e : k = 1 <;> simp [e]
theorem ret3 {a b c a' b' c' : Int} {k l m : IntKind} (h1 : a = a') (h2 : b = b') (h3 : c = c') : Ending.returned (.tuple #[.int k a, .int l b, .int m c]) = .returned (.tuple #[.int k a', .int l b', .int m c']) := by rw [h1, h2, h3]
theorem ret2 {a b a' b' : Int} {k l : IntKind} (h1 : a = a') (h2 : b = b') : Ending.returned (.tuple #[.int k a, .int l b]) = .returned (.tuple #[.int k a', .int l b']) := by rw [h1, h2]

set_option maxRecDepth 100000 in
theorem rn_bounds (c : Nat) (w : World) (hc : c < 256) :
    Calls Tryd.prog 24 #[.int .u8 c] w fun e w' => e = .returned (.tuple #[.int .i64 (bN c), .int .u8 (bLo c), .int .u8 (bHi c)]) ∧ w = w' := by
  go_enter Tryd.func24, Tryd.ntmps24
  go_wp2
  all_goals (go_ret3; refine ⟨ret3 ?_ ?_ ?_, rfl⟩)
  all_goals (first | unfold bN | unfold bLo | unfold bHi)
  all_goals (try simp only [beq_iff_eq, beq_eq_false_iff_ne, ne_eq] at *)
  all_goals ((repeat' split) <;> first | rfl | omega)

set_option maxRecDepth 100000 in
theorem rn_next (bs : List UInt8) (A : Option Addr) (n cap B : Nat) (w : World) (hr : Reads w B 1 A n (bs.map b8)) (hn : 0 < n) (hm : n ≤ cap) (hcap : cap ≤ maxLen)
    (hdec : ∀ (m : Nat), m = bN (bs[0]?.getD 0).toNat → m ≤ n → stopP bs = m → 0 < m → Calls Tryd.prog 25 #[.slice A m cap] w fun e w' => e = .returned (.tuple #[.int .i32 (val bs m), .int .i64 m]) ∧ Below w.heap.size w w') :
    Calls Tryd.prog 15 #[.slice A n cap] w fun e w' => e = .returned (.tuple #[.int .i32 (nextC bs), .int .i64 (nextN bs)]) ∧ Below w.heap.size w w' := by
  unfold maxLen at hcap
  have hlen : bs.length = n := by simpa using hr.len
  obtain ⟨b, off, rfl, hb, hcell⟩ := hr.open_ hn
  obtain ⟨b0, rest, rfl⟩ := List.exists_cons_of_length_pos (l := bs) (by omega)
  have h0 : w.cell? ⟨b, off, none⟩ = some (.int .u8 b0.toNat) := hcell 0 _ rfl
  have hb0 : b0.toNat < 256 := b0.toNat_lt
  by_cases hz : bN b0.toNat = 0
  · have Hz := Lib.hid hz
    have hz0 : ((bN b0.toNat : Int) == 0) = true := by simp [hz]
    clear hz hdec
    go_enter Tryd.func15, Tryd.ntmps15
    go_wp2_with (go_at_call 24; refine (rn_bounds _ _ hb0).mono ?_; rintro e w' ⟨rfl, rfl⟩)
    go_ret2
    refine ⟨ret2 ?_ ?_, Below.refl _ _⟩
    · simp [nextC, Hz.out]
    · simp [nextN, Hz.out]
  · have hz0 : ((bN b0.toNat : Int) == 0) = false := by simp; omega
    have hN : bN b0.toNat ≤ 4 := by unfold bN; (repeat' split) <;> omega
    have hz1 : 0 < bN b0.toNat := by omega
    have hcb : ∀ k b', (b0 :: rest)[k]? = some b' → w.cell? ⟨b, off + k, none⟩ = some (.int .u8 b'.toNat) := fun k b' h => hcell k _ (by rw [List.getElem?_map, h]; rfl)
    have Hcb := Lib.hid hcb
    have Hdec := Lib.hid hdec
    have Hlen := Lib.hid hlen
    clear hdec hcell hcb hlen hr
    go_enter Tryd.func15, Tryd.ntmps15
    go_wp2_with (go_at_call 24; refine (rn_bounds _ _ hb0).mono ?_; rintro e w' ⟨rfl, rfl⟩)
    go_loop [5, 6, 7] (fun lo hi k => ∃ j : Nat, 1 ≤ j ∧ j ≤ bN b0.toNat ∧ j ≤ n ∧ k = .int .i64 j ∧ lo = .int .u8 (loAt b0.toNat j) ∧ hi = .int .u8 (hiAt b0.toNat j) ∧ Hid (scan (b0 :: rest) (bLo b0.toNat) (bHi b0.toNat) (bN b0.toNat - j) j = stopP (b0 :: rest))) (fun _ _ k => bN b0.toNat - (intOf k).toNat)
    case atStart => exact ⟨1, by omega, by omega, by omega, rfl, rfl, rfl, rfl⟩
    case round =>
      obtain ⟨j, hj1, hj2, hj3, rfl, rfl, rfl, hs⟩ := hrel
      by_cases hjN : j < bN b0.toNat
      · by_cases hjn : j = n
        · have hb1 : ((j : Int) == (n : Int)) = true := by simp [hjn]
          have Hjn := Lib.hid hjn
          clear hjn
          go_wp2
          go_ret2
          have hst : stopP (b0 :: rest) = j := by rw [← hs.out]; exact scan_stuck _ (okAt_none (by rw [Hlen.out, Hjn.out]; omega))
          have hx := next_stop (bs := b0 :: rest) hz hst hjN
          exact ⟨ret2 hx.1.symm (by rw [hx.2]), Below.refl _ _⟩
        · obtain ⟨b', hb'⟩ : ∃ b', (b0 :: rest)[j]? = some b' := ⟨_, List.getElem?_eq_getElem (by rw [Hlen.out]; omega)⟩
          have hb1 : ((j : Int) == (n : Int)) = false := by simp; omega
          have hbc := Hcb.out j b' hb'
          have hjlt : j < n := by omega
          have Hb' := Lib.hid hb'
          clear hb' hjn
          by_cases hlo : b'.toNat < loAt b0.toNat j
          · go_wp2
            go_ret2
            have hst : stopP (b0 :: rest) = j := by rw [← hs.out]; exact scan_stuck _ (by rw [okAt_some Hb'.out]; simp; omega)
            have hx := next_stop (bs := b0 :: rest) hz hst hjN
            exact ⟨ret2 hx.1.symm (by rw [hx.2]), Below.refl _ _⟩
          · by_cases hhi : hiAt b0.toNat j < b'.toNat
            · go_wp2
              go_ret2
              have hst : stopP (b0 :: rest) = j := by rw [← hs.out]; exact scan_stuck _ (by rw [okAt_some Hb'.out]; simp; omega)
              have hx := next_stop (bs := b0 :: rest) hz hst hjN
              exact ⟨ret2 hx.1.symm (by rw [hx.2]), Below.refl _ _⟩
            · go_wp2
              go_round
              case rel =>
                have hst : scan (b0 :: rest) (bLo b0.toNat) (bHi b0.toNat) (bN b0.toNat - j) j = scan (b0 :: rest) (bLo b0.toNat) (bHi b0.toNat) (bN b0.toNat - (j + 1)) (j + 1) := by
                  rw [show bN b0.toNat - j = (bN b0.toNat - (j + 1)) + 1 from by omega]
                  exact scan_step _ (by rw [okAt_some Hb'.out]; simp; omega)
                refine ⟨j + 1, by omega, by omega, by omega, by go_num, ?_, ?_, hst.symm.trans hs.out⟩
                · unfold loAt; rw [if_neg (by omega)]; rfl
                · unfold hiAt; rw [if_neg (by omega)]; rfl
              case measure => simp [intOf]; omega
      · obtain rfl : j = bN b0.toNat := by omega
        have hst : stopP (b0 :: rest) = bN b0.toNat := by rw [← hs.out, Nat.sub_self]; rfl
        have hx := next_full (bs := b0 :: rest) hz hst
        have Hx := Lib.hid hx
        clear hx
        have hd := Hdec.out (bN b0.toNat) rfl (by omega) hst (by omega)
        have Hd := Lib.hid hd
        clear hd hst
        go_wp2_with fail
        refine (Hd.out).mono ?_
        rintro e w' ⟨rfl, hb⟩
        go_wp2
        go_ret2
        exact ⟨ret2 Hx.out.1.symm (by rw [Hx.out.2]; rfl), hb⟩
end Go.Proofs.YthkagpefgkpgeaaDoor
/- Strings given as lists of bytes: slices, indexes, conversions of them, as the walk asks for them. -/
set_option linter.unusedVariables false
set_option linter.unusedSimpArgs false
namespace Go.Proofs.YthkagpefgkpgeaaDoor
open Go.RowKit
def bytesOf (l : List UInt8) : ByteArray := ⟨l.toArray⟩
theorem bytesOf_size (l : List UInt8) : (bytesOf l).size = l.length := by simp [bytesOf, ByteArray.size]
theorem bytesOf_list (l : List UInt8) : (bytesOf l).data.toList = l := by simp [bytesOf]
theorem bytesOf_eta (s : ByteArray) : bytesOf s.data.toList = s := by simp [bytesOf]
theorem bytesOf_toList (l : List UInt8) : (bytesOf l).toList = l := by rw [ByteArray.toList_eq]; exact bytesOf_list l
/-- the walk's test s == "" -/
theorem str_some {l : List UInt8} (h : l ≠ []) : ¬ (bytesOf l).toList = [] ∧ (bytesOf l).toList.isEmpty = false := by
  rw [bytesOf_toList]; exact ⟨h, by cases l <;> simp_all⟩
theorem str_none : (bytesOf []).toList = [] ∧ (bytesOf []).toList.isEmpty = true := by
  rw [bytesOf_toList]; exact ⟨rfl, rfl⟩
theorem byte_ne {b : UInt8} {n : Nat} (h : ¬ b.toNat = n) : ((b.toNat : Int) == (n : Int)) = false := by simp; omega
theorem bytesOf_get (l : List UInt8) (j : Nat) : (bytesOf l).get! j = l[j]?.getD 0 := by
  simp [bytesOf, ByteArray.get!]
  rfl
theorem extract_from (l : List UInt8) (a : Nat) : (bytesOf l).extract a (bytesOf l).size = bytesOf (l.drop a) := by
  rw [← bytesOf_eta ((bytesOf l).extract a (bytesOf l).size), Lib.extract_to_end, bytesOf_list]
theorem extract_to (l : List UInt8) (b : Nat) : (bytesOf l).extract 0 b = bytesOf (l.take b) := by
  rw [← bytesOf_eta ((bytesOf l).extract 0 b), Lib.extract_data, bytesOf_list]; rfl
section
variable {P : Program} {T : TypeId} (ht : P.underlying T = some .string) (l : List UInt8)
include ht
/-- s[a:] -/
theorem str_from (kd : IntKind) (a : Nat) (h : a ≤ l.length) (W : World) : (Instr.slice T (.string (bytesOf l)) (some (.int kd (a : Int))) none none).run P W = .ok (.string (bytesOf (l.drop a))) W := by
  rw [run_slice_string_l W T (bytesOf l) ht kd (a : Int) (by omega) (by rw [bytesOf_size]; omega), Int.toNat_natCast, extract_from]
/-- s[:b] -/
theorem str_to (kd : IntKind) (b : Nat) (h : b ≤ l.length) (W : World) : (Instr.slice T (.string (bytesOf l)) none (some (.int kd (b : Int))) none).run P W = .ok (.string (bytesOf (l.take b))) W := by
  rw [run_slice_string_h W T (bytesOf l) ht kd (b : Int) (by omega) (by rw [bytesOf_size]; omega), Int.toNat_natCast, extract_to]
/-- s[i] -/
theorem str_at (kd : IntKind) (i : Nat) (b : UInt8) (h : l[i]? = some b) (W : World) : (Instr.index T (.string (bytesOf l)) (.int kd (i : Int))).run P W = .ok (.int .u8 (b.toNat : Int)) W := by
  have hi : i < l.length := (List.getElem?_eq_some_iff.1 h).1
  rw [run_index_string W T (bytesOf l) kd (i : Int) ht, dif_pos ⟨by omega, by rw [bytesOf_size]; omega⟩]
  have : (bytesOf l)[(i : Int).toNat]'(by rw [bytesOf_size]; omega) = b := by
    have h2 : (bytesOf l).data.toList[i]? = some ((bytesOf l)[(i : Int).toNat]'(by rw [bytesOf_size]; omega)) := by
      rw [List.getElem?_eq_getElem (by rw [bytesOf_list]; exact hi)]; rfl
    rw [bytesOf_list, h] at h2
    injection h2 with h2
    exact h2.symm
  rw [this]
end
/-- string(b) of a slice that reads as bytes. -/
theorem run_str {P : Program} {src dst e : TypeId} (hs : P.underlying src = some (.slice e)) (he : P.underlying e = some (.int .u8)) (hd : P.underlying dst = some .string)
    {w : World} {B n : Nat} {A : Option Addr} {bs : List UInt8} (c : Nat) (hr : Reads w B 1 A n (bs.map b8)) : (convert src dst (.slice A n c)).run P w = .ok (.string (bytesOf bs)) w := by
  have hlen : bs.length = n := by simpa using hr.len
  subst hlen
  rcases Nat.eq_zero_or_pos bs.length with h0 | h0
  · have : bs = [] := List.eq_nil_of_length_eq_zero h0
    subst this
    cases A with
    | none => exact run_convert_bytes_nil w src e hs he 0 c dst hd
    | some a => exact run_convert_bytes_back w src dst e a c [] hs he hd (fun j hj => by simp at hj)
  · obtain ⟨b, off, rfl, _, hc⟩ := hr.open_ h0
    refine run_convert_bytes_back w src dst e _ c bs hs he hd (fun j hj => ?_)
    have := hc j (b8 bs[j]) (by simp [List.getElem?_eq_getElem hj])
    have ha : (⟨b, off, none⟩ : Addr).add j = ⟨b, off + j, none⟩ := by unfold Addr.add; split <;> simp_all
    rw [ha]; exact this
theorem take_snoc {α : Type} (l : List α) (k : Nat) (x : α) (h : l[k]? = some x) : l.take (k + 1) = l.take k ++ [x] := by
  rw [List.take_add_one, h]; rfl
end Go.Proofs.YthkagpefgkpgeaaDoor
/- Contracts of library functions, laid over this translation by the kit's tool, in plain declarations. -/
namespace Go.Proofs
open Go.Shelf
def Tryd.lays231_ren : Go.Shelf.Ren := ⟨fun | 231 => 59 | n => n, fun | 9 => 9 | 5 => 5 | 3 => 3 | 4 => 4 | n => n, fun | n => n⟩
theorem Tryd.lays231 : Go.Proofs.Lays.n231 Tryd.prog Tryd.lays231_ren := {
  mixed := by kernel_rfl
  f231 := Tryd.func59.trans (congrArg some (by kernel_rfl))
  t3 := Tryd.underlying3
  a3 := Tryd.isAgg3
  z3 := Tryd.sizeOf3
  v3 := Tryd.zeroValue3
  t4 := Tryd.underlying4
  a4 := Tryd.isAgg4
  z4 := Tryd.sizeOf4
  v4 := Tryd.zeroValue4
  t5 := Tryd.underlying5
  a5 := Tryd.isAgg5
  z5 := Tryd.sizeOf5
  v5 := Tryd.zeroValue5
  t9 := Tryd.underlying9
  a9 := Tryd.isAgg9
  z9 := Tryd.sizeOf9
  v9 := Tryd.zeroValue9 }
open Go.RowKit in
theorem Tryd.strings_trimLeftByte (s : ByteArray) (c : UInt8) (w : World) :
    Calls Tryd.prog 59 #[.string s, .int .u8 c.toNat] w fun e w' => e = .returned (.string ⟨(Lib.trimLeftB s.data.toList c).toArray⟩) ∧ w' = w := Any.strings_trimLeftByte Tryd.lays231 s c w
def Tryd.lays161_ren : Go.Shelf.Ren := ⟨fun | 161 => 46 | 231 => 59 | 227 => 55 | 233 => 60 | 235 => 61 | 228 => 56 | 197 => 66 | 151 => 31 | 260 => 74 | 152 => 40 | 137 => 49 | 119 => 51 | 224 => 52 | 225 => 53 | 217 => 62 | 266 => 67 | n => n, fun | 9 => 9 | 4 => 4 | 3 => 3 | 5 => 5 | 117 => 84 | 116 => 83 | 0 => 0 | 124 => 93 | 105 => 49 | 21 => 21 | 119 => 75 | 46 => 35 | 139 => 78 | 138 => 77 | n => n, fun | 3 => 0 | 4 => 1 | n => n⟩
theorem Tryd.lays161 : Go.Proofs.Lays.n161 Tryd.prog Tryd.lays161_ren := {
  mixed := by kernel_rfl
  f119 := Tryd.func51.trans (congrArg some (by kernel_rfl))
  f137 := Tryd.func49.trans (congrArg some (by kernel_rfl))
  f151 := Tryd.func31.trans (congrArg some (by kernel_rfl))
  f152 := Tryd.func40.trans (congrArg some (by kernel_rfl))
  f161 := Tryd.func46.trans (congrArg some (by kernel_rfl))
  f197 := Tryd.func66.trans (congrArg some (by kernel_rfl))
  f217 := Tryd.func62.trans (congrArg some (by kernel_rfl))
  f224 := Tryd.func52.trans (congrArg some (by kernel_rfl))
  f225 := Tryd.func53.trans (congrArg some (by kernel_rfl))
  f227 := Tryd.func55.trans (congrArg some (by kernel_rfl))
  f228 := Tryd.func56.trans (congrArg some (by kernel_rfl))
  f231 := Tryd.func59.trans (congrArg some (by kernel_rfl))
  f233 := Tryd.func60.trans (congrArg some (by kernel_rfl))
  f235 := Tryd.func61.trans (congrArg some (by kernel_rfl))
  f260 := Tryd.func74.trans (congrArg some (by kernel_rfl))
  f266 := Tryd.func67.trans (congrArg some (by kernel_rfl))
  t0 := Tryd.underlying0
  a0 := Tryd.isAgg0
  z0 := Tryd.sizeOf0
  v0 := Tryd.zeroValue0
  t3 := Tryd.underlying3
  a3 := Tryd.isAgg3
  z3 := Tryd.sizeOf3
  v3 := Tryd.zeroValue3
  t4 := Tryd.underlying4
  a4 := Tryd.isAgg4
  z4 := Tryd.sizeOf4
  v4 := Tryd.zeroValue4
  t5 := Tryd.underlying5
  a5 := Tryd.isAgg5
  z5 := Tryd.sizeOf5
  v5 := Tryd.zeroValue5
  t9 := Tryd.underlying9
  a9 := Tryd.isAgg9
  z9 := Tryd.sizeOf9
  v9 := Tryd.zeroValue9
  t21 := Tryd.underlying21
  a21 := Tryd.isAgg21
  z21 := Tryd.sizeOf21
  v21 := Tryd.zeroValue21
  t46 := Tryd.underlying35
  a46 := Tryd.isAgg35
  z46 := Tryd.sizeOf35
  v46 := Tryd.zeroValue35
  t105 := Tryd.underlying49
  a105 := Tryd.isAgg49
  z105 := Tryd.sizeOf49
  v105 := Tryd.zeroValue49
  t116 := Tryd.underlying83
  a116 := Tryd.isAgg83
  z116 := Tryd.sizeOf83
  t117 := Tryd.underlying84
  a117 := Tryd.isAgg84
  z117 := Tryd.sizeOf84
  v117 := Tryd.zeroValue84
  t119 := Tryd.underlying75
  a119 := Tryd.isAgg75
  z119 := Tryd.sizeOf75
  t124 := Tryd.underlying93
  a124 := Tryd.isAgg93
  z124 := Tryd.sizeOf93
  v124 := Tryd.zeroValue93
  t138 := Tryd.underlying77
  a138 := Tryd.isAgg77
  z138 := Tryd.sizeOf77
  v138 := Tryd.zeroValue77
  t139 := Tryd.underlying78
  a139 := Tryd.isAgg78
  z139 := Tryd.sizeOf78
  v139 := Tryd.zeroValue78
  g3 := by kernel_rfl
  g4 := by kernel_rfl }
open Go.RowKit in
theorem Tryd.strings_TrimLeft_one (s : ByteArray) (c : UInt8) (hc : c.toNat < 128) (w : World) :
    Calls Tryd.prog 46 #[.string s, .string ⟨#[c]⟩] w fun e w' => e = .returned (.string ⟨(Lib.trimLeftB s.data.toList c).toArray⟩) ∧ w' = w := Any.strings_TrimLeft_one Tryd.lays161 s c hc w
def Tryd.lays119_ren : Go.Shelf.Ren := ⟨fun | 119 => 51 | n => n, fun | 21 => 21 | 4 => 4 | n => n, fun | n => n⟩
theorem Tryd.lays119 : Go.Proofs.Lays.n119 Tryd.prog Tryd.lays119_ren := {
  mixed := by kernel_rfl
  f119 := Tryd.func51.trans (congrArg some (by kernel_rfl))
  t4 := Tryd.underlying4
  a4 := Tryd.isAgg4
  z4 := Tryd.sizeOf4
  v4 := Tryd.zeroValue4
  t21 := Tryd.underlying21
  a21 := Tryd.isAgg21
  z21 := Tryd.sizeOf21
  v21 := Tryd.zeroValue21 }
theorem Tryd.utf8_ValidRune (r : Int) (w : World) :
    Calls Tryd.prog 51 #[.int .i32 r] w fun e w' => e = .returned (.bool (Lib.validRune r)) ∧ w' = w := Any.utf8_ValidRune Tryd.lays119 r w
def Tryd.lays137_ren : Go.Shelf.Ren := ⟨fun | 137 => 49 | 217 => 62 | 266 => 67 | n => n, fun | 9 => 9 | 5 => 5 | 3 => 3 | n => n, fun | n => n⟩
theorem Tryd.lays137 : Go.Proofs.Lays.n137 Tryd.prog Tryd.lays137_ren := {
  mixed := by kernel_rfl
  f137 := Tryd.func49.trans (congrArg some (by kernel_rfl))
  f217 := Tryd.func62.trans (congrArg some (by kernel_rfl))
  f266 := Tryd.func67.trans (congrArg some (by kernel_rfl))
  t3 := Tryd.underlying3
  a3 := Tryd.isAgg3
  z3 := Tryd.sizeOf3
  v3 := Tryd.zeroValue3
  t5 := Tryd.underlying5
  a5 := Tryd.isAgg5
  z5 := Tryd.sizeOf5
  v5 := Tryd.zeroValue5
  t9 := Tryd.underlying9
  a9 := Tryd.isAgg9
  z9 := Tryd.sizeOf9
  v9 := Tryd.zeroValue9 }
open Go.RowKit in
theorem Tryd.strings_IndexByte (s : ByteArray) (c : Int) (w : World) :
    Calls Tryd.prog 49 #[.string s, .int .u8 c] w fun e w' => e = .returned (.int .i64 (Lib.indexByte s.data.toList c.toNat.toUInt8)) ∧ w' = w := Any.strings_IndexByte Tryd.lays137 s c w
def Tryd.lays278_ren : Go.Shelf.Ren := ⟨fun | 278 => 48 | n => n, fun | 37 => 22 | 21 => 21 | 51 => 79 | 4 => 4 | 46 => 35 | 5 => 5 | n => n, fun | n => n⟩
theorem Tryd.lays278 : Go.Proofs.Lays.n278 Tryd.prog Tryd.lays278_ren := {
  mixed := by kernel_rfl
  f278 := Tryd.func48.trans (congrArg some (by kernel_rfl))
  t4 := Tryd.underlying4
  a4 := Tryd.isAgg4
  z4 := Tryd.sizeOf4
  v4 := Tryd.zeroValue4
  t5 := Tryd.underlying5
  a5 := Tryd.isAgg5
  z5 := Tryd.sizeOf5
  v5 := Tryd.zeroValue5
  t21 := Tryd.underlying21
  a21 := Tryd.isAgg21
  z21 := Tryd.sizeOf21
  v21 := Tryd.zeroValue21
  t37 := Tryd.underlying22
  a37 := Tryd.isAgg22
  z37 := Tryd.sizeOf22
  v37 := Tryd.zeroValue22
  t46 := Tryd.underlying35
  a46 := Tryd.isAgg35
  z46 := Tryd.sizeOf35
  v46 := Tryd.zeroValue35
  t51 := Tryd.underlying79
  a51 := Tryd.isAgg79
  z51 := Tryd.sizeOf79
  v51 := Tryd.zeroValue79 }
open Go.RowKit in
theorem Tryd.utf8_appendRuneNonASCII_plain (B : Nat) (v : Value) (n : Nat) (xs : List Value) (r : Int) (hr0 : -2147483648 ≤ r) (hr1 : r ≤ 2147483647) (hna : r < 0 ∨ 128 ≤ r) (w : World) (hown : w.ownsRow B 5 1 v n xs) (hlen : n + 4 ≤ 140737488355328) (hBw : B ≤ w.heap.size) :
    Calls Tryd.prog 48 #[v, .int .i32 r] w fun e w' => ∃ v', e = .returned v' ∧ w'.ownsRow B 5 1 v' (n + (Lib.runeCells r).length) (xs ++ Lib.runeCells r) ∧ ∃ o, (w.alloc o).grownBy w' v.ownBlock := Any.utf8_appendRuneNonASCII_plain Tryd.lays278 (by kernel_rfl) B v n xs r hr0 hr1 hna w hown hlen hBw
def Tryd.lays242_ren : Go.Shelf.Ren := ⟨fun | 242 => 37 | 278 => 48 | n => n, fun | 37 => 22 | 21 => 21 | 51 => 79 | 4 => 4 | 5 => 5 | 46 => 35 | n => n, fun | n => n⟩
theorem Tryd.lays242 : Go.Proofs.Lays.n242 Tryd.prog Tryd.lays242_ren := {
  mixed := by kernel_rfl
  f242 := Tryd.func37.trans (congrArg some (by kernel_rfl))
  f278 := Tryd.func48.trans (congrArg some (by kernel_rfl))
  t4 := Tryd.underlying4
  a4 := Tryd.isAgg4
  z4 := Tryd.sizeOf4
  v4 := Tryd.zeroValue4
  t5 := Tryd.underlying5
  a5 := Tryd.isAgg5
  z5 := Tryd.sizeOf5
  v5 := Tryd.zeroValue5
  t21 := Tryd.underlying21
  a21 := Tryd.isAgg21
  z21 := Tryd.sizeOf21
  v21 := Tryd.zeroValue21
  t37 := Tryd.underlying22
  a37 := Tryd.isAgg22
  z37 := Tryd.sizeOf22
  v37 := Tryd.zeroValue22
  t46 := Tryd.underlying35
  a46 := Tryd.isAgg35
  z46 := Tryd.sizeOf35
  v46 := Tryd.zeroValue35
  t51 := Tryd.underlying79
  a51 := Tryd.isAgg79
  z51 := Tryd.sizeOf79
  v51 := Tryd.zeroValue79 }
open Go.RowKit in
theorem Tryd.utf8_AppendRune_plain (B : Nat) (v : Value) (n : Nat) (xs : List Value) (r : Int) (hr0 : -2147483648 ≤ r) (hr1 : r ≤ 2147483647) (w : World) (hown : w.ownsRow B 5 1 v n xs) (hlen : n + 4 ≤ 140737488355328) (hBw : B ≤ w.heap.size) :
    Calls Tryd.prog 37 #[v, .int .i32 r] w fun e w' => ∃ v', e = .returned v' ∧ w'.ownsRow B 5 1 v' (n + (Lib.runeCells r).length) (xs ++ Lib.runeCells r) ∧ ∃ o, (w.alloc o).grownBy w' v.ownBlock := Any.utf8_AppendRune_plain Tryd.lays242 (by kernel_rfl) B v n xs r hr0 hr1 w hown hlen hBw
def Tryd.lays244_ren : Go.Shelf.Ren := ⟨fun | 244 => 64 | 247 => 69 | 287 => 76 | 321 => 80 | 322 => 81 | n => n, fun | 9 => 9 | 3 => 3 | 75 => 88 | 4 => 4 | 5 => 5 | 167 => 96 | 37 => 22 | 0 => 0 | 85 => 97 | 2 => 2 | 53 => 104 | 175 => 105 | 46 => 35 | 21 => 21 | 80 => 53 | n => n, fun | n => n⟩
theorem Tryd.lays244 : Go.Proofs.Lays.n244 Tryd.prog Tryd.lays244_ren := {
  mixed := by kernel_rfl
  f244 := Tryd.func64.trans (congrArg some (by kernel_rfl))
  f247 := Tryd.func69.trans (congrArg some (by kernel_rfl))
  f287 := Tryd.func76.trans (congrArg some (by kernel_rfl))
  f321 := Tryd.func80.trans (congrArg some (by kernel_rfl))
  f322 := Tryd.func81.trans (congrArg some (by kernel_rfl))
  t0 := Tryd.underlying0
  a0 := Tryd.isAgg0
  z0 := Tryd.sizeOf0
  v0 := Tryd.zeroValue0
  t2 := Tryd.underlying2
  a2 := Tryd.isAgg2
  z2 := Tryd.sizeOf2
  v2 := Tryd.zeroValue2
  t3 := Tryd.underlying3
  a3 := Tryd.isAgg3
  z3 := Tryd.sizeOf3
  v3 := Tryd.zeroValue3
  t4 := Tryd.underlying4
  a4 := Tryd.isAgg4
  z4 := Tryd.sizeOf4
  v4 := Tryd.zeroValue4
  t5 := Tryd.underlying5
  a5 := Tryd.isAgg5
  z5 := Tryd.sizeOf5
  v5 := Tryd.zeroValue5
  t9 := Tryd.underlying9
  a9 := Tryd.isAgg9
  z9 := Tryd.sizeOf9
  v9 := Tryd.zeroValue9
  t21 := Tryd.underlying21
  a21 := Tryd.isAgg21
  z21 := Tryd.sizeOf21
  v21 := Tryd.zeroValue21
  t37 := Tryd.underlying22
  a37 := Tryd.isAgg22
  z37 := Tryd.sizeOf22
  v37 := Tryd.zeroValue22
  t46 := Tryd.underlying35
  a46 := Tryd.isAgg35
  z46 := Tryd.sizeOf35
  v46 := Tryd.zeroValue35
  t53 := Tryd.underlying104
  a53 := Tryd.isAgg104
  z53 := Tryd.sizeOf104
  v53 := Tryd.zeroValue104
  t75 := Tryd.underlying88
  a75 := Tryd.isAgg88
  z75 := Tryd.sizeOf88
  v75 := Tryd.zeroValue88
  t85 := Tryd.underlying97
  a85 := Tryd.isAgg97
  z85 := Tryd.sizeOf97
  v85 := Tryd.zeroValue97
  t167 := Tryd.underlying96
  a167 := Tryd.isAgg96
  z167 := Tryd.sizeOf96
  v167 := Tryd.zeroValue96
  t175 := Tryd.underlying105
  a175 := Tryd.isAgg105
  z175 := Tryd.sizeOf105
  v175 := Tryd.zeroValue105 }
open Go.RowKit in
theorem Tryd.internal_strconv_Atoi (s : ByteArray) (n : Int) (hl : s.size ≤ 18) (h : Lib.atoi s.data.toList = some n) (w : World) :
    Calls Tryd.prog 64 #[.string s] w fun e w' => e = .returned (.tuple #[.int .i64 n, .nilIface]) ∧ ∃ t, w' = Lib.bytesWorld w 5 t := Any.internal_strconv_Atoi Tryd.lays244 s n hl h w
def Tryd.lays172_ren : Go.Shelf.Ren := ⟨fun | 172 => 58 | 244 => 64 | 245 => 65 | 247 => 69 | 279 => 70 | 280 => 71 | 281 => 72 | 282 => 73 | 287 => 76 | 316 => 77 | 171 => 79 | 205 => 78 | 321 => 80 | 322 => 81 | 243 => 82 | 246 => 83 | 283 => 84 | 284 => 85 | 285 => 86 | 286 => 87 | 129 => 89 | 317 => 88 | 318 => 90 | 319 => 91 | 320 => 92 | 337 => 93 | 338 => 94 | n => n, fun | 9 => 9 | 3 => 3 | 75 => 88 | 76 => 89 | 4 => 4 | 5 => 5 | 167 => 96 | 37 => 22 | 0 => 0 | 85 => 97 | 2 => 2 | 168 => 99 | 53 => 104 | 175 => 105 | 46 => 35 | 210 => 108 | 127 => 112 | 145 => 115 | 143 => 113 | 21 => 21 | 171 => 117 | 173 => 120 | 212 => 123 | 51 => 79 | 20 => 20 | 213 => 124 | 232 => 127 | 233 => 128 | 80 => 53 | n => n, fun | 15 => 3 | 16 => 4 | 17 => 5 | 18 => 6 | 19 => 7 | n => n⟩
theorem Tryd.lays172 : Go.Proofs.Lays.n172 Tryd.prog Tryd.lays172_ren := {
  mixed := by kernel_rfl
  f129 := Tryd.func89.trans (congrArg some (by kernel_rfl))
  f171 := Tryd.func79.trans (congrArg some (by kernel_rfl))
  f172 := Tryd.func58.trans (congrArg some (by kernel_rfl))
  f205 := Tryd.func78.trans (congrArg some (by kernel_rfl))
  f243 := Tryd.func82.trans (congrArg some (by kernel_rfl))
  f244 := Tryd.func64.trans (congrArg some (by kernel_rfl))
  f245 := Tryd.func65.trans (congrArg some (by kernel_rfl))
  f246 := Tryd.func83.trans (congrArg some (by kernel_rfl))
  f247 := Tryd.func69.trans (congrArg some (by kernel_rfl))
  f279 := Tryd.func70.trans (congrArg some (by kernel_rfl))
  f280 := Tryd.func71.trans (congrArg some (by kernel_rfl))
  f281 := Tryd.func72.trans (congrArg some (by kernel_rfl))
  f282 := Tryd.func73.trans (congrArg some (by kernel_rfl))
  f283 := Tryd.func84.trans (congrArg some (by kernel_rfl))
  f284 := Tryd.func85.trans (congrArg some (by kernel_rfl))
  f285 := Tryd.func86.trans (congrArg some (by kernel_rfl))
  f286 := Tryd.func87.trans (congrArg some (by kernel_rfl))
  f287 := Tryd.func76.trans (congrArg some (by kernel_rfl))
  f316 := Tryd.func77.trans (congrArg some (by kernel_rfl))
  f317 := Tryd.func88.trans (congrArg some (by kernel_rfl))
  f318 := Tryd.func90.trans (congrArg some (by kernel_rfl))
  f319 := Tryd.func91.trans (congrArg some (by kernel_rfl))
  f320 := Tryd.func92.trans (congrArg some (by kernel_rfl))
  f321 := Tryd.func80.trans (congrArg some (by kernel_rfl))
  f322 := Tryd.func81.trans (congrArg some (by kernel_rfl))
  f337 := Tryd.func93.trans (congrArg some (by kernel_rfl))
  f338 := Tryd.func94.trans (congrArg some (by kernel_rfl))
  t0 := Tryd.underlying0
  a0 := Tryd.isAgg0
  z0 := Tryd.sizeOf0
  v0 := Tryd.zeroValue0
  t2 := Tryd.underlying2
  a2 := Tryd.isAgg2
  z2 := Tryd.sizeOf2
  v2 := Tryd.zeroValue2
  t3 := Tryd.underlying3
  a3 := Tryd.isAgg3
  z3 := Tryd.sizeOf3
  v3 := Tryd.zeroValue3
  t4 := Tryd.underlying4
  a4 := Tryd.isAgg4
  z4 := Tryd.sizeOf4
  v4 := Tryd.zeroValue4
  t5 := Tryd.underlying5
  a5 := Tryd.isAgg5
  z5 := Tryd.sizeOf5
  v5 := Tryd.zeroValue5
  t9 := Tryd.underlying9
  a9 := Tryd.isAgg9
  z9 := Tryd.sizeOf9
  v9 := Tryd.zeroValue9
  t20 := Tryd.underlying20
  a20 := Tryd.isAgg20
  z20 := Tryd.sizeOf20
  v20 := Tryd.zeroValue20
  t21 := Tryd.underlying21
  a21 := Tryd.isAgg21
  z21 := Tryd.sizeOf21
  v21 := Tryd.zeroValue21
  t37 := Tryd.underlying22
  a37 := Tryd.isAgg22
  z37 := Tryd.sizeOf22
  v37 := Tryd.zeroValue22
  t46 := Tryd.underlying35
  a46 := Tryd.isAgg35
  z46 := Tryd.sizeOf35
  v46 := Tryd.zeroValue35
  t51 := Tryd.underlying79
  a51 := Tryd.isAgg79
  z51 := Tryd.sizeOf79
  v51 := Tryd.zeroValue79
  t53 := Tryd.underlying104
  a53 := Tryd.isAgg104
  z53 := Tryd.sizeOf104
  v53 := Tryd.zeroValue104
  t75 := Tryd.underlying88
  a75 := Tryd.isAgg88
  z75 := Tryd.sizeOf88
  v75 := Tryd.zeroValue88
  t76 := Tryd.underlying89
  a76 := Tryd.isAgg89
  z76 := Tryd.sizeOf89
  v76 := Tryd.zeroValue89
  t85 := Tryd.underlying97
  a85 := Tryd.isAgg97
  z85 := Tryd.sizeOf97
  v85 := Tryd.zeroValue97
  t127 := Tryd.underlying112
  a127 := Tryd.isAgg112
  z127 := Tryd.sizeOf112
  v127 := Tryd.zeroValue112
  t143 := Tryd.underlying113
  a143 := Tryd.isAgg113
  z143 := Tryd.sizeOf113
  v143 := Tryd.zeroValue113
  t145 := Tryd.underlying115
  a145 := Tryd.isAgg115
  z145 := Tryd.sizeOf115
  v145 := Tryd.zeroValue115
  t167 := Tryd.underlying96
  a167 := Tryd.isAgg96
  z167 := Tryd.sizeOf96
  v167 := Tryd.zeroValue96
  t168 := Tryd.underlying99
  a168 := Tryd.isAgg99
  z168 := Tryd.sizeOf99
  v168 := Tryd.zeroValue99
  t171 := Tryd.underlying117
  a171 := Tryd.isAgg117
  z171 := Tryd.sizeOf117
  v171 := Tryd.zeroValue117
  t173 := Tryd.underlying120
  a173 := Tryd.isAgg120
  z173 := Tryd.sizeOf120
  v173 := Tryd.zeroValue120
  t175 := Tryd.underlying105
  a175 := Tryd.isAgg105
  z175 := Tryd.sizeOf105
  v175 := Tryd.zeroValue105
  t210 := Tryd.underlying108
  a210 := Tryd.isAgg108
  z210 := Tryd.sizeOf108
  v210 := Tryd.zeroValue108
  t212 := Tryd.underlying123
  a212 := Tryd.isAgg123
  z212 := Tryd.sizeOf123
  v212 := Tryd.zeroValue123
  t213 := Tryd.underlying124
  a213 := Tryd.isAgg124
  z213 := Tryd.sizeOf124
  t232 := Tryd.underlying127
  a232 := Tryd.isAgg127
  z232 := Tryd.sizeOf127
  v232 := Tryd.zeroValue127
  t233 := Tryd.underlying128
  a233 := Tryd.isAgg128
  z233 := Tryd.sizeOf128
  v233 := Tryd.zeroValue128
  g15 := by kernel_rfl
  g16 := by kernel_rfl
  g17 := by kernel_rfl
  g18 := by kernel_rfl
  g19 := by kernel_rfl }
open Go.RowKit in
theorem Tryd.strconv_Atoi (s : ByteArray) (n : Int) (hl : s.size ≤ 18) (h : Lib.atoi s.data.toList = some n) (w : World) :
    Calls Tryd.prog 58 #[.string s] w fun e w' => e = .returned (.tuple #[.int .i64 n, .nilIface]) ∧ ∃ t, w' = Lib.bytesWorld w 5 t := Any.strconv_Atoi Tryd.lays172 s n hl h w
def Tryd.lays129_ren : Go.Shelf.Ren := ⟨fun | 129 => 89 | n => n, fun | 53 => 104 | 3 => 3 | 4 => 4 | 46 => 35 | 5 => 5 | 9 => 9 | n => n, fun | n => n⟩
theorem Tryd.lays129 : Go.Proofs.Lays.n129 Tryd.prog Tryd.lays129_ren := {
  mixed := by kernel_rfl
  f129 := Tryd.func89.trans (congrArg some (by kernel_rfl))
  t3 := Tryd.underlying3
  a3 := Tryd.isAgg3
  z3 := Tryd.sizeOf3
  v3 := Tryd.zeroValue3
  t4 := Tryd.underlying4
  a4 := Tryd.isAgg4
  z4 := Tryd.sizeOf4
  v4 := Tryd.zeroValue4
  t5 := Tryd.underlying5
  a5 := Tryd.isAgg5
  z5 := Tryd.sizeOf5
  v5 := Tryd.zeroValue5
  t9 := Tryd.underlying9
  a9 := Tryd.isAgg9
  z9 := Tryd.sizeOf9
  v9 := Tryd.zeroValue9
  t46 := Tryd.underlying35
  a46 := Tryd.isAgg35
  z46 := Tryd.sizeOf35
  v46 := Tryd.zeroValue35
  t53 := Tryd.underlying104
  a53 := Tryd.isAgg104
  z53 := Tryd.sizeOf104
  v53 := Tryd.zeroValue104 }
theorem Tryd.bits_Len64 (x : Int) (w : World) (h0 : 0 ≤ x) (h1 : x ≤ 18446744073709551615) :
    Calls Tryd.prog 89 #[.int .u64 x] w fun e w' => e = .returned (.int .i64 (Lib.bitLen x.toNat)) ∧ w' = w := Any.bits_Len64 Tryd.lays129 x w h0 h1
def Tryd.lays317_ren : Go.Shelf.Ren := ⟨fun | 317 => 88 | n => n, fun | 3 => 3 | 46 => 35 | n => n, fun | n => n⟩
theorem Tryd.lays317 : Go.Proofs.Lays.n317 Tryd.prog Tryd.lays317_ren := {
  mixed := by kernel_rfl
  f317 := Tryd.func88.trans (congrArg some (by kernel_rfl))
  t3 := Tryd.underlying3
  a3 := Tryd.isAgg3
  z3 := Tryd.sizeOf3
  v3 := Tryd.zeroValue3
  t46 := Tryd.underlying35
  a46 := Tryd.isAgg35
  z46 := Tryd.sizeOf35
  v46 := Tryd.zeroValue35 }
open Go.Lib in
theorem Tryd.internal_strconv_log10Pow2 (x : Nat) (h : x ≤ 64) (w : World) :
    Calls Tryd.prog 88 #[.int .i64 x] w fun e w' => e = .returned (.int .i64 (Lib.l10 x)) ∧ w' = w := Any.internal_strconv_log10Pow2 Tryd.lays317 x h w
def Tryd.lays318_ren : Go.Shelf.Ren := ⟨fun | 318 => 90 | n => n, fun | 3 => 3 | 4 => 4 | n => n, fun | n => n⟩
theorem Tryd.lays318 : Go.Proofs.Lays.n318 Tryd.prog Tryd.lays318_ren := {
  mixed := by kernel_rfl
  f318 := Tryd.func90.trans (congrArg some (by kernel_rfl))
  t3 := Tryd.underlying3
  a3 := Tryd.isAgg3
  z3 := Tryd.sizeOf3
  v3 := Tryd.zeroValue3
  t4 := Tryd.underlying4
  a4 := Tryd.isAgg4
  z4 := Tryd.sizeOf4
  v4 := Tryd.zeroValue4 }
open Go.Lib in
theorem Tryd.internal_strconv_bool2_int (b : Bool) (w : World) :
    Calls Tryd.prog 90 #[.bool b] w fun e w' => e = .returned (.int .i64 (if b then 1 else 0)) ∧ w' = w := Any.internal_strconv_bool2_int Tryd.lays318 b w
def Tryd.lays283_ren : Go.Shelf.Ren := ⟨fun | 283 => 84 | n => n, fun | 3 => 3 | 9 => 9 | 4 => 4 | n => n, fun | n => n⟩
theorem Tryd.lays283 : Go.Proofs.Lays.n283 Tryd.prog Tryd.lays283_ren := {
  mixed := by kernel_rfl
  f283 := Tryd.func84.trans (congrArg some (by kernel_rfl))
  t3 := Tryd.underlying3
  a3 := Tryd.isAgg3
  z3 := Tryd.sizeOf3
  v3 := Tryd.zeroValue3
  t4 := Tryd.underlying4
  a4 := Tryd.isAgg4
  z4 := Tryd.sizeOf4
  v4 := Tryd.zeroValue4
  t9 := Tryd.underlying9
  a9 := Tryd.isAgg9
  z9 := Tryd.sizeOf9
  v9 := Tryd.zeroValue9 }
open Go.Lib in
theorem Tryd.internal_strconv_small (i : Nat) (h : i < 100) (w : World) :
    Calls Tryd.prog 84 #[.int .i64 i] w fun e w' => e = .returned (.string ⟨(Lib.decDigits i).toArray⟩) ∧ w' = w := Any.internal_strconv_small Tryd.lays283 i h w
def Tryd.laysM284_ren : Go.Shelf.Ren := ⟨fun | 284 => 85 | 129 => 89 | 317 => 88 | 318 => 90 | n => n, fun | 53 => 104 | 3 => 3 | 212 => 123 | 0 => 0 | 4 => 4 | 46 => 35 | 5 => 5 | 9 => 9 | n => n, fun | 17 => 5 | n => n⟩
theorem Tryd.laysM284 : Go.Proofs.LaysM.n284 Tryd.prog Tryd.laysM284_ren := {
  mixed := by kernel_rfl
  f129 := Tryd.func89.trans (congrArg some (by kernel_rfl))
  f284 := Tryd.func85.trans (congrArg some (by kernel_rfl))
  f317 := Tryd.func88.trans (congrArg some (by kernel_rfl))
  f318 := Tryd.func90.trans (congrArg some (by kernel_rfl))
  t0 := Tryd.underlying0
  a0 := Tryd.isAgg0
  z0 := Tryd.sizeOf0
  v0 := Tryd.zeroValue0
  t3 := Tryd.underlying3
  a3 := Tryd.isAgg3
  z3 := Tryd.sizeOf3
  v3 := Tryd.zeroValue3
  t4 := Tryd.underlying4
  a4 := Tryd.isAgg4
  z4 := Tryd.sizeOf4
  v4 := Tryd.zeroValue4
  t5 := Tryd.underlying5
  a5 := Tryd.isAgg5
  z5 := Tryd.sizeOf5
  v5 := Tryd.zeroValue5
  t9 := Tryd.underlying9
  a9 := Tryd.isAgg9
  z9 := Tryd.sizeOf9
  v9 := Tryd.zeroValue9
  t46 := Tryd.underlying35
  a46 := Tryd.isAgg35
  z46 := Tryd.sizeOf35
  v46 := Tryd.zeroValue35
  t53 := Tryd.underlying104
  a53 := Tryd.isAgg104
  z53 := Tryd.sizeOf104
  v53 := Tryd.zeroValue104
  t212 := Tryd.underlying123
  a212 := Tryd.isAgg123
  z212 := Tryd.sizeOf123
  v212 := Tryd.zeroValue123
  g17 := by kernel_rfl
  i0 := by kernel_rfl
  i3 := by kernel_rfl
  i4 := by kernel_rfl
  i5 := by kernel_rfl
  i9 := by kernel_rfl
  i46 := by kernel_rfl
  i53 := by kernel_rfl
  i212 := by kernel_rfl
  m17 := by kernel_rfl }
open Go.Lib in
theorem Tryd.internal_strconv_numDigits (u : Nat) (h1 : 1 ≤ u) (h2 : u < 18446744073709551616) (w : World) (htab : Lib.TabIs Tryd.prog w "internal/strconv.uint64pow10" .u64 Lib.pow10Tab) :
    Calls Tryd.prog 85 #[.int .u64 u] w fun e w' => e = .returned (.int .i64 (Lib.nDigits u)) ∧ w' = w := Any.internal_strconv_numDigits Tryd.laysM284 u h1 h2 w htab
def Tryd.lays285_ren : Go.Shelf.Ren := ⟨fun | 285 => 86 | n => n, fun | 37 => 22 | 53 => 104 | 3 => 3 | 4 => 4 | 51 => 79 | 9 => 9 | 5 => 5 | 0 => 0 | n => n, fun | n => n⟩
theorem Tryd.lays285 : Go.Proofs.Lays.n285 Tryd.prog Tryd.lays285_ren := {
  mixed := by kernel_rfl
  f285 := Tryd.func86.trans (congrArg some (by kernel_rfl))
  t0 := Tryd.underlying0
  a0 := Tryd.isAgg0
  z0 := Tryd.sizeOf0
  v0 := Tryd.zeroValue0
  t3 := Tryd.underlying3
  a3 := Tryd.isAgg3
  z3 := Tryd.sizeOf3
  v3 := Tryd.zeroValue3
  t4 := Tryd.underlying4
  a4 := Tryd.isAgg4
  z4 := Tryd.sizeOf4
  v4 := Tryd.zeroValue4
  t5 := Tryd.underlying5
  a5 := Tryd.isAgg5
  z5 := Tryd.sizeOf5
  v5 := Tryd.zeroValue5
  t9 := Tryd.underlying9
  a9 := Tryd.isAgg9
  z9 := Tryd.sizeOf9
  v9 := Tryd.zeroValue9
  t37 := Tryd.underlying22
  a37 := Tryd.isAgg22
  z37 := Tryd.sizeOf22
  v37 := Tryd.zeroValue22
  t51 := Tryd.underlying79
  a51 := Tryd.isAgg79
  z51 := Tryd.sizeOf79
  v51 := Tryd.zeroValue79
  t53 := Tryd.underlying104
  a53 := Tryd.isAgg104
  z53 := Tryd.sizeOf104
  v53 := Tryd.zeroValue104 }
open Go.RowKit Go.Sort Go.Lib in
theorem Tryd.internal_strconv_formatBase10 (blk off cap : Nat) (u : Nat) (d : Array UInt8) (w : World) (hH : Holds (fun (b : UInt8) => Value.int .u8 (b.toNat : Int)) w blk off d) (hu : u < 10 ^ d.size) (hu64 : u < 18446744073709551616) (hsz : d.size < 4611686018427387904) :
    Calls Tryd.prog 86 #[.slice (some ⟨blk, off, none⟩) d.size cap, .int .u64 u] w fun e w' =>
      e = .returned (.tuple #[]) ∧ ∃ (n v' : Nat) (dk : Array UInt8), w' = (putRow (fun (b : UInt8) => Value.int .u8 (b.toNat : Int)) w blk off dk).drewN n ∧ FmtInv d.size u 0 v' dk := Any.internal_strconv_formatBase10 Tryd.lays285 blk off cap u d w hH hu hu64 hsz
def Tryd.laysM246_ren : Go.Shelf.Ren := ⟨fun | 246 => 83 | 283 => 84 | 284 => 85 | 285 => 86 | 286 => 87 | 129 => 89 | 317 => 88 | 318 => 90 | 319 => 91 | 320 => 92 | 337 => 93 | 338 => 94 | n => n, fun | 2 => 2 | 3 => 3 | 9 => 9 | 4 => 4 | 171 => 117 | 0 => 0 | 53 => 104 | 37 => 22 | 5 => 5 | 173 => 120 | 212 => 123 | 51 => 79 | 20 => 20 | 213 => 124 | 46 => 35 | 232 => 127 | 233 => 128 | n => n, fun | 17 => 5 | 18 => 6 | 19 => 7 | n => n⟩
theorem Tryd.laysM246 : Go.Proofs.LaysM.n246 Tryd.prog Tryd.laysM246_ren := {
  mixed := by kernel_rfl
  f129 := Tryd.func89.trans (congrArg some (by kernel_rfl))
  f246 := Tryd.func83.trans (congrArg some (by kernel_rfl))
  f283 := Tryd.func84.trans (congrArg some (by kernel_rfl))
  f284 := Tryd.func85.trans (congrArg some (by kernel_rfl))
  f285 := Tryd.func86.trans (congrArg some (by kernel_rfl))
  f286 := Tryd.func87.trans (congrArg some (by kernel_rfl))
  f317 := Tryd.func88.trans (congrArg some (by kernel_rfl))
  f318 := Tryd.func90.trans (congrArg some (by kernel_rfl))
  f319 := Tryd.func91.trans (congrArg some (by kernel_rfl))
  f320 := Tryd.func92.trans (congrArg some (by kernel_rfl))
  f337 := Tryd.func93.trans (congrArg some (by kernel_rfl))
  f338 := Tryd.func94.trans (congrArg some (by kernel_rfl))
  t0 := Tryd.underlying0
  a0 := Tryd.isAgg0
  z0 := Tryd.sizeOf0
  v0 := Tryd.zeroValue0
  t2 := Tryd.underlying2
  a2 := Tryd.isAgg2
  z2 := Tryd.sizeOf2
  v2 := Tryd.zeroValue2
  t3 := Tryd.underlying3
  a3 := Tryd.isAgg3
  z3 := Tryd.sizeOf3
  v3 := Tryd.zeroValue3
  t4 := Tryd.underlying4
  a4 := Tryd.isAgg4
  z4 := Tryd.sizeOf4
  v4 := Tryd.zeroValue4
  t5 := Tryd.underlying5
  a5 := Tryd.isAgg5
  z5 := Tryd.sizeOf5
  v5 := Tryd.zeroValue5
  t9 := Tryd.underlying9
  a9 := Tryd.isAgg9
  z9 := Tryd.sizeOf9
  v9 := Tryd.zeroValue9
  t20 := Tryd.underlying20
  a20 := Tryd.isAgg20
  z20 := Tryd.sizeOf20
  v20 := Tryd.zeroValue20
  t37 := Tryd.underlying22
  a37 := Tryd.isAgg22
  z37 := Tryd.sizeOf22
  v37 := Tryd.zeroValue22
  t46 := Tryd.underlying35
  a46 := Tryd.isAgg35
  z46 := Tryd.sizeOf35
  v46 := Tryd.zeroValue35
  t51 := Tryd.underlying79
  a51 := Tryd.isAgg79
  z51 := Tryd.sizeOf79
  v51 := Tryd.zeroValue79
  t53 := Tryd.underlying104
  a53 := Tryd.isAgg104
  z53 := Tryd.sizeOf104
  v53 := Tryd.zeroValue104
  t171 := Tryd.underlying117
  a171 := Tryd.isAgg117
  z171 := Tryd.sizeOf117
  v171 := Tryd.zeroValue117
  t173 := Tryd.underlying120
  a173 := Tryd.isAgg120
  z173 := Tryd.sizeOf120
  v173 := Tryd.zeroValue120
  t212 := Tryd.underlying123
  a212 := Tryd.isAgg123
  z212 := Tryd.sizeOf123
  v212 := Tryd.zeroValue123
  t213 := Tryd.underlying124
  a213 := Tryd.isAgg124
  z213 := Tryd.sizeOf124
  t232 := Tryd.underlying127
  a232 := Tryd.isAgg127
  z232 := Tryd.sizeOf127
  v232 := Tryd.zeroValue127
  t233 := Tryd.underlying128
  a233 := Tryd.isAgg128
  z233 := Tryd.sizeOf128
  v233 := Tryd.zeroValue128
  g17 := by kernel_rfl
  g18 := by kernel_rfl
  g19 := by kernel_rfl
  i0 := by kernel_rfl
  i2 := by kernel_rfl
  i3 := by kernel_rfl
  i4 := by kernel_rfl
  i5 := by kernel_rfl
  i9 := by kernel_rfl
  i20 := by kernel_rfl
  i37 := by kernel_rfl
  i46 := by kernel_rfl
  i51 := by kernel_rfl
  i53 := by kernel_rfl
  i171 := by kernel_rfl
  i173 := by kernel_rfl
  i212 := by kernel_rfl
  i232 := by kernel_rfl
  i233 := by kernel_rfl
  m17 := by kernel_rfl
  m18 := by kernel_rfl
  m19 := by kernel_rfl }
open Go.RowKit Go.Sort Go.Lib in
theorem Tryd.internal_strconv_FormatInt_10 (n : Int) (h0 : -9223372036854775808 ≤ n) (h1 : n ≤ 9223372036854775807) (w : World) (htab : Lib.TabIs Tryd.prog w "internal/strconv.uint64pow10" .u64 Lib.pow10Tab) :
    Calls Tryd.prog 83 #[.int .i64 n, .int .i64 10] w fun e w' => e = .returned (.string ⟨(Lib.itoa n).toArray⟩) ∧ ∃ k os, w' = grow (w.drewN k) os := Any.internal_strconv_FormatInt_10 Tryd.laysM246 n h0 h1 w htab
def Tryd.lays246_ren : Go.Shelf.Ren := ⟨fun | 246 => 83 | 283 => 84 | 284 => 85 | 285 => 86 | 286 => 87 | 129 => 89 | 317 => 88 | 318 => 90 | 319 => 91 | 320 => 92 | 337 => 93 | 338 => 94 | n => n, fun | 2 => 2 | 3 => 3 | 9 => 9 | 4 => 4 | 171 => 117 | 0 => 0 | 53 => 104 | 37 => 22 | 5 => 5 | 173 => 120 | 212 => 123 | 51 => 79 | 20 => 20 | 213 => 124 | 46 => 35 | 232 => 127 | 233 => 128 | n => n, fun | 17 => 5 | 18 => 6 | 19 => 7 | n => n⟩
theorem Tryd.lays246 : Go.Proofs.Lays.n246 Tryd.prog Tryd.lays246_ren := {
  mixed := by kernel_rfl
  f129 := Tryd.func89.trans (congrArg some (by kernel_rfl))
  f246 := Tryd.func83.trans (congrArg some (by kernel_rfl))
  f283 := Tryd.func84.trans (congrArg some (by kernel_rfl))
  f284 := Tryd.func85.trans (congrArg some (by kernel_rfl))
  f285 := Tryd.func86.trans (congrArg some (by kernel_rfl))
  f286 := Tryd.func87.trans (congrArg some (by kernel_rfl))
  f317 := Tryd.func88.trans (congrArg some (by kernel_rfl))
  f318 := Tryd.func90.trans (congrArg some (by kernel_rfl))
  f319 := Tryd.func91.trans (congrArg some (by kernel_rfl))
  f320 := Tryd.func92.trans (congrArg some (by kernel_rfl))
  f337 := Tryd.func93.trans (congrArg some (by kernel_rfl))
  f338 := Tryd.func94.trans (congrArg some (by kernel_rfl))
  t0 := Tryd.underlying0
  a0 := Tryd.isAgg0
  z0 := Tryd.sizeOf0
  v0 := Tryd.zeroValue0
  t2 := Tryd.underlying2
  a2 := Tryd.isAgg2
  z2 := Tryd.sizeOf2
  v2 := Tryd.zeroValue2
  t3 := Tryd.underlying3
  a3 := Tryd.isAgg3
  z3 := Tryd.sizeOf3
  v3 := Tryd.zeroValue3
  t4 := Tryd.underlying4
  a4 := Tryd.isAgg4
  z4 := Tryd.sizeOf4
  v4 := Tryd.zeroValue4
  t5 := Tryd.underlying5
  a5 := Tryd.isAgg5
  z5 := Tryd.sizeOf5
  v5 := Tryd.zeroValue5
  t9 := Tryd.underlying9
  a9 := Tryd.isAgg9
  z9 := Tryd.sizeOf9
  v9 := Tryd.zeroValue9
  t20 := Tryd.underlying20
  a20 := Tryd.isAgg20
  z20 := Tryd.sizeOf20
  v20 := Tryd.zeroValue20
  t37 := Tryd.underlying22
  a37 := Tryd.isAgg22
  z37 := Tryd.sizeOf22
  v37 := Tryd.zeroValue22
  t46 := Tryd.underlying35
  a46 := Tryd.isAgg35
  z46 := Tryd.sizeOf35
  v46 := Tryd.zeroValue35
  t51 := Tryd.underlying79
  a51 := Tryd.isAgg79
  z51 := Tryd.sizeOf79
  v51 := Tryd.zeroValue79
  t53 := Tryd.underlying104
  a53 := Tryd.isAgg104
  z53 := Tryd.sizeOf104
  v53 := Tryd.zeroValue104
  t171 := Tryd.underlying117
  a171 := Tryd.isAgg117
  z171 := Tryd.sizeOf117
  v171 := Tryd.zeroValue117
  t173 := Tryd.underlying120
  a173 := Tryd.isAgg120
  z173 := Tryd.sizeOf120
  v173 := Tryd.zeroValue120
  t212 := Tryd.underlying123
  a212 := Tryd.isAgg123
  z212 := Tryd.sizeOf123
  v212 := Tryd.zeroValue123
  t213 := Tryd.underlying124
  a213 := Tryd.isAgg124
  z213 := Tryd.sizeOf124
  t232 := Tryd.underlying127
  a232 := Tryd.isAgg127
  z232 := Tryd.sizeOf127
  v232 := Tryd.zeroValue127
  t233 := Tryd.underlying128
  a233 := Tryd.isAgg128
  z233 := Tryd.sizeOf128
  v233 := Tryd.zeroValue128
  g17 := by kernel_rfl
  g18 := by kernel_rfl
  g19 := by kernel_rfl }
open Go.RowKit Go.Sort Go.Lib in
theorem Tryd.internal_strconv_FormatInt_10_small (i : Nat) (hi : i < 100) (w : World) :
    Calls Tryd.prog 83 #[.int .i64 i, .int .i64 10] w fun e w' => e = .returned (.string ⟨(Lib.decDigits i).toArray⟩) ∧ w' = w := Any.internal_strconv_FormatInt_10_small Tryd.lays246 i hi w
def Tryd.laysM243_ren : Go.Shelf.Ren := ⟨fun | 243 => 82 | 246 => 83 | 283 => 84 | 284 => 85 | 285 => 86 | 286 => 87 | 129 => 89 | 317 => 88 | 318 => 90 | 319 => 91 | 320 => 92 | 337 => 93 | 338 => 94 | n => n, fun | 3 => 3 | 9 => 9 | 2 => 2 | 4 => 4 | 171 => 117 | 0 => 0 | 53 => 104 | 37 => 22 | 5 => 5 | 173 => 120 | 212 => 123 | 51 => 79 | 20 => 20 | 213 => 124 | 46 => 35 | 232 => 127 | 233 => 128 | n => n, fun | 17 => 5 | 18 => 6 | 19 => 7 | n => n⟩
theorem Tryd.laysM243 : Go.Proofs.LaysM.n243 Tryd.prog Tryd.laysM243_ren := {
  mixed := by kernel_rfl
  f129 := Tryd.func89.trans (congrArg some (by kernel_rfl))
  f243 := Tryd.func82.trans (congrArg some (by kernel_rfl))
  f246 := Tryd.func83.trans (congrArg some (by kernel_rfl))
  f283 := Tryd.func84.trans (congrArg some (by kernel_rfl))
  f284 := Tryd.func85.trans (congrArg some (by kernel_rfl))
  f285 := Tryd.func86.trans (congrArg some (by kernel_rfl))
  f286 := Tryd.func87.trans (congrArg some (by kernel_rfl))
  f317 := Tryd.func88.trans (congrArg some (by kernel_rfl))
  f318 := Tryd.func90.trans (congrArg some (by kernel_rfl))
  f319 := Tryd.func91.trans (congrArg some (by kernel_rfl))
  f320 := Tryd.func92.trans (congrArg some (by kernel_rfl))
  f337 := Tryd.func93.trans (congrArg some (by kernel_rfl))
  f338 := Tryd.func94.trans (congrArg some (by kernel_rfl))
  t0 := Tryd.underlying0
  a0 := Tryd.isAgg0
  z0 := Tryd.sizeOf0
  v0 := Tryd.zeroValue0
  t2 := Tryd.underlying2
  a2 := Tryd.isAgg2
  z2 := Tryd.sizeOf2
  v2 := Tryd.zeroValue2
  t3 := Tryd.underlying3
  a3 := Tryd.isAgg3
  z3 := Tryd.sizeOf3
  v3 := Tryd.zeroValue3
  t4 := Tryd.underlying4
  a4 := Tryd.isAgg4
  z4 := Tryd.sizeOf4
  v4 := Tryd.zeroValue4
  t5 := Tryd.underlying5
  a5 := Tryd.isAgg5
  z5 := Tryd.sizeOf5
  v5 := Tryd.zeroValue5
  t9 := Tryd.underlying9
  a9 := Tryd.isAgg9
  z9 := Tryd.sizeOf9
  v9 := Tryd.zeroValue9
  t20 := Tryd.underlying20
  a20 := Tryd.isAgg20
  z20 := Tryd.sizeOf20
  v20 := Tryd.zeroValue20
  t37 := Tryd.underlying22
  a37 := Tryd.isAgg22
  z37 := Tryd.sizeOf22
  v37 := Tryd.zeroValue22
  t46 := Tryd.underlying35
  a46 := Tryd.isAgg35
  z46 := Tryd.sizeOf35
  v46 := Tryd.zeroValue35
  t51 := Tryd.underlying79
  a51 := Tryd.isAgg79
  z51 := Tryd.sizeOf79
  v51 := Tryd.zeroValue79
  t53 := Tryd.underlying104
  a53 := Tryd.isAgg104
  z53 := Tryd.sizeOf104
  v53 := Tryd.zeroValue104
  t171 := Tryd.underlying117
  a171 := Tryd.isAgg117
  z171 := Tryd.sizeOf117
  v171 := Tryd.zeroValue117
  t173 := Tryd.underlying120
  a173 := Tryd.isAgg120
  z173 := Tryd.sizeOf120
  v173 := Tryd.zeroValue120
  t212 := Tryd.underlying123
  a212 := Tryd.isAgg123
  z212 := Tryd.sizeOf123
  v212 := Tryd.zeroValue123
  t213 := Tryd.underlying124
  a213 := Tryd.isAgg124
  z213 := Tryd.sizeOf124
  t232 := Tryd.underlying127
  a232 := Tryd.isAgg127
  z232 := Tryd.sizeOf127
  v232 := Tryd.zeroValue127
  t233 := Tryd.underlying128
  a233 := Tryd.isAgg128
  z233 := Tryd.sizeOf128
  v233 := Tryd.zeroValue128
  g17 := by kernel_rfl
  g18 := by kernel_rfl
  g19 := by kernel_rfl
  i0 := by kernel_rfl
  i2 := by kernel_rfl
  i3 := by kernel_rfl
  i4 := by kernel_rfl
  i5 := by kernel_rfl
  i9 := by kernel_rfl
  i20 := by kernel_rfl
  i37 := by kernel_rfl
  i46 := by kernel_rfl
  i51 := by kernel_rfl
  i53 := by kernel_rfl
  i171 := by kernel_rfl
  i173 := by kernel_rfl
  i212 := by kernel_rfl
  i232 := by kernel_rfl
  i233 := by kernel_rfl
  m17 := by kernel_rfl
  m18 := by kernel_rfl
  m19 := by kernel_rfl }
open Go.RowKit Go.Sort Go.Lib in
theorem Tryd.internal_strconv_Itoa (n : Int) (h0 : -9223372036854775808 ≤ n) (h1 : n ≤ 9223372036854775807) (w : World) (htab : Lib.TabIs Tryd.prog w "internal/strconv.uint64pow10" .u64 Lib.pow10Tab) :
    Calls Tryd.prog 82 #[.int .i64 n] w fun e w' => e = .returned (.string ⟨(Lib.itoa n).toArray⟩) ∧ ∃ k os, w' = grow (w.drewN k) os := Any.internal_strconv_Itoa Tryd.laysM243 n h0 h1 w htab
def Tryd.lays243_ren : Go.Shelf.Ren := ⟨fun | 243 => 82 | 246 => 83 | 283 => 84 | 284 => 85 | 285 => 86 | 286 => 87 | 129 => 89 | 317 => 88 | 318 => 90 | 319 => 91 | 320 => 92 | 337 => 93 | 338 => 94 | n => n, fun | 3 => 3 | 9 => 9 | 2 => 2 | 4 => 4 | 171 => 117 | 0 => 0 | 53 => 104 | 37 => 22 | 5 => 5 | 173 => 120 | 212 => 123 | 51 => 79 | 20 => 20 | 213 => 124 | 46 => 35 | 232 => 127 | 233 => 128 | n => n, fun | 17 => 5 | 18 => 6 | 19 => 7 | n => n⟩
theorem Tryd.lays243 : Go.Proofs.Lays.n243 Tryd.prog Tryd.lays243_ren := {
  mixed := by kernel_rfl
  f129 := Tryd.func89.trans (congrArg some (by kernel_rfl))
  f243 := Tryd.func82.trans (congrArg some (by kernel_rfl))
  f246 := Tryd.func83.trans (congrArg some (by kernel_rfl))
  f283 := Tryd.func84.trans (congrArg some (by kernel_rfl))
  f284 := Tryd.func85.trans (congrArg some (by kernel_rfl))
  f285 := Tryd.func86.trans (congrArg some (by kernel_rfl))
  f286 := Tryd.func87.trans (congrArg some (by kernel_rfl))
  f317 := Tryd.func88.trans (congrArg some (by kernel_rfl))
  f318 := Tryd.func90.trans (congrArg some (by kernel_rfl))
  f319 := Tryd.func91.trans (congrArg some (by kernel_rfl))
  f320 := Tryd.func92.trans (congrArg some (by kernel_rfl))
  f337 := Tryd.func93.trans (congrArg some (by kernel_rfl))
  f338 := Tryd.func94.trans (congrArg some (by kernel_rfl))
  t0 := Tryd.underlying0
  a0 := Tryd.isAgg0
  z0 := Tryd.sizeOf0
  v0 := Tryd.zeroValue0
  t2 := Tryd.underlying2
  a2 := Tryd.isAgg2
  z2 := Tryd.sizeOf2
  v2 := Tryd.zeroValue2
  t3 := Tryd.underlying3
  a3 := Tryd.isAgg3
  z3 := Tryd.sizeOf3
  v3 := Tryd.zeroValue3
  t4 := Tryd.underlying4
  a4 := Tryd.isAgg4
  z4 := Tryd.sizeOf4
  v4 := Tryd.zeroValue4
  t5 := Tryd.underlying5
  a5 := Tryd.isAgg5
  z5 := Tryd.sizeOf5
  v5 := Tryd.zeroValue5
  t9 := Tryd.underlying9
  a9 := Tryd.isAgg9
  z9 := Tryd.sizeOf9
  v9 := Tryd.zeroValue9
  t20 := Tryd.underlying20
  a20 := Tryd.isAgg20
  z20 := Tryd.sizeOf20
  v20 := Tryd.zeroValue20
  t37 := Tryd.underlying22
  a37 := Tryd.isAgg22
  z37 := Tryd.sizeOf22
  v37 := Tryd.zeroValue22
  t46 := Tryd.underlying35
  a46 := Tryd.isAgg35
  z46 := Tryd.sizeOf35
  v46 := Tryd.zeroValue35
  t51 := Tryd.underlying79
  a51 := Tryd.isAgg79
  z51 := Tryd.sizeOf79
  v51 := Tryd.zeroValue79
  t53 := Tryd.underlying104
  a53 := Tryd.isAgg104
  z53 := Tryd.sizeOf104
  v53 := Tryd.zeroValue104
  t171 := Tryd.underlying117
  a171 := Tryd.isAgg117
  z171 := Tryd.sizeOf117
  v171 := Tryd.zeroValue117
  t173 := Tryd.underlying120
  a173 := Tryd.isAgg120
  z173 := Tryd.sizeOf120
  v173 := Tryd.zeroValue120
  t212 := Tryd.underlying123
  a212 := Tryd.isAgg123
  z212 := Tryd.sizeOf123
  v212 := Tryd.zeroValue123
  t213 := Tryd.underlying124
  a213 := Tryd.isAgg124
  z213 := Tryd.sizeOf124
  t232 := Tryd.underlying127
  a232 := Tryd.isAgg127
  z232 := Tryd.sizeOf127
  v232 := Tryd.zeroValue127
  t233 := Tryd.underlying128
  a233 := Tryd.isAgg128
  z233 := Tryd.sizeOf128
  v233 := Tryd.zeroValue128
  g17 := by kernel_rfl
  g18 := by kernel_rfl
  g19 := by kernel_rfl }
open Go.RowKit Go.Sort Go.Lib in
theorem Tryd.internal_strconv_Itoa_small (i : Nat) (hi : i < 100) (w : World) :
    Calls Tryd.prog 82 #[.int .i64 i] w fun e w' => e = .returned (.string ⟨(Lib.decDigits i).toArray⟩) ∧ w' = w := Any.internal_strconv_Itoa_small Tryd.lays243 i hi w
def Tryd.laysM171_ren : Go.Shelf.Ren := ⟨fun | 171 => 79 | 243 => 82 | 246 => 83 | 283 => 84 | 284 => 85 | 285 => 86 | 286 => 87 | 129 => 89 | 317 => 88 | 318 => 90 | 319 => 91 | 320 => 92 | 337 => 93 | 338 => 94 | n => n, fun | 3 => 3 | 9 => 9 | 2 => 2 | 4 => 4 | 171 => 117 | 0 => 0 | 53 => 104 | 37 => 22 | 5 => 5 | 173 => 120 | 212 => 123 | 51 => 79 | 20 => 20 | 213 => 124 | 46 => 35 | 232 => 127 | 233 => 128 | n => n, fun | 17 => 5 | 18 => 6 | 19 => 7 | n => n⟩
theorem Tryd.laysM171 : Go.Proofs.LaysM.n171 Tryd.prog Tryd.laysM171_ren := {
  mixed := by kernel_rfl
  f129 := Tryd.func89.trans (congrArg some (by kernel_rfl))
  f171 := Tryd.func79.trans (congrArg some (by kernel_rfl))
  f243 := Tryd.func82.trans (congrArg some (by kernel_rfl))
  f246 := Tryd.func83.trans (congrArg some (by kernel_rfl))
  f283 := Tryd.func84.trans (congrArg some (by kernel_rfl))
  f284 := Tryd.func85.trans (congrArg some (by kernel_rfl))
  f285 := Tryd.func86.trans (congrArg some (by kernel_rfl))
  f286 := Tryd.func87.trans (congrArg some (by kernel_rfl))
  f317 := Tryd.func88.trans (congrArg some (by kernel_rfl))
  f318 := Tryd.func90.trans (congrArg some (by kernel_rfl))
  f319 := Tryd.func91.trans (congrArg some (by kernel_rfl))
  f320 := Tryd.func92.trans (congrArg some (by kernel_rfl))
  f337 := Tryd.func93.trans (congrArg some (by kernel_rfl))
  f338 := Tryd.func94.trans (congrArg some (by kernel_rfl))
  t0 := Tryd.underlying0
  a0 := Tryd.isAgg0
  z0 := Tryd.sizeOf0
  v0 := Tryd.zeroValue0
  t2 := Tryd.underlying2
  a2 := Tryd.isAgg2
  z2 := Tryd.sizeOf2
  v2 := Tryd.zeroValue2
  t3 := Tryd.underlying3
  a3 := Tryd.isAgg3
  z3 := Tryd.sizeOf3
  v3 := Tryd.zeroValue3
  t4 := Tryd.underlying4
  a4 := Tryd.isAgg4
  z4 := Tryd.sizeOf4
  v4 := Tryd.zeroValue4
  t5 := Tryd.underlying5
  a5 := Tryd.isAgg5
  z5 := Tryd.sizeOf5
  v5 := Tryd.zeroValue5
  t9 := Tryd.underlying9
  a9 := Tryd.isAgg9
  z9 := Tryd.sizeOf9
  v9 := Tryd.zeroValue9
  t20 := Tryd.underlying20
  a20 := Tryd.isAgg20
  z20 := Tryd.sizeOf20
  v20 := Tryd.zeroValue20
  t37 := Tryd.underlying22
  a37 := Tryd.isAgg22
  z37 := Tryd.sizeOf22
  v37 := Tryd.zeroValue22
  t46 := Tryd.underlying35
  a46 := Tryd.isAgg35
  z46 := Tryd.sizeOf35
  v46 := Tryd.zeroValue35
  t51 := Tryd.underlying79
  a51 := Tryd.isAgg79
  z51 := Tryd.sizeOf79
  v51 := Tryd.zeroValue79
  t53 := Tryd.underlying104
  a53 := Tryd.isAgg104
  z53 := Tryd.sizeOf104
  v53 := Tryd.zeroValue104
  t171 := Tryd.underlying117
  a171 := Tryd.isAgg117
  z171 := Tryd.sizeOf117
  v171 := Tryd.zeroValue117
  t173 := Tryd.underlying120
  a173 := Tryd.isAgg120
  z173 := Tryd.sizeOf120
  v173 := Tryd.zeroValue120
  t212 := Tryd.underlying123
  a212 := Tryd.isAgg123
  z212 := Tryd.sizeOf123
  v212 := Tryd.zeroValue123
  t213 := Tryd.underlying124
  a213 := Tryd.isAgg124
  z213 := Tryd.sizeOf124
  t232 := Tryd.underlying127
  a232 := Tryd.isAgg127
  z232 := Tryd.sizeOf127
  v232 := Tryd.zeroValue127
  t233 := Tryd.underlying128
  a233 := Tryd.isAgg128
  z233 := Tryd.sizeOf128
  v233 := Tryd.zeroValue128
  g17 := by kernel_rfl
  g18 := by kernel_rfl
  g19 := by kernel_rfl
  i0 := by kernel_rfl
  i2 := by kernel_rfl
  i3 := by kernel_rfl
  i4 := by kernel_rfl
  i5 := by kernel_rfl
  i9 := by kernel_rfl
  i20 := by kernel_rfl
  i37 := by kernel_rfl
  i46 := by kernel_rfl
  i51 := by kernel_rfl
  i53 := by kernel_rfl
  i171 := by kernel_rfl
  i173 := by kernel_rfl
  i212 := by kernel_rfl
  i232 := by kernel_rfl
  i233 := by kernel_rfl
  m17 := by kernel_rfl
  m18 := by kernel_rfl
  m19 := by kernel_rfl }
open Go.RowKit Go.Sort Go.Lib in
theorem Tryd.strconv_Itoa (n : Int) (h0 : -9223372036854775808 ≤ n) (h1 : n ≤ 9223372036854775807) (w : World) (htab : Lib.TabIs Tryd.prog w "internal/strconv.uint64pow10" .u64 Lib.pow10Tab) :
    Calls Tryd.prog 79 #[.int .i64 n] w fun e w' => e = .returned (.string ⟨(Lib.itoa n).toArray⟩) ∧ ∃ k os, w' = grow (w.drewN k) os := Any.strconv_Itoa Tryd.laysM171 n h0 h1 w htab
def Tryd.lays171_ren : Go.Shelf.Ren := ⟨fun | 171 => 79 | 243 => 82 | 246 => 83 | 283 => 84 | 284 => 85 | 285 => 86 | 286 => 87 | 129 => 89 | 317 => 88 | 318 => 90 | 319 => 91 | 320 => 92 | 337 => 93 | 338 => 94 | n => n, fun | 3 => 3 | 9 => 9 | 2 => 2 | 4 => 4 | 171 => 117 | 0 => 0 | 53 => 104 | 37 => 22 | 5 => 5 | 173 => 120 | 212 => 123 | 51 => 79 | 20 => 20 | 213 => 124 | 46 => 35 | 232 => 127 | 233 => 128 | n => n, fun | 17 => 5 | 18 => 6 | 19 => 7 | n => n⟩
theorem Tryd.lays171 : Go.Proofs.Lays.n171 Tryd.prog Tryd.lays171_ren := {
  mixed := by kernel_rfl
  f129 := Tryd.func89.trans (congrArg some (by kernel_rfl))
  f171 := Tryd.func79.trans (congrArg some (by kernel_rfl))
  f243 := Tryd.func82.trans (congrArg some (by kernel_rfl))
  f246 := Tryd.func83.trans (congrArg some (by kernel_rfl))
  f283 := Tryd.func84.trans (congrArg some (by kernel_rfl))
  f284 := Tryd.func85.trans (congrArg some (by kernel_rfl))
  f285 := Tryd.func86.trans (congrArg some (by kernel_rfl))
  f286 := Tryd.func87.trans (congrArg some (by kernel_rfl))
  f317 := Tryd.func88.trans (congrArg some (by kernel_rfl))
  f318 := Tryd.func90.trans (congrArg some (by kernel_rfl))
  f319 := Tryd.func91.trans (congrArg some (by kernel_rfl))
  f320 := Tryd.func92.trans (congrArg some (by kernel_rfl))
  f337 := Tryd.func93.trans (congrArg some (by kernel_rfl))
  f338 := Tryd.func94.trans (congrArg some (by kernel_rfl))
  t0 := Tryd.underlying0
  a0 := Tryd.isAgg0
  z0 := Tryd.sizeOf0
  v0 := Tryd.zeroValue0
  t2 := Tryd.underlying2
  a2 := Tryd.isAgg2
  z2 := Tryd.sizeOf2
  v2 := Tryd.zeroValue2
  t3 := Tryd.underlying3
  a3 := Tryd.isAgg3
  z3 := Tryd.sizeOf3
  v3 := Tryd.zeroValue3
  t4 := Tryd.underlying4
  a4 := Tryd.isAgg4
  z4 := Tryd.sizeOf4
  v4 := Tryd.zeroValue4
  t5 := Tryd.underlying5
  a5 := Tryd.isAgg5
  z5 := Tryd.sizeOf5
  v5 := Tryd.zeroValue5
  t9 := Tryd.underlying9
  a9 := Tryd.isAgg9
  z9 := Tryd.sizeOf9
  v9 := Tryd.zeroValue9
  t20 := Tryd.underlying20
  a20 := Tryd.isAgg20
  z20 := Tryd.sizeOf20
  v20 := Tryd.zeroValue20
  t37 := Tryd.underlying22
  a37 := Tryd.isAgg22
  z37 := Tryd.sizeOf22
  v37 := Tryd.zeroValue22
  t46 := Tryd.underlying35
  a46 := Tryd.isAgg35
  z46 := Tryd.sizeOf35
  v46 := Tryd.zeroValue35
  t51 := Tryd.underlying79
  a51 := Tryd.isAgg79
  z51 := Tryd.sizeOf79
  v51 := Tryd.zeroValue79
  t53 := Tryd.underlying104
  a53 := Tryd.isAgg104
  z53 := Tryd.sizeOf104
  v53 := Tryd.zeroValue104
  t171 := Tryd.underlying117
  a171 := Tryd.isAgg117
  z171 := Tryd.sizeOf117
  v171 := Tryd.zeroValue117
  t173 := Tryd.underlying120
  a173 := Tryd.isAgg120
  z173 := Tryd.sizeOf120
  v173 := Tryd.zeroValue120
  t212 := Tryd.underlying123
  a212 := Tryd.isAgg123
  z212 := Tryd.sizeOf123
  v212 := Tryd.zeroValue123
  t213 := Tryd.underlying124
  a213 := Tryd.isAgg124
  z213 := Tryd.sizeOf124
  t232 := Tryd.underlying127
  a232 := Tryd.isAgg127
  z232 := Tryd.sizeOf127
  v232 := Tryd.zeroValue127
  t233 := Tryd.underlying128
  a233 := Tryd.isAgg128
  z233 := Tryd.sizeOf128
  v233 := Tryd.zeroValue128
  g17 := by kernel_rfl
  g18 := by kernel_rfl
  g19 := by kernel_rfl }
open Go.RowKit Go.Sort Go.Lib in
theorem Tryd.strconv_Itoa_small (i : Nat) (hi : i < 100) (w : World) :
    Calls Tryd.prog 79 #[.int .i64 i] w fun e w' => e = .returned (.string ⟨(Lib.decDigits i).toArray⟩) ∧ w' = w := Any.strconv_Itoa_small Tryd.lays171 i hi w
def Tryd.lays217_ren : Go.Shelf.Ren := ⟨fun | 217 => 62 | 266 => 67 | n => n, fun | 9 => 9 | 5 => 5 | 3 => 3 | n => n, fun | n => n⟩
theorem Tryd.lays217 : Go.Proofs.Lays.n217 Tryd.prog Tryd.lays217_ren := {
  mixed := by kernel_rfl
  f217 := Tryd.func62.trans (congrArg some (by kernel_rfl))
  f266 := Tryd.func67.trans (congrArg some (by kernel_rfl))
  t3 := Tryd.underlying3
  a3 := Tryd.isAgg3
  z3 := Tryd.sizeOf3
  v3 := Tryd.zeroValue3
  t5 := Tryd.underlying5
  a5 := Tryd.isAgg5
  z5 := Tryd.sizeOf5
  v5 := Tryd.zeroValue5
  t9 := Tryd.underlying9
  a9 := Tryd.isAgg9
  z9 := Tryd.sizeOf9
  v9 := Tryd.zeroValue9 }
open Go.RowKit Go.Lib in
theorem Tryd.stringslite_IndexByte (s : ByteArray) (c : Int) (w : World) :
    Calls Tryd.prog 62 #[.string s, .int .u8 c] w fun e w' => e = .returned (.int .i64 (Lib.indexByte s.data.toList c.toNat.toUInt8)) ∧ w' = w := Any.stringslite_IndexByte Tryd.lays217 s c w
def Tryd.lays224_ren : Go.Shelf.Ren := ⟨fun | 224 => 52 | n => n, fun | 3 => 3 | n => n, fun | n => n⟩
theorem Tryd.lays224 : Go.Proofs.Lays.n224 Tryd.prog Tryd.lays224_ren := {
  mixed := by kernel_rfl
  f224 := Tryd.func52.trans (congrArg some (by kernel_rfl))
  t3 := Tryd.underlying3
  a3 := Tryd.isAgg3
  z3 := Tryd.sizeOf3
  v3 := Tryd.zeroValue3 }
open Go.RowKit Go.Lib in
theorem Tryd.bytealg_Cutover (n : Int) (h0 : 0 ≤ n) (h1 : n < 4611686018427387904) (w : World) :
    Calls Tryd.prog 52 #[.int .i64 n] w fun e w' => e = .returned (.int .i64 ((n + 16) / 8)) ∧ w' = w := Any.bytealg_Cutover Tryd.lays224 n h0 h1 w
def Tryd.lays314_ren : Go.Shelf.Ren := ⟨fun | 314 => 75 | n => n, fun | 9 => 9 | 51 => 79 | 3 => 3 | 4 => 4 | 5 => 5 | 46 => 35 | n => n, fun | n => n⟩
theorem Tryd.lays314 : Go.Proofs.Lays.n314 Tryd.prog Tryd.lays314_ren := {
  mixed := by kernel_rfl
  f314 := Tryd.func75.trans (congrArg some (by kernel_rfl))
  t3 := Tryd.underlying3
  a3 := Tryd.isAgg3
  z3 := Tryd.sizeOf3
  v3 := Tryd.zeroValue3
  t4 := Tryd.underlying4
  a4 := Tryd.isAgg4
  z4 := Tryd.sizeOf4
  v4 := Tryd.zeroValue4
  t5 := Tryd.underlying5
  a5 := Tryd.isAgg5
  z5 := Tryd.sizeOf5
  v5 := Tryd.zeroValue5
  t9 := Tryd.underlying9
  a9 := Tryd.isAgg9
  z9 := Tryd.sizeOf9
  v9 := Tryd.zeroValue9
  t46 := Tryd.underlying35
  a46 := Tryd.isAgg35
  z46 := Tryd.sizeOf35
  v46 := Tryd.zeroValue35
  t51 := Tryd.underlying79
  a51 := Tryd.isAgg79
  z51 := Tryd.sizeOf79
  v51 := Tryd.zeroValue79 }
open Go.RowKit Go.Lib in
theorem Tryd.bytealg_hashStr (sep : ByteArray) (hs : sep.size < 4294967281) (w : World) :
    Calls Tryd.prog 75 #[.string sep] w fun e w' => e = .returned (.tuple #[.int .u32 (RK.H sep.data.toList % 4294967296), .int .u32 (16777619 ^ sep.size % 4294967296)]) ∧ w' = w := Any.bytealg_hashStr Tryd.lays314 sep hs w
def Tryd.lays267_ren : Go.Shelf.Ren := ⟨fun | 267 => 68 | 314 => 75 | n => n, fun | 9 => 9 | 3 => 3 | 146 => 102 | 51 => 79 | 4 => 4 | 5 => 5 | 46 => 35 | n => n, fun | n => n⟩
theorem Tryd.lays267 : Go.Proofs.Lays.n267 Tryd.prog Tryd.lays267_ren := {
  mixed := by kernel_rfl
  f267 := Tryd.func68.trans (congrArg some (by kernel_rfl))
  f314 := Tryd.func75.trans (congrArg some (by kernel_rfl))
  t3 := Tryd.underlying3
  a3 := Tryd.isAgg3
  z3 := Tryd.sizeOf3
  v3 := Tryd.zeroValue3
  t4 := Tryd.underlying4
  a4 := Tryd.isAgg4
  z4 := Tryd.sizeOf4
  v4 := Tryd.zeroValue4
  t5 := Tryd.underlying5
  a5 := Tryd.isAgg5
  z5 := Tryd.sizeOf5
  v5 := Tryd.zeroValue5
  t9 := Tryd.underlying9
  a9 := Tryd.isAgg9
  z9 := Tryd.sizeOf9
  v9 := Tryd.zeroValue9
  t46 := Tryd.underlying35
  a46 := Tryd.isAgg35
  z46 := Tryd.sizeOf35
  v46 := Tryd.zeroValue35
  t51 := Tryd.underlying79
  a51 := Tryd.isAgg79
  z51 := Tryd.sizeOf79
  v51 := Tryd.zeroValue79
  t146 := Tryd.underlying102
  a146 := Tryd.isAgg102
  z146 := Tryd.sizeOf102
  v146 := Tryd.zeroValue102 }
open Go.RowKit Go.Lib in
theorem Tryd.bytealg_IndexRabinKarp (s sep : ByteArray) (h1 : 1 ≤ sep.size) (h2 : sep.size ≤ s.size) (hs : s.size < 4294967281) (w : World) :
    Calls Tryd.prog 68 #[.string s, .string sep] w fun e w' => e = .returned (.int .i64 (Lib.index s.data.toList sep.data.toList)) ∧ w' = w := Any.bytealg_IndexRabinKarp Tryd.lays267 s sep h1 h2 hs w
def Tryd.lays219_ren : Go.Shelf.Ren := ⟨fun | 219 => 63 | 217 => 62 | 225 => 53 | 224 => 52 | 267 => 68 | 266 => 67 | 314 => 75 | n => n, fun | 9 => 9 | 3 => 3 | 4 => 4 | 5 => 5 | 46 => 35 | 146 => 102 | 51 => 79 | n => n, fun | 1 => 2 | n => n⟩
theorem Tryd.lays219 : Go.Proofs.Lays.n219 Tryd.prog Tryd.lays219_ren := {
  mixed := by kernel_rfl
  f217 := Tryd.func62.trans (congrArg some (by kernel_rfl))
  f219 := Tryd.func63.trans (congrArg some (by kernel_rfl))
  f224 := Tryd.func52.trans (congrArg some (by kernel_rfl))
  f225 := Tryd.func53.trans (congrArg some (by kernel_rfl))
  f266 := Tryd.func67.trans (congrArg some (by kernel_rfl))
  f267 := Tryd.func68.trans (congrArg some (by kernel_rfl))
  f314 := Tryd.func75.trans (congrArg some (by kernel_rfl))
  t3 := Tryd.underlying3
  a3 := Tryd.isAgg3
  z3 := Tryd.sizeOf3
  v3 := Tryd.zeroValue3
  t4 := Tryd.underlying4
  a4 := Tryd.isAgg4
  z4 := Tryd.sizeOf4
  v4 := Tryd.zeroValue4
  t5 := Tryd.underlying5
  a5 := Tryd.isAgg5
  z5 := Tryd.sizeOf5
  v5 := Tryd.zeroValue5
  t9 := Tryd.underlying9
  a9 := Tryd.isAgg9
  z9 := Tryd.sizeOf9
  v9 := Tryd.zeroValue9
  t46 := Tryd.underlying35
  a46 := Tryd.isAgg35
  z46 := Tryd.sizeOf35
  v46 := Tryd.zeroValue35
  t51 := Tryd.underlying79
  a51 := Tryd.isAgg79
  z51 := Tryd.sizeOf79
  v51 := Tryd.zeroValue79
  t146 := Tryd.underlying102
  a146 := Tryd.isAgg102
  z146 := Tryd.sizeOf102
  v146 := Tryd.zeroValue102
  g1 := by kernel_rfl }
open Go.RowKit Go.Lib in
theorem Tryd.stringslite_Index_one (s : ByteArray) (c : UInt8) (w : World) :
    Calls Tryd.prog 63 #[.string s, .string ⟨#[c]⟩] w fun e w' => e = .returned (.int .i64 (Lib.indexByte s.data.toList c)) ∧ w' = w := Any.stringslite_Index_one Tryd.lays219 s c w
open Go.RowKit Go.Lib in
theorem Tryd.stringslite_Index (s sub : ByteArray) (m : Int) (w : World) (hs : s.size < 4294967281) (hm : w.cell? ⟨2, 0, none⟩ = some (.int .i64 m)) :
    Calls Tryd.prog 63 #[.string s, .string sub] w fun e w' => e = .returned (.int .i64 (Lib.index s.data.toList sub.data.toList)) ∧ w' = w := Any.stringslite_Index Tryd.lays219 s sub m w hs hm
def Tryd.lays220_ren : Go.Shelf.Ren := ⟨fun | 220 => 57 | 219 => 63 | 217 => 62 | 225 => 53 | 224 => 52 | 267 => 68 | 266 => 67 | 314 => 75 | n => n, fun | 9 => 9 | 4 => 4 | 3 => 3 | 5 => 5 | 46 => 35 | 146 => 102 | 51 => 79 | n => n, fun | 1 => 2 | n => n⟩
theorem Tryd.lays220 : Go.Proofs.Lays.n220 Tryd.prog Tryd.lays220_ren := {
  mixed := by kernel_rfl
  f217 := Tryd.func62.trans (congrArg some (by kernel_rfl))
  f219 := Tryd.func63.trans (congrArg some (by kernel_rfl))
  f220 := Tryd.func57.trans (congrArg some (by kernel_rfl))
  f224 := Tryd.func52.trans (congrArg some (by kernel_rfl))
  f225 := Tryd.func53.trans (congrArg some (by kernel_rfl))
  f266 := Tryd.func67.trans (congrArg some (by kernel_rfl))
  f267 := Tryd.func68.trans (congrArg some (by kernel_rfl))
  f314 := Tryd.func75.trans (congrArg some (by kernel_rfl))
  t3 := Tryd.underlying3
  a3 := Tryd.isAgg3
  z3 := Tryd.sizeOf3
  v3 := Tryd.zeroValue3
  t4 := Tryd.underlying4
  a4 := Tryd.isAgg4
  z4 := Tryd.sizeOf4
  v4 := Tryd.zeroValue4
  t5 := Tryd.underlying5
  a5 := Tryd.isAgg5
  z5 := Tryd.sizeOf5
  v5 := Tryd.zeroValue5
  t9 := Tryd.underlying9
  a9 := Tryd.isAgg9
  z9 := Tryd.sizeOf9
  v9 := Tryd.zeroValue9
  t46 := Tryd.underlying35
  a46 := Tryd.isAgg35
  z46 := Tryd.sizeOf35
  v46 := Tryd.zeroValue35
  t51 := Tryd.underlying79
  a51 := Tryd.isAgg79
  z51 := Tryd.sizeOf79
  v51 := Tryd.zeroValue79
  t146 := Tryd.underlying102
  a146 := Tryd.isAgg102
  z146 := Tryd.sizeOf102
  v146 := Tryd.zeroValue102
  g1 := by kernel_rfl }
open Go.RowKit Go.Lib in
theorem Tryd.stringslite_Cut (s sep : ByteArray) (m : Int) (w : World) (hs : s.size < 4294967281) (hm : w.cell? ⟨2, 0, none⟩ = some (.int .i64 m)) :
    Calls Tryd.prog 57 #[.string s, .string sep] w fun e w' => e = .returned (.tuple #[.string ⟨(Lib.cut s.data.toList sep.data.toList).1.toArray⟩, .string ⟨(Lib.cut s.data.toList sep.data.toList).2.1.toArray⟩, .bool (Lib.cut s.data.toList sep.data.toList).2.2]) ∧ ∃ n, w' = w.drewN n := Any.stringslite_Cut Tryd.lays220 s sep m w hs hm
def Tryd.lays145_ren : Go.Shelf.Ren := ⟨fun | 145 => 44 | 220 => 57 | 219 => 63 | 217 => 62 | 225 => 53 | 224 => 52 | 267 => 68 | 266 => 67 | 314 => 75 | n => n, fun | 9 => 9 | 4 => 4 | 59 => 71 | 3 => 3 | 5 => 5 | 46 => 35 | 146 => 102 | 51 => 79 | n => n, fun | 1 => 2 | n => n⟩
theorem Tryd.lays145 : Go.Proofs.Lays.n145 Tryd.prog Tryd.lays145_ren := {
  mixed := by kernel_rfl
  f145 := Tryd.func44.trans (congrArg some (by kernel_rfl))
  f217 := Tryd.func62.trans (congrArg some (by kernel_rfl))
  f219 := Tryd.func63.trans (congrArg some (by kernel_rfl))
  f220 := Tryd.func57.trans (congrArg some (by kernel_rfl))
  f224 := Tryd.func52.trans (congrArg some (by kernel_rfl))
  f225 := Tryd.func53.trans (congrArg some (by kernel_rfl))
  f266 := Tryd.func67.trans (congrArg some (by kernel_rfl))
  f267 := Tryd.func68.trans (congrArg some (by kernel_rfl))
  f314 := Tryd.func75.trans (congrArg some (by kernel_rfl))
  t3 := Tryd.underlying3
  a3 := Tryd.isAgg3
  z3 := Tryd.sizeOf3
  v3 := Tryd.zeroValue3
  t4 := Tryd.underlying4
  a4 := Tryd.isAgg4
  z4 := Tryd.sizeOf4
  v4 := Tryd.zeroValue4
  t5 := Tryd.underlying5
  a5 := Tryd.isAgg5
  z5 := Tryd.sizeOf5
  v5 := Tryd.zeroValue5
  t9 := Tryd.underlying9
  a9 := Tryd.isAgg9
  z9 := Tryd.sizeOf9
  v9 := Tryd.zeroValue9
  t46 := Tryd.underlying35
  a46 := Tryd.isAgg35
  z46 := Tryd.sizeOf35
  v46 := Tryd.zeroValue35
  t51 := Tryd.underlying79
  a51 := Tryd.isAgg79
  z51 := Tryd.sizeOf79
  v51 := Tryd.zeroValue79
  t59 := Tryd.underlying71
  a59 := Tryd.isAgg71
  z59 := Tryd.sizeOf71
  v59 := Tryd.zeroValue71
  t146 := Tryd.underlying102
  a146 := Tryd.isAgg102
  z146 := Tryd.sizeOf102
  v146 := Tryd.zeroValue102
  g1 := by kernel_rfl }
open Go.RowKit Go.Lib in
theorem Tryd.strings_Cut (s sep : ByteArray) (m : Int) (w : World) (hs : s.size < 4294967281) (hm : w.cell? ⟨2, 0, none⟩ = some (.int .i64 m)) :
    Calls Tryd.prog 44 #[.string s, .string sep] w fun e w' => e = .returned (.tuple #[.string ⟨(Lib.cut s.data.toList sep.data.toList).1.toArray⟩, .string ⟨(Lib.cut s.data.toList sep.data.toList).2.1.toArray⟩, .bool (Lib.cut s.data.toList sep.data.toList).2.2]) ∧ ∃ n, w' = w.drewN n := Any.strings_Cut Tryd.lays145 s sep m w hs hm
def Tryd.laysM219_ren : Go.Shelf.Ren := ⟨fun | 219 => 63 | 217 => 62 | 225 => 53 | 224 => 52 | 267 => 68 | 266 => 67 | 314 => 75 | n => n, fun | 9 => 9 | 3 => 3 | 4 => 4 | 5 => 5 | 46 => 35 | 146 => 102 | 51 => 79 | n => n, fun | 1 => 2 | n => n⟩
theorem Tryd.laysM219 : Go.Proofs.LaysM.n219 Tryd.prog Tryd.laysM219_ren := {
  mixed := by kernel_rfl
  f217 := Tryd.func62.trans (congrArg some (by kernel_rfl))
  f219 := Tryd.func63.trans (congrArg some (by kernel_rfl))
  f224 := Tryd.func52.trans (congrArg some (by kernel_rfl))
  f225 := Tryd.func53.trans (congrArg some (by kernel_rfl))
  f266 := Tryd.func67.trans (congrArg some (by kernel_rfl))
  f267 := Tryd.func68.trans (congrArg some (by kernel_rfl))
  f314 := Tryd.func75.trans (congrArg some (by kernel_rfl))
  t3 := Tryd.underlying3
  a3 := Tryd.isAgg3
  z3 := Tryd.sizeOf3
  v3 := Tryd.zeroValue3
  t4 := Tryd.underlying4
  a4 := Tryd.isAgg4
  z4 := Tryd.sizeOf4
  v4 := Tryd.zeroValue4
  t5 := Tryd.underlying5
  a5 := Tryd.isAgg5
  z5 := Tryd.sizeOf5
  v5 := Tryd.zeroValue5
  t9 := Tryd.underlying9
  a9 := Tryd.isAgg9
  z9 := Tryd.sizeOf9
  v9 := Tryd.zeroValue9
  t46 := Tryd.underlying35
  a46 := Tryd.isAgg35
  z46 := Tryd.sizeOf35
  v46 := Tryd.zeroValue35
  t51 := Tryd.underlying79
  a51 := Tryd.isAgg79
  z51 := Tryd.sizeOf79
  v51 := Tryd.zeroValue79
  t146 := Tryd.underlying102
  a146 := Tryd.isAgg102
  z146 := Tryd.sizeOf102
  v146 := Tryd.zeroValue102
  g1 := by kernel_rfl
  i3 := by kernel_rfl
  i4 := by kernel_rfl
  i5 := by kernel_rfl
  i9 := by kernel_rfl
  i46 := by kernel_rfl
  i51 := by kernel_rfl
  i146 := by kernel_rfl
  m1 := by kernel_rfl
  s1_3 := fun w h => Go.Proofs.cell_of_shapedOpen_int (zero := #[.int .i64 0]) (t := 3) h (of_decide_eq_true (by kernel_rfl)) (by kernel_rfl) rfl (by kernel_rfl) (by kernel_rfl) Tryd.underlying3 }
open Go.RowKit Go.Lib in
theorem Tryd.stringslite_Index_shaped (s sub : ByteArray) (w : World) (h : w.ShapedOpen Tryd.prog) (hs : s.size < 4294967281) :
    Calls Tryd.prog 63 #[.string s, .string sub] w fun e w' => e = .returned (.int .i64 (Lib.index s.data.toList sub.data.toList)) ∧ w' = w := Any.stringslite_Index_shaped Tryd.laysM219 s sub w h hs
def Tryd.laysM220_ren : Go.Shelf.Ren := ⟨fun | 220 => 57 | 219 => 63 | 217 => 62 | 225 => 53 | 224 => 52 | 267 => 68 | 266 => 67 | 314 => 75 | n => n, fun | 9 => 9 | 4 => 4 | 3 => 3 | 5 => 5 | 46 => 35 | 146 => 102 | 51 => 79 | n => n, fun | 1 => 2 | n => n⟩
theorem Tryd.laysM220 : Go.Proofs.LaysM.n220 Tryd.prog Tryd.laysM220_ren := {
  mixed := by kernel_rfl
  f217 := Tryd.func62.trans (congrArg some (by kernel_rfl))
  f219 := Tryd.func63.trans (congrArg some (by kernel_rfl))
  f220 := Tryd.func57.trans (congrArg some (by kernel_rfl))
  f224 := Tryd.func52.trans (congrArg some (by kernel_rfl))
  f225 := Tryd.func53.trans (congrArg some (by kernel_rfl))
  f266 := Tryd.func67.trans (congrArg some (by kernel_rfl))
  f267 := Tryd.func68.trans (congrArg some (by kernel_rfl))
  f314 := Tryd.func75.trans (congrArg some (by kernel_rfl))
  t3 := Tryd.underlying3
  a3 := Tryd.isAgg3
  z3 := Tryd.sizeOf3
  v3 := Tryd.zeroValue3
  t4 := Tryd.underlying4
  a4 := Tryd.isAgg4
  z4 := Tryd.sizeOf4
  v4 := Tryd.zeroValue4
  t5 := Tryd.underlying5
  a5 := Tryd.isAgg5
  z5 := Tryd.sizeOf5
  v5 := Tryd.zeroValue5
  t9 := Tryd.underlying9
  a9 := Tryd.isAgg9
  z9 := Tryd.sizeOf9
  v9 := Tryd.zeroValue9
  t46 := Tryd.underlying35
  a46 := Tryd.isAgg35
  z46 := Tryd.sizeOf35
  v46 := Tryd.zeroValue35
  t51 := Tryd.underlying79
  a51 := Tryd.isAgg79
  z51 := Tryd.sizeOf79
  v51 := Tryd.zeroValue79
  t146 := Tryd.underlying102
  a146 := Tryd.isAgg102
  z146 := Tryd.sizeOf102
  v146 := Tryd.zeroValue102
  g1 := by kernel_rfl
  i3 := by kernel_rfl
  i4 := by kernel_rfl
  i5 := by kernel_rfl
  i9 := by kernel_rfl
  i46 := by kernel_rfl
  i51 := by kernel_rfl
  i146 := by kernel_rfl
  m1 := by kernel_rfl
  s1_3 := fun w h => Go.Proofs.cell_of_shapedOpen_int (zero := #[.int .i64 0]) (t := 3) h (of_decide_eq_true (by kernel_rfl)) (by kernel_rfl) rfl (by kernel_rfl) (by kernel_rfl) Tryd.underlying3 }
open Go.RowKit Go.Lib in
theorem Tryd.stringslite_Cut_shaped (s sep : ByteArray) (w : World) (h : w.ShapedOpen Tryd.prog) (hs : s.size < 4294967281) :
    Calls Tryd.prog 57 #[.string s, .string sep] w fun e w' => e = .returned (.tuple #[.string ⟨(Lib.cut s.data.toList sep.data.toList).1.toArray⟩, .string ⟨(Lib.cut s.data.toList sep.data.toList).2.1.toArray⟩, .bool (Lib.cut s.data.toList sep.data.toList).2.2]) ∧ ∃ n, w' = w.drewN n := Any.stringslite_Cut_shaped Tryd.laysM220 s sep w h hs
def Tryd.laysM145_ren : Go.Shelf.Ren := ⟨fun | 145 => 44 | 220 => 57 | 219 => 63 | 217 => 62 | 225 => 53 | 224 => 52 | 267 => 68 | 266 => 67 | 314 => 75 | n => n, fun | 9 => 9 | 4 => 4 | 59 => 71 | 3 => 3 | 5 => 5 | 46 => 35 | 146 => 102 | 51 => 79 | n => n, fun | 1 => 2 | n => n⟩
theorem Tryd.laysM145 : Go.Proofs.LaysM.n145 Tryd.prog Tryd.laysM145_ren := {
  mixed := by kernel_rfl
  f145 := Tryd.func44.trans (congrArg some (by kernel_rfl))
  f217 := Tryd.func62.trans (congrArg some (by kernel_rfl))
  f219 := Tryd.func63.trans (congrArg some (by kernel_rfl))
  f220 := Tryd.func57.trans (congrArg some (by kernel_rfl))
  f224 := Tryd.func52.trans (congrArg some (by kernel_rfl))
  f225 := Tryd.func53.trans (congrArg some (by kernel_rfl))
  f266 := Tryd.func67.trans (congrArg some (by kernel_rfl))
  f267 := Tryd.func68.trans (congrArg some (by kernel_rfl))
  f314 := Tryd.func75.trans (congrArg some (by kernel_rfl))
  t3 := Tryd.underlying3
  a3 := Tryd.isAgg3
  z3 := Tryd.sizeOf3
  v3 := Tryd.zeroValue3
  t4 := Tryd.underlying4
  a4 := Tryd.isAgg4
  z4 := Tryd.sizeOf4
  v4 := Tryd.zeroValue4
  t5 := Tryd.underlying5
  a5 := Tryd.isAgg5
  z5 := Tryd.sizeOf5
  v5 := Tryd.zeroValue5
  t9 := Tryd.underlying9
  a9 := Tryd.isAgg9
  z9 := Tryd.sizeOf9
  v9 := Tryd.zeroValue9
  t46 := Tryd.underlying35
  a46 := Tryd.isAgg35
  z46 := Tryd.sizeOf35
  v46 := Tryd.zeroValue35
  t51 := Tryd.underlying79
  a51 := Tryd.isAgg79
  z51 := Tryd.sizeOf79
  v51 := Tryd.zeroValue79
  t59 := Tryd.underlying71
  a59 := Tryd.isAgg71
  z59 := Tryd.sizeOf71
  v59 := Tryd.zeroValue71
  t146 := Tryd.underlying102
  a146 := Tryd.isAgg102
  z146 := Tryd.sizeOf102
  v146 := Tryd.zeroValue102
  g1 := by kernel_rfl
  i3 := by kernel_rfl
  i4 := by kernel_rfl
  i5 := by kernel_rfl
  i9 := by kernel_rfl
  i46 := by kernel_rfl
  i51 := by kernel_rfl
  i59 := by kernel_rfl
  i146 := by kernel_rfl
  m1 := by kernel_rfl
  s1_3 := fun w h => Go.Proofs.cell_of_shapedOpen_int (zero := #[.int .i64 0]) (t := 3) h (of_decide_eq_true (by kernel_rfl)) (by kernel_rfl) rfl (by kernel_rfl) (by kernel_rfl) Tryd.underlying3 }
open Go.RowKit Go.Lib in
theorem Tryd.strings_Cut_shaped (s sep : ByteArray) (w : World) (h : w.ShapedOpen Tryd.prog) (hs : s.size < 4294967281) :
    Calls Tryd.prog 44 #[.string s, .string sep] w fun e w' => e = .returned (.tuple #[.string ⟨(Lib.cut s.data.toList sep.data.toList).1.toArray⟩, .string ⟨(Lib.cut s.data.toList sep.data.toList).2.1.toArray⟩, .bool (Lib.cut s.data.toList sep.data.toList).2.2]) ∧ ∃ n, w' = w.drewN n := Any.strings_Cut_shaped Tryd.laysM145 s sep w h hs
def Tryd.lays152_ren : Go.Shelf.Ren := ⟨fun | 152 => 40 | 137 => 49 | 119 => 51 | 224 => 52 | 225 => 53 | 217 => 62 | 266 => 67 | n => n, fun | 9 => 9 | 21 => 21 | 3 => 3 | 4 => 4 | 5 => 5 | 0 => 0 | 46 => 35 | n => n, fun | n => n⟩
theorem Tryd.lays152 : Go.Proofs.Lays.n152 Tryd.prog Tryd.lays152_ren := {
  mixed := by kernel_rfl
  f119 := Tryd.func51.trans (congrArg some (by kernel_rfl))
  f137 := Tryd.func49.trans (congrArg some (by kernel_rfl))
  f152 := Tryd.func40.trans (congrArg some (by kernel_rfl))
  f217 := Tryd.func62.trans (congrArg some (by kernel_rfl))
  f224 := Tryd.func52.trans (congrArg some (by kernel_rfl))
  f225 := Tryd.func53.trans (congrArg some (by kernel_rfl))
  f266 := Tryd.func67.trans (congrArg some (by kernel_rfl))
  t0 := Tryd.underlying0
  a0 := Tryd.isAgg0
  z0 := Tryd.sizeOf0
  v0 := Tryd.zeroValue0
  t3 := Tryd.underlying3
  a3 := Tryd.isAgg3
  z3 := Tryd.sizeOf3
  v3 := Tryd.zeroValue3
  t4 := Tryd.underlying4
  a4 := Tryd.isAgg4
  z4 := Tryd.sizeOf4
  v4 := Tryd.zeroValue4
  t5 := Tryd.underlying5
  a5 := Tryd.isAgg5
  z5 := Tryd.sizeOf5
  v5 := Tryd.zeroValue5
  t9 := Tryd.underlying9
  a9 := Tryd.isAgg9
  z9 := Tryd.sizeOf9
  v9 := Tryd.zeroValue9
  t21 := Tryd.underlying21
  a21 := Tryd.isAgg21
  z21 := Tryd.sizeOf21
  v21 := Tryd.zeroValue21
  t46 := Tryd.underlying35
  a46 := Tryd.isAgg35
  z46 := Tryd.sizeOf35
  v46 := Tryd.zeroValue35 }
open Go.RowKit Go.Lib in
theorem Tryd.strings_IndexRune_ascii (s : ByteArray) (r : Int) (w : World) (h0 : 0 ≤ r) (h1 : r < 128) :
    Calls Tryd.prog 40 #[.string s, .int .i32 r] w fun e w' => e = .returned (.int .i64 (Lib.indexByte s.data.toList r.toNat.toUInt8)) ∧ w' = w := Any.strings_IndexRune_ascii Tryd.lays152 s r w h0 h1
def Tryd.lays151_ren : Go.Shelf.Ren := ⟨fun | 151 => 31 | 152 => 40 | 137 => 49 | 119 => 51 | 224 => 52 | 225 => 53 | 217 => 62 | 266 => 67 | n => n, fun | 9 => 9 | 21 => 21 | 4 => 4 | 3 => 3 | 5 => 5 | 0 => 0 | 46 => 35 | n => n, fun | n => n⟩
theorem Tryd.lays151 : Go.Proofs.Lays.n151 Tryd.prog Tryd.lays151_ren := {
  mixed := by kernel_rfl
  f119 := Tryd.func51.trans (congrArg some (by kernel_rfl))
  f137 := Tryd.func49.trans (congrArg some (by kernel_rfl))
  f151 := Tryd.func31.trans (congrArg some (by kernel_rfl))
  f152 := Tryd.func40.trans (congrArg some (by kernel_rfl))
  f217 := Tryd.func62.trans (congrArg some (by kernel_rfl))
  f224 := Tryd.func52.trans (congrArg some (by kernel_rfl))
  f225 := Tryd.func53.trans (congrArg some (by kernel_rfl))
  f266 := Tryd.func67.trans (congrArg some (by kernel_rfl))
  t0 := Tryd.underlying0
  a0 := Tryd.isAgg0
  z0 := Tryd.sizeOf0
  v0 := Tryd.zeroValue0
  t3 := Tryd.underlying3
  a3 := Tryd.isAgg3
  z3 := Tryd.sizeOf3
  v3 := Tryd.zeroValue3
  t4 := Tryd.underlying4
  a4 := Tryd.isAgg4
  z4 := Tryd.sizeOf4
  v4 := Tryd.zeroValue4
  t5 := Tryd.underlying5
  a5 := Tryd.isAgg5
  z5 := Tryd.sizeOf5
  v5 := Tryd.zeroValue5
  t9 := Tryd.underlying9
  a9 := Tryd.isAgg9
  z9 := Tryd.sizeOf9
  v9 := Tryd.zeroValue9
  t21 := Tryd.underlying21
  a21 := Tryd.isAgg21
  z21 := Tryd.sizeOf21
  v21 := Tryd.zeroValue21
  t46 := Tryd.underlying35
  a46 := Tryd.isAgg35
  z46 := Tryd.sizeOf35
  v46 := Tryd.zeroValue35 }
open Go.RowKit Go.Lib in
theorem Tryd.strings_ContainsRune_ascii (s : ByteArray) (r : Int) (w : World) (h0 : 0 ≤ r) (h1 : r < 128) :
    Calls Tryd.prog 31 #[.string s, .int .i32 r] w fun e w' => e = .returned (.bool (decide (0 ≤ Lib.indexByte s.data.toList r.toNat.toUInt8))) ∧ w' = w := Any.strings_ContainsRune_ascii Tryd.lays151 s r w h0 h1
def Tryd.lays226_ren : Go.Shelf.Ren := ⟨fun | 226 => 54 | n => n, fun | 3 => 3 | 4 => 4 | n => n, fun | n => n⟩
theorem Tryd.lays226 : Go.Proofs.Lays.n226 Tryd.prog Tryd.lays226_ren := {
  mixed := by kernel_rfl
  f226 := Tryd.func54.trans (congrArg some (by kernel_rfl))
  t3 := Tryd.underlying3
  a3 := Tryd.isAgg3
  z3 := Tryd.sizeOf3
  v3 := Tryd.zeroValue3
  t4 := Tryd.underlying4
  a4 := Tryd.isAgg4
  z4 := Tryd.sizeOf4
  v4 := Tryd.zeroValue4 }
open Go.RowKit Go.Lib in
theorem Tryd.strings_shouldUseASCIISet (n : Int) (w : World) :
    Calls Tryd.prog 54 #[.int .i64 n] w fun e w' => e = .returned (.bool (decide (8 < n))) ∧ w' = w := Any.strings_shouldUseASCIISet Tryd.lays226 n w
def Tryd.lays153_ren : Go.Shelf.Ren := ⟨fun | 153 => 43 | 152 => 40 | 226 => 54 | 227 => 55 | 228 => 56 | 137 => 49 | 119 => 51 | 224 => 52 | 225 => 53 | 217 => 62 | 266 => 67 | n => n, fun | 9 => 9 | 3 => 3 | 4 => 4 | 5 => 5 | 21 => 21 | 117 => 84 | 116 => 83 | 0 => 0 | 46 => 35 | 124 => 93 | n => n, fun | n => n⟩
theorem Tryd.lays153 : Go.Proofs.Lays.n153 Tryd.prog Tryd.lays153_ren := {
  mixed := by kernel_rfl
  f119 := Tryd.func51.trans (congrArg some (by kernel_rfl))
  f137 := Tryd.func49.trans (congrArg some (by kernel_rfl))
  f152 := Tryd.func40.trans (congrArg some (by kernel_rfl))
  f153 := Tryd.func43.trans (congrArg some (by kernel_rfl))
  f217 := Tryd.func62.trans (congrArg some (by kernel_rfl))
  f224 := Tryd.func52.trans (congrArg some (by kernel_rfl))
  f225 := Tryd.func53.trans (congrArg some (by kernel_rfl))
  f226 := Tryd.func54.trans (congrArg some (by kernel_rfl))
  f227 := Tryd.func55.trans (congrArg some (by kernel_rfl))
  f228 := Tryd.func56.trans (congrArg some (by kernel_rfl))
  f266 := Tryd.func67.trans (congrArg some (by kernel_rfl))
  t0 := Tryd.underlying0
  a0 := Tryd.isAgg0
  z0 := Tryd.sizeOf0
  v0 := Tryd.zeroValue0
  t3 := Tryd.underlying3
  a3 := Tryd.isAgg3
  z3 := Tryd.sizeOf3
  v3 := Tryd.zeroValue3
  t4 := Tryd.underlying4
  a4 := Tryd.isAgg4
  z4 := Tryd.sizeOf4
  v4 := Tryd.zeroValue4
  t5 := Tryd.underlying5
  a5 := Tryd.isAgg5
  z5 := Tryd.sizeOf5
  v5 := Tryd.zeroValue5
  t9 := Tryd.underlying9
  a9 := Tryd.isAgg9
  z9 := Tryd.sizeOf9
  v9 := Tryd.zeroValue9
  t21 := Tryd.underlying21
  a21 := Tryd.isAgg21
  z21 := Tryd.sizeOf21
  v21 := Tryd.zeroValue21
  t46 := Tryd.underlying35
  a46 := Tryd.isAgg35
  z46 := Tryd.sizeOf35
  v46 := Tryd.zeroValue35
  t116 := Tryd.underlying83
  a116 := Tryd.isAgg83
  z116 := Tryd.sizeOf83
  t117 := Tryd.underlying84
  a117 := Tryd.isAgg84
  z117 := Tryd.sizeOf84
  v117 := Tryd.zeroValue84
  t124 := Tryd.underlying93
  a124 := Tryd.isAgg93
  z124 := Tryd.sizeOf93
  v124 := Tryd.zeroValue93 }
open Go.RowKit Go.Lib in
theorem Tryd.strings_IndexAny_none (s chars : ByteArray) (w : World) (h0 : chars.size = 0) :
    Calls Tryd.prog 43 #[.string s, .string chars] w fun e w' => e = .returned (.int .i64 (Lib.indexAny s.data.toList chars.data.toList)) ∧ w' = w := Any.strings_IndexAny_none Tryd.lays153 s chars w h0
open Go.RowKit Go.Lib in
theorem Tryd.strings_IndexAny_one (s chars : ByteArray) (w : World) (h1 : chars.size = 1) (hascii : ∀ (j : Nat) b, chars.data.toList[j]? = some b → b.toNat < 128) :
    Calls Tryd.prog 43 #[.string s, .string chars] w fun e w' => e = .returned (.int .i64 (Lib.indexAny s.data.toList chars.data.toList)) ∧ w' = w := Any.strings_IndexAny_one Tryd.lays153 s chars w h1 hascii
open Go.RowKit Go.Lib in
theorem Tryd.strings_IndexAny_short (s chars : ByteArray) (w : World) (h2 : 2 ≤ chars.size) (h8 : s.size ≤ 8) (hascii : ∀ (j : Nat) b, s.data.toList[j]? = some b → b.toNat < 128) :
    Calls Tryd.prog 43 #[.string s, .string chars] w fun e w' => e = .returned (.int .i64 (Lib.indexAny s.data.toList chars.data.toList)) ∧ ∃ pos, w' = w.iter s pos := Any.strings_IndexAny_short Tryd.lays153 s chars w h2 h8 hascii
def Tryd.lays227_ren : Go.Shelf.Ren := ⟨fun | 227 => 55 | n => n, fun | 9 => 9 | 116 => 83 | 4 => 4 | 0 => 0 | 3 => 3 | 5 => 5 | n => n, fun | n => n⟩
theorem Tryd.lays227 : Go.Proofs.Lays.n227 Tryd.prog Tryd.lays227_ren := {
  mixed := by kernel_rfl
  f227 := Tryd.func55.trans (congrArg some (by kernel_rfl))
  t0 := Tryd.underlying0
  a0 := Tryd.isAgg0
  z0 := Tryd.sizeOf0
  v0 := Tryd.zeroValue0
  t3 := Tryd.underlying3
  a3 := Tryd.isAgg3
  z3 := Tryd.sizeOf3
  v3 := Tryd.zeroValue3
  t4 := Tryd.underlying4
  a4 := Tryd.isAgg4
  z4 := Tryd.sizeOf4
  v4 := Tryd.zeroValue4
  t5 := Tryd.underlying5
  a5 := Tryd.isAgg5
  z5 := Tryd.sizeOf5
  v5 := Tryd.zeroValue5
  t9 := Tryd.underlying9
  a9 := Tryd.isAgg9
  z9 := Tryd.sizeOf9
  v9 := Tryd.zeroValue9
  t116 := Tryd.underlying83
  a116 := Tryd.isAgg83
  z116 := Tryd.sizeOf83 }
open Go.RowKit Go.Lib in
theorem Tryd.strings_makeASCIISet (hv116 : ∀ w, (zeroValue 83).run Tryd.prog w = .ok (.agg (Array.replicate 256 (.bool false))) w) (chars : ByteArray) (w : World) (hs : chars.size < 4294967281) (hascii : ∀ (j : Nat) b, chars.data.toList[j]? = some b → b.toNat < 128) :
    Calls Tryd.prog 55 #[.string chars] w fun e w' => e = .returned (.tuple #[.agg (Lib.setCells chars.data.toList), .bool true]) ∧ w' = w.alloc (.cells (Lib.setCells chars.data.toList) 83) := Any.strings_makeASCIISet Tryd.lays227 hv116 (by kernel_rfl) chars w hs hascii
def Tryd.lays228_ren : Go.Shelf.Ren := ⟨fun | 228 => 56 | n => n, fun | 124 => 93 | 5 => 5 | 4 => 4 | 0 => 0 | 116 => 83 | n => n, fun | n => n⟩
theorem Tryd.lays228 : Go.Proofs.Lays.n228 Tryd.prog Tryd.lays228_ren := {
  mixed := by kernel_rfl
  f228 := Tryd.func56.trans (congrArg some (by kernel_rfl))
  t0 := Tryd.underlying0
  a0 := Tryd.isAgg0
  z0 := Tryd.sizeOf0
  v0 := Tryd.zeroValue0
  t4 := Tryd.underlying4
  a4 := Tryd.isAgg4
  z4 := Tryd.sizeOf4
  v4 := Tryd.zeroValue4
  t5 := Tryd.underlying5
  a5 := Tryd.isAgg5
  z5 := Tryd.sizeOf5
  v5 := Tryd.zeroValue5
  t116 := Tryd.underlying83
  a116 := Tryd.isAgg83
  z116 := Tryd.sizeOf83
  t124 := Tryd.underlying93
  a124 := Tryd.isAgg93
  z124 := Tryd.sizeOf93
  v124 := Tryd.zeroValue93 }
open Go.RowKit Go.Lib in
theorem Tryd.asciiSet_contains (b : Nat) (x : UInt8) (v : Bool) (w : World) (hc : w.cell? ⟨b, x.toNat, none⟩ = some (.bool v)) :
    Calls Tryd.prog 56 #[.pointer (some ⟨b, 0, none⟩), .int .u8 x.toNat] w fun e w' => e = .returned (.bool v) ∧ w' = w := Any.asciiSet_contains Tryd.lays228 b x v w hc
open Go.RowKit Go.Lib in
theorem Tryd.strings_IndexAny_long (hv116 : ∀ w, (zeroValue 83).run Tryd.prog w = .ok (.agg (Array.replicate 256 (.bool false))) w) (s chars : ByteArray) (w : World) (h2 : 2 ≤ chars.size) (h8 : 8 < s.size) (hs : s.size < 4294967281) (hcs : chars.size < 4294967281) (hascii : ∀ (j : Nat) b, chars.data.toList[j]? = some b → b.toNat < 128) :
    Calls Tryd.prog 43 #[.string s, .string chars] w fun e w' => e = .returned (.int .i64 (Lib.indexAny s.data.toList chars.data.toList)) ∧ w' = ((w.alloc (.cells (Lib.setCells chars.data.toList) 83)).alloc (.cells (Lib.setCells chars.data.toList) 83)) := Any.strings_IndexAny_long Tryd.lays153 hv116 (by kernel_rfl) s chars w h2 h8 hs hcs hascii
open Go.RowKit Go.Lib in
theorem Tryd.strings_IndexAny (hv116 : ∀ w, (zeroValue 83).run Tryd.prog w = .ok (.agg (Array.replicate 256 (.bool false))) w) (s chars : ByteArray) (w : World) (hs : s.size < 4294967281) (hcs : chars.size < 4294967281) (has : ∀ (j : Nat) b, s.data.toList[j]? = some b → b.toNat < 128) (hac : ∀ (j : Nat) b, chars.data.toList[j]? = some b → b.toNat < 128) :
    Calls Tryd.prog 43 #[.string s, .string chars] w fun e w' => e = .returned (.int .i64 (Lib.indexAny s.data.toList chars.data.toList)) ∧ Below w.heap.size w w' := Any.strings_IndexAny Tryd.lays153 hv116 (by kernel_rfl) s chars w hs hcs has hac
open Go.RowKit Go.Lib in
theorem Tryd.strings_IndexAny_laid (s chars : ByteArray) (w : World) (hs : s.size < 4294967281) (hcs : chars.size < 4294967281) (has : ∀ (j : Nat) b, s.data.toList[j]? = some b → b.toNat < 128) (hac : ∀ (j : Nat) b, chars.data.toList[j]? = some b → b.toNat < 128) :
    Calls Tryd.prog 43 #[.string s, .string chars] w fun e w' => e = .returned (.int .i64 (Lib.indexAny s.data.toList chars.data.toList)) ∧ Below w.heap.size w w' := Any.strings_IndexAny_laid Tryd.lays153 (by kernel_rfl) s chars w hs hcs has hac
def Tryd.lays260_ren : Go.Shelf.Ren := ⟨fun | 260 => 74 | n => n, fun | 9 => 9 | 21 => 21 | 3 => 3 | 4 => 4 | 5 => 5 | 119 => 75 | 0 => 0 | 46 => 35 | 139 => 78 | 138 => 77 | n => n, fun | 3 => 0 | 4 => 1 | n => n⟩
theorem Tryd.lays260 : Go.Proofs.Lays.n260 Tryd.prog Tryd.lays260_ren := {
  mixed := by kernel_rfl
  f260 := Tryd.func74.trans (congrArg some (by kernel_rfl))
  t0 := Tryd.underlying0
  a0 := Tryd.isAgg0
  z0 := Tryd.sizeOf0
  v0 := Tryd.zeroValue0
  t3 := Tryd.underlying3
  a3 := Tryd.isAgg3
  z3 := Tryd.sizeOf3
  v3 := Tryd.zeroValue3
  t4 := Tryd.underlying4
  a4 := Tryd.isAgg4
  z4 := Tryd.sizeOf4
  v4 := Tryd.zeroValue4
  t5 := Tryd.underlying5
  a5 := Tryd.isAgg5
  z5 := Tryd.sizeOf5
  v5 := Tryd.zeroValue5
  t9 := Tryd.underlying9
  a9 := Tryd.isAgg9
  z9 := Tryd.sizeOf9
  v9 := Tryd.zeroValue9
  t21 := Tryd.underlying21
  a21 := Tryd.isAgg21
  z21 := Tryd.sizeOf21
  v21 := Tryd.zeroValue21
  t46 := Tryd.underlying35
  a46 := Tryd.isAgg35
  z46 := Tryd.sizeOf35
  v46 := Tryd.zeroValue35
  t119 := Tryd.underlying75
  a119 := Tryd.isAgg75
  z119 := Tryd.sizeOf75
  t138 := Tryd.underlying77
  a138 := Tryd.isAgg77
  z138 := Tryd.sizeOf77
  v138 := Tryd.zeroValue77
  t139 := Tryd.underlying78
  a139 := Tryd.isAgg78
  z139 := Tryd.sizeOf78
  v139 := Tryd.zeroValue78
  g3 := by kernel_rfl
  g4 := by kernel_rfl }
open Go.RowKit Go.Lib in
theorem Tryd.utf8_decodeRuneInStringSlow (s : ByteArray) (w : World) (hT : Lib.Utf8Tabs 0 1 w) :
    Calls Tryd.prog 74 #[.string s] w fun e w' => e = .returned (.tuple #[.int .i32 (Lib.decodeGo s).1, .int .i64 (Lib.decodeGo s).2]) ∧ Below w.heap.size w w' := Any.utf8_decodeRuneInStringSlow Tryd.lays260 s w hT
def Tryd.lays197_ren : Go.Shelf.Ren := ⟨fun | 197 => 66 | 260 => 74 | n => n, fun | 9 => 9 | 21 => 21 | 3 => 3 | 4 => 4 | 5 => 5 | 105 => 49 | 119 => 75 | 0 => 0 | 46 => 35 | 139 => 78 | 138 => 77 | n => n, fun | 3 => 0 | 4 => 1 | n => n⟩
theorem Tryd.lays197 : Go.Proofs.Lays.n197 Tryd.prog Tryd.lays197_ren := {
  mixed := by kernel_rfl
  f197 := Tryd.func66.trans (congrArg some (by kernel_rfl))
  f260 := Tryd.func74.trans (congrArg some (by kernel_rfl))
  t0 := Tryd.underlying0
  a0 := Tryd.isAgg0
  z0 := Tryd.sizeOf0
  v0 := Tryd.zeroValue0
  t3 := Tryd.underlying3
  a3 := Tryd.isAgg3
  z3 := Tryd.sizeOf3
  v3 := Tryd.zeroValue3
  t4 := Tryd.underlying4
  a4 := Tryd.isAgg4
  z4 := Tryd.sizeOf4
  v4 := Tryd.zeroValue4
  t5 := Tryd.underlying5
  a5 := Tryd.isAgg5
  z5 := Tryd.sizeOf5
  v5 := Tryd.zeroValue5
  t9 := Tryd.underlying9
  a9 := Tryd.isAgg9
  z9 := Tryd.sizeOf9
  v9 := Tryd.zeroValue9
  t21 := Tryd.underlying21
  a21 := Tryd.isAgg21
  z21 := Tryd.sizeOf21
  v21 := Tryd.zeroValue21
  t46 := Tryd.underlying35
  a46 := Tryd.isAgg35
  z46 := Tryd.sizeOf35
  v46 := Tryd.zeroValue35
  t105 := Tryd.underlying49
  a105 := Tryd.isAgg49
  z105 := Tryd.sizeOf49
  v105 := Tryd.zeroValue49
  t119 := Tryd.underlying75
  a119 := Tryd.isAgg75
  z119 := Tryd.sizeOf75
  t138 := Tryd.underlying77
  a138 := Tryd.isAgg77
  z138 := Tryd.sizeOf77
  v138 := Tryd.zeroValue77
  t139 := Tryd.underlying78
  a139 := Tryd.isAgg78
  z139 := Tryd.sizeOf78
  v139 := Tryd.zeroValue78
  g3 := by kernel_rfl
  g4 := by kernel_rfl }
open Go.RowKit Go.Lib in
theorem Tryd.utf8_DecodeRuneInString (s : ByteArray) (w : World) (hT : Lib.Utf8Tabs 0 1 w) :
    Calls Tryd.prog 66 #[.string s] w fun e w' => e = .returned (.tuple #[.int .i32 (Lib.decodeGo s).1, .int .i64 (Lib.decodeGo s).2]) ∧ Below w.heap.size w w' := Any.utf8_DecodeRuneInString Tryd.lays197 s w hT
def Tryd.lays7n32_ren : Go.Shelf.Ren := ⟨fun | 32 => 25 | 49 => 35 | n => n, fun | 30 => 22 | 21 => 21 | 3 => 3 | 0 => 0 | 5 => 5 | 4 => 4 | 33 => 49 | 66 => 75 | 25 => 35 | 69 => 78 | 68 => 77 | n => n, fun | 2 => 0 | 3 => 1 | n => n⟩
theorem Tryd.lays7n32 : Go.Proofs.Lays7.n32 Tryd.prog Tryd.lays7n32_ren := {
  mixed := by kernel_rfl
  f32 := Tryd.func25.trans (congrArg some (by kernel_rfl))
  f49 := Tryd.func35.trans (congrArg some (by kernel_rfl))
  t0 := Tryd.underlying0
  a0 := Tryd.isAgg0
  z0 := Tryd.sizeOf0
  v0 := Tryd.zeroValue0
  i0 := by kernel_rfl
  t3 := Tryd.underlying3
  a3 := Tryd.isAgg3
  z3 := Tryd.sizeOf3
  v3 := Tryd.zeroValue3
  i3 := by kernel_rfl
  t4 := Tryd.underlying4
  a4 := Tryd.isAgg4
  z4 := Tryd.sizeOf4
  v4 := Tryd.zeroValue4
  i4 := by kernel_rfl
  t5 := Tryd.underlying5
  a5 := Tryd.isAgg5
  z5 := Tryd.sizeOf5
  v5 := Tryd.zeroValue5
  i5 := by kernel_rfl
  t21 := Tryd.underlying21
  a21 := Tryd.isAgg21
  z21 := Tryd.sizeOf21
  v21 := Tryd.zeroValue21
  i21 := by kernel_rfl
  t25 := Tryd.underlying35
  a25 := Tryd.isAgg35
  z25 := Tryd.sizeOf35
  v25 := Tryd.zeroValue35
  i25 := by kernel_rfl
  t30 := Tryd.underlying22
  a30 := Tryd.isAgg22
  z30 := Tryd.sizeOf22
  v30 := Tryd.zeroValue22
  i30 := by kernel_rfl
  t33 := Tryd.underlying49
  a33 := Tryd.isAgg49
  z33 := Tryd.sizeOf49
  v33 := Tryd.zeroValue49
  i33 := by kernel_rfl
  t66 := Tryd.underlying75
  a66 := Tryd.isAgg75
  z66 := Tryd.sizeOf75
  t68 := Tryd.underlying77
  a68 := Tryd.isAgg77
  z68 := Tryd.sizeOf77
  v68 := Tryd.zeroValue77
  i68 := by kernel_rfl
  t69 := Tryd.underlying78
  a69 := Tryd.isAgg78
  z69 := Tryd.sizeOf78
  v69 := Tryd.zeroValue78
  i69 := by kernel_rfl
  g2 := by kernel_rfl
  g3 := by kernel_rfl }
open Go.RowKit Go.Lib in
theorem Tryd.utf8_DecodeRune (s : ByteArray) (b off cap : Nat) (w : World) (hT : Lib.Utf8Tabs 0 1 w)
    (hp : ∀ j, j < s.size → w.cell? ⟨b, off + j, none⟩ = some (.int .u8 (s.get! j).toNat)) :
    Calls Tryd.prog 25 #[.slice (some ⟨b, off, none⟩) s.size cap] w fun e w' => e = .returned (.tuple #[.int .i32 (Lib.decodeGo s).1, .int .i64 (Lib.decodeGo s).2]) ∧ Below w.heap.size w w' := Any7.utf8_DecodeRune Tryd.lays7n32 s b off cap w hT hp
end Go.Proofs
/- The library's DecodeRune at bytes that runes.next has found to be one character's: it answers that character and their number. Asked of the world: the library's two tables (Lib.Utf8Tabs). -/
set_option linter.unusedVariables false
namespace Go.Proofs.YthkagpefgkpgeaaDoor
open Go.RowKit Rn
theorem ok_of_stop {bs : List UInt8} {lo hi : Nat} : ∀ (f k : Nat), scan bs lo hi f k = k + f → ∀ j, k ≤ j → j < k + f → okAt bs lo hi j = true
  | 0, k, _, j, h1, h2 => by omega
  | f + 1, k, h, j, h1, h2 => by
    cases hk : okAt bs lo hi k with
    | false => simp [scan, hk] at h
    | true =>
      by_cases e : j = k
      · rw [e]; exact hk
      · simp [scan, hk] at h
        exact ok_of_stop f (k + 1) (by omega) j (by omega) (by omega)
theorem okAt_mem {bs : List UInt8} {c k : Nat} (h : okAt bs (bLo c) (bHi c) k = true) : ∃ b, bs[k]? = some b ∧ loAt c k ≤ b.toNat ∧ b.toNat ≤ hiAt c k := by
  cases hb : bs[k]? with
  | none => simp [okAt, hb] at h
  | some b => rw [okAt_some hb] at h; exact ⟨b, rfl, by simpa using h⟩

theorem decode_valid (bs : List UInt8) (m : Nat) (hl : m ≤ bs.length) (hm : m = bN (bs[0]?.getD 0).toNat) (hs : stopP bs = m) (h0 : 0 < m) :
    Lib.decodeGo (bytesOf (bs.take m)) = (val bs m, m) := by
  have hN : m ≤ 4 := by rw [hm]; unfold bN; (repeat' split) <;> omega
  have hs2 : scan bs (bLo (bs[0]?.getD 0).toNat) (bHi (bs[0]?.getD 0).toNat) (m - 1) 1 = 1 + (m - 1) := by
    have h := hs
    unfold stopP at h
    simp only at h
    rw [← hm] at h
    omega
  have hok := ok_of_stop (m - 1) 1 hs2
  have hsz : (bytesOf (bs.take m)).size = m := by rw [bytesOf_size, List.length_take]; omega
  have hg : ∀ j, j < m → (bytesOf (bs.take m)).get! j = bs[j]?.getD 0 := fun j hj => by
    rw [bytesOf_get, List.getElem?_take, if_pos hj]
  unfold Lib.decodeGo
  rw [hsz, if_neg (by omega), Lib.decode_at, hsz]
  have hb0 : (bs[0]?.getD 0).toNat < 256 := UInt8.toNat_lt _
  generalize hc : (bs[0]?.getD 0).toNat = c at *
  have e0 : ((bytesOf (bs.take m)).get! 0).toNat = c := by rw [hg 0 h0, hc]
  obtain rfl | rfl | rfl | rfl : m = 1 ∨ m = 2 ∨ m = 3 ∨ m = 4 := by omega
  · have h1 : c < 128 := by revert hm; unfold bN; (repeat' split) <;> omega
    simp only [Nat.zero_add, e0, Lib.decodeN, if_pos h1, val, if_true, hc]
  · have h1 : 194 ≤ c ∧ c < 224 := by revert hm; unfold bN; (repeat' split) <;> omega
    obtain ⟨b1, g1, l1, u1⟩ := okAt_mem (hok 1 (by omega) (by omega))
    have e1 : ((bytesOf (bs.take 2)).get! (0 + 1)).toNat = b1.toNat := by rw [hg 1 (by omega), g1]; rfl
    have hb : 128 ≤ b1.toNat ∧ b1.toNat ≤ 191 := by
      revert l1 u1; unfold loAt hiAt bLo bHi; (repeat' split) <;> omega
    simp only [e0, e1, val, hc, g1, Option.getD_some, if_neg (show ¬ (2 = 1) from by omega), if_true]
    unfold Lib.decodeN
    rw [if_neg (by omega), if_pos (by omega), if_pos (by omega)]
  · have h1 : 224 ≤ c ∧ c < 240 := by revert hm; unfold bN; (repeat' split) <;> omega
    obtain ⟨b1, g1, l1, u1⟩ := okAt_mem (hok 1 (by omega) (by omega))
    obtain ⟨b2, g2, l2, u2⟩ := okAt_mem (hok 2 (by omega) (by omega))
    have e1 : ((bytesOf (bs.take 3)).get! (0 + 1)).toNat = b1.toNat := by rw [hg 1 (by omega), g1]; rfl
    have e2 : ((bytesOf (bs.take 3)).get! (0 + 2)).toNat = b2.toNat := by rw [hg 2 (by omega), g2]; rfl
    have hb : 128 ≤ b1.toNat ∧ b1.toNat ≤ 191 ∧ (c = 224 → 160 ≤ b1.toNat) ∧ (c = 237 → b1.toNat ≤ 159) := by
      revert l1 u1; unfold loAt hiAt bLo bHi; (repeat' split) <;> omega
    have hb2 : 128 ≤ b2.toNat ∧ b2.toNat ≤ 191 := by
      revert l2 u2; unfold loAt hiAt; (repeat' split) <;> omega
    simp only [e0, e1, e2, val, hc, g1, g2, Option.getD_some, if_neg (show ¬ (3 = 1) from by omega), if_neg (show ¬ (3 = 2) from by omega), if_true]
    unfold Lib.decodeN
    rw [if_neg (by omega), if_neg (by omega), if_pos (by omega), if_pos (by omega)]
  · have h1 : 240 ≤ c ∧ c ≤ 244 := by revert hm; unfold bN; (repeat' split) <;> omega
    obtain ⟨b1, g1, l1, u1⟩ := okAt_mem (hok 1 (by omega) (by omega))
    obtain ⟨b2, g2, l2, u2⟩ := okAt_mem (hok 2 (by omega) (by omega))
    obtain ⟨b3, g3, l3, u3⟩ := okAt_mem (hok 3 (by omega) (by omega))
    have e1 : ((bytesOf (bs.take 4)).get! (0 + 1)).toNat = b1.toNat := by rw [hg 1 (by omega), g1]; rfl
    have e2 : ((bytesOf (bs.take 4)).get! (0 + 2)).toNat = b2.toNat := by rw [hg 2 (by omega), g2]; rfl
    have e3 : ((bytesOf (bs.take 4)).get! (0 + 3)).toNat = b3.toNat := by rw [hg 3 (by omega), g3]; rfl
    have hb : 128 ≤ b1.toNat ∧ b1.toNat ≤ 191 ∧ (c = 240 → 144 ≤ b1.toNat) ∧ (c = 244 → b1.toNat ≤ 143) := by
      revert l1 u1; unfold loAt hiAt bLo bHi; (repeat' split) <;> omega
    have hb2 : 128 ≤ b2.toNat ∧ b2.toNat ≤ 191 := by
      revert l2 u2; unfold loAt hiAt; (repeat' split) <;> omega
    have hb3 : 128 ≤ b3.toNat ∧ b3.toNat ≤ 191 := by
      revert l3 u3; unfold loAt hiAt; (repeat' split) <;> omega
    simp only [e0, e1, e2, e3, val, hc, g1, g2, g3, Option.getD_some, if_neg (show ¬ (4 = 1) from by omega), if_neg (show ¬ (4 = 2) from by omega), if_neg (show ¬ (4 = 3) from by omega)]
    unfold Lib.decodeN
    rw [if_neg (by omega), if_neg (by omega), if_neg (by omega), if_pos (by omega), if_pos (by omega)]

/-- The two tables, as blocks of the variables. -/
abbrev Tabs (w : World) : Prop := Lib.Utf8Tabs 0 1 w
theorem Tabs.lt {w : World} (h : Tabs w) : 0 < w.heap.size ∧ 1 < w.heap.size :=
  ⟨World.block_lt_of_cell? _ _ (h.1 0 (by omega)), World.block_lt_of_cell? _ _ (h.2 0 (by omega)).1⟩
theorem Tabs.below {w w' : World} (h : Tabs w) (hb : Below w.heap.size w w') : Tabs w' :=
  ⟨fun c hc => (hb.cell (p := ⟨_, c, none⟩) h.lt.1).trans (h.1 c hc), fun i hi => ⟨(hb.cell (p := ⟨_, 2 * i, none⟩) h.lt.2).trans (h.2 i hi).1, (hb.cell (p := ⟨_, 2 * i + 1, none⟩) h.lt.2).trans (h.2 i hi).2⟩⟩

theorem rn_next_any (bs : List UInt8) (A : Option Addr) (n cap B : Nat) (w : World) (hr : Reads w B 1 A n (bs.map b8)) (hn : 0 < n) (hm : n ≤ cap) (hcap : cap ≤ maxLen) (hT : Tabs w) :
    Calls Tryd.prog 15 #[.slice A n cap] w fun e w' => e = .returned (.tuple #[.int .i32 (nextC bs), .int .i64 (nextN bs)]) ∧ Below w.heap.size w w' := by
  refine rn_next bs A n cap B w hr hn hm hcap fun m hm1 hm2 hst h0 => ?_
  obtain ⟨b, off, rfl, hb, hcell⟩ := hr.open_ hn
  have hlen : bs.length = n := by simpa using hr.len
  have hsz : (bytesOf (bs.take m)).size = m := by rw [bytesOf_size, List.length_take]; omega
  have hd := decode_valid bs m (by omega) hm1 hst h0
  have h := Tryd.utf8_DecodeRune (bytesOf (bs.take m)) b off cap w hT (fun j hj => by
    rw [hsz] at hj
    rw [bytesOf_get, List.getElem?_take, if_pos hj, hcell j (b8 (bs[j]'(by omega))) (by simp; exact ⟨_, List.getElem?_eq_getElem (by omega), rfl⟩)]
    simp [b8, List.getElem?_eq_getElem (show j < bs.length by omega)])
  rw [hd, hsz] at h
  exact h
end Go.Proofs.YthkagpefgkpgeaaDoor
/- runes.Write and runes.Lower, runes.Hex are walked. -/
set_option linter.unusedVariables false
set_option linter.unusedSimpArgs false
namespace Go.Proofs.YthkagpefgkpgeaaDoor
open Go.RowKit Rn
namespace Rn
/-- the bytes of characters, of what is none those of 0xFFFD -/
def writeP (l : List Int) : List UInt8 := l.flatMap Lib.encodeRune
end Rn
theorem runeCells_b8 (r : Int) : Lib.runeCells r = (Lib.encodeRune r).map b8 := by
  unfold Lib.runeCells Lib.encodeRune
  rw [List.map_map]
  apply List.map_congr_left
  intro x hx
  have := Lib.encodeRuneZ_byte r x hx
  simp only [Function.comp, b8]
  congr 1
  have h2 : x.toNat.toUInt8.toNat = x.toNat := by simp; omega
  rw [h2]; omega
theorem encode_len (r : Int) : 1 ≤ (Lib.encodeRune r).length ∧ (Lib.encodeRune r).length ≤ 4 := by
  unfold Lib.encodeRune Lib.encodeRuneZ
  (repeat' split) <;> simp
theorem encode_bad (c : Int) (h : isB c = false) : Lib.encodeRune c = Lib.encodeRune 65533 := by
  unfold Lib.encodeRune
  rw [Lib.encodeRuneZ_bad (by unfold isB at h; simp at h; omega), Lib.encodeRuneZ_three (by omega)]
  rfl
theorem writeP_len (l : List Int) : (writeP l).length ≤ 4 * l.length := by
  induction l with
  | nil => simp [writeP]
  | cons c l ih =>
    have := (encode_len c).2
    simp only [writeP, List.flatMap_cons, List.length_append, List.length_cons] at ih ⊢
    omega
theorem writeP_snoc (l : List Int) (c : Int) : writeP (l ++ [c]) = writeP l ++ Lib.encodeRune c := by simp [writeP]

set_option maxRecDepth 100000 in
set_option maxHeartbeats 1000000 in
theorem rn_write (l : List Int) (A : Option Addr) (n cap : Nat) (w : World) (hr : Reads w w.heap.size 1 A n (l.map r32)) (hl : ∀ c ∈ l, -2147483648 ≤ c ∧ c ≤ 2147483647) (hn : n ≤ 1000000) :
    Calls Tryd.prog 27 #[.slice A n cap] w fun e w' => ∃ v, e = .returned v ∧ w'.ownsRow w.heap.size 5 1 v (writeP l).length ((writeP l).map b8) ∧ Below w.heap.size w w' := by
  have hlen : l.length = n := by simpa using hr.len
  have Hlen := Lib.hid hlen
  have Hl := Lib.hid hl
  clear hlen hl
  go_enter Tryd.func27, Tryd.ntmps27
  go_wp2
  go_loopw [3, 8] (fun o i wr => ∃ k : Nat, k ≤ n ∧ i = .int .i64 k ∧ wr.ownsRow w.heap.size 5 1 o (writeP (l.take k)).length ((writeP (l.take k)).map b8) ∧ Below w.heap.size w wr) (fun _ i _ => n - (intOf i).toNat)
  case atStart => exact ⟨0, by omega, rfl, World.ownsRow_nil _ _ _ _, Below.refl _ _⟩
  case round =>
    obtain ⟨k, hk, rfl, hown, hb⟩ := hrel
    have hs2 := hb.size
    by_cases hlt : k < n
    · obtain ⟨b, off, u, hA, hbw, hx, hcell0⟩ := hr.at_ hlt
      subst hA
      obtain ⟨c, hc⟩ : ∃ c, l[k]? = some c := ⟨_, List.getElem?_eq_getElem (by rw [Hlen.out]; omega)⟩
      rw [List.getElem?_map, hc] at hx
      obtain rfl : u = r32 c := by simpa using hx.symm
      unfold r32 at hcell0
      have hcell : wr.cell? ⟨b, off + k, none⟩ = some (.int .i32 c) := (hb.cell (p := ⟨b, off + k, none⟩) hbw).trans hcell0
      have hcr := Hl.out c (List.mem_of_getElem? hc)
      have hwl := writeP_len (l.take k)
      rw [List.length_take] at hwl
      have hst : writeP (l.take (k + 1)) = writeP (l.take k) ++ Lib.encodeRune c := by rw [take_snoc l k c hc, writeP_snoc]
      have Hst := Lib.hid hst
      have Hc := Lib.hid hc
      clear hst hc hx hcell0
      by_cases his : isB c = true
      · go_wp2_with (first | (go_at_call 36; refine (rn_is _ _).mono ?_; rintro e w' ⟨rfl, rfl⟩; rw [his]) | (go_at_call 37; refine (Tryd.utf8_AppendRune_plain w.heap.size _ _ _ c hcr.1 hcr.2 _ hown (by omega) hs2).mono ?_; rintro e w2 ⟨v', rfl, hown', o, hg⟩))
        have hbn := push_below hb hs2 hown hg
        rw [runeCells_b8, List.length_map, ← List.map_append, ← List.length_append, ← Hst.out] at hown'
        go_roundw
        case rel => exact ⟨k + 1, by omega, by go_num, hown', hbn⟩
        case measure => simp [intOf]; omega
      · have his' : isB c = false := by simpa using his
        have Hbad := Lib.hid (encode_bad c his')
        go_wp2_with (first | (go_at_call 36; refine (rn_is _ _).mono ?_; rintro e w' ⟨rfl, rfl⟩; rw [his']) | (go_at_call 37; refine (Tryd.utf8_AppendRune_plain w.heap.size _ _ _ 65533 (by omega) (by omega) _ hown (by omega) hs2).mono ?_; rintro e w2 ⟨v', rfl, hown', o, hg⟩))
        have hbn := push_below hb hs2 hown hg
        rw [runeCells_b8, List.length_map, ← List.map_append, ← List.length_append, ← Hbad.out, ← Hst.out] at hown'
        go_roundw
        case rel => exact ⟨k + 1, by omega, by go_num, hown', hbn⟩
        case measure => simp [intOf]; omega
    · obtain rfl : k = n := by omega
      go_wp2
      go_ret
      rw [List.take_of_length_le (by rw [Hlen.out]; omega)] at hown
      exact ⟨_, rfl, hown, hb⟩
end Go.Proofs.YthkagpefgkpgeaaDoor
/- Layer 1: how long the decimal is with which a text begins: the program's sign, digits and Length are walked. -/
set_option linter.unusedVariables false
set_option linter.unusedSimpArgs false
namespace Go.Proofs.YthkagpefgkpgeaaDoor
open Go.RowKit
namespace Fx
def isD (b : UInt8) : Bool := decide (48 ≤ b.toNat ∧ b.toNat ≤ 57)
/-- how many digits a text begins with -/
def digs (l : List UInt8) : Nat := (l.takeWhile isD).length
/-- how many bytes a sign has there -/
def sgn : List UInt8 → Nat
  | [] => 0
  | b :: _ => if b.toNat = 43 ∨ b.toNat = 45 then 1 else 0
def isE (b : Option UInt8) : Bool := match b with
  | some b => decide (b.toNat = 101 ∨ b.toNat = 69)
  | none => false
/-- how many bytes the exponent has, behind its letter -/
def expLen (l : List UInt8) : Nat := if 0 < digs (l.drop (sgn l)) then sgn l + digs (l.drop (sgn l)) else 0
/-- where the digits end, the point and the ones behind it among them -/
def bodyLen (l : List UInt8) : Nat :=
  let a := sgn l + digs (l.drop (sgn l))
  if l[a]? = some 46 ∧ 0 < digs (l.drop (a + 1)) then a + 1 + digs (l.drop (a + 1)) else a
/-- is there a digit at all? -/
def some_ (l : List UInt8) : Bool :=
  let a := sgn l + digs (l.drop (sgn l))
  decide (0 < digs (l.drop (sgn l)) ∨ (l[a]? = some 46 ∧ 0 < digs (l.drop (a + 1))))
def lenP (l : List UInt8) : Nat :=
  if some_ l = false then 0 else
  let a := bodyLen l
  if isE l[a]? = true ∧ 0 < expLen (l.drop (a + 1)) then a + 1 + expLen (l.drop (a + 1)) else a
end Fx
open Fx
theorem digs_le (l : List UInt8) : digs l ≤ l.length := by
  unfold digs
  exact (List.takeWhile_prefix isD).length_le
theorem sgn_le (l : List UInt8) : sgn l ≤ l.length ∧ sgn l ≤ 1 := by
  cases l with
  | nil => simp [sgn]
  | cons b l => simp only [sgn]; split <;> simp
def digitText : ByteArray := ⟨#[48, 49, 50, 51, 52, 53, 54, 55, 56, 57]⟩
theorem digit_in : ∀ b : Fin 256, digitText.data.toList.contains (UInt8.ofNat b.val) = isD (UInt8.ofNat b.val) := by decide +kernel
theorem digit_in' (b : UInt8) : digitText.data.toList.contains b = isD b := by
  have h := digit_in ⟨b.toNat, b.toNat_lt⟩
  have e : UInt8.ofNat b.toNat = b := by simp
  simp only [e] at h
  exact h
theorem trim_digits (l : List UInt8) : Lib.trimLeftS l digitText.data.toList = l.drop (digs l) := by
  unfold Lib.trimLeftS digs
  have : (fun b => digitText.data.toList.contains b) = isD := funext digit_in'
  rw [this]
  induction l with
  | nil => rfl
  | cons b l ih =>
    cases h : isD b with
    | true => simp [List.dropWhile_cons, List.takeWhile_cons, h, ih]
    | false => simp [List.dropWhile_cons, List.takeWhile_cons, h]

set_option maxRecDepth 100000 in
theorem fx_digits (l : List UInt8) (w : World) (hl : l.length ≤ 9223372036854775807) :
    Calls Tryd.prog 42 #[.string (bytesOf l)] w fun e w' => e = .returned (.int .i64 (digs l : Nat)) ∧ Below w.heap.size w w' := by
  have hd := digs_le l
  have hs := bytesOf_size l
  have hs2 := bytesOf_size (l.drop (digs l))
  rw [List.length_drop] at hs2
  have Hs := Lib.hid hs
  have Hs2 := Lib.hid hs2
  clear hs hs2
  go_enter Tryd.func42, Tryd.ntmps42
  go_wp2_with fail
  refine (Any.strings_TrimLeft_laid Tryd.lays161 (by kernel_rfl) (bytesOf l) digitText w (by decide) (ascii_of_all (by decide))).mono ?_
  rintro e w1 ⟨rfl, hb⟩
  rw [bytesOf_list, trim_digits]
  rw [show (⟨(List.drop (digs l) l).toArray⟩ : ByteArray) = bytesOf (l.drop (digs l)) from rfl]
  go_wp2_with fail
  go_ret
  refine ⟨ret_int ?_, hb⟩
  rw [Hs.out, Hs2.out, IntWalk.wrap64_in _ (by omega)]
  omega
set_option maxRecDepth 100000 in
theorem fx_sign (l : List UInt8) (w : World) (hl : l.length ≤ 9223372036854775807) :
    Calls Tryd.prog 41 #[.string (bytesOf l)] w fun e w' => e = .returned (.int .i64 (sgn l : Nat)) ∧ w = w' := by
  cases l with
  | nil =>
    obtain ⟨e1, e2⟩ := str_none
    go_enter Tryd.func41, Tryd.ntmps41
    go_wp2
    go_ret
    exact ⟨rfl, rfl⟩
  | cons b l =>
    have hat := str_at (P := Tryd.prog) (T := 9) Tryd.underlying9 (b :: l) .i64 0 b rfl
    rw [Int.ofNat_zero] at hat
    obtain ⟨e1, e2⟩ := str_some (l := b :: l) (by simp)
    have hv : sgn (b :: l) = if b.toNat = 43 ∨ b.toNat = 45 then 1 else 0 := rfl
    by_cases h1 : b.toNat = 43
    · rw [if_pos (.inl h1)] at hv
      have Hv := Lib.hid hv
      clear hv
      rw [h1] at hat
      go_enter Tryd.func41, Tryd.ntmps41
      go_wp2
      go_ret
      exact ⟨ret_int (by rw [Hv.out]; rfl), rfl⟩
    · by_cases h2 : b.toNat = 45
      · rw [if_pos (.inr h2)] at hv
        have Hv := Lib.hid hv
        clear hv
        rw [h2] at hat
        go_enter Tryd.func41, Tryd.ntmps41
        go_wp2
        go_ret
        exact ⟨ret_int (by rw [Hv.out]; rfl), rfl⟩
      · have hc1 : ((b.toNat : Int) == 43) = false := byte_ne h1
        have hc2 : ((b.toNat : Int) == 45) = false := byte_ne h2
        rw [if_neg (by omega)] at hv
        have Hv := Lib.hid hv
        clear hv
        go_enter Tryd.func41, Tryd.ntmps41
        go_wp2
        go_ret
        exact ⟨ret_int (by rw [Hv.out]; rfl), rfl⟩
end Go.Proofs.YthkagpefgkpgeaaDoor
/- Layer 1: the document's digit and Length are walked. -/
set_option linter.unusedVariables false
set_option linter.unusedSimpArgs false
namespace Go.Proofs.YthkagpefgkpgeaaDoor
open Go.RowKit Fx
namespace Fx
def isDAt (l : List UInt8) (i : Nat) : Bool := match l[i]? with
  | some b => isD b
  | none => false
end Fx
theorem isD_at {l : List UInt8} {i : Nat} (h : isDAt l i = true) : ∃ b, l[i]? = some b ∧ 48 ≤ b.toNat ∧ b.toNat ≤ 57 := by
  unfold isDAt at h
  split at h
  · rename_i b hb; exact ⟨b, hb, by simpa [isD] using h⟩
  · cases h
theorem digs_drop_yes {l : List UInt8} {i : Nat} (h : isDAt l i = true) : digs (l.drop i) = digs (l.drop (i + 1)) + 1 := by
  unfold isDAt at h
  split at h
  · rename_i b hb
    obtain ⟨hi, rfl⟩ := List.getElem?_eq_some_iff.1 hb
    unfold digs
    rw [List.drop_eq_getElem_cons hi, List.takeWhile_cons, if_pos h, List.length_cons]
  · cases h
theorem digs_drop_no {l : List UInt8} {i : Nat} (h : isDAt l i = false) : digs (l.drop i) = 0 := by
  unfold isDAt at h
  split at h
  · rename_i b hb
    obtain ⟨hi, rfl⟩ := List.getElem?_eq_some_iff.1 hb
    unfold digs
    rw [List.drop_eq_getElem_cons hi, List.takeWhile_cons, if_neg (by rw [h]; decide)]; rfl
  · rename_i hb
    rw [List.drop_eq_nil_of_le (List.getElem?_eq_none_iff.1 hb)]; rfl
theorem sgn_cases (l : List UInt8) (j : Nat) : (l.length ≤ j ∧ sgn (l.drop j) = 0) ∨ (∃ b, l[j]? = some b ∧ ((b.toNat = 43 ∧ sgn (l.drop j) = 1) ∨ (b.toNat = 45 ∧ sgn (l.drop j) = 1) ∨ (¬ b.toNat = 43 ∧ ¬ b.toNat = 45 ∧ sgn (l.drop j) = 0))) := by
  by_cases hj : j < l.length
  · refine .inr ⟨l[j], List.getElem?_eq_getElem hj, ?_⟩
    rw [List.drop_eq_getElem_cons hj]
    by_cases h1 : l[j].toNat = 43
    · exact .inl ⟨h1, if_pos (.inl h1)⟩
    · by_cases h2 : l[j].toNat = 45
      · exact .inr (.inl ⟨h2, if_pos (.inr h2)⟩)
      · exact .inr (.inr ⟨h1, h2, if_neg (by omega)⟩)
  · exact .inl ⟨by omega, by rw [List.drop_eq_nil_of_le (by omega)]; rfl⟩
theorem isE_cases (l : List UInt8) (j : Nat) : (l.length ≤ j ∧ isE l[j]? = false) ∨ (∃ b, l[j]? = some b ∧ ((b.toNat = 101 ∧ isE l[j]? = true) ∨ (b.toNat = 69 ∧ isE l[j]? = true) ∨ (¬ b.toNat = 101 ∧ ¬ b.toNat = 69 ∧ isE l[j]? = false))) := by
  cases hb : l[j]? with
  | none => exact .inl ⟨List.getElem?_eq_none_iff.1 hb, rfl⟩
  | some b =>
    refine .inr ⟨b, rfl, ?_⟩
    by_cases h1 : b.toNat = 101
    · exact .inl ⟨h1, by simp [isE, h1]⟩
    · by_cases h2 : b.toNat = 69
      · exact .inr (.inl ⟨h2, by simp [isE, h2]⟩)
      · exact .inr (.inr ⟨h1, h2, by simp [isE, h1, h2]⟩)
theorem dot_cases (l : List UInt8) (j : Nat) : (l.length ≤ j ∧ ¬ l[j]? = some 46) ∨ (∃ b, l[j]? = some b ∧ ((b.toNat = 46 ∧ l[j]? = some 46) ∨ (¬ b.toNat = 46 ∧ ¬ l[j]? = some 46))) := by
  cases hb : l[j]? with
  | none => exact .inl ⟨List.getElem?_eq_none_iff.1 hb, by simp⟩
  | some b =>
    refine .inr ⟨b, rfl, ?_⟩
    by_cases h1 : b.toNat = 46
    · exact .inl ⟨h1, by congr 1; exact UInt8.toNat_inj.1 h1⟩
    · exact .inr ⟨h1, by intro h; injection h with h; subst h; exact h1 rfl⟩
theorem isDAt_digs (l : List UInt8) (j : Nat) : isDAt l j = decide (0 < digs (l.drop j)) := by
  cases h : isDAt l j with
  | true => have := digs_drop_yes h; simp; omega
  | false => have := digs_drop_no h; simp; omega
theorem lenP_none {l : List UInt8} (h : some_ l = false) : lenP l = 0 := by simp [lenP, h]
theorem lenP_tail {l : List UInt8} {A : Nat} (h : some_ l = true) (hA : bodyLen l = A) :
    (isE l[A]? = false → lenP l = A) ∧ (isE l[A]? = true → ∀ k m, sgn (l.drop (A + 1)) = k → digs (l.drop (A + 1 + k)) = m → lenP l = if 0 < m then A + 1 + k + m else A) := by
  subst hA
  constructor
  · intro he; simp [lenP, h, he]
  · rintro he k m rfl rfl
    have hx : expLen (l.drop (bodyLen l + 1)) = if 0 < digs (l.drop (bodyLen l + 1 + sgn (l.drop (bodyLen l + 1)))) then sgn (l.drop (bodyLen l + 1)) + digs (l.drop (bodyLen l + 1 + sgn (l.drop (bodyLen l + 1)))) else 0 := by
      simp only [expLen, List.drop_drop]
    simp only [lenP, h, he, hx]
    rw [if_neg (by simp)]
    by_cases h0 : 0 < digs (l.drop (bodyLen l + 1 + sgn (l.drop (bodyLen l + 1))))
    · rw [if_pos h0, if_pos ⟨trivial, by omega⟩, if_pos h0]; omega
    · rw [if_neg h0, if_neg (by simp), if_neg h0]
theorem bodyLen_le (l : List UInt8) : bodyLen l ≤ l.length := by
  have h1 := sgn_le l
  have h2 := digs_le (l.drop (sgn l))
  rw [List.length_drop] at h2
  unfold bodyLen
  simp only []
  split
  · rename_i h
    have h3 := digs_le (l.drop (sgn l + digs (l.drop (sgn l)) + 1))
    rw [List.length_drop] at h3
    have := (List.getElem?_eq_some_iff.1 h.1).1
    omega
  · omega
end Go.Proofs.YthkagpefgkpgeaaDoor
/- Layer 1: which number a decimal is, and what its loops reckon: plain laws. -/
set_option linter.unusedVariables false
set_option linter.unusedSimpArgs false
namespace Go.Proofs.YthkagpefgkpgeaaDoor
open Go.RowKit Fx
namespace Fx
/-- a digit's number -/
def dv (b : UInt8) : Nat := b.toNat - 48
/-- the number of a row of digits -/
def val (l : List UInt8) : Nat := l.foldl (fun n b => 10 * n + dv b) 0
/-- the number of the first i digits of a row, noughts behind its end -/
def vA (d : List UInt8) : Nat → Nat
  | 0 => 0
  | i + 1 => 10 * vA d i + ((d[i]?).map dv).getD 0
def M : Nat := 1099511627776
def foldN (d : List UInt8) (p : Int) : Nat := min (vA d p.toNat) M
/-- an exponent's number -/
def powP (x : List UInt8) : Int :=
  if x = [] then 0 else
  let n : Nat := if x.length - sgn x ≤ 6 then val (x.drop (sgn x)) else 999999
  if x[0]? = some 45 then -(n : Int) else (n : Int)
/-- the digits ahead of the point, and those behind it -/
def intP (l : List UInt8) : List UInt8 := (l.drop (sgn l)).take (digs (l.drop (sgn l)))
def fracP (l : List UInt8) : List UInt8 :=
  let a := sgn l + digs (l.drop (sgn l))
  if l[a]? = some 46 ∧ 0 < digs (l.drop (a + 1)) then (l.drop (a + 1)).take (digs (l.drop (a + 1))) else []
/-- what stands behind the exponent's letter -/
def expP (l : List UInt8) : List UInt8 := if isE l[bodyLen l]? = true then l.drop (bodyLen l + 1) else []
def isP (l : List UInt8) : Bool := decide (l ≠ [] ∧ lenP l = l.length)
def numP (l : List UInt8) : Nat := foldN (intP l ++ fracP l) ((intP l).length + powP (expP l) + 3)
def parseP (l : List UInt8) : Int := if isP l = true then (if l[0]? = some 45 then -(numP l : Int) else (numP l : Int)) else 0
end Fx
theorem vA_succ (d : List UInt8) (i : Nat) : vA d (i + 1) = 10 * vA d i + ((d[i]?).map dv).getD 0 := rfl
theorem vA_mono (d : List UInt8) {i j : Nat} (h : i ≤ j) : vA d i ≤ vA d j := by
  obtain ⟨k, rfl⟩ := Nat.exists_eq_add_of_le h
  clear h
  induction k with
  | zero => exact Nat.le_refl _
  | succ k ih => rw [← Nat.add_assoc, vA_succ]; omega
theorem vA_past (d : List UInt8) {i : Nat} (h : d.length ≤ i) (k : Nat) : vA d (i + k) = 10 ^ k * vA d i := by
  induction k with
  | zero => simp
  | succ k ih =>
    rw [← Nat.add_assoc, vA_succ, List.getElem?_eq_none (by omega), ih, Nat.pow_succ]
    simp; rw [Nat.mul_comm (10 ^ k) 10, Nat.mul_assoc]
theorem vA_step (d : List UInt8) (i : Nat) : min (10 * min (vA d i) M + ((d[i]?).map dv).getD 0) M = min (vA d (i + 1)) M := by
  rw [vA_succ]; omega
theorem vA_full (d : List UInt8) {i j : Nat} (h : i ≤ j) (hm : M ≤ vA d i) : min (vA d j) M = M := by
  have := vA_mono d h; omega
theorem vA_nought (d : List UInt8) {i j : Nat} (h : i ≤ j) (hd : d.length ≤ i) (hm : vA d i = 0) : vA d j = 0 := by
  obtain ⟨k, rfl⟩ := Nat.exists_eq_add_of_le h
  rw [vA_past d hd, hm, Nat.mul_zero]
theorem vA_far (d : List UInt8) {i : Nat} (h : d.length + 60 ≤ i) (hm : vA d i ≠ 0) : M ≤ vA d i := by
  obtain ⟨k, rfl⟩ := Nat.exists_eq_add_of_le h
  rw [Nat.add_assoc, vA_past d (Nat.le_refl _)] at hm ⊢
  have h0 : 0 < vA d d.length := Nat.pos_of_ne_zero fun h => hm (by rw [h, Nat.mul_zero])
  calc M ≤ 10 ^ 60 := by decide
    _ ≤ 10 ^ (60 + k) := Nat.pow_le_pow_right (by omega) (by omega)
    _ ≤ 10 ^ (60 + k) * vA d d.length := Nat.le_mul_of_pos_right _ h0
theorem vA_lead0 (z t : List UInt8) (hz : ∀ b ∈ z, b = 48) : ∀ j, j ≤ z.length → vA (z ++ t) j = 0
  | 0, _ => rfl
  | j + 1, h => by
    have hj : (z ++ t)[j]? = some z[j] := by rw [List.getElem?_append_left (by omega), List.getElem?_eq_getElem (by omega)]
    rw [vA_succ, vA_lead0 z t hz j (by omega), hj]
    have := hz z[j] (List.getElem_mem _)
    simp [this, dv]
theorem vA_lead (z t : List UInt8) (hz : ∀ b ∈ z, b = 48) : ∀ j, vA (z ++ t) (z.length + j) = vA t j
  | 0 => by rw [Nat.add_zero, vA_lead0 z t hz _ (Nat.le_refl _)]; rfl
  | j + 1 => by
    rw [← Nat.add_assoc, vA_succ, vA_lead z t hz j, vA_succ, List.getElem?_append_right (by omega)]
    congr 4; omega
theorem vA_append_len (d t : List UInt8) (i : Nat) (h : i ≤ d.length) : vA (d ++ t) i = vA d i := by
  induction i with
  | zero => rfl
  | succ i ih => rw [vA_succ, vA_succ, ih (by omega), List.getElem?_append_left (by omega)]
/-- leading noughts do not count -/
theorem foldN_lead (z t : List UInt8) (hz : ∀ b ∈ z, b = 48) (p : Int) : foldN (z ++ t) p = foldN t (p - z.length) := by
  unfold foldN
  by_cases h : p ≤ z.length
  · have h1 : (p - z.length).toNat = 0 := by omega
    rw [h1, vA_lead0 z t hz _ (by omega)]; rfl
  · have h1 : p.toNat = z.length + (p - z.length).toNat := by omega
    rw [h1, vA_lead z t hz]
theorem trim_split (l : List UInt8) : ∃ z, l = z ++ l.dropWhile (· == 48) ∧ (∀ b ∈ z, b = 48) := by
  refine ⟨l.takeWhile (· == 48), (List.takeWhile_append_dropWhile).symm, ?_⟩
  intro b hb
  have := List.all_takeWhile (p := fun b : UInt8 => b == 48) (l := l)
  rw [List.all_eq_true] at this
  simpa using this b hb
theorem foldN_trim (l : List UInt8) (p : Int) : foldN l p = foldN (l.dropWhile (· == 48)) (p - (l.length - (l.dropWhile (· == 48)).length : Nat)) := by
  obtain ⟨z, h1, h2⟩ := trim_split l
  have hl : l.length - (l.dropWhile (· == 48)).length = z.length := by
    have := congrArg List.length h1
    rw [List.length_append] at this; omega
  conv => lhs; rw [h1]
  rw [foldN_lead z _ h2, hl]
theorem val_snoc (l : List UInt8) (b : UInt8) : val (l ++ [b]) = 10 * val l + dv b := by simp [val]
theorem val_vA (l : List UInt8) : ∀ i, i ≤ l.length → vA l i = val (l.take i)
  | 0, _ => by simp [vA, val]
  | i + 1, h => by
    rw [vA_succ, val_vA l i (by omega), List.take_add_one, List.getElem?_eq_getElem (by omega)]
    simp only [Option.map_some, Option.getD_some, Option.toList_some, val_snoc]
end Go.Proofs.YthkagpefgkpgeaaDoor
/- Layer 3: what the scanner reads, as plain functions of what is left of the characters. -/
set_option linter.unusedVariables false
set_option linter.unusedSimpArgs false
namespace Go.Proofs.YthkagpefgkpgeaaDoor
open Go.RowKit Rn
namespace Tk
/-- the character so far on; -1: there is none -/
def pk (r : List Int) (n : Nat) : Int := r[n]?.getD (-1)
/-- an escape? -/
def esc (r : List Int) : Bool := decide (pk r 0 = 92 ∧ 0 ≤ pk r 1 ∧ pk r 1 ≠ 10)
def may (r : List Int) : Bool := beginsB (pk r 0) || esc r
/-- does a name begin here? -/
def beg (r : List Int) : Bool := may r || (decide (pk r 0 = 45) && (may r.tail || decide (pk r 1 = 45)))
/-- so many hex digits at most: their number, and what is left -/
def hexes : Nat → Nat → List Int → Nat × List Int
  | 0, n, r => (n, r)
  | f + 1, n, r => if 0 ≤ hexI (pk r 0) then hexes f (16 * n + (hexI (pk r 0)).toNat) r.tail else (n, r)
def numC' (n : Nat) : Int := if n = 0 ∨ isB n = false then 65533 else n
/-- what is meant behind a backslash, and what is left -/
def meantT (r : List Int) : Int × List Int :=
  if hexI (pk r 0) < 0 then (pk r 0, r.tail) else
  let h := hexes 6 0 r
  (numC' h.1, if whiteB (pk h.2 0) = true then h.2.tail else h.2)
end Tk
open Tk
theorem pk_nil (n : Nat) : pk [] n = -1 := by simp [pk]
theorem pk_cons0 (c : Int) (r : List Int) : pk (c :: r) 0 = c := rfl
theorem pk_cons (c : Int) (r : List Int) (n : Nat) : pk (c :: r) (n + 1) = pk r n := by simp [pk]
theorem pk_tail (r : List Int) (n : Nat) : pk r.tail n = pk r (n + 1) := by cases r <;> simp [pk]
theorem pk_drop (l : List Int) (k n : Nat) : pk (l.drop k) n = pk l (k + n) := by simp [pk, List.getElem?_drop]
theorem hexes_len (f : Nat) : ∀ n r, (hexes f n r).2.length ≤ r.length := by
  induction f with
  | zero => intro n r; simp [hexes]
  | succ f ih =>
    intro n r
    unfold hexes
    split
    · have := ih (16 * n + (hexI (pk r 0)).toNat) r.tail
      rw [List.length_tail] at this; omega
    · exact Nat.le_refl _
theorem meant_len (r : List Int) : (meantT r).2.length ≤ r.length := by
  unfold meantT
  split
  · simp
  · have := hexes_len 6 0 r
    simp only []
    split
    · rw [List.length_tail]; omega
    · exact this
theorem esc_ne {r : List Int} (h : esc r = true) : r ≠ [] := by rintro rfl; simp [esc, pk] at h
theorem within_ne {r : List Int} (h : withinB (pk r 0) = true) : r ≠ [] := by rintro rfl; rw [pk_nil] at h; revert h; decide
theorem white_ne {r : List Int} (h : whiteB (pk r 0) = true) : r ≠ [] := by rintro rfl; rw [pk_nil] at h; revert h; decide
theorem tail_lt {r : List Int} (h : r ≠ []) : r.tail.length < r.length := by
  have := List.length_pos_iff.2 h
  rw [List.length_tail]; omega
theorem meant_lt {r : List Int} (h : r ≠ []) : (meantT r.tail).2.length < r.length := Nat.lt_of_le_of_lt (meant_len _) (tail_lt h)
namespace Tk
/-- a name, and what is left -/
def nameT (r : List Int) : List Int × List Int :=
  if h : esc r = true then ((meantT r.tail).1 :: (nameT (meantT r.tail).2).1, (nameT (meantT r.tail).2).2)
  else if h2 : withinB (pk r 0) = true then (pk r 0 :: (nameT r.tail).1, (nameT r.tail).2)
  else ([], r)
termination_by r.length
decreasing_by
  · exact meant_lt (esc_ne h)
  · exact tail_lt (within_ne h2)
/-- behind a comment's end -/
def skipC : List Int → List Int
  | [] => []
  | c :: r => if c = 42 ∧ pk r 0 = 47 then r.tail else skipC r
end Tk
theorem skipC_len (r : List Int) : (skipC r).length ≤ r.length := by
  induction r with
  | nil => simp [skipC]
  | cons c r ih =>
    unfold skipC
    split
    · rw [List.length_tail, List.length_cons]; omega
    · rw [List.length_cons]; omega
theorem name_len (r : List Int) : (nameT r).2.length ≤ r.length := by
  fun_induction nameT r with
  | case1 r h ih => exact Nat.le_trans ih (Nat.le_of_lt (meant_lt (esc_ne h)))
  | case2 r h h2 ih => exact Nat.le_trans ih (Nat.le_of_lt (tail_lt (within_ne h2)))
  | case3 r => exact Nat.le_refl _
namespace Tk
/-- white space and comments: is there any that is white? and what is left -/
def spacesT (r : List Int) : Bool × List Int :=
  if h : whiteB (pk r 0) = true then (true, (spacesT r.tail).2)
  else if h2 : pk r 0 = 47 ∧ pk r 1 = 42 then spacesT (skipC r.tail.tail)
  else (false, r)
termination_by r.length
decreasing_by
  · exact tail_lt (white_ne h)
  · have hne : r ≠ [] := by rintro rfl; rw [pk_nil] at h2; omega
    refine Nat.lt_of_le_of_lt (skipC_len _) ?_
    have := List.length_pos_iff.2 hne
    rw [List.length_tail, List.length_tail]; omega
/-- a text, behind its quote: its characters, whether it is bad, and what is left -/
def quoteT (e : Int) (r : List Int) : List Int × Bool × List Int :=
  match h0 : r with
  | [] => ([], false, [])
  | c :: t =>
    if c = 10 then ([], true, c :: t)
    else if c = e then ([], false, t)
    else if esc (c :: t) = true then ((meantT t).1 :: (quoteT e (meantT t).2).1, (quoteT e (meantT t).2).2)
    else if c = 92 then quoteT e t.tail
    else (c :: (quoteT e t).1, (quoteT e t).2)
termination_by r.length
decreasing_by
  · have := meant_len t; simp only [List.length_cons]; omega
  · simp only [List.length_cons, List.length_tail]; omega
  · simp
/-- a character of a decimal? -/
def numB (c : Int) : Bool := decide ((48 ≤ c ∧ c ≤ 57) ∨ c = 43 ∨ c = 45 ∨ c = 46 ∨ c = 101 ∨ c = 69)
def byteOf (c : Int) : UInt8 := UInt8.ofNat c.toNat
def numText (r : List Int) : List UInt8 := (r.takeWhile numB).map byteOf
/-- a token -/
structure Tok where
  kind : Nat
  text : List UInt8
  n : Int
deriving DecidableEq
def numberT (r : List Int) : Option (Tok × List Int) :=
  let x := numText r
  let n := Fx.lenP x
  if n = 0 then none else
  let v := Fx.parseP (x.take n)
  let s := r.drop n
  if beg s = true then some (⟨10, writeP (nameT s).1, v⟩, (nameT s).2)
  else if pk s 0 = 37 then some (⟨9, [], v⟩, s.tail)
  else some (⟨8, [], v⟩, s)
/-- a character's kind -/
def signK (c : Int) : Nat :=
  if c = 40 ∨ c = 91 ∨ c = 123 then 12 else if c = 41 ∨ c = 93 ∨ c = 125 then 13 else if c = 58 then 14 else if c = 59 then 15 else if c = 44 then 16 else 11
def signT (c : Int) : Tok := ⟨signK c, if signK c = 11 ∨ signK c = 12 ∨ signK c = 13 then writeP [c] else [], 0⟩
/-- the next token, no white space, and what is left -/
def nextT (r : List Int) : Tok × List Int :=
  let c := pk r 0
  if c = 34 ∨ c = 39 then (⟨if (quoteT c r.tail).2.1 = true then 7 else 6, writeP (quoteT c r.tail).1, 0⟩, (quoteT c r.tail).2.2)
  else if c = 35 ∧ (withinB (pk r 1) || esc r.tail) = true then (⟨5, writeP (nameT r.tail).1, 0⟩, (nameT r.tail).2)
  else match numberT r with
    | some x => x
    | none =>
      if c = 64 ∧ beg r.tail = true then (⟨4, writeP (nameT r.tail).1, 0⟩, (nameT r.tail).2)
      else if beg r = true then
        if pk (nameT r).2 0 = 40 then (⟨3, writeP (nameT r).1, 0⟩, (nameT r).2.tail) else (⟨2, writeP (nameT r).1, 0⟩, (nameT r).2)
      else (signT c, r.tail)
end Tk
theorem spaces_len (r : List Int) : (spacesT r).2.length ≤ r.length := by
  fun_induction spacesT r with
  | case1 r h ih => exact Nat.le_trans ih (Nat.le_of_lt (tail_lt (white_ne h)))
  | case2 r h h2 ih =>
    refine Nat.le_trans ih (Nat.le_trans (skipC_len _) ?_)
    rw [List.length_tail, List.length_tail]; omega
  | case3 r => exact Nat.le_refl _
theorem quoted_len (e : Int) (r : List Int) : (quoteT e r).2.2.length ≤ r.length := by
  fun_induction quoteT e r with
  | case1 => simp
  | case2 => simp
  | case3 t h => simp
  | case4 c t h h2 h3 ih => have := meant_len t; simp only [List.length_cons]; omega
  | case5 t h h2 h3 ih => simp only [List.length_cons, List.length_tail] at *; omega
  | case6 c t h h2 h3 h4 ih => simp only [List.length_cons]; omega
theorem name_some {r : List Int} (h : esc r = true ∨ withinB (pk r 0) = true) : (nameT r).2.length < r.length ∧ (nameT r).1 ≠ [] := by
  rw [nameT]
  split
  · rename_i h1
    refine ⟨Nat.lt_of_le_of_lt (name_len _) (meant_lt (esc_ne h1)), by simp⟩
  · rename_i h1
    have h2 := h.resolve_left h1
    rw [dif_pos h2]
    exact ⟨Nat.lt_of_le_of_lt (name_len _) (tail_lt (within_ne h2)), by simp⟩
theorem begins_within {c : Int} (h : beginsB c = true) : withinB c = true := by unfold withinB; rw [h]; rfl
theorem beg_first {r : List Int} (h : beg r = true) : esc r = true ∨ withinB (pk r 0) = true := by
  unfold beg may at h
  rcases hb : beginsB (pk r 0) with _ | _
  · rcases he : esc r with _ | _
    · rw [hb, he] at h
      simp at h
      right
      rw [h.1]; decide
    · exact .inl rfl
  · exact .inr (begins_within hb)
theorem next_lt {r : List Int} (h : r ≠ []) : (nextT r).2.length < r.length := by
  have ht := tail_lt h
  unfold nextT
  simp only []
  split
  · exact Nat.lt_of_le_of_lt (quoted_len _ _) ht
  · split
    · exact Nat.lt_of_le_of_lt (name_len _) ht
    · split
      · rename_i x hx
        unfold numberT at hx
        simp only [] at hx
        split at hx
        · cases hx
        · rename_i hn
          have hd : (r.drop (Fx.lenP (numText r))).length < r.length := by
            have := List.length_pos_iff.2 h
            rw [List.length_drop]; omega
          split at hx
          · cases hx
            exact Nat.lt_of_le_of_lt (name_len _) hd
          · split at hx
            · cases hx
              simp only [List.length_tail] at *; omega
            · cases hx; exact hd
      · split
        · exact Nat.lt_of_le_of_lt (name_len _) ht
        · split
          · rename_i hb
            have := (name_some (beg_first hb)).1
            split
            · simp only [List.length_tail]; omega
            · exact this
          · exact ht
namespace Tk
/-- all tokens -/
def scanT (r : List Int) : List Tok :=
  if h : (spacesT r).2 = [] then (if (spacesT r).1 = true then [⟨1, [], 0⟩] else [])
  else (if (spacesT r).1 = true then [⟨1, [], 0⟩] else []) ++ (nextT (spacesT r).2).1 :: scanT (nextT (spacesT r).2).2
termination_by r.length
decreasing_by exact Nat.lt_of_lt_of_le (next_lt h) (spaces_len r)
end Tk
end Go.Proofs.YthkagpefgkpgeaaDoor
set_option linter.unusedVariables false
set_option linter.unusedSimpArgs false
namespace Go.Proofs.YthkagpefgkpgeaaDoor
open Go.RowKit Rn
namespace Rn
def low8 (b : UInt8) : UInt8 := if 65 ≤ b.toNat ∧ b.toNat ≤ 90 then b + 32 else b
def lowerP (bs : List UInt8) : List UInt8 := bs.map low8
end Rn
/-- []byte(s): a new block. -/
theorem conv_bytes {P : Program} {src dst e : TypeId} (hs : P.underlying src = some .string) (hd : P.underlying dst = some (.slice e)) (he : P.underlying e = some (.int .u8)) (w : World) (s : ByteArray) :
    ∃ c W1, (convert src dst (.string s)).run P w = .ok (.slice (some ⟨w.heap.size, 0, none⟩) s.size c) W1 ∧ s.size ≤ c ∧ Below w.heap.size w W1 ∧ RowAt W1 w.heap.size (s.data.toList.map b8) := by
  refine ⟨_, _, run_bytes_of_string w src dst e s hs hd he, grownCap_ge _ _ _ _, ((Below.refl _ _).drew).alloc (Nat.le_refl _) _, by simp, fun j u hu => ?_⟩
  have hj : j < s.data.toList.length := by
    have := (List.getElem?_eq_some_iff.1 hu).1
    simpa using this
  have hu' : u = b8 s.data.toList[j] := by
    rw [List.getElem?_map, List.getElem?_eq_getElem hj] at hu
    simpa using hu.symm
  subst hu'
  have hj2 : j < s.data.size := by simpa using hj
  have hj3 : j < s.size := hj2
  refine ⟨?_, ?_⟩
  · simp only [World.cell?, World.drew, World.alloc]
    simp [bytesRow, Array.getElem?_append, b8]
    rw [if_pos hj3, Array.getElem?_eq_getElem hj2]
    rfl
  · simp only [World.frozen?, World.drew, World.alloc]
    simp [bytesRow]
    omega

def LowRel (s : List UInt8) (g B : Nat) (w : World) (i : Value) (wr : World) : Prop := ∃ k : Nat, k ≤ s.length ∧ i = .int .i64 k ∧ RowAt wr g ((lowerP (s.take k) ++ s.drop k).map b8) ∧ Below B w wr
set_option maxRecDepth 100000 in
set_option maxHeartbeats 1000000 in
theorem rn_lower (s : ByteArray) (w : World) (hs : s.size ≤ 1000000) :
    Calls Tryd.prog 50 #[.string s] w fun e w' => e = .returned (.string (bytesOf (lowerP s.data.toList))) ∧ Below w.heap.size w w' := by
  obtain ⟨c, W1, hconv, hc, hb1, hrow⟩ := conv_bytes (P := Tryd.prog) Tryd.underlying9 Tryd.underlying22 Tryd.underlying5 w s
  have hlen : s.data.toList.length = s.size := Array.length_toList
  have Hlen := Lib.hid hlen
  have Hrow := Lib.hid hrow
  clear hlen hrow
  go_enter Tryd.func50, Tryd.ntmps50
  go_wp2
  clear hconv
  go_loopw [10] (fun i wr => LowRel s.data.toList w.heap.size w.heap.size w i wr) (fun i _ => s.size - (intOf i).toNat)
  case atStart => exact ⟨0, by omega, rfl, by simpa [lowerP] using Hrow.out, hb1⟩
  case round =>
    obtain ⟨k, hk, rfl, hrow, hb⟩ := hrel
    rw [Hlen.out] at hk
    by_cases hlt : k < s.size
    · obtain ⟨x, hx⟩ : ∃ x, s.data.toList[k]? = some x := ⟨_, List.getElem?_eq_getElem (by rw [Hlen.out]; exact hlt)⟩
      have hkl : (lowerP (s.data.toList.take k)).length = k := by rw [lowerP, List.length_map, List.length_take, Hlen.out]; omega
      have hat : ((lowerP (s.data.toList.take k) ++ s.data.toList.drop k).map b8)[k]? = some (b8 x) := by
        rw [List.getElem?_map, List.getElem?_append_right (by omega), hkl, Nat.sub_self, List.getElem?_drop, Nat.add_zero, hx]; rfl
      obtain ⟨hcell, hfr⟩ := hrow.2 k _ hat
      have hnew : ∀ y, y = low8 x → RowAt (wr.setCell ⟨w.heap.size, k, none⟩ (b8 y)) w.heap.size ((lowerP (s.data.toList.take (k + 1)) ++ s.data.toList.drop (k + 1)).map b8) := by
        intro y hy
        have h1 := hrow.store k (b8 y)
        rw [← List.map_set, List.set_append_right _ _ (by omega), hkl, Nat.sub_self] at h1
        have hd : s.data.toList.drop k = x :: s.data.toList.drop (k + 1) := by
          rw [List.drop_eq_getElem_cons (by rw [Hlen.out]; exact hlt)]
          rw [List.getElem?_eq_getElem (by rw [Hlen.out]; exact hlt)] at hx
          injection hx with hx; rw [hx]
        rw [hd, List.set_cons_zero] at h1
        rw [take_snoc _ k x hx, lowerP, List.map_append, hy] at *
        simpa [lowerP] using h1
      have hsame : low8 x = x → RowAt wr w.heap.size ((lowerP (s.data.toList.take (k + 1)) ++ s.data.toList.drop (k + 1)).map b8) := by
        intro hy
        have hd : s.data.toList.drop k = x :: s.data.toList.drop (k + 1) := by
          rw [List.drop_eq_getElem_cons (by rw [Hlen.out]; exact hlt)]
          rw [List.getElem?_eq_getElem (by rw [Hlen.out]; exact hlt)] at hx
          injection hx with hx; rw [hx]
        rw [hd] at hrow
        rw [take_snoc _ k x hx, lowerP, List.map_append]
        simpa [lowerP, hy] using hrow
      unfold b8 at hcell
      have hx256 : x.toNat < 256 := x.toNat_lt
      have Hnew := Lib.hid hnew
      have Hsame := Lib.hid hsame
      clear hnew hsame hat hkl hrow hx
      by_cases hup : 65 ≤ x.toNat ∧ x.toNat ≤ 90
      · obtain ⟨u1, u2⟩ := hup
        have hy : (b8 (x + 32)) = .int .u8 ((x.toNat : Int) + 32) := by
          unfold b8; congr 1
          have : (x + 32).toNat = x.toNat + 32 := by rw [UInt8.toNat_add]; simp; omega
          rw [this]; rfl
        have hfin := Hnew.out (x + 32) (by simp [low8, u1, u2])
        rw [hy] at hfin
        have Hfin := Lib.hid hfin
        clear hy hfin Hnew Hsame
        have hbn : Below w.heap.size w (wr.setCell ⟨w.heap.size, k, none⟩ (.int .u8 ((x.toNat : Int) + 32))) := hb.setCell (Nat.le_refl _) _
        go_wp2
        go_roundw
        case rel => exact ⟨k + 1, by rw [Hlen.out]; omega, by go_num, Hfin.out, hbn⟩
        case measure => simp [intOf]; omega
      · have hfin := Hsame.out (by simp [low8]; omega)
        have Hfin := Lib.hid hfin
        clear hfin Hnew Hsame
        by_cases u1 : 65 ≤ x.toNat
        all_goals
          go_wp2
          go_roundw
          case rel => exact ⟨k + 1, by rw [Hlen.out]; omega, by go_num, Hfin.out, hb⟩
          case measure => simp [intOf]; omega
    · obtain rfl : k = s.size := by omega
      have hfull : RowAt wr w.heap.size ((lowerP s.data.toList).map b8) := by
        rw [List.take_of_length_le (by rw [Hlen.out]; omega), List.drop_of_length_le (by rw [Hlen.out]; omega), List.append_nil] at hrow
        exact hrow
      have hrd := hfull.reads (B := w.heap.size + 1) (by omega)
      rw [List.length_map, show (lowerP s.data.toList).length = s.size from by rw [lowerP, List.length_map]; exact Hlen.out] at hrd
      have hback := run_str (P := Tryd.prog) (src := 22) (dst := 9) Tryd.underlying22 Tryd.underlying5 Tryd.underlying9 c hrd
      clear hrow hfull hrd
      go_wp2
      go_ret
      exact ⟨rfl, hb⟩
end Go.Proofs.YthkagpefgkpgeaaDoor
