/- Layer 4: may a text be, may a token be? The program's plain, one, right are walked. -/
import Derived.Test.YtifedkilbpkpaaaGreatDoorB14
import Derived.Laws.BitsAllLaws
import Derived.ScopeJumps
import Derived.Test.YtifedkilbpkpaaaGreatDoorB13
import Derived.Laws.StructEq
import Derived.Lib.Bytealg
import Derived.Test.YtifedkilbpkpaaaGreatDoorB01
import Derived.Test.YtifedkilbpkpaaaGreatDoorB05
import Derived.Deep.RegionWith
import Derived.BigQuiet
/- Layer 4: the library's FormatInt at base 16 is walked, for every character; an escape. -/
set_option linter.unusedVariables false
set_option linter.unusedSimpArgs false
namespace Go.Proofs.YtifedkilbpkpaaaGreatDoor
open Go.RowKit Rn Tp
/-- the table of trailing noughts, at the place of 16 -/
def Db (w : World) : Prop := w.cell? ⟨5, 15, none⟩ = some (.int .u8 4)
theorem Db.below {w w' : World} (h : Db w) (hb : Below w.heap.size w w') : Db w' := (hb.cell (p := ⟨_, 15, none⟩) (World.block_lt_of_cell? _ _ h)).trans h
set_option maxRecDepth 100000 in
set_option maxHeartbeats 1000000 in
theorem tp_pow2 (w : World) : Calls Tryz.prog 107 #[.int .i64 16] w fun e w' => e = .returned (.bool true) ∧ w = w' := by
  have h1 : bits .and .i64 16 15 = 0 := by decide
  go_enter Tryz.func107, Tryz.ntmps107
  go_wp2
  go_ret
  exact ⟨rfl, rfl⟩
set_option maxRecDepth 100000 in
set_option maxHeartbeats 1000000 in
theorem tp_tz64 (w : World) (h : Db w) : Calls Tryz.prog 114 #[.int .u64 16] w fun e w' => e = .returned (.int .i64 4) ∧ w = w' := by
  unfold Db at h
  have h1 : bits .and .u64 16 (IntKind.u64.wrap (-16)) = 16 := by decide
  have h2 : IntKind.u64.wrap (16 * 285870213051353865) / 288230376151711744 = 15 := by decide
  go_enter Tryz.func114, Tryz.ntmps114
  go_wp2
  go_ret
  exact ⟨rfl, rfl⟩
set_option maxRecDepth 100000 in
set_option maxHeartbeats 1000000 in
theorem tp_tz (w : World) (h : Db w) : Calls Tryz.prog 108 #[.int .u64 16] w fun e w' => e = .returned (.int .i64 4) ∧ w = w' := by
  go_enter Tryz.func108, Tryz.ntmps108
  go_wp2_with fail
  refine (tp_tz64 w h).mono ?_
  rintro e w1 ⟨rfl, rfl⟩
  go_wp2
  go_ret
  exact ⟨rfl, rfl⟩
def digS : List UInt8 := [48, 49, 50, 51, 52, 53, 54, 55, 56, 57, 97, 98, 99, 100, 101, 102, 103, 104, 105, 106, 107, 108, 109, 110, 111, 112, 113, 114, 115, 116, 117, 118, 119, 120, 121, 122]
theorem digS_at : ∀ k : Fin 16, digS[k.val]? = some (hexd k.val) := by decide
theorem dig_index (n : Nat) (h : n < 16) (W : World) : (Instr.index 9 (.string ⟨#[48, 49, 50, 51, 52, 53, 54, 55, 56, 57, 97, 98, 99, 100, 101, 102, 103, 104, 105, 106, 107, 108, 109, 110, 111, 112, 113, 114, 115, 116, 117, 118, 119, 120, 121, 122]⟩) (.int .u64 (n : Int))).run Tryz.prog W = .ok (.int .u8 ((hexd n).toNat : Int)) W :=
  str_at (P := Tryz.prog) (T := 9) Tryz.underlying9 digS .u64 n _ (digS_at ⟨n, h⟩) W
theorem and15 (n : Nat) (h : n < 18446744073709551616) : bits .and .u64 (n : Int) 15 = ((n % 16 : Nat) : Int) := by
  have := u64_and_nat n 15 h (by omega)
  rw [nat_mask4] at this
  exact this
/-- the row of digits, filled from its end -/
def Filled (w : World) (g : Nat) (T : List UInt8) : Prop := ∃ xs : List Value, xs.length = 65 ∧ RowAt w g xs ∧ ∀ (j : Nat) (b : UInt8), T[j]? = some b → xs[65 - T.length + j]? = some (b8 b)
theorem Filled.put {w : World} {g : Nat} {T : List UInt8} (h : Filled w g T) (hl : T.length < 65) (b : UInt8) : Filled (w.setCell ⟨g, 64 - T.length, none⟩ (.int .u8 (b.toNat : Int))) g (b :: T) := by
  obtain ⟨xs, h1, h2, h3⟩ := h
  refine ⟨xs.set (64 - T.length) (.int .u8 (b.toNat : Int)), by rw [List.length_set]; exact h1, h2.store _ _, fun j c hj => ?_⟩
  have e : 65 - (b :: T).length = 64 - T.length := by rw [List.length_cons]; omega
  rw [e]
  cases j with
  | zero =>
    simp at hj; subst hj
    rw [Nat.add_zero, List.getElem?_set_self (by omega)]; rfl
  | succ j =>
    rw [List.getElem?_set_ne (by omega)]
    have := h3 j c (by simpa using hj)
    rw [show 64 - T.length + (j + 1) = 65 - T.length + j by omega]; exact this
theorem Filled.at_ {w : World} {g : Nat} {T : List UInt8} (h : Filled w g T) (j : Nat) (hj : j < 65) : (∃ v, w.cell? ⟨g, j, none⟩ = some v) ∧ w.frozen? ⟨g, j, none⟩ = false := by
  obtain ⟨xs, h1, h2, _⟩ := h
  have := h2.2 j (xs[j]'(by omega)) (List.getElem?_eq_getElem (by omega))
  exact ⟨⟨_, this.1⟩, this.2⟩
theorem Filled.reads {w : World} {g : Nat} {T : List UInt8} (h : Filled w g T) (hl : T.length ≤ 65) (hT : T ≠ []) : Reads w (g + 1) 1 (some ⟨g, 65 - T.length, none⟩) T.length (T.map b8) := by
  obtain ⟨xs, h1, h2, h3⟩ := h
  refine ⟨by simp, fun _ => ⟨g, 65 - T.length, rfl, by omega, fun j u hu => ?_⟩⟩
  rw [List.getElem?_map] at hu
  cases hj : T[j]? with
  | none => rw [hj] at hu; cases hu
  | some b =>
    rw [hj] at hu
    injection hu with hu
    subst hu
    exact (h2.2 _ _ (h3 j b hj)).1
theorem filled_new (w : World) (t : TypeId) (Z : Array Value) (hZ : Z.size = 65) : Filled (w.alloc (.cells Z t)) w.heap.size [] :=
  ⟨Z.toList, by simpa using hZ, RowAt.new _ _ _, fun j b h => by simp at h⟩
theorem zero65 : Tryz.zeroCells120.size = 65 := by kernel_rfl
theorem arr65 : Tryz.prog.arrayLen 120 = 65 := by kernel_rfl
theorem hex_step {n u : Nat} {T : List UInt8} (h : hexT n = hexT u ++ T) (hu : 16 ≤ u) : hexT n = hexT (u / 16) ++ hexd (u % 16) :: T := by
  rw [h, show hexT u = hexT (u / 16) ++ [hexd (u % 16)] by rw [hexT, dif_neg (by omega)]]; simp
set_option maxRecDepth 100000 in
set_option maxHeartbeats 4000000 in
theorem tp_bits (n : Nat) (w : World) (hn : n ≤ 2147483647) (hD : Db w) :
    Calls Tryz.prog 93 #[.slice none 0 0, .int .u64 (n : Int), .int .i64 16, .bool false, .bool false] w fun e w' => (∃ v, e = .returned (.tuple #[v, .string (bytesOf (hexT n))])) ∧ Below w.heap.size w w' := by
  have hl8 := hexT_eight n (by omega)
  obtain ⟨wA, hwA⟩ : ∃ wA, w.alloc (.cells Tryz.zeroCells120 120) = wA := ⟨_, rfl⟩
  have bA : Below w.heap.size w wA := by rw [← hwA]; exact (Below.refl _ _).alloc (Nat.le_refl _) _
  have fA : Filled wA w.heap.size [] := by rw [← hwA]; exact filled_new _ _ _ zero65
  have hDA := hD.below bA
  go_enter Tryz.func93, Tryz.ntmps93
  go_wp2_with fail
  refine (tp_pow2 _).mono ?_
  rintro e w1 ⟨rfl, rfl⟩
  go_wp2_with fail
  refine (tp_tz _ hDA).mono ?_
  rintro e w1 ⟨rfl, rfl⟩
  go_wp2_with fail
  go_loopw [1, 13] (fun x i wr => ∃ (u : Nat) (T : List UInt8), u ≤ n ∧ Hid (hexT n = hexT u ++ T) ∧ x = .int .u64 (u : Nat) ∧ i = .int .i64 ((65 - T.length : Nat) : Int) ∧ Filled wr w.heap.size T ∧ Below w.heap.size w wr) (fun x _ _ => (intOf x).toNat)
  case atStart => exact ⟨n, [], Nat.le_refl _, (by show _ = _; simp), rfl, rfl, fA, bA⟩
  case round =>
    obtain ⟨u, T, hun, hrun, rfl, rfl, hF, hb⟩ := hrel
    have hTl : T.length ≤ 8 := by have := congrArg List.length hrun.out; rw [List.length_append] at this; omega
    have hTl7 : T.length ≤ 7 := by
      have := congrArg List.length hrun.out
      have := List.length_pos_iff.2 (show hexT u ≠ [] from by rw [hexT]; split <;> simp)
      rw [List.length_append] at *; omega
    obtain ⟨⟨v0, hv0⟩, hfz⟩ := hF.at_ (64 - T.length) (by omega)
    have hg := hF.choose_spec.2.1.1
    obtain ⟨i, hi⟩ : ∃ i : Nat, 64 - T.length = i := ⟨_, rfl⟩
    have hi65 : 65 - T.length = i + 1 := by omega
    have hw1 : IntKind.i64.wrap (((i + 1 : Nat) : Int) - 1) = (i : Int) := by rw [IntKind.wrap_i64]; omega
    have hib : (0 : Int) ≤ (i : Int) ∧ (i : Int) < 65 := by omega
    rw [hi] at hv0 hfz
    rw [hi65]
    by_cases h16 : 16 ≤ u
    · have t16 : decide ((16 : Int) ≤ (u : Int)) = true := by simp; omega
      obtain ⟨q, hq⟩ : ∃ q, u / 16 = q := ⟨_, rfl⟩
      obtain ⟨r, hr⟩ : ∃ r, u % 16 = r := ⟨_, rfl⟩
      have hstep := hex_step hrun.out h16
      rw [hq, hr] at hstep
      have hand := and15 u (by omega)
      rw [hr] at hand
      have hix := dig_index r (by omega)
      have hqi : (u : Int) / 16 = (q : Int) := by omega
      have hput := hF.put (by omega) (hexd r)
      rw [hi] at hput
      have hbp : Below w.heap.size w (wr.setCell ⟨w.heap.size, i, none⟩ (.int .u8 ((hexd r).toNat : Int))) := hb.setCell (p := ⟨w.heap.size, i, none⟩) (Nat.le_refl _) _
      have Hstep := Lib.hid hstep
      clear hstep hr hq hrun
      go_wp2_with fail
      refine ⟨⟨q, hexd r :: T, by omega, Hstep, rfl, congrArg (Value.int IntKind.i64) (by rw [List.length_cons]; omega), hput, hbp⟩, by simp [intOf]; omega⟩
    · have t16 : decide ((16 : Int) ≤ (u : Int)) = false := by simp; omega
      have hstep : hexT n = hexd u :: T := by rw [hrun.out, hexT, dif_pos (by omega)]; rfl
      have hix := dig_index u (by omega)
      have hput := hF.put (by omega) (hexd u)
      rw [hi] at hput
      have hbp : Below w.heap.size w (wr.setCell ⟨w.heap.size, i, none⟩ (.int .u8 ((hexd u).toNat : Int))) := hb.setCell (p := ⟨w.heap.size, i, none⟩) (Nat.le_refl _) _
      have hrd := hput.reads (by rw [List.length_cons]; omega) (by simp)
      rw [← hstep] at hrd
      have hlen : (hexT n).length = 65 - i := by rw [hstep, List.length_cons]; omega
      have hoff : 65 - (hexT n).length = i := by omega
      rw [hoff, hlen] at hrd
      have hstr := run_str (P := Tryz.prog) (src := 31) (dst := 9) Tryz.underlying31 Tryz.underlying5 Tryz.underlying9 (65 - i) hrd
      have hsl : ∀ W, (Instr.sliceAt 120 (.pointer (some ⟨w.heap.size, 0, none⟩)) (some (.int .i64 (i : Int))) none none).run Tryz.prog W = .ok (.slice (some ⟨w.heap.size, i, none⟩) (65 - i) (65 - i)) W := fun W => by
        rw [run_sliceAt_array_l W 120 ⟨w.heap.size, 0, none⟩ (by rw [arr65]; exact Tryz.underlying120) .i64 (i : Int) (by omega) (by rw [arr65]; omega)]
        rw [arr65]
        go_simp
        omega
      clear hstep hrun hrd hlen hoff
      go_wp2_with fail
      go_ret2
      exact ⟨⟨_, rfl⟩, hbp⟩
set_option maxRecDepth 100000 in
set_option maxHeartbeats 1000000 in
theorem tp_fmt0 (n : Nat) (w : World) (hn : n ≤ 2147483647) (hD : Db w) :
    Calls Tryz.prog 73 #[.int .i64 (n : Int), .int .i64 16] w fun e w' => e = .returned (.string (bytesOf (hexT n))) ∧ Below w.heap.size w w' := by
  have t0 : decide ((n : Int) < 0) = false := by simp
  have hw : IntKind.u64.wrap (n : Int) = (n : Int) := by rw [IntKind.wrap_u64]; omega
  go_enter Tryz.func73, Tryz.ntmps73
  go_wp2_with fail
  refine (tp_bits n w hn hD).mono ?_
  rintro e w1 ⟨⟨v, rfl⟩, hb⟩
  go_wp2
  go_ret
  exact ⟨rfl, hb⟩
set_option maxRecDepth 100000 in
set_option maxHeartbeats 1000000 in
theorem tp_fmt (n : Nat) (w : World) (hn : n ≤ 2147483647) (hD : Db w) :
    Calls Tryz.prog 58 #[.int .i64 (n : Int), .int .i64 16] w fun e w' => e = .returned (.string (bytesOf (hexT n))) ∧ Below w.heap.size w w' := by
  go_enter Tryz.func58, Tryz.ntmps58
  go_wp2_with fail
  refine (tp_fmt0 n w hn hD).mono ?_
  rintro e w1 ⟨rfl, hb⟩
  go_wp2
  go_ret
  exact ⟨rfl, hb⟩
set_option maxRecDepth 100000 in
set_option maxHeartbeats 1000000 in
theorem tp_escaped (c : Int) (w : World) (hc : isB c = true) (hD : Db w) :
    Calls Tryz.prog 39 #[.int .i32 c] w fun e w' => e = .returned (.string (bytesOf (escP c))) ∧ Below w.heap.size w w' := by
  have hr := isB_range' hc
  obtain ⟨n, rfl⟩ : ∃ n : Nat, c = n := ⟨c.toNat, by omega⟩
  have hz1 := bytesOf_size (hexT n)
  have hl1 := hexT_eight n (by omega)
  have hE : escP (n : Int) = [92] ++ hexT n ++ [32] := by unfold escP; simp
  have HE := Lib.hid hE
  clear hE hc
  have hw : IntKind.i64.wrap (n : Int) = (n : Int) := by rw [IntKind.wrap_i64]; omega
  go_enter Tryz.func39, Tryz.ntmps39
  go_wp2_with fail
  refine (tp_fmt n w (by omega) hD).mono ?_
  rintro e w1 ⟨rfl, hb⟩
  go_wp2
  go_ret
  refine ⟨congrArg (fun b => Ending.returned (Value.string b)) ?_, hb⟩
  rw [HE.out]
  show bytesOf [92] ++ bytesOf (hexT n) ++ bytesOf [32] = _
  rw [bytesOf_append, bytesOf_append]
theorem esc_len (c : Int) (hc : isB c = true) : (escP c).length ≤ 10 := by
  have hr := isB_range' hc
  have := hexT_eight c.toNat (by omega)
  unfold escP; simp; omega
end Go.Proofs.YtifedkilbpkpaaaGreatDoor
/- Layer 3: the laws' Same is walked. -/
set_option linter.unusedVariables false
set_option linter.unusedSimpArgs false
namespace Go.Proofs.YtifedkilbpkpaaaGreatDoor
open Go.RowKit Rn Tk
theorem cellsG_len (l : List GTok) : (cellsG l).length = l.length * 3 := by
  induction l with
  | nil => rfl
  | cons t l ih => simp only [cellsG, List.flatMap_cons, List.length_append] at *; rw [ih]; simp [cells1]; omega
theorem cellsG_at (l : List GTok) : ∀ (k : Nat) (t : GTok), l[k]? = some t → (cellsG l)[k * 3]? = some (.int .i64 t.kind) ∧ (cellsG l)[k * 3 + 1]? = some (.string (bytesOf t.text)) ∧ (cellsG l)[k * 3 + 2]? = some (.int .i64 t.n) := by
  induction l with
  | nil => intro k t h; simp at h
  | cons s l ih =>
    intro k t h
    have e : cellsG (s :: l) = [.int .i64 s.kind, .string (bytesOf s.text), .int .i64 s.n] ++ cellsG l := rfl
    rw [e]
    cases k with
    | zero => simp at h; subst h; exact ⟨rfl, rfl, rfl⟩
    | succ k =>
      obtain ⟨h1, h2, h3⟩ := ih k t (by simpa using h)
      refine ⟨?_, ?_, ?_⟩ <;> rw [List.getElem?_append_right (by simp; omega)]
      · rw [show (k + 1) * 3 - [Value.int .i64 s.kind, .string (bytesOf s.text), .int .i64 s.n].length = k * 3 by simp; omega]; exact h1
      · rw [show (k + 1) * 3 + 1 - [Value.int .i64 s.kind, .string (bytesOf s.text), .int .i64 s.n].length = k * 3 + 1 by simp; omega]; exact h2
      · rw [show (k + 1) * 3 + 2 - [Value.int .i64 s.kind, .string (bytesOf s.text), .int .i64 s.n].length = k * 3 + 2 by simp; omega]; exact h3
abbrev ReadsT (w : World) (B : Nat) (A : Option Addr) (n : Nat) (l : List GTok) : Prop := Reads w B 3 A n (cellsG l)
theorem ReadsT.len {w : World} {B n : Nat} {A : Option Addr} {l : List GTok} (h : ReadsT w B A n l) : l.length = n := by
  have := h.1; rw [cellsG_len] at this; omega
theorem ReadsT.at_ {w : World} {B n : Nat} {A : Option Addr} {l : List GTok} (h : ReadsT w B A n l) {k : Nat} (hk : k < n) : ∃ b off t, A = some ⟨b, off, none⟩ ∧ b < B ∧ l[k]? = some t ∧ w.cell? ⟨b, off + k * 3, none⟩ = some (.int .i64 t.kind) ∧ w.cell? ⟨b, off + k * 3 + 1, none⟩ = some (.string (bytesOf t.text)) ∧ w.cell? ⟨b, off + k * 3 + 2, none⟩ = some (.int .i64 t.n) := by
  obtain ⟨b, off, hA, hb, hc⟩ := h.2 (by omega)
  have hl := h.len
  obtain ⟨h1, h2, h3⟩ := cellsG_at l k l[k] (List.getElem?_eq_getElem (by omega))
  exact ⟨b, off, l[k], hA, hb, List.getElem?_eq_getElem (by omega), hc _ _ h1, hc _ _ h2, hc _ _ h3⟩
theorem tok_under : Tryz.prog.underlying 23 = some (.struct (Tryz.prog.fieldsOf 23)) := by kernel_rfl
theorem tok_stood : Tryz.prog.stoodInHeld 23 = false := by kernel_rfl
theorem tok_guard : Tryz.prog.eqGuardType Tryz.prog.depth 23 = false := by kernel_rfl
theorem tok_fields : (Tryz.prog.fieldsOf 23).toList.map (fun f => (f.name, f.type, f.offset)) = [("Kind", 3, 0), ("Text", 9, 1), ("N", 3, 2)] := by kernel_rfl
theorem int_size1 (w : World) : (part 3 #[] 0).run Tryz.prog w = (part 3 #[] 0).run Tryz.prog w := rfl
theorem bytes_ne (a b : List UInt8) : ((bytesOf a).toList == (bytesOf b).toList) = decide (a = b) := by
  rw [bytesOf_toList, bytesOf_toList]; rw [Bool.eq_iff_iff]; simp
#print axioms tok_fields
theorem toks_neq (x y : GTok) (w : World) : (binOp .neq 23 (.agg #[.int .i64 x.kind, .string (bytesOf x.text), .int .i64 x.n]) (.agg #[.int .i64 y.kind, .string (bytesOf y.text), .int .i64 y.n])).run Tryz.prog w = .ok (.bool (decide (x ≠ y))) w := by
  have h1 := tok_under
  have h2 := tok_stood
  have h3 := Tryz.underlying3
  have h4 := Tryz.underlying9
  rw [run_neq_struct, run_equalIn_struct _ _ _ _ _ h1 h2]
  have hf := tok_fields
  generalize (Tryz.prog.fieldsOf 23).toList = fs at hf
  rcases fs with _ | ⟨a, _ | ⟨b, _ | ⟨c, _ | ⟨d, fs⟩⟩⟩⟩
  · simp at hf
  · simp at hf
  · simp at hf
  · simp only [List.map_cons, List.map_nil, List.cons.injEq, Prod.mk.injEq, and_true] at hf
    obtain ⟨⟨a1, a2, a3⟩, ⟨b1, b2, b3⟩, c1, c2, c3⟩ := hf
    simp [Op.eqFields, a1, a2, a3, b1, b2, b3, c1, c2, c3, go_sem, part, h3, h4]
    have hb := bytes_ne x.text y.text
    obtain ⟨xk, xt, xn⟩ := x
    obtain ⟨yk, yt, yn⟩ := y
    simp only [GTok.mk.injEq] at *
    by_cases e1 : xk = yk
    · by_cases e2 : xt = yt
      · by_cases e3 : xn = yn
        · subst e1 e2 e3; simp
        · subst e1 e2; simp [e3]
      · have : ¬ (bytesOf xt).toList = (bytesOf yt).toList := by rw [bytesOf_toList, bytesOf_toList]; exact e2
        simp [e1, e2, this]
    · simp [e1]
  · simp at hf
theorem toks_eql (x y : GTok) (w : World) : (binOp .eql 23 (.agg #[.int .i64 x.kind, .string (bytesOf x.text), .int .i64 x.n]) (.agg #[.int .i64 y.kind, .string (bytesOf y.text), .int .i64 y.n])).run Tryz.prog w = .ok (.bool (decide (x = y))) w := by
  have h1 := tok_under
  have h2 := tok_stood
  have h3 := Tryz.underlying3
  have h4 := Tryz.underlying9
  rw [run_eql_struct, run_equalIn_struct _ _ _ _ _ h1 h2]
  have hf := tok_fields
  generalize (Tryz.prog.fieldsOf 23).toList = fs at hf
  rcases fs with _ | ⟨a, _ | ⟨b, _ | ⟨c, _ | ⟨d, fs⟩⟩⟩⟩
  · simp at hf
  · simp at hf
  · simp at hf
  · simp only [List.map_cons, List.map_nil, List.cons.injEq, Prod.mk.injEq, and_true] at hf
    obtain ⟨⟨a1, a2, a3⟩, ⟨b1, b2, b3⟩, c1, c2, c3⟩ := hf
    simp [Op.eqFields, a1, a2, a3, b1, b2, b3, c1, c2, c3, go_sem, part, h3, h4]
    have hb := bytes_ne x.text y.text
    obtain ⟨xk, xt, xn⟩ := x
    obtain ⟨yk, yt, yn⟩ := y
    simp only [GTok.mk.injEq] at *
    by_cases e1 : xk = yk
    · by_cases e2 : xt = yt
      · by_cases e3 : xn = yn
        · subst e1 e2 e3; simp
        · subst e1 e2; simp [e3]
      · have : ¬ (bytesOf xt).toList = (bytesOf yt).toList := by rw [bytesOf_toList, bytesOf_toList]; exact e2
        simp [e1, e2, this]
    · simp [e1]
  · simp at hf
set_option maxRecDepth 100000 in
set_option maxHeartbeats 1000000 in
theorem toks_same (xs ys : List GTok) (A A' : Option Addr) (n m c c' : Nat) (w : World) (hx : ReadsT w w.heap.size A n xs) (hy : ReadsT w w.heap.size A' m ys) (hn : n ≤ 1000000) :
    Calls Tryz.prog 9 #[.slice A n c, .slice A' m c'] w fun e w' => e = .returned (.bool (decide (xs = ys))) ∧ Below w.heap.size w w' := by
  have hlx := hx.len
  have hly := hy.len
  have Hlx := Lib.hid hlx
  have Hly := Lib.hid hly
  clear hlx hly
  by_cases hnm : n = m
  · have hb0 : ((n : Int) != (m : Int)) = false := by simp [hnm]
    have Hnm := Lib.hid hnm
    clear hnm
    go_enter Tryz.func9, Tryz.ntmps9
    go_wp2
    go_loopw [13] (fun i wr => ∃ k : Nat, k ≤ n ∧ i = .int .i64 k ∧ Hid (xs.take k = ys.take k) ∧ Below w.heap.size w wr) (fun i _ => n - (intOf i).toNat)
    case atStart => exact ⟨0, by omega, rfl, rfl, Below.refl _ _⟩
    case round =>
      obtain ⟨k, hk, rfl, heq, hb⟩ := hrel
      by_cases hlt : k < n
      · obtain ⟨b, off, x, hA, hbl, hxk, f0, f1, f2⟩ := hx.at_ hlt
        obtain ⟨b', off', y, hA', hbl', hyk, g0, g1, g2⟩ := hy.at_ (k := k) (by have := Hnm.out; omega)
        subst hA hA'
        have hkm : k < m := by have := Hnm.out; omega
        have hki : (k : Int) < (n : Int) := by omega
        have hki' : (k : Int) < (m : Int) := by omega
        have hk0 : (0 : Int) ≤ (k : Int) := by omega
        replace f0 := (hb.cell (p := ⟨b, off + k * 3, none⟩) hbl).trans f0
        replace f1 := (hb.cell (p := ⟨b, off + k * 3 + 1, none⟩) hbl).trans f1
        replace f2 := (hb.cell (p := ⟨b, off + k * 3 + 2, none⟩) hbl).trans f2
        replace g0 := (hb.cell (p := ⟨b', off' + k * 3, none⟩) hbl').trans g0
        replace g1 := (hb.cell (p := ⟨b', off' + k * 3 + 1, none⟩) hbl').trans g1
        replace g2 := (hb.cell (p := ⟨b', off' + k * 3 + 2, none⟩) hbl').trans g2
        have Hxk := Lib.hid hxk
        have Hyk := Lib.hid hyk
        clear hxk hyk
        have hgu := tok_guard
        by_cases hxy : x = y
        · have hq := fun W => toks_neq x y W
          rw [show decide (x ≠ y) = false by simp [hxy]] at hq
          have Hxy := Lib.hid hxy
          clear hxy
          go_wp2
          go_quiet (fail)
          go_wp2
          go_roundw
          case rel => exact ⟨k + 1, by omega, by go_num, by show _ = _; rw [take_snoc _ _ _ Hxk.out, take_snoc _ _ _ Hyk.out, heq.out, Hxy.out], below_drewN hb _⟩
          case measure => simp [intOf]; omega
        · have hq := fun W => toks_neq x y W
          rw [show decide (x ≠ y) = true by simp [hxy]] at hq
          have Hxy := Lib.hid hxy
          clear hxy
          go_wp2
          go_quiet (fail)
          go_wp2
          go_ret
          refine ⟨ret_bool ?_, below_drewN hb _⟩
          have : ¬ xs = ys := by
            intro e
            have h1 := Hxk.out
            rw [e, Hyk.out] at h1
            injection h1 with h1
            exact Hxy.out h1.symm
          simp [this]
      · obtain rfl : k = n := by omega
        go_wp2
        go_ret
        refine ⟨ret_bool ?_, hb⟩
        have h1 := heq.out
        rw [List.take_of_length_le (by rw [Hlx.out]; omega), List.take_of_length_le (by rw [Hly.out, Hnm.out]; omega)] at h1
        simp [h1]
  · have hb0 : ((n : Int) != (m : Int)) = true := by simp; omega
    have Hnm := Lib.hid hnm
    clear hnm
    go_enter Tryz.func9, Tryz.ntmps9
    go_wp2
    go_ret
    refine ⟨ret_bool ?_, Below.refl _ _⟩
    have : ¬ xs = ys := by
      intro e
      exact Hnm.out (by rw [← Hlx.out, ← Hly.out, e])
    simp [this]
end Go.Proofs.YtifedkilbpkpaaaGreatDoor
set_option linter.unusedVariables false
set_option linter.unusedSimpArgs false
namespace Go.Proofs.YtifedkilbpkpaaaGreatDoor
open Go.RowKit Rn Tp
namespace Tp
/-- characters that may be told: UTF-8, no 0 -/
def plainB (l : List UInt8) : Bool := match utfP l with
  | none => false
  | some cs => !decide ((0 : Int) ∈ cs)
end Tp
theorem index_mem (l : List UInt8) (b : UInt8) : (0 ≤ Lib.indexByte l b) ↔ b ∈ l := by
  induction l with
  | nil => simp [Lib.indexByte]
  | cons c l ih =>
    have hg := Lib.indexByte_ge l b
    unfold Lib.indexByte
    by_cases h : c = b
    · subst h; simp
    · simp only [List.mem_cons]
      rw [if_neg (by simpa using h)]
      have hb : ¬ b = c := fun e => h e.symm
      simp only [hb, false_or]
      rw [← ih]
      split
      · rename_i h1
        have h1 : Lib.indexByte l b = -1 := by simpa using h1
        omega
      · rename_i h1
        have h1 : ¬ Lib.indexByte l b = -1 := by simpa using h1
        omega
theorem enc_zero {c : Int} (hc : isB c = true) : (0 : UInt8) ∈ Lib.encodeRune c ↔ c = 0 := by
  have hr := isB_range' hc
  have hc' : 0 ≤ c ∧ c ≤ 1114111 ∧ (c < 55296 ∨ 57343 < c) := by simpa [isB] using hc
  constructor
  · intro h
    by_cases c1 : c < 128
    · have e : Lib.encodeRune c = [c.toNat.toUInt8] := by simp [Lib.encodeRune, Lib.encodeRuneZ_one hr.1 (by omega : c ≤ 127)]
      have g0 := b_of c hr.1 (by omega)
      rw [e] at h
      have : (0 : UInt8) = c.toNat.toUInt8 := by simpa using h
      rw [← this] at g0
      have : (0 : UInt8).toNat = 0 := rfl
      omega
    · exfalso
      by_cases c2 : c < 2048
      · have e : Lib.encodeRune c = [(192 + c / 64).toNat.toUInt8, (128 + c % 64).toNat.toUInt8] := by simp [Lib.encodeRune, Lib.encodeRuneZ_two (by omega : 128 ≤ c) (by omega)]
        have g0 := b_of (192 + c / 64) (by omega) (by omega)
        have g1 := b_of (128 + c % 64) (by omega) (by omega)
        rw [e] at h
        have z : (0 : UInt8).toNat = 0 := rfl
        simp only [List.mem_cons, List.not_mem_nil, or_false] at h
        rcases h with h | h
        · rw [← h] at g0; omega
        · rw [← h] at g1; omega
      · by_cases c3 : c < 65536
        · have e : Lib.encodeRune c = [(224 + c / 4096).toNat.toUInt8, (128 + c / 64 % 64).toNat.toUInt8, (128 + c % 64).toNat.toUInt8] := by simp [Lib.encodeRune, Lib.encodeRuneZ_three (r := c) (by omega)]
          have g0 := b_of (224 + c / 4096) (by omega) (by omega)
          have g1 := b_of (128 + c / 64 % 64) (by omega) (by omega)
          have g2 := b_of (128 + c % 64) (by omega) (by omega)
          rw [e] at h
          have z : (0 : UInt8).toNat = 0 := rfl
          simp only [List.mem_cons, List.not_mem_nil, or_false] at h
          rcases h with h | h | h
          · rw [← h] at g0; omega
          · rw [← h] at g1; omega
          · rw [← h] at g2; omega
        · have e : Lib.encodeRune c = [(240 + c / 262144).toNat.toUInt8, (128 + c / 4096 % 64).toNat.toUInt8, (128 + c / 64 % 64).toNat.toUInt8, (128 + c % 64).toNat.toUInt8] := by simp [Lib.encodeRune, Lib.encodeRuneZ_four (by omega : 65536 ≤ c) (by omega)]
          have g0 := b_of (240 + c / 262144) (by omega) (by omega)
          have g1 := b_of (128 + c / 4096 % 64) (by omega) (by omega)
          have g2 := b_of (128 + c / 64 % 64) (by omega) (by omega)
          have g3 := b_of (128 + c % 64) (by omega) (by omega)
          rw [e] at h
          have z : (0 : UInt8).toNat = 0 := rfl
          simp only [List.mem_cons, List.not_mem_nil, or_false] at h
          rcases h with h | h | h | h
          · rw [← h] at g0; omega
          · rw [← h] at g1; omega
          · rw [← h] at g2; omega
          · rw [← h] at g3; omega
  · rintro rfl; decide
theorem zero_write : ∀ (cs : List Int), (∀ c ∈ cs, isB c = true) → ((0 : UInt8) ∈ writeP cs ↔ (0 : Int) ∈ cs)
  | [], _ => by simp [writeP]
  | c :: cs, h => by
    have ih := zero_write cs (fun d hd => h d (by simp [hd]))
    have h0 := enc_zero (h c (by simp))
    have e : writeP (c :: cs) = Lib.encodeRune c ++ writeP cs := by simp [writeP]
    rw [e, List.mem_append, ih, h0, List.mem_cons]
    constructor
    · rintro (h | h)
      · exact .inl h.symm
      · exact .inr h
    · rintro (h | h)
      · exact .inl h.symm
      · exact .inr h
set_option maxRecDepth 100000 in
set_option maxHeartbeats 1000000 in
theorem tp_plain (l : List UInt8) (w : World) (hl : l.length ≤ maxLen) (hT : Tabs w) :
    Calls Tryz.prog 33 #[.string (bytesOf l)] w fun e w' => e = .returned (.bool (plainB l)) ∧ Below w.heap.size w w' := by
  have hz := bytesOf_size l
  unfold maxLen at hl
  have hv := Tryz.utf8_ValidString (bytesOf l) w (by omega) hT
  rw [bytesOf_list, utf_valid] at hv
  unfold plainB
  cases hu : utfP l with
  | none =>
    rw [hu] at hv
    simp only [Option.isSome_none] at hv
    go_enter Tryz.func33, Tryz.ntmps33
    go_wp2_with fail
    refine hv.mono ?_
    rintro e w1 ⟨rfl, hb⟩
    go_wp2
    go_ret
    exact ⟨rfl, hb⟩
  | some cs =>
    rw [hu] at hv
    simp only [Option.isSome_some] at hv
    obtain ⟨u1, u2⟩ := utf_some hu
    have hc := fun w => Tryz.strings_ContainsRune_ascii (bytesOf l) 0 w (by omega) (by omega)
    have hd : decide (0 ≤ Lib.indexByte (bytesOf l).data.toList (0 : Int).toNat.toUInt8) = decide ((0 : Int) ∈ cs) := by
      rw [bytesOf_list, Bool.eq_iff_iff, decide_eq_true_iff, decide_eq_true_iff, index_mem, u1]
      exact zero_write cs u2
    rw [hd] at hc
    clear hd u1 u2 hu
    show Calls _ _ _ _ fun e w' => e = .returned (.bool (!decide ((0 : Int) ∈ cs))) ∧ _
    generalize decide ((0 : Int) ∈ cs) = m at *
    go_enter Tryz.func33, Tryz.ntmps33
    go_wp2_with fail
    refine hv.mono ?_
    rintro e w1 ⟨rfl, hb⟩
    go_wp2_with fail
    refine (hc w1).mono ?_
    rintro e w2 ⟨rfl, rfl⟩
    go_wp2
    go_ret
    exact ⟨rfl, hb⟩
def oneS : List UInt8 := [34, 39, 40, 41, 91, 93, 123, 125, 58, 59, 44, 12, 13]
theorem oneS_at : ∀ c : Fin 128, decide (0 ≤ Lib.indexByte (bytesOf oneS).data.toList (c.val : Int).toNat.toUInt8) = decide ((c.val : Int) ∈ ([34, 39, 40, 41, 91, 93, 123, 125, 58, 59, 44, 12, 13] : List Int)) := by decide +kernel
set_option maxRecDepth 100000 in
set_option maxHeartbeats 1000000 in
theorem tp_one (l : List UInt8) (cs : List Int) (w : World) (hl : l.length ≤ maxLen) (hT : Tabs w) (hu : utfP l = some cs) :
    Calls Tryz.prog 34 #[.string (bytesOf l)] w fun e w' => e = .returned (.bool (kindB 11 cs)) ∧ Below w.heap.size w w' := by
  have hz := bytesOf_size l
  unfold maxLen at hl
  obtain ⟨u1, u2⟩ := utf_some hu
  have hd := Tryz.utf8_DecodeRuneInString (bytesOf l) w hT
  cases cs with
  | nil =>
    have hn : l = [] := by rw [u1]; simp [writeP]
    subst hn
    have e0 : Lib.decodeGo (bytesOf []) = (65533, 0) := by rfl
    rw [e0] at hd
    obtain ⟨s1, s2⟩ := str_none
    clear u1 u2 hu
    show Calls _ _ _ _ fun e w' => e = .returned (.bool false) ∧ _
    go_enter Tryz.func34, Tryz.ntmps34
    go_wp2_with fail
    refine hd.mono ?_
    rintro e w1 ⟨rfl, hb⟩
    go_wp2
    go_ret
    exact ⟨rfl, hb⟩
  | cons c r =>
    have hc := u2 c (by simp)
    have hcr := isB_range' hc
    have hw : l = Lib.encodeRune c ++ writeP r := by rw [u1]; simp [writeP]
    have hne : l ≠ [] := by rw [hw]; exact enc_ne c _
    have hdl := decL_write c hc (writeP r)
    rw [← hw] at hdl
    have e0 : Lib.decodeGo (bytesOf l) = (c.toNat, (Lib.encodeRune c).length) := by
      unfold Lib.decodeGo
      have := List.length_pos_iff.2 hne
      rw [if_neg (by omega)]
      exact hdl
    rw [e0] at hd
    have hel := encode_len c
    have hll : l.length = (Lib.encodeRune c).length + (writeP r).length := by rw [hw, List.length_append]
    rw [show ((c.toNat : Nat) : Int) = c by omega] at hd
    obtain ⟨s1, s2⟩ := str_some hne
    obtain ⟨k, hk⟩ : ∃ k, (Lib.encodeRune c).length = k := ⟨_, rfl⟩
    rw [hk] at hd hel hll
    cases r with
    | cons d r =>
      have h2 : 0 < (writeP (d :: r)).length := by
        have e : writeP (d :: r) = Lib.encodeRune d ++ writeP r := by simp [writeP]
        rw [e, List.length_append]
        have := encode_len d; omega
      have tn : ((k : Int) != ((bytesOf l).size : Int)) = true := by rw [hz]; simp; omega
      clear u1 u2 hu hw hdl e0 hk
      show Calls _ _ _ _ fun e w' => e = .returned (.bool false) ∧ _
      go_enter Tryz.func34, Tryz.ntmps34
      go_wp2_with fail
      refine hd.mono ?_
      rintro e w1 ⟨rfl, hb⟩
      go_wp2
      go_ret
      exact ⟨rfl, hb⟩
    | nil =>
      have h2 : (writeP []).length = 0 := by simp [writeP]
      have tn : ((k : Int) != ((bytesOf l).size : Int)) = false := by rw [hz]; simp; omega
      clear u1 u2 hu hw hdl e0 hk
      show Calls _ _ _ _ fun e w' => e = .returned (.bool (delimB c)) ∧ _
      have hB := fun w => rn_begins c w
      have hW := fun w => rn_white c w
      have hD := fun w => rn_digit c w
      have hS : beginsB c = false → ∀ w, Calls Tryz.prog 50 #[.string ⟨#[34, 39, 40, 41, 91, 93, 123, 125, 58, 59, 44, 12, 13]⟩, .int .i32 c] w fun e w' => e = .returned (.bool (decide (c ∈ ([34, 39, 40, 41, 91, 93, 123, 125, 58, 59, 44, 12, 13] : List Int)))) ∧ w' = w := by
        intro hb w
        have hlow : c < 128 := by
          unfold beginsB at hb
          rw [hc] at hb
          simp at hb; omega
        have h := Tryz.strings_ContainsRune_ascii (bytesOf oneS) c w hcr.1 hlow
        have h1 := oneS_at ⟨c.toNat, by omega⟩
        have e : ((c.toNat : Nat) : Int) = c := by omega
        simp only [e] at h1
        rw [h1] at h
        exact h
      have hdel : delimB c = (!whiteB c && !beginsB c && !digitB c && !decide (c ∈ ([34, 39, 40, 41, 91, 93, 123, 125, 58, 59, 44, 12, 13] : List Int))) := by
        unfold delimB
        congr 1
        rw [Bool.eq_iff_iff]; simp
      rw [hdel]
      generalize decide (c ∈ ([34, 39, 40, 41, 91, 93, 123, 125, 58, 59, 44, 12, 13] : List Int)) = m at *
      generalize whiteB c = b1 at *
      generalize beginsB c = b2 at *
      generalize digitB c = b3 at *
      clear hdel
      have hun : (undef : Value) = .tuple #[] := rfl
      cases b1 with
      | true =>
        go_enter Tryz.func34, Tryz.ntmps34
        go_wp2_with fail
        refine hd.mono ?_
        rintro e w1 ⟨rfl, hb⟩
        go_wp2_with fail
        refine (hW w1).mono ?_
        rintro e w2 ⟨rfl, rfl⟩
        go_wp2
        go_ret
        exact ⟨rfl, hb⟩
      | false =>
        cases b2 with
        | true =>
          go_enter Tryz.func34, Tryz.ntmps34
          go_wp2_with fail
          refine hd.mono ?_
          rintro e w1 ⟨rfl, hb⟩
          go_wp2_with fail
          refine (hW w1).mono ?_
          rintro e w2 ⟨rfl, rfl⟩
          go_wp2_with fail
          refine (hB w1).mono ?_
          rintro e w2 ⟨rfl, rfl⟩
          go_wp2
          go_ret
          exact ⟨rfl, hb⟩
        | false =>
          have hS2 := hS rfl
          clear hS
          cases b3 with
          | true =>
            go_enter Tryz.func34, Tryz.ntmps34
            go_wp2_with fail
            refine hd.mono ?_
            rintro e w1 ⟨rfl, hb⟩
            go_wp2_with fail
            refine (hW w1).mono ?_
            rintro e w2 ⟨rfl, rfl⟩
            go_wp2_with fail
            refine (hB w1).mono ?_
            rintro e w2 ⟨rfl, rfl⟩
            go_wp2_with fail
            refine (hD w1).mono ?_
            rintro e w2 ⟨rfl, rfl⟩
            go_wp2
            go_ret
            exact ⟨rfl, hb⟩
          | false =>
            go_enter Tryz.func34, Tryz.ntmps34
            go_wp2_with fail
            refine hd.mono ?_
            rintro e w1 ⟨rfl, hb⟩
            go_wp2_with fail
            refine (hW w1).mono ?_
            rintro e w2 ⟨rfl, rfl⟩
            go_wp2_with fail
            refine (hB w1).mono ?_
            rintro e w2 ⟨rfl, rfl⟩
            go_wp2_with fail
            refine (hD w1).mono ?_
            rintro e w2 ⟨rfl, rfl⟩
            go_wp2_with fail
            refine (hS2 w1).mono ?_
            rintro e w2 ⟨rfl, rfl⟩
            go_wp2
            go_ret
            exact ⟨rfl, hb⟩
end Go.Proofs.YtifedkilbpkpaaaGreatDoor
