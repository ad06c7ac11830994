/- Layer 3: a number, and what belongs to it, is walked. -/
import Derived.Test.YthimfoonalfoeaaDoorB08
import Derived.Test.YthimfoonalfoeaaDoorB09
import Derived.Test.YthimfoonalfoeaaDoorB05
import Derived.Test.YthimfoonalfoeaaDoorB06
import Derived.Laws.Cover4
import Derived.Laws.ResultCell
set_option linter.unusedVariables false
set_option linter.unusedSimpArgs false
namespace Go.Proofs.YthimfoonalfoeaaDoor
open Go.RowKit Rn Tk
/-- the surroundings hold, and lie below the place -/
def EnvP (P : Nat) (w : World) : Prop := ∃ w0, Env w0 ∧ Below w0.heap.size w0 w ∧ w0.heap.size ≤ P
theorem EnvP.env {P : Nat} {w : World} (h : EnvP P w) : Env w := by obtain ⟨w0, h1, h2, _⟩ := h; exact h1.below h2
theorem EnvP.mv {P : Nat} {w w' : World} (h : EnvP P w) (g : Mv P w w') : EnvP P w' := by
  obtain ⟨w0, h1, h2, h3⟩ := h
  exact ⟨w0, h1, h2.grown g h2.size (fun k hk => by injection hk with hk; omega), h3⟩
theorem numB_ascii {c : Int} (h : numB c = true) : 0 ≤ c ∧ c < 128 := by unfold numB at h; simp at h; omega
theorem encode_low {c : Int} (h0 : 0 ≤ c) (h1 : c < 128) : Utf8.encode c = bytesOf [Tk.byteOf c] := by
  have : ∀ k : Fin 128, Utf8.encode (k.val : Int) = bytesOf [Tk.byteOf (k.val : Int)] := by decide +kernel
  have h := this ⟨c.toNat, by omega⟩
  have e : ((c.toNat : Nat) : Int) = c := by omega
  simp only [e] at h; exact h
theorem bytesOf_app (a b : List UInt8) : bytesOf a ++ bytesOf b = bytesOf (a ++ b) := bytesOf_append a b
theorem runes_ascii (ns : List Int) (h : ∀ c ∈ ns, 0 ≤ c ∧ c < 128) : runesBytes ns = bytesOf (ns.map Tk.byteOf) := by
  have key : ∀ (ns : List Int) (p : List UInt8), (∀ c ∈ ns, 0 ≤ c ∧ c < 128) → ns.foldl (fun r n => r ++ Utf8.encode n) (bytesOf p) = bytesOf (p ++ ns.map Tk.byteOf) := by
    intro ns
    induction ns with
    | nil => intro p _; simp
    | cons c ns ih =>
      intro p h
      have hc := h c (by simp)
      rw [List.foldl_cons, encode_low hc.1 hc.2, bytesOf_append, ih _ (fun d hd => h d (by simp [hd]))]
      simp
  exact key ns [] h
/-- string(rs) of characters below 128 -/
theorem run_num {P : Program} {src dst e : TypeId} (hs : P.underlying src = some (.slice e)) (he : P.underlying e = some (.int .i32)) (hd : P.underlying dst = some .string)
    {w : World} {B m : Nat} {A : Option Addr} {ns : List Int} (c : Nat) (hr : Reads w B 1 A m (ns.map r32)) (hn : ∀ c ∈ ns, 0 ≤ c ∧ c < 128) : (convert src dst (.slice A m c)).run P w = .ok (.string (bytesOf (ns.map Tk.byteOf))) w := by
  have hlen : ns.length = m := by simpa using hr.len
  subst hlen
  rcases Nat.eq_zero_or_pos ns.length with h0 | h0
  · have : ns = [] := List.eq_nil_of_length_eq_zero h0
    subst this
    cases A with
    | none => exact run_convert_runes_nil w src dst e 0 c hs he hd
    | some a => exact run_convert_runes w src dst e a 0 c [] (by simp) hs he hd (fun j hj => by simp at hj)
  · obtain ⟨b, off, rfl, _, hc⟩ := hr.open_ h0
    have := run_convert_runes w src dst e ⟨b, off, none⟩ ns.length c ns (Nat.le_refl _) hs he hd (fun j hj => by
      have h1 := hc j (r32 ns[j]) (by simp [List.getElem?_eq_getElem hj])
      have ha : (⟨b, off, none⟩ : Addr).add j = ⟨b, off + j, none⟩ := by unfold Addr.add; split <;> simp_all
      rw [ha, h1]
      simp [r32, List.getD, List.getElem?_eq_getElem hj])
    rw [this, List.take_length, runes_ascii ns hn]
/-- 's[a:b]' of a slice -/
theorem run_mid {P : Program} {T e s : Nat} (ht : P.underlying T = some (.slice e)) (hel : P.elem T = e) (hs : ∀ W, (sizeOf e).run P W = .ok s W) (A : Option Addr) (n c : Nat) (kd : IntKind) (a b : Nat) (hab : a ≤ b) (hb : b ≤ c) (W : World) :
    (Instr.slice T (.slice A n c) (some (.int kd (a : Int))) (some (.int kd (b : Int))) none).run P W = .ok (.slice (cutAt A c a s) (b - a) (c - a)) W := by
  rw [run_slice_lh W T A n c (by rw [hel]; exact ht) kd kd (a : Int) (b : Int) (by omega) (by omega) (by omega), hel, hs]
  simp [sliced, cutAt]
theorem results_tok2 {fn : Func} {p u : Tmp} (h : fn.results = #[.cell p 26, .tmp u]) (tmps : Array Value) (w : World) (g : Nat) (a b c : Value) (hp : tmps.getD p undef = .pointer (some ⟨g, 0, none⟩)) (hr : RowAt w g [a, b, c]) : (results fn tmps).run Tryd.prog w = .ok (.tuple #[.agg #[a, b, c], tmps.getD u undef]) w := by
  obtain ⟨c0, _⟩ := hr.2 0 _ rfl
  obtain ⟨c1, _⟩ := hr.2 1 _ rfl
  obtain ⟨c2, _⟩ := hr.2 2 _ rfl
  have hp' : tmps[p]?.getD undef = .pointer (some ⟨g, 0, none⟩) := by simpa using hp
  simp [results, h, hp', asAddr, go_sem, c0, c1, c2]
theorem take_while_step {p : Int → Bool} {l : List Int} {j : Nat} (hj : j < l.length) : (l.drop j).takeWhile p = if p (pk (l.drop j) 0) = true then pk (l.drop j) 0 :: (l.drop (j + 1)).takeWhile p else [] := by
  rw [List.drop_eq_getElem_cons hj, pk_cons0, List.takeWhile_cons]
theorem nums_ascii (l : List Int) : ∀ c ∈ l.takeWhile numB, 0 ≤ c ∧ c < 128 := by
  intro c hc
  have := List.all_takeWhile (p := numB) (l := l)
  rw [List.all_eq_true] at this
  exact numB_ascii (this c hc)
end Go.Proofs.YthimfoonalfoeaaDoor
