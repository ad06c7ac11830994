/- Layer 6: what is parsed of a sheet is no longer than the sheet. Plain laws. -/
import Derived.Test.YtfhdihdafmahgaaGreatDoorV37
import Derived.Test.YtfhdihdafmahgaaGreatDoorV36
import Derived.Test.YtfhdihdafmahgaaGreatDoorV19
import Derived.Test.YtfhdihdafmahgaaGreatDoorV25
/- Layer 6, the document: block is walked. -/
set_option linter.unusedVariables false
set_option linter.unusedSimpArgs false
namespace Go.Proofs.YtfhdihdafmahgaaGreatDoor
open Go.RowKit Rn Tp Ru
/-- tokens, and where brackets end -/
structure Doc (w : World) (l : List GTok) (A : Option Addr) (n c : Nat) (A' : Option Addr) : Prop where
  tk : ReadsS w (· < w.heap.size) 3 A n (cellsG l)
  en : EndsS w (· < w.heap.size) A' n l
  hn : n ≤ 1000000
  hc : n ≤ c
  sm : ∀ t ∈ l, smallT t
theorem Doc.below {w w' : World} {l : List GTok} {A : Option Addr} {n c : Nat} {A' : Option Addr} (h : Doc w l A n c A') (hb : Below w.heap.size w w') : Doc w' l A n c A' :=
  ⟨h.tk.below hb, h.en.below hb, h.hn, h.hc, h.sm⟩
end Go.Proofs.YtfhdihdafmahgaaGreatDoor
/- Layer 6, the document: Parse is walked: it answers what the program's answers. -/
set_option linter.unusedVariables false
set_option linter.unusedSimpArgs false
namespace Go.Proofs.YtfhdihdafmahgaaGreatDoor
open Go.RowKit Rn Tp Ru
end Go.Proofs.YtfhdihdafmahgaaGreatDoor
set_option linter.unusedVariables false
set_option linter.unusedSimpArgs false
namespace Go.Proofs.YtfhdihdafmahgaaGreatDoor
open Go.RowKit Rn Tp Ru
/-- what Parse hands back: the rules, and why not -/
def Ru.parseOut (n0 : Nat) (T : List Tk.Tok) : List Rule × Int :=
  if 65536 < n0 ∨ 16384 < T.length then ([], 2) else if (parseT (T.map Tk.Tok.g)).1 = 0 then ((parseT (T.map Tk.Tok.g)).2, 0) else ([], (parseT (T.map Tk.Tok.g)).1)
theorem RulesS.nil_ {w : World} {S : Nat → Prop} {A : Option Addr} : RulesS w S A 0 [] := ⟨[], rfl, ReadsS.nil, fun x hx => by cases hx⟩
theorem ParseRet.out {n0 : Nat} {T : List Tk.Tok} {w : World} {e : Ending} {w' : World} (h : ParseRet n0 T w e w') :
    Below w.heap.size w w' ∧ ∃ A c, e = .returned (.tuple #[.slice A (parseOut n0 T).1.length c, .int .i64 (parseOut n0 T).2]) ∧ RulesS w' (Fresh w w') A (parseOut n0 T).1.length (parseOut n0 T).1 := by
  obtain ⟨hb, h⟩ := h
  refine ⟨hb, ?_⟩
  unfold parseOut
  split at h
  · rename_i h1
    rw [if_pos h1]
    exact ⟨none, 0, h, RulesS.nil_⟩
  · rename_i h1
    rw [if_neg h1]
    split at h
    · rename_i h2
      rw [if_pos h2]
      exact h
    · rename_i h2
      rw [if_neg h2]
      exact ⟨none, 0, h, RulesS.nil_⟩
end Go.Proofs.YtfhdihdafmahgaaGreatDoor
