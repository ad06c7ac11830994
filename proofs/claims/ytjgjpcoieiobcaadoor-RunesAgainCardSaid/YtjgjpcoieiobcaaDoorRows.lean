/-
  NARROWER THAN 'FOR EVERY INPUT', by the rows' own cells (each row's printed sentence says how): RunesRead: laid · RunesWrite: laid · RunesBack: laid · RunesLower: laid · RunesAgain: laid · RunesParts: laid · RunesTell: laid.
  DERIVED. THE GIVEN ROWS OF THIS SEAT. 7 by the template 'for every input the law returns true; each argument reads behind the call as it read before'; 0 by the template 'total and deterministic' (their statements: YtjgjpcoieiobcaaDoorTotals.lean).
  GIVEN WITH THE SEED: the statements are not yours to turn. If you find one false, say at which input.
  Laid BY PROGRAM, IN A SANDBOX (cutbox-rows.mjs): the forced cells as the released guide's own fill.sh prints them over the translation 343282bbd722c29a… (all of the seat's roots in one cut). By AI agents, Wed Nov 11 2026. No macro, syntax, notation, axiom, sorry.
-/
import Derived.Test.YtjgjpcoieiobcaaDoorChecked
import GoSem.PinnedTables
import GoSem.Claim
import GoSem.ClaimJoined
import GoSem.ClaimMapViews
import Derived.JoinedTies
import Derived.KernelRfl
namespace Go.Proofs.YtjgjpcoieiobcaaDoor
/- THE CELL 'sum', in the pinned program and in every row, IS THE sha256 OF THE DUMP (.gsa) THAT YtjgjpcoieiobcaaDoorProg.lean LOADS. Nothing in Lean hashes anything: it is a label: what it is worth is what the hold of that sum in a sandbox is worth. -/
noncomputable def Tryd.pinned : Pinned := { name := "ytjgjpcoieiobcaadoor", sum := "343282bbd722c29a7233d08f9ee534c6ab28ecf897db39112faef5c90122a5d8", checked := Tryd.checked }
namespace Rows
def none {H : Type} : Left H := { results := [], args := [] }

/- WHAT THE LISTED PACKAGE-LEVEL VARIABLES READ AS WHEN THE CALL BEGINS. Each datum BY PROGRAM (the guide's laid-datum.mjs) off the statement by which the dump's own 'gosem.cut.vars' lays the variable. In a bare row this is a premise. The card (YtjgjpcoieiobcaaDoorCards.lean) ties it to the program's text. -/
def laid_unicode_utf8_acceptRanges {H : Type} : DataW H := .agg [.agg [.lit (.int .u8 128), .lit (.int .u8 191)], .agg [.lit (.int .u8 160), .lit (.int .u8 191)], .agg [.lit (.int .u8 128), .lit (.int .u8 159)], .agg [.lit (.int .u8 144), .lit (.int .u8 191)], .agg [.lit (.int .u8 128), .lit (.int .u8 143)], .agg [.lit (.int .u8 0), .lit (.int .u8 0)], .agg [.lit (.int .u8 0), .lit (.int .u8 0)], .agg [.lit (.int .u8 0), .lit (.int .u8 0)], .agg [.lit (.int .u8 0), .lit (.int .u8 0)], .agg [.lit (.int .u8 0), .lit (.int .u8 0)], .agg [.lit (.int .u8 0), .lit (.int .u8 0)], .agg [.lit (.int .u8 0), .lit (.int .u8 0)], .agg [.lit (.int .u8 0), .lit (.int .u8 0)], .agg [.lit (.int .u8 0), .lit (.int .u8 0)], .agg [.lit (.int .u8 0), .lit (.int .u8 0)], .agg [.lit (.int .u8 0), .lit (.int .u8 0)]]
/-- One of Go's own tables, pinned by name: the form's constant. -/
def laid_unicode_utf8_first : DataW Unit := Go.Pinned.utf8First

/-- 'broadsidelaw02.RunesRead': WHATEVER THE INPUT: true; the input reads as it did. -/
def runesReadSpec : ChangeSpec := { name := "runesRead", fn := fun _ => fun
  | [d] => { results := [.lit (.bool true)], args := [d] }
  | _ => none }
def runesReadRow : OpenClaim := { program := "ytjgjpcoieiobcaadoor", sum := "343282bbd722c29a7233d08f9ee534c6ab28ecf897db39112faef5c90122a5d8", func := "broadside/broadsidelaw02.RunesRead", spec := "runesRead", inPlace := ["internal/bytealg.IndexByteString"], named := ["unicode/utf8.first", "unicode/utf8.acceptRanges"], apart := false, laid := [("unicode/utf8.acceptRanges", laid_unicode_utf8_acceptRanges), ("unicode/utf8.first", laid_unicode_utf8_first)] }
def RunesReadSaid : Prop := runesReadRow.holds Tryd.pinned (OpenSpec.ofChange runesReadSpec)

/-- ITS FALSE NEIGHBOUR: 'it returns false'. Refute it at one input. -/
def runesReadWrong : ChangeSpec := { name := "runesRead", fn := fun _ => fun
  | [d] => { results := [.lit (.bool false)], args := [d] }
  | _ => none }
def RunesReadWrongFalsely : Prop := runesReadRow.holds Tryd.pinned (OpenSpec.ofChange runesReadWrong)

/-- 'broadsidelaw02.RunesWrite': WHATEVER THE INPUT: true; the input reads as it did. -/
def runesWriteSpec : ChangeSpec := { name := "runesWrite", fn := fun _ => fun
  | [d] => { results := [.lit (.bool true)], args := [d] }
  | _ => none }
def runesWriteRow : OpenClaim := { program := "ytjgjpcoieiobcaadoor", sum := "343282bbd722c29a7233d08f9ee534c6ab28ecf897db39112faef5c90122a5d8", func := "broadside/broadsidelaw02.RunesWrite", spec := "runesWrite", inPlace := ["internal/bytealg.IndexByteString"], named := ["unicode/utf8.first", "unicode/utf8.acceptRanges"], apart := false, laid := [("unicode/utf8.acceptRanges", laid_unicode_utf8_acceptRanges), ("unicode/utf8.first", laid_unicode_utf8_first)] }
def RunesWriteSaid : Prop := runesWriteRow.holds Tryd.pinned (OpenSpec.ofChange runesWriteSpec)

/-- ITS FALSE NEIGHBOUR: 'it returns false'. Refute it at one input. -/
def runesWriteWrong : ChangeSpec := { name := "runesWrite", fn := fun _ => fun
  | [d] => { results := [.lit (.bool false)], args := [d] }
  | _ => none }
def RunesWriteWrongFalsely : Prop := runesWriteRow.holds Tryd.pinned (OpenSpec.ofChange runesWriteWrong)

/-- 'broadsidelaw02.RunesBack': WHATEVER THE INPUT: true; the input reads as it did. -/
def runesBackSpec : ChangeSpec := { name := "runesBack", fn := fun _ => fun
  | [d] => { results := [.lit (.bool true)], args := [d] }
  | _ => none }
def runesBackRow : OpenClaim := { program := "ytjgjpcoieiobcaadoor", sum := "343282bbd722c29a7233d08f9ee534c6ab28ecf897db39112faef5c90122a5d8", func := "broadside/broadsidelaw02.RunesBack", spec := "runesBack", inPlace := ["internal/bytealg.IndexByteString"], named := ["unicode/utf8.first", "unicode/utf8.acceptRanges"], apart := false, laid := [("unicode/utf8.acceptRanges", laid_unicode_utf8_acceptRanges), ("unicode/utf8.first", laid_unicode_utf8_first)] }
def RunesBackSaid : Prop := runesBackRow.holds Tryd.pinned (OpenSpec.ofChange runesBackSpec)

/-- ITS FALSE NEIGHBOUR: 'it returns false'. Refute it at one input. -/
def runesBackWrong : ChangeSpec := { name := "runesBack", fn := fun _ => fun
  | [d] => { results := [.lit (.bool false)], args := [d] }
  | _ => none }
def RunesBackWrongFalsely : Prop := runesBackRow.holds Tryd.pinned (OpenSpec.ofChange runesBackWrong)

/-- 'broadsidelaw02.RunesLower': WHATEVER THE INPUT: true; the input reads as it did. -/
def runesLowerSpec : ChangeSpec := { name := "runesLower", fn := fun _ => fun
  | [d] => { results := [.lit (.bool true)], args := [d] }
  | _ => none }
def runesLowerRow : OpenClaim := { program := "ytjgjpcoieiobcaadoor", sum := "343282bbd722c29a7233d08f9ee534c6ab28ecf897db39112faef5c90122a5d8", func := "broadside/broadsidelaw02.RunesLower", spec := "runesLower", inPlace := ["internal/bytealg.IndexByteString"], named := ["unicode/utf8.first", "unicode/utf8.acceptRanges"], apart := false, laid := [("unicode/utf8.acceptRanges", laid_unicode_utf8_acceptRanges), ("unicode/utf8.first", laid_unicode_utf8_first)] }
def RunesLowerSaid : Prop := runesLowerRow.holds Tryd.pinned (OpenSpec.ofChange runesLowerSpec)

/-- ITS FALSE NEIGHBOUR: 'it returns false'. Refute it at one input. -/
def runesLowerWrong : ChangeSpec := { name := "runesLower", fn := fun _ => fun
  | [d] => { results := [.lit (.bool false)], args := [d] }
  | _ => none }
def RunesLowerWrongFalsely : Prop := runesLowerRow.holds Tryd.pinned (OpenSpec.ofChange runesLowerWrong)

/-- 'broadsidelaw02.RunesAgain': WHATEVER THE INPUT: true; the input reads as it did. -/
def runesAgainSpec : ChangeSpec := { name := "runesAgain", fn := fun _ => fun
  | [d] => { results := [.lit (.bool true)], args := [d] }
  | _ => none }
def runesAgainRow : OpenClaim := { program := "ytjgjpcoieiobcaadoor", sum := "343282bbd722c29a7233d08f9ee534c6ab28ecf897db39112faef5c90122a5d8", func := "broadside/broadsidelaw02.RunesAgain", spec := "runesAgain", inPlace := ["internal/bytealg.IndexByteString"], named := ["unicode/utf8.first", "unicode/utf8.acceptRanges"], apart := false, laid := [("unicode/utf8.acceptRanges", laid_unicode_utf8_acceptRanges), ("unicode/utf8.first", laid_unicode_utf8_first)] }
def RunesAgainSaid : Prop := runesAgainRow.holds Tryd.pinned (OpenSpec.ofChange runesAgainSpec)

/-- ITS FALSE NEIGHBOUR: 'it returns false'. Refute it at one input. -/
def runesAgainWrong : ChangeSpec := { name := "runesAgain", fn := fun _ => fun
  | [d] => { results := [.lit (.bool false)], args := [d] }
  | _ => none }
def RunesAgainWrongFalsely : Prop := runesAgainRow.holds Tryd.pinned (OpenSpec.ofChange runesAgainWrong)

/-- 'broadsidelaw02.RunesParts': WHATEVER THE INPUT: true; the input reads as it did. -/
def runesPartsSpec : ChangeSpec := { name := "runesParts", fn := fun _ => fun
  | [d1, d2] => { results := [.lit (.bool true)], args := [d1, d2] }
  | _ => none }
def runesPartsRow : OpenClaim := { program := "ytjgjpcoieiobcaadoor", sum := "343282bbd722c29a7233d08f9ee534c6ab28ecf897db39112faef5c90122a5d8", func := "broadside/broadsidelaw02.RunesParts", spec := "runesParts", inPlace := ["internal/bytealg.IndexByteString"], named := ["unicode/utf8.first", "unicode/utf8.acceptRanges"], apart := false, laid := [("unicode/utf8.acceptRanges", laid_unicode_utf8_acceptRanges), ("unicode/utf8.first", laid_unicode_utf8_first)] }
def RunesPartsSaid : Prop := runesPartsRow.holds Tryd.pinned (OpenSpec.ofChange runesPartsSpec)

/-- ITS FALSE NEIGHBOUR: 'it returns false'. Refute it at one input. -/
def runesPartsWrong : ChangeSpec := { name := "runesParts", fn := fun _ => fun
  | [d1, d2] => { results := [.lit (.bool false)], args := [d1, d2] }
  | _ => none }
def RunesPartsWrongFalsely : Prop := runesPartsRow.holds Tryd.pinned (OpenSpec.ofChange runesPartsWrong)

/-- 'broadsidelaw02.RunesTell': WHATEVER THE INPUT: true; the input reads as it did. -/
def runesTellSpec : ChangeSpec := { name := "runesTell", fn := fun _ => fun
  | [d] => { results := [.lit (.bool true)], args := [d] }
  | _ => none }
def runesTellRow : OpenClaim := { program := "ytjgjpcoieiobcaadoor", sum := "343282bbd722c29a7233d08f9ee534c6ab28ecf897db39112faef5c90122a5d8", func := "broadside/broadsidelaw02.RunesTell", spec := "runesTell", inPlace := ["internal/bytealg.IndexByteString"], named := ["unicode/utf8.first", "unicode/utf8.acceptRanges"], apart := false, laid := [("unicode/utf8.acceptRanges", laid_unicode_utf8_acceptRanges), ("unicode/utf8.first", laid_unicode_utf8_first)] }
def RunesTellSaid : Prop := runesTellRow.holds Tryd.pinned (OpenSpec.ofChange runesTellSpec)

/-- ITS FALSE NEIGHBOUR: 'it returns false'. Refute it at one input. -/
def runesTellWrong : ChangeSpec := { name := "runesTell", fn := fun _ => fun
  | [d] => { results := [.lit (.bool false)], args := [d] }
  | _ => none }
def RunesTellWrongFalsely : Prop := runesTellRow.holds Tryd.pinned (OpenSpec.ofChange runesTellWrong)

/- THE SECOND FORM. 'bulk': how many values and letters a reading holds, each counted each time it is reached (what is shared counts as often as it is met; a slice's spare places count too). A statement '..UptoSaid' is the law's where the arguments, and the package variables that the reading takes, are together of bulk at most 1048576: NARROWER than '..Said'. Prove '..Said' where nothing that the law and all that it calls make is longer than what came in: it says more and counts as full. Else prove '..UptoSaid'. A law counts once. -/
mutual
def uptoBulk {H : Type} : DataW H → Nat
  | .lit (.string bytes) => bytes.length + 1
  | .lit _ => 1
  | .nil => 1
  | .ptr d => uptoBulk d + 1
  | .slice elems spare => uptoBulkAll elems + uptoBulkAll spare + 1
  | .agg parts => uptoBulkAll parts + 1
  | .iface _ d => uptoBulk d + 1
  | .map entries => uptoBulkEntries entries + 1
  | .held _ => 1
def uptoBulkAll {H : Type} : List (DataW H) → Nat
  | [] => 0
  | d :: r => uptoBulk d + uptoBulkAll r
def uptoBulkEntries {H : Type} : List (Lit × DataW H) → Nat
  | [] => 0
  | x :: r => uptoBulkEntry x + uptoBulkEntries r
def uptoBulkEntry {H : Type} : Lit × DataW H → Nat
  | (.string bytes, d) => bytes.length + uptoBulk d + 1
  | (_, d) => uptoBulk d + 1
 end
def uptoSmall : (H : Type) → List (DataW H) → Bool := fun _ ds => decide (uptoBulkAll ds ≤ 1048576)
def OpenSpec.upto (s : _root_.Go.ChangeSpec) : _root_.Go.OpenSpec := { _root_.Go.OpenSpec.ofChange s with cond := some uptoSmall }

/-- 'broadsidelaw02.RunesRead', WHERE WHAT IT READS IS OF BULK AT MOST 1048576: true; the input reads as it did. -/
def runesReadUptoRow : OpenClaim := { program := "ytjgjpcoieiobcaadoor", sum := "343282bbd722c29a7233d08f9ee534c6ab28ecf897db39112faef5c90122a5d8", func := "broadside/broadsidelaw02.RunesRead", spec := "runesRead", inPlace := ["internal/bytealg.IndexByteString"], named := ["unicode/utf8.first", "unicode/utf8.acceptRanges"], apart := false, laid := [("unicode/utf8.acceptRanges", laid_unicode_utf8_acceptRanges), ("unicode/utf8.first", laid_unicode_utf8_first)], narrowed := true }
def RunesReadUptoSaid : Prop := runesReadUptoRow.holds Tryd.pinned (OpenSpec.upto runesReadSpec)

/-- 'broadsidelaw02.RunesWrite', WHERE WHAT IT READS IS OF BULK AT MOST 1048576: true; the input reads as it did. -/
def runesWriteUptoRow : OpenClaim := { program := "ytjgjpcoieiobcaadoor", sum := "343282bbd722c29a7233d08f9ee534c6ab28ecf897db39112faef5c90122a5d8", func := "broadside/broadsidelaw02.RunesWrite", spec := "runesWrite", inPlace := ["internal/bytealg.IndexByteString"], named := ["unicode/utf8.first", "unicode/utf8.acceptRanges"], apart := false, laid := [("unicode/utf8.acceptRanges", laid_unicode_utf8_acceptRanges), ("unicode/utf8.first", laid_unicode_utf8_first)], narrowed := true }
def RunesWriteUptoSaid : Prop := runesWriteUptoRow.holds Tryd.pinned (OpenSpec.upto runesWriteSpec)

/-- 'broadsidelaw02.RunesBack', WHERE WHAT IT READS IS OF BULK AT MOST 1048576: true; the input reads as it did. -/
def runesBackUptoRow : OpenClaim := { program := "ytjgjpcoieiobcaadoor", sum := "343282bbd722c29a7233d08f9ee534c6ab28ecf897db39112faef5c90122a5d8", func := "broadside/broadsidelaw02.RunesBack", spec := "runesBack", inPlace := ["internal/bytealg.IndexByteString"], named := ["unicode/utf8.first", "unicode/utf8.acceptRanges"], apart := false, laid := [("unicode/utf8.acceptRanges", laid_unicode_utf8_acceptRanges), ("unicode/utf8.first", laid_unicode_utf8_first)], narrowed := true }
def RunesBackUptoSaid : Prop := runesBackUptoRow.holds Tryd.pinned (OpenSpec.upto runesBackSpec)

/-- 'broadsidelaw02.RunesLower', WHERE WHAT IT READS IS OF BULK AT MOST 1048576: true; the input reads as it did. -/
def runesLowerUptoRow : OpenClaim := { program := "ytjgjpcoieiobcaadoor", sum := "343282bbd722c29a7233d08f9ee534c6ab28ecf897db39112faef5c90122a5d8", func := "broadside/broadsidelaw02.RunesLower", spec := "runesLower", inPlace := ["internal/bytealg.IndexByteString"], named := ["unicode/utf8.first", "unicode/utf8.acceptRanges"], apart := false, laid := [("unicode/utf8.acceptRanges", laid_unicode_utf8_acceptRanges), ("unicode/utf8.first", laid_unicode_utf8_first)], narrowed := true }
def RunesLowerUptoSaid : Prop := runesLowerUptoRow.holds Tryd.pinned (OpenSpec.upto runesLowerSpec)

/-- 'broadsidelaw02.RunesAgain', WHERE WHAT IT READS IS OF BULK AT MOST 1048576: true; the input reads as it did. -/
def runesAgainUptoRow : OpenClaim := { program := "ytjgjpcoieiobcaadoor", sum := "343282bbd722c29a7233d08f9ee534c6ab28ecf897db39112faef5c90122a5d8", func := "broadside/broadsidelaw02.RunesAgain", spec := "runesAgain", inPlace := ["internal/bytealg.IndexByteString"], named := ["unicode/utf8.first", "unicode/utf8.acceptRanges"], apart := false, laid := [("unicode/utf8.acceptRanges", laid_unicode_utf8_acceptRanges), ("unicode/utf8.first", laid_unicode_utf8_first)], narrowed := true }
def RunesAgainUptoSaid : Prop := runesAgainUptoRow.holds Tryd.pinned (OpenSpec.upto runesAgainSpec)

/-- 'broadsidelaw02.RunesParts', WHERE WHAT IT READS IS OF BULK AT MOST 1048576: true; the input reads as it did. -/
def runesPartsUptoRow : OpenClaim := { program := "ytjgjpcoieiobcaadoor", sum := "343282bbd722c29a7233d08f9ee534c6ab28ecf897db39112faef5c90122a5d8", func := "broadside/broadsidelaw02.RunesParts", spec := "runesParts", inPlace := ["internal/bytealg.IndexByteString"], named := ["unicode/utf8.first", "unicode/utf8.acceptRanges"], apart := false, laid := [("unicode/utf8.acceptRanges", laid_unicode_utf8_acceptRanges), ("unicode/utf8.first", laid_unicode_utf8_first)], narrowed := true }
def RunesPartsUptoSaid : Prop := runesPartsUptoRow.holds Tryd.pinned (OpenSpec.upto runesPartsSpec)

/-- 'broadsidelaw02.RunesTell', WHERE WHAT IT READS IS OF BULK AT MOST 1048576: true; the input reads as it did. -/
def runesTellUptoRow : OpenClaim := { program := "ytjgjpcoieiobcaadoor", sum := "343282bbd722c29a7233d08f9ee534c6ab28ecf897db39112faef5c90122a5d8", func := "broadside/broadsidelaw02.RunesTell", spec := "runesTell", inPlace := ["internal/bytealg.IndexByteString"], named := ["unicode/utf8.first", "unicode/utf8.acceptRanges"], apart := false, laid := [("unicode/utf8.acceptRanges", laid_unicode_utf8_acceptRanges), ("unicode/utf8.first", laid_unicode_utf8_first)], narrowed := true }
def RunesTellUptoSaid : Prop := runesTellUptoRow.holds Tryd.pinned (OpenSpec.upto runesTellSpec)

end Rows
end Go.Proofs.YtjgjpcoieiobcaaDoor
