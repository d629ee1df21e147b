/-
  NARROWER THAN 'FOR EVERY INPUT', by the rows' own cells (each row's printed sentence says how): ShowTexts: laid · ShowQuotes: laid · ShowWords: laid · ShowLengths: laid · ShowJoins: laid.
  DERIVED. THE GIVEN ROWS OF THIS SEAT. 5 by the template 'for every input the law returns true; each argument reads behind the call as it read before'; 0 by the template 'total and deterministic' (their statements: YtdgjlmpnackfaaaDoorTotals.lean).
  GIVEN WITH THE SEED: the statements are not yours to turn. If you find one false, say at which input.
  Laid BY PROGRAM, IN A SANDBOX (cutbox-rows.mjs): the forced cells as the released guide's own fill.sh prints them over the translation 0597c7b0ac015615… (all of the seat's roots in one cut). By AI agents, Wed Nov 11 2026. No macro, syntax, notation, axiom, sorry.
-/
import Derived.Test.YtdgjlmpnackfaaaDoorChecked
import GoSem.PinnedTables
import GoSem.Claim
import GoSem.ClaimJoined
import GoSem.ClaimMapViews
import Derived.JoinedTies
import Derived.KernelRfl
namespace Go.Proofs.YtdgjlmpnackfaaaDoor
/- THE CELL 'sum', in the pinned program and in every row, IS THE sha256 OF THE DUMP (.gsa) THAT YtdgjlmpnackfaaaDoorProg.lean LOADS. Nothing in Lean hashes anything: it is a label: what it is worth is what the hold of that sum in a sandbox is worth. -/
noncomputable def Tryd.pinned : Pinned := { name := "ytdgjlmpnackfaaadoor", sum := "0597c7b0ac0156152bf7aec53b8ff3db4092c304cdcdefceaa78a6730151bf50", checked := Tryd.checked }
namespace Rows
def none {H : Type} : Left H := { results := [], args := [] }

/- WHAT THE LISTED PACKAGE-LEVEL VARIABLES READ AS WHEN THE CALL BEGINS. Each datum BY PROGRAM (the guide's laid-datum.mjs) off the statement by which the dump's own 'gosem.cut.vars' lays the variable. In a bare row this is a premise. The card (YtdgjlmpnackfaaaDoorCards.lean) ties it to the program's text. -/
def laid_unicode_utf8_acceptRanges {H : Type} : DataW H := .agg [.agg [.lit (.int .u8 128), .lit (.int .u8 191)], .agg [.lit (.int .u8 160), .lit (.int .u8 191)], .agg [.lit (.int .u8 128), .lit (.int .u8 159)], .agg [.lit (.int .u8 144), .lit (.int .u8 191)], .agg [.lit (.int .u8 128), .lit (.int .u8 143)], .agg [.lit (.int .u8 0), .lit (.int .u8 0)], .agg [.lit (.int .u8 0), .lit (.int .u8 0)], .agg [.lit (.int .u8 0), .lit (.int .u8 0)], .agg [.lit (.int .u8 0), .lit (.int .u8 0)], .agg [.lit (.int .u8 0), .lit (.int .u8 0)], .agg [.lit (.int .u8 0), .lit (.int .u8 0)], .agg [.lit (.int .u8 0), .lit (.int .u8 0)], .agg [.lit (.int .u8 0), .lit (.int .u8 0)], .agg [.lit (.int .u8 0), .lit (.int .u8 0)], .agg [.lit (.int .u8 0), .lit (.int .u8 0)], .agg [.lit (.int .u8 0), .lit (.int .u8 0)]]
/-- One of Go's own tables, pinned by name: the form's constant. -/
def laid_unicode_utf8_first : DataW Unit := Go.Pinned.utf8First

/-- 'dragomanlaw12.ShowTexts': WHATEVER THE INPUT: true; the input reads as it did. -/
def showTextsSpec : ChangeSpec := { name := "showTexts", fn := fun _ => fun
  | [d1, d2] => { results := [.lit (.bool true)], args := [d1, d2] }
  | _ => none }
def showTextsRow : OpenClaim := { program := "ytdgjlmpnackfaaadoor", sum := "0597c7b0ac0156152bf7aec53b8ff3db4092c304cdcdefceaa78a6730151bf50", func := "dragoman/dragomanlaw12.ShowTexts", spec := "showTexts", inPlace := ["internal/bytealg.CountString", "internal/bytealg.IndexByteString", "internal/bytealg.IndexString", "internal/abi.NoEscape", "internal/bytealg.MakeNoZero"], recurses := true, named := ["internal/bytealg.MaxLen", "unicode/utf8.first", "unicode/utf8.acceptRanges"], apart := false, laid := [("unicode/utf8.acceptRanges", laid_unicode_utf8_acceptRanges), ("unicode/utf8.first", laid_unicode_utf8_first)] }
def ShowTextsSaid : Prop := showTextsRow.holds Tryd.pinned (OpenSpec.ofChange showTextsSpec)

/-- ITS FALSE NEIGHBOUR: 'it returns false'. Refute it at one input. -/
def showTextsWrong : ChangeSpec := { name := "showTexts", fn := fun _ => fun
  | [d1, d2] => { results := [.lit (.bool false)], args := [d1, d2] }
  | _ => none }
def ShowTextsWrongFalsely : Prop := showTextsRow.holds Tryd.pinned (OpenSpec.ofChange showTextsWrong)

/-- 'dragomanlaw12.ShowQuotes': WHATEVER THE INPUT: true; the input reads as it did. -/
def showQuotesSpec : ChangeSpec := { name := "showQuotes", fn := fun _ => fun
  | [d1, d2] => { results := [.lit (.bool true)], args := [d1, d2] }
  | _ => none }
def showQuotesRow : OpenClaim := { program := "ytdgjlmpnackfaaadoor", sum := "0597c7b0ac0156152bf7aec53b8ff3db4092c304cdcdefceaa78a6730151bf50", func := "dragoman/dragomanlaw12.ShowQuotes", spec := "showQuotes", inPlace := ["internal/bytealg.CountString", "internal/bytealg.IndexByteString", "internal/bytealg.IndexString", "internal/abi.NoEscape", "internal/bytealg.MakeNoZero"], recurses := true, named := ["internal/bytealg.MaxLen", "unicode/utf8.first", "unicode/utf8.acceptRanges"], apart := false, laid := [("unicode/utf8.acceptRanges", laid_unicode_utf8_acceptRanges), ("unicode/utf8.first", laid_unicode_utf8_first)] }
def ShowQuotesSaid : Prop := showQuotesRow.holds Tryd.pinned (OpenSpec.ofChange showQuotesSpec)

/-- ITS FALSE NEIGHBOUR: 'it returns false'. Refute it at one input. -/
def showQuotesWrong : ChangeSpec := { name := "showQuotes", fn := fun _ => fun
  | [d1, d2] => { results := [.lit (.bool false)], args := [d1, d2] }
  | _ => none }
def ShowQuotesWrongFalsely : Prop := showQuotesRow.holds Tryd.pinned (OpenSpec.ofChange showQuotesWrong)

/-- 'dragomanlaw12.ShowWords': WHATEVER THE INPUT: true; the input reads as it did. -/
def showWordsSpec : ChangeSpec := { name := "showWords", fn := fun _ => fun
  | [d] => { results := [.lit (.bool true)], args := [d] }
  | _ => none }
def showWordsRow : OpenClaim := { program := "ytdgjlmpnackfaaadoor", sum := "0597c7b0ac0156152bf7aec53b8ff3db4092c304cdcdefceaa78a6730151bf50", func := "dragoman/dragomanlaw12.ShowWords", spec := "showWords", inPlace := ["internal/bytealg.CountString", "internal/bytealg.IndexByteString", "internal/bytealg.IndexString", "internal/abi.NoEscape", "internal/bytealg.MakeNoZero"], recurses := true, named := ["internal/bytealg.MaxLen", "unicode/utf8.first", "unicode/utf8.acceptRanges"], apart := false, laid := [("unicode/utf8.acceptRanges", laid_unicode_utf8_acceptRanges), ("unicode/utf8.first", laid_unicode_utf8_first)] }
def ShowWordsSaid : Prop := showWordsRow.holds Tryd.pinned (OpenSpec.ofChange showWordsSpec)

/-- ITS FALSE NEIGHBOUR: 'it returns false'. Refute it at one input. -/
def showWordsWrong : ChangeSpec := { name := "showWords", fn := fun _ => fun
  | [d] => { results := [.lit (.bool false)], args := [d] }
  | _ => none }
def ShowWordsWrongFalsely : Prop := showWordsRow.holds Tryd.pinned (OpenSpec.ofChange showWordsWrong)

/-- 'dragomanlaw12.ShowLengths': WHATEVER THE INPUT: true; the input reads as it did. -/
def showLengthsSpec : ChangeSpec := { name := "showLengths", fn := fun _ => fun
  | [d1, d2] => { results := [.lit (.bool true)], args := [d1, d2] }
  | _ => none }
def showLengthsRow : OpenClaim := { program := "ytdgjlmpnackfaaadoor", sum := "0597c7b0ac0156152bf7aec53b8ff3db4092c304cdcdefceaa78a6730151bf50", func := "dragoman/dragomanlaw12.ShowLengths", spec := "showLengths", inPlace := ["internal/bytealg.CountString", "internal/bytealg.IndexByteString", "internal/bytealg.IndexString", "internal/abi.NoEscape", "internal/bytealg.MakeNoZero"], recurses := true, named := ["internal/bytealg.MaxLen", "unicode/utf8.first", "unicode/utf8.acceptRanges"], apart := false, laid := [("unicode/utf8.acceptRanges", laid_unicode_utf8_acceptRanges), ("unicode/utf8.first", laid_unicode_utf8_first)] }
def ShowLengthsSaid : Prop := showLengthsRow.holds Tryd.pinned (OpenSpec.ofChange showLengthsSpec)

/-- ITS FALSE NEIGHBOUR: 'it returns false'. Refute it at one input. -/
def showLengthsWrong : ChangeSpec := { name := "showLengths", fn := fun _ => fun
  | [d1, d2] => { results := [.lit (.bool false)], args := [d1, d2] }
  | _ => none }
def ShowLengthsWrongFalsely : Prop := showLengthsRow.holds Tryd.pinned (OpenSpec.ofChange showLengthsWrong)

/-- 'dragomanlaw12.ShowJoins': WHATEVER THE INPUT: true; the input reads as it did. -/
def showJoinsSpec : ChangeSpec := { name := "showJoins", fn := fun _ => fun
  | [d1, d2] => { results := [.lit (.bool true)], args := [d1, d2] }
  | _ => none }
def showJoinsRow : OpenClaim := { program := "ytdgjlmpnackfaaadoor", sum := "0597c7b0ac0156152bf7aec53b8ff3db4092c304cdcdefceaa78a6730151bf50", func := "dragoman/dragomanlaw12.ShowJoins", spec := "showJoins", inPlace := ["internal/bytealg.CountString", "internal/bytealg.IndexByteString", "internal/bytealg.IndexString", "internal/abi.NoEscape", "internal/bytealg.MakeNoZero"], unfollowed := true, recurses := true, named := ["internal/bytealg.MaxLen", "unicode/utf8.first", "unicode/utf8.acceptRanges"], apart := false, laid := [("unicode/utf8.acceptRanges", laid_unicode_utf8_acceptRanges), ("unicode/utf8.first", laid_unicode_utf8_first)] }
def ShowJoinsSaid : Prop := showJoinsRow.holds Tryd.pinned (OpenSpec.ofChange showJoinsSpec)

/-- ITS FALSE NEIGHBOUR: 'it returns false'. Refute it at one input. -/
def showJoinsWrong : ChangeSpec := { name := "showJoins", fn := fun _ => fun
  | [d1, d2] => { results := [.lit (.bool false)], args := [d1, d2] }
  | _ => none }
def ShowJoinsWrongFalsely : Prop := showJoinsRow.holds Tryd.pinned (OpenSpec.ofChange showJoinsWrong)

/- THE SECOND FORM. 'bulk': how many values and letters a reading holds, each counted each time it is reached (what is shared counts as often as it is met; a slice's spare places count too). A statement '..UptoSaid' is the law's where the arguments, and the package variables that the reading takes, are together of bulk at most 1048576: NARROWER than '..Said'. Prove '..Said' where nothing that the law and all that it calls make is longer than what came in: it says more and counts as full. Else prove '..UptoSaid'. A law counts once. -/
mutual
def uptoBulk {H : Type} : DataW H → Nat
  | .lit (.string bytes) => bytes.length + 1
  | .lit _ => 1
  | .nil => 1
  | .ptr d => uptoBulk d + 1
  | .slice elems spare => uptoBulkAll elems + uptoBulkAll spare + 1
  | .agg parts => uptoBulkAll parts + 1
  | .iface _ d => uptoBulk d + 1
  | .map entries => uptoBulkEntries entries + 1
  | .held _ => 1
def uptoBulkAll {H : Type} : List (DataW H) → Nat
  | [] => 0
  | d :: r => uptoBulk d + uptoBulkAll r
def uptoBulkEntries {H : Type} : List (Lit × DataW H) → Nat
  | [] => 0
  | x :: r => uptoBulkEntry x + uptoBulkEntries r
def uptoBulkEntry {H : Type} : Lit × DataW H → Nat
  | (.string bytes, d) => bytes.length + uptoBulk d + 1
  | (_, d) => uptoBulk d + 1
 end
def uptoSmall : (H : Type) → List (DataW H) → Bool := fun _ ds => decide (uptoBulkAll ds ≤ 1048576)
def OpenSpec.upto (s : _root_.Go.ChangeSpec) : _root_.Go.OpenSpec := { _root_.Go.OpenSpec.ofChange s with cond := some uptoSmall }

/-- 'dragomanlaw12.ShowTexts', WHERE WHAT IT READS IS OF BULK AT MOST 1048576: true; the input reads as it did. -/
def showTextsUptoRow : OpenClaim := { program := "ytdgjlmpnackfaaadoor", sum := "0597c7b0ac0156152bf7aec53b8ff3db4092c304cdcdefceaa78a6730151bf50", func := "dragoman/dragomanlaw12.ShowTexts", spec := "showTexts", inPlace := ["internal/bytealg.CountString", "internal/bytealg.IndexByteString", "internal/bytealg.IndexString", "internal/abi.NoEscape", "internal/bytealg.MakeNoZero"], recurses := true, named := ["internal/bytealg.MaxLen", "unicode/utf8.first", "unicode/utf8.acceptRanges"], apart := false, laid := [("unicode/utf8.acceptRanges", laid_unicode_utf8_acceptRanges), ("unicode/utf8.first", laid_unicode_utf8_first)], narrowed := true }
def ShowTextsUptoSaid : Prop := showTextsUptoRow.holds Tryd.pinned (OpenSpec.upto showTextsSpec)

/-- 'dragomanlaw12.ShowQuotes', WHERE WHAT IT READS IS OF BULK AT MOST 1048576: true; the input reads as it did. -/
def showQuotesUptoRow : OpenClaim := { program := "ytdgjlmpnackfaaadoor", sum := "0597c7b0ac0156152bf7aec53b8ff3db4092c304cdcdefceaa78a6730151bf50", func := "dragoman/dragomanlaw12.ShowQuotes", spec := "showQuotes", inPlace := ["internal/bytealg.CountString", "internal/bytealg.IndexByteString", "internal/bytealg.IndexString", "internal/abi.NoEscape", "internal/bytealg.MakeNoZero"], recurses := true, named := ["internal/bytealg.MaxLen", "unicode/utf8.first", "unicode/utf8.acceptRanges"], apart := false, laid := [("unicode/utf8.acceptRanges", laid_unicode_utf8_acceptRanges), ("unicode/utf8.first", laid_unicode_utf8_first)], narrowed := true }
def ShowQuotesUptoSaid : Prop := showQuotesUptoRow.holds Tryd.pinned (OpenSpec.upto showQuotesSpec)

/-- 'dragomanlaw12.ShowWords', WHERE WHAT IT READS IS OF BULK AT MOST 1048576: true; the input reads as it did. -/
def showWordsUptoRow : OpenClaim := { program := "ytdgjlmpnackfaaadoor", sum := "0597c7b0ac0156152bf7aec53b8ff3db4092c304cdcdefceaa78a6730151bf50", func := "dragoman/dragomanlaw12.ShowWords", spec := "showWords", inPlace := ["internal/bytealg.CountString", "internal/bytealg.IndexByteString", "internal/bytealg.IndexString", "internal/abi.NoEscape", "internal/bytealg.MakeNoZero"], recurses := true, named := ["internal/bytealg.MaxLen", "unicode/utf8.first", "unicode/utf8.acceptRanges"], apart := false, laid := [("unicode/utf8.acceptRanges", laid_unicode_utf8_acceptRanges), ("unicode/utf8.first", laid_unicode_utf8_first)], narrowed := true }
def ShowWordsUptoSaid : Prop := showWordsUptoRow.holds Tryd.pinned (OpenSpec.upto showWordsSpec)

/-- 'dragomanlaw12.ShowLengths', WHERE WHAT IT READS IS OF BULK AT MOST 1048576: true; the input reads as it did. -/
def showLengthsUptoRow : OpenClaim := { program := "ytdgjlmpnackfaaadoor", sum := "0597c7b0ac0156152bf7aec53b8ff3db4092c304cdcdefceaa78a6730151bf50", func := "dragoman/dragomanlaw12.ShowLengths", spec := "showLengths", inPlace := ["internal/bytealg.CountString", "internal/bytealg.IndexByteString", "internal/bytealg.IndexString", "internal/abi.NoEscape", "internal/bytealg.MakeNoZero"], recurses := true, named := ["internal/bytealg.MaxLen", "unicode/utf8.first", "unicode/utf8.acceptRanges"], apart := false, laid := [("unicode/utf8.acceptRanges", laid_unicode_utf8_acceptRanges), ("unicode/utf8.first", laid_unicode_utf8_first)], narrowed := true }
def ShowLengthsUptoSaid : Prop := showLengthsUptoRow.holds Tryd.pinned (OpenSpec.upto showLengthsSpec)

/-- 'dragomanlaw12.ShowJoins', WHERE WHAT IT READS IS OF BULK AT MOST 1048576: true; the input reads as it did. -/
def showJoinsUptoRow : OpenClaim := { program := "ytdgjlmpnackfaaadoor", sum := "0597c7b0ac0156152bf7aec53b8ff3db4092c304cdcdefceaa78a6730151bf50", func := "dragoman/dragomanlaw12.ShowJoins", spec := "showJoins", inPlace := ["internal/bytealg.CountString", "internal/bytealg.IndexByteString", "internal/bytealg.IndexString", "internal/abi.NoEscape", "internal/bytealg.MakeNoZero"], unfollowed := true, recurses := true, named := ["internal/bytealg.MaxLen", "unicode/utf8.first", "unicode/utf8.acceptRanges"], apart := false, laid := [("unicode/utf8.acceptRanges", laid_unicode_utf8_acceptRanges), ("unicode/utf8.first", laid_unicode_utf8_first)], narrowed := true }
def ShowJoinsUptoSaid : Prop := showJoinsUptoRow.holds Tryd.pinned (OpenSpec.upto showJoinsSpec)

end Rows
end Go.Proofs.YtdgjlmpnackfaaaDoor
