/-
  No cell of these rows narrows 'for every input' (looked for: loops, veiled, ifaces, maps, wideKeys, modest, calm, conditions, laid).
  DERIVED. THE GIVEN ROWS OF THIS SEAT. 4 by the template 'for every input the law returns true; each argument reads behind the call as it read before'; 0 by the template 'total and deterministic' (their statements: YtpdfcjgehdlheaaTotals.lean).
  GIVEN WITH THE SEED: the statements are not yours to turn. If you find one false, say at which input.
  Laid BY PROGRAM, IN A SANDBOX (cutbox-rows.mjs): the forced cells as the released guide's own fill.sh prints them over the translation 63f07643aed4ab88… (all of the seat's roots in one cut). By AI agents, Wed Nov 11 2026. No macro, syntax, notation, axiom, sorry.
-/
import Derived.Test.YtpdfcjgehdlheaaChecked
import GoSem.Claim
import GoSem.ClaimJoined
import GoSem.ClaimMapViews
import Derived.JoinedTies
import Derived.KernelRfl
namespace Go.Proofs.Ytpdfcjgehdlheaa
/- THE CELL 'sum', in the pinned program and in every row, IS THE sha256 OF THE DUMP (.gsa) THAT YtpdfcjgehdlheaaProg.lean LOADS. Nothing in Lean hashes anything: it is a label: what it is worth is what the hold of that sum in a sandbox is worth. -/
noncomputable def Try.pinned : Pinned := { name := "ytpdfcjgehdlheaa", sum := "63f07643aed4ab885730c0380bfab892f0720e481727dc1610928a776ed9efd3", checked := Try.checked }
namespace Rows
def none {H : Type} : Left H := { results := [], args := [] }

/-- 'dragomanlaw04.ClassReads': WHATEVER THE INPUT: true; the input reads as it did. -/
def classReadsSpec : ChangeSpec := { name := "classReads", fn := fun _ => fun
  | [d] => { results := [.lit (.bool true)], args := [d] }
  | _ => none }
def classReadsRow : OpenClaim := { program := "ytpdfcjgehdlheaa", sum := "63f07643aed4ab885730c0380bfab892f0720e481727dc1610928a776ed9efd3", func := "dragoman/dragomanlaw04.ClassReads", spec := "classReads", inPlace := ["internal/bytealg.IndexByteString"], unfollowed := true, recurses := true, apart := false }
def ClassReadsSaid : Prop := classReadsRow.holds Try.pinned (OpenSpec.ofChange classReadsSpec)

/-- ITS FALSE NEIGHBOUR: 'it returns false'. Refute it at one input. -/
def classReadsWrong : ChangeSpec := { name := "classReads", fn := fun _ => fun
  | [d] => { results := [.lit (.bool false)], args := [d] }
  | _ => none }
def ClassReadsWrongFalsely : Prop := classReadsRow.holds Try.pinned (OpenSpec.ofChange classReadsWrong)

/-- 'dragomanlaw04.ClassSigns': WHATEVER THE INPUT: true; the input reads as it did. -/
def classSignsSpec : ChangeSpec := { name := "classSigns", fn := fun _ => fun
  | [d1, d2] => { results := [.lit (.bool true)], args := [d1, d2] }
  | _ => none }
def classSignsRow : OpenClaim := { program := "ytpdfcjgehdlheaa", sum := "63f07643aed4ab885730c0380bfab892f0720e481727dc1610928a776ed9efd3", func := "dragoman/dragomanlaw04.ClassSigns", spec := "classSigns", inPlace := ["internal/bytealg.IndexByteString"], unfollowed := true, recurses := true, apart := false }
def ClassSignsSaid : Prop := classSignsRow.holds Try.pinned (OpenSpec.ofChange classSignsSpec)

/-- ITS FALSE NEIGHBOUR: 'it returns false'. Refute it at one input. -/
def classSignsWrong : ChangeSpec := { name := "classSigns", fn := fun _ => fun
  | [d1, d2] => { results := [.lit (.bool false)], args := [d1, d2] }
  | _ => none }
def ClassSignsWrongFalsely : Prop := classSignsRow.holds Try.pinned (OpenSpec.ofChange classSignsWrong)

/-- 'dragomanlaw04.ClassNot': WHATEVER THE INPUT: true; the input reads as it did. -/
def classNotSpec : ChangeSpec := { name := "classNot", fn := fun _ => fun
  | [d1, d2, d3] => { results := [.lit (.bool true)], args := [d1, d2, d3] }
  | _ => none }
def classNotRow : OpenClaim := { program := "ytpdfcjgehdlheaa", sum := "63f07643aed4ab885730c0380bfab892f0720e481727dc1610928a776ed9efd3", func := "dragoman/dragomanlaw04.ClassNot", spec := "classNot", inPlace := ["internal/bytealg.IndexByteString"], unfollowed := true, recurses := true, apart := false }
def ClassNotSaid : Prop := classNotRow.holds Try.pinned (OpenSpec.ofChange classNotSpec)

/-- ITS FALSE NEIGHBOUR: 'it returns false'. Refute it at one input. -/
def classNotWrong : ChangeSpec := { name := "classNot", fn := fun _ => fun
  | [d1, d2, d3] => { results := [.lit (.bool false)], args := [d1, d2, d3] }
  | _ => none }
def ClassNotWrongFalsely : Prop := classNotRow.holds Try.pinned (OpenSpec.ofChange classNotWrong)

/-- 'dragomanlaw04.ClassSpans': WHATEVER THE INPUT: true; the input reads as it did. -/
def classSpansSpec : ChangeSpec := { name := "classSpans", fn := fun _ => fun
  | [d1, d2, d3] => { results := [.lit (.bool true)], args := [d1, d2, d3] }
  | _ => none }
def classSpansRow : OpenClaim := { program := "ytpdfcjgehdlheaa", sum := "63f07643aed4ab885730c0380bfab892f0720e481727dc1610928a776ed9efd3", func := "dragoman/dragomanlaw04.ClassSpans", spec := "classSpans", inPlace := ["internal/bytealg.IndexByteString"], unfollowed := true, recurses := true, apart := false }
def ClassSpansSaid : Prop := classSpansRow.holds Try.pinned (OpenSpec.ofChange classSpansSpec)

/-- ITS FALSE NEIGHBOUR: 'it returns false'. Refute it at one input. -/
def classSpansWrong : ChangeSpec := { name := "classSpans", fn := fun _ => fun
  | [d1, d2, d3] => { results := [.lit (.bool false)], args := [d1, d2, d3] }
  | _ => none }
def ClassSpansWrongFalsely : Prop := classSpansRow.holds Try.pinned (OpenSpec.ofChange classSpansWrong)

/- THE SECOND FORM. 'bulk': how many values and letters a reading holds, each counted each time it is reached (what is shared counts as often as it is met; a slice's spare places count too). A statement '..UptoSaid' is the law's where the arguments, and the package variables that the reading takes, are together of bulk at most 1048576: NARROWER than '..Said'. Prove '..Said' where nothing that the law and all that it calls make is longer than what came in: it says more and counts as full. Else prove '..UptoSaid'. A law counts once. -/
mutual
def uptoBulk {H : Type} : DataW H → Nat
  | .lit (.string bytes) => bytes.length + 1
  | .lit _ => 1
  | .nil => 1
  | .ptr d => uptoBulk d + 1
  | .slice elems spare => uptoBulkAll elems + uptoBulkAll spare + 1
  | .agg parts => uptoBulkAll parts + 1
  | .iface _ d => uptoBulk d + 1
  | .map entries => uptoBulkEntries entries + 1
  | .held _ => 1
def uptoBulkAll {H : Type} : List (DataW H) → Nat
  | [] => 0
  | d :: r => uptoBulk d + uptoBulkAll r
def uptoBulkEntries {H : Type} : List (Lit × DataW H) → Nat
  | [] => 0
  | x :: r => uptoBulkEntry x + uptoBulkEntries r
def uptoBulkEntry {H : Type} : Lit × DataW H → Nat
  | (.string bytes, d) => bytes.length + uptoBulk d + 1
  | (_, d) => uptoBulk d + 1
 end
def uptoSmall : (H : Type) → List (DataW H) → Bool := fun _ ds => decide (uptoBulkAll ds ≤ 1048576)
def OpenSpec.upto (s : _root_.Go.ChangeSpec) : _root_.Go.OpenSpec := { _root_.Go.OpenSpec.ofChange s with cond := some uptoSmall }

/-- 'dragomanlaw04.ClassReads', WHERE WHAT IT READS IS OF BULK AT MOST 1048576: true; the input reads as it did. -/
def classReadsUptoRow : OpenClaim := { program := "ytpdfcjgehdlheaa", sum := "63f07643aed4ab885730c0380bfab892f0720e481727dc1610928a776ed9efd3", func := "dragoman/dragomanlaw04.ClassReads", spec := "classReads", inPlace := ["internal/bytealg.IndexByteString"], unfollowed := true, recurses := true, apart := false, narrowed := true }
def ClassReadsUptoSaid : Prop := classReadsUptoRow.holds Try.pinned (OpenSpec.upto classReadsSpec)

/-- 'dragomanlaw04.ClassSigns', WHERE WHAT IT READS IS OF BULK AT MOST 1048576: true; the input reads as it did. -/
def classSignsUptoRow : OpenClaim := { program := "ytpdfcjgehdlheaa", sum := "63f07643aed4ab885730c0380bfab892f0720e481727dc1610928a776ed9efd3", func := "dragoman/dragomanlaw04.ClassSigns", spec := "classSigns", inPlace := ["internal/bytealg.IndexByteString"], unfollowed := true, recurses := true, apart := false, narrowed := true }
def ClassSignsUptoSaid : Prop := classSignsUptoRow.holds Try.pinned (OpenSpec.upto classSignsSpec)

/-- 'dragomanlaw04.ClassNot', WHERE WHAT IT READS IS OF BULK AT MOST 1048576: true; the input reads as it did. -/
def classNotUptoRow : OpenClaim := { program := "ytpdfcjgehdlheaa", sum := "63f07643aed4ab885730c0380bfab892f0720e481727dc1610928a776ed9efd3", func := "dragoman/dragomanlaw04.ClassNot", spec := "classNot", inPlace := ["internal/bytealg.IndexByteString"], unfollowed := true, recurses := true, apart := false, narrowed := true }
def ClassNotUptoSaid : Prop := classNotUptoRow.holds Try.pinned (OpenSpec.upto classNotSpec)

/-- 'dragomanlaw04.ClassSpans', WHERE WHAT IT READS IS OF BULK AT MOST 1048576: true; the input reads as it did. -/
def classSpansUptoRow : OpenClaim := { program := "ytpdfcjgehdlheaa", sum := "63f07643aed4ab885730c0380bfab892f0720e481727dc1610928a776ed9efd3", func := "dragoman/dragomanlaw04.ClassSpans", spec := "classSpans", inPlace := ["internal/bytealg.IndexByteString"], unfollowed := true, recurses := true, apart := false, narrowed := true }
def ClassSpansUptoSaid : Prop := classSpansUptoRow.holds Try.pinned (OpenSpec.upto classSpansSpec)

end Rows
end Go.Proofs.Ytpdfcjgehdlheaa
