/-
  No cell of these rows narrows 'for every input' (looked for: loops, veiled, ifaces, maps, wideKeys, modest, calm, conditions, laid).
  DERIVED. THE GIVEN ROWS OF THIS SEAT. 6 by the template 'for every input the law returns true; each argument reads behind the call as it read before'; 0 by the template 'total and deterministic' (their statements: YtghchmemjjpcbaaTotals.lean).
  GIVEN WITH THE SEED: the statements are not yours to turn. If you find one false, say at which input.
  Laid BY PROGRAM, IN A SANDBOX (cutbox-rows.mjs): the forced cells as the released guide's own fill.sh prints them over the translation 9512842df878ca26… (all of the seat's roots in one cut). By AI agents, Wed Nov 11 2026. No macro, syntax, notation, axiom, sorry.
-/
import Derived.Test.YtghchmemjjpcbaaChecked
import GoSem.Claim
import GoSem.ClaimJoined
import GoSem.ClaimMapViews
import Derived.JoinedTies
import Derived.KernelRfl
namespace Go.Proofs.Ytghchmemjjpcbaa
/- THE CELL 'sum', in the pinned program and in every row, IS THE sha256 OF THE DUMP (.gsa) THAT YtghchmemjjpcbaaProg.lean LOADS. Nothing in Lean hashes anything: it is a label: what it is worth is what the hold of that sum in a sandbox is worth. -/
noncomputable def Try.pinned : Pinned := { name := "ytghchmemjjpcbaa", sum := "9512842df878ca26c78c34efcb9c55185fd34df246a5845fa2f2b006337bee08", checked := Try.checked }
namespace Rows
def none {H : Type} : Left H := { results := [], args := [] }

/-- 'dragomanlaw05.RegexReads': WHATEVER THE INPUT: true; the input reads as it did. -/
def regexReadsSpec : ChangeSpec := { name := "regexReads", fn := fun _ => fun
  | [d] => { results := [.lit (.bool true)], args := [d] }
  | _ => none }
def regexReadsRow : OpenClaim := { program := "ytghchmemjjpcbaa", sum := "9512842df878ca26c78c34efcb9c55185fd34df246a5845fa2f2b006337bee08", func := "dragoman/dragomanlaw05.RegexReads", spec := "regexReads", inPlace := ["internal/bytealg.IndexByteString"], unfollowed := true, recurses := true, apart := false }
def RegexReadsSaid : Prop := regexReadsRow.holds Try.pinned (OpenSpec.ofChange regexReadsSpec)

/-- ITS FALSE NEIGHBOUR: 'it returns false'. Refute it at one input. -/
def regexReadsWrong : ChangeSpec := { name := "regexReads", fn := fun _ => fun
  | [d] => { results := [.lit (.bool false)], args := [d] }
  | _ => none }
def RegexReadsWrongFalsely : Prop := regexReadsRow.holds Try.pinned (OpenSpec.ofChange regexReadsWrong)

/-- 'dragomanlaw05.RegexBack': WHATEVER THE INPUT: true; the input reads as it did. -/
def regexBackSpec : ChangeSpec := { name := "regexBack", fn := fun _ => fun
  | [d] => { results := [.lit (.bool true)], args := [d] }
  | _ => none }
def regexBackRow : OpenClaim := { program := "ytghchmemjjpcbaa", sum := "9512842df878ca26c78c34efcb9c55185fd34df246a5845fa2f2b006337bee08", func := "dragoman/dragomanlaw05.RegexBack", spec := "regexBack", inPlace := ["internal/bytealg.IndexByteString"], unfollowed := true, recurses := true, apart := false }
def RegexBackSaid : Prop := regexBackRow.holds Try.pinned (OpenSpec.ofChange regexBackSpec)

/-- ITS FALSE NEIGHBOUR: 'it returns false'. Refute it at one input. -/
def regexBackWrong : ChangeSpec := { name := "regexBack", fn := fun _ => fun
  | [d] => { results := [.lit (.bool false)], args := [d] }
  | _ => none }
def RegexBackWrongFalsely : Prop := regexBackRow.holds Try.pinned (OpenSpec.ofChange regexBackWrong)

/-- 'dragomanlaw05.RegexWraps': WHATEVER THE INPUT: true; the input reads as it did. -/
def regexWrapsSpec : ChangeSpec := { name := "regexWraps", fn := fun _ => fun
  | [d1, d2] => { results := [.lit (.bool true)], args := [d1, d2] }
  | _ => none }
def regexWrapsRow : OpenClaim := { program := "ytghchmemjjpcbaa", sum := "9512842df878ca26c78c34efcb9c55185fd34df246a5845fa2f2b006337bee08", func := "dragoman/dragomanlaw05.RegexWraps", spec := "regexWraps", inPlace := ["internal/bytealg.IndexByteString"], unfollowed := true, recurses := true, apart := false }
def RegexWrapsSaid : Prop := regexWrapsRow.holds Try.pinned (OpenSpec.ofChange regexWrapsSpec)

/-- ITS FALSE NEIGHBOUR: 'it returns false'. Refute it at one input. -/
def regexWrapsWrong : ChangeSpec := { name := "regexWraps", fn := fun _ => fun
  | [d1, d2] => { results := [.lit (.bool false)], args := [d1, d2] }
  | _ => none }
def RegexWrapsWrongFalsely : Prop := regexWrapsRow.holds Try.pinned (OpenSpec.ofChange regexWrapsWrong)

/-- 'dragomanlaw05.RegexSigns': WHATEVER THE INPUT: true; the input reads as it did. -/
def regexSignsSpec : ChangeSpec := { name := "regexSigns", fn := fun _ => fun
  | [d] => { results := [.lit (.bool true)], args := [d] }
  | _ => none }
def regexSignsRow : OpenClaim := { program := "ytghchmemjjpcbaa", sum := "9512842df878ca26c78c34efcb9c55185fd34df246a5845fa2f2b006337bee08", func := "dragoman/dragomanlaw05.RegexSigns", spec := "regexSigns", inPlace := ["internal/bytealg.IndexByteString"], unfollowed := true, recurses := true, apart := false }
def RegexSignsSaid : Prop := regexSignsRow.holds Try.pinned (OpenSpec.ofChange regexSignsSpec)

/-- ITS FALSE NEIGHBOUR: 'it returns false'. Refute it at one input. -/
def regexSignsWrong : ChangeSpec := { name := "regexSigns", fn := fun _ => fun
  | [d] => { results := [.lit (.bool false)], args := [d] }
  | _ => none }
def RegexSignsWrongFalsely : Prop := regexSignsRow.holds Try.pinned (OpenSpec.ofChange regexSignsWrong)

/-- 'dragomanlaw05.RegexJoins': WHATEVER THE INPUT: true; the input reads as it did. -/
def regexJoinsSpec : ChangeSpec := { name := "regexJoins", fn := fun _ => fun
  | [d1, d2, d3] => { results := [.lit (.bool true)], args := [d1, d2, d3] }
  | _ => none }
def regexJoinsRow : OpenClaim := { program := "ytghchmemjjpcbaa", sum := "9512842df878ca26c78c34efcb9c55185fd34df246a5845fa2f2b006337bee08", func := "dragoman/dragomanlaw05.RegexJoins", spec := "regexJoins", inPlace := ["internal/bytealg.IndexByteString"], unfollowed := true, recurses := true, apart := false }
def RegexJoinsSaid : Prop := regexJoinsRow.holds Try.pinned (OpenSpec.ofChange regexJoinsSpec)

/-- ITS FALSE NEIGHBOUR: 'it returns false'. Refute it at one input. -/
def regexJoinsWrong : ChangeSpec := { name := "regexJoins", fn := fun _ => fun
  | [d1, d2, d3] => { results := [.lit (.bool false)], args := [d1, d2, d3] }
  | _ => none }
def RegexJoinsWrongFalsely : Prop := regexJoinsRow.holds Try.pinned (OpenSpec.ofChange regexJoinsWrong)

/-- 'dragomanlaw05.RegexTrees': WHATEVER THE INPUT: true; the input reads as it did. -/
def regexTreesSpec : ChangeSpec := { name := "regexTrees", fn := fun _ => fun
  | [d] => { results := [.lit (.bool true)], args := [d] }
  | _ => none }
def regexTreesRow : OpenClaim := { program := "ytghchmemjjpcbaa", sum := "9512842df878ca26c78c34efcb9c55185fd34df246a5845fa2f2b006337bee08", func := "dragoman/dragomanlaw05.RegexTrees", spec := "regexTrees", inPlace := ["internal/bytealg.IndexByteString"], unfollowed := true, recurses := true, apart := false }
def RegexTreesSaid : Prop := regexTreesRow.holds Try.pinned (OpenSpec.ofChange regexTreesSpec)

/-- ITS FALSE NEIGHBOUR: 'it returns false'. Refute it at one input. -/
def regexTreesWrong : ChangeSpec := { name := "regexTrees", fn := fun _ => fun
  | [d] => { results := [.lit (.bool false)], args := [d] }
  | _ => none }
def RegexTreesWrongFalsely : Prop := regexTreesRow.holds Try.pinned (OpenSpec.ofChange regexTreesWrong)

/- THE SECOND FORM. 'bulk': how many values and letters a reading holds, each counted each time it is reached (what is shared counts as often as it is met; a slice's spare places count too). A statement '..UptoSaid' is the law's where the arguments, and the package variables that the reading takes, are together of bulk at most 1048576: NARROWER than '..Said'. Prove '..Said' where nothing that the law and all that it calls make is longer than what came in: it says more and counts as full. Else prove '..UptoSaid'. A law counts once. -/
mutual
def uptoBulk {H : Type} : DataW H → Nat
  | .lit (.string bytes) => bytes.length + 1
  | .lit _ => 1
  | .nil => 1
  | .ptr d => uptoBulk d + 1
  | .slice elems spare => uptoBulkAll elems + uptoBulkAll spare + 1
  | .agg parts => uptoBulkAll parts + 1
  | .iface _ d => uptoBulk d + 1
  | .map entries => uptoBulkEntries entries + 1
  | .held _ => 1
def uptoBulkAll {H : Type} : List (DataW H) → Nat
  | [] => 0
  | d :: r => uptoBulk d + uptoBulkAll r
def uptoBulkEntries {H : Type} : List (Lit × DataW H) → Nat
  | [] => 0
  | x :: r => uptoBulkEntry x + uptoBulkEntries r
def uptoBulkEntry {H : Type} : Lit × DataW H → Nat
  | (.string bytes, d) => bytes.length + uptoBulk d + 1
  | (_, d) => uptoBulk d + 1
 end
def uptoSmall : (H : Type) → List (DataW H) → Bool := fun _ ds => decide (uptoBulkAll ds ≤ 1048576)
def OpenSpec.upto (s : _root_.Go.ChangeSpec) : _root_.Go.OpenSpec := { _root_.Go.OpenSpec.ofChange s with cond := some uptoSmall }

/-- 'dragomanlaw05.RegexReads', WHERE WHAT IT READS IS OF BULK AT MOST 1048576: true; the input reads as it did. -/
def regexReadsUptoRow : OpenClaim := { program := "ytghchmemjjpcbaa", sum := "9512842df878ca26c78c34efcb9c55185fd34df246a5845fa2f2b006337bee08", func := "dragoman/dragomanlaw05.RegexReads", spec := "regexReads", inPlace := ["internal/bytealg.IndexByteString"], unfollowed := true, recurses := true, apart := false, narrowed := true }
def RegexReadsUptoSaid : Prop := regexReadsUptoRow.holds Try.pinned (OpenSpec.upto regexReadsSpec)

/-- 'dragomanlaw05.RegexBack', WHERE WHAT IT READS IS OF BULK AT MOST 1048576: true; the input reads as it did. -/
def regexBackUptoRow : OpenClaim := { program := "ytghchmemjjpcbaa", sum := "9512842df878ca26c78c34efcb9c55185fd34df246a5845fa2f2b006337bee08", func := "dragoman/dragomanlaw05.RegexBack", spec := "regexBack", inPlace := ["internal/bytealg.IndexByteString"], unfollowed := true, recurses := true, apart := false, narrowed := true }
def RegexBackUptoSaid : Prop := regexBackUptoRow.holds Try.pinned (OpenSpec.upto regexBackSpec)

/-- 'dragomanlaw05.RegexWraps', WHERE WHAT IT READS IS OF BULK AT MOST 1048576: true; the input reads as it did. -/
def regexWrapsUptoRow : OpenClaim := { program := "ytghchmemjjpcbaa", sum := "9512842df878ca26c78c34efcb9c55185fd34df246a5845fa2f2b006337bee08", func := "dragoman/dragomanlaw05.RegexWraps", spec := "regexWraps", inPlace := ["internal/bytealg.IndexByteString"], unfollowed := true, recurses := true, apart := false, narrowed := true }
def RegexWrapsUptoSaid : Prop := regexWrapsUptoRow.holds Try.pinned (OpenSpec.upto regexWrapsSpec)

/-- 'dragomanlaw05.RegexSigns', WHERE WHAT IT READS IS OF BULK AT MOST 1048576: true; the input reads as it did. -/
def regexSignsUptoRow : OpenClaim := { program := "ytghchmemjjpcbaa", sum := "9512842df878ca26c78c34efcb9c55185fd34df246a5845fa2f2b006337bee08", func := "dragoman/dragomanlaw05.RegexSigns", spec := "regexSigns", inPlace := ["internal/bytealg.IndexByteString"], unfollowed := true, recurses := true, apart := false, narrowed := true }
def RegexSignsUptoSaid : Prop := regexSignsUptoRow.holds Try.pinned (OpenSpec.upto regexSignsSpec)

/-- 'dragomanlaw05.RegexJoins', WHERE WHAT IT READS IS OF BULK AT MOST 1048576: true; the input reads as it did. -/
def regexJoinsUptoRow : OpenClaim := { program := "ytghchmemjjpcbaa", sum := "9512842df878ca26c78c34efcb9c55185fd34df246a5845fa2f2b006337bee08", func := "dragoman/dragomanlaw05.RegexJoins", spec := "regexJoins", inPlace := ["internal/bytealg.IndexByteString"], unfollowed := true, recurses := true, apart := false, narrowed := true }
def RegexJoinsUptoSaid : Prop := regexJoinsUptoRow.holds Try.pinned (OpenSpec.upto regexJoinsSpec)

/-- 'dragomanlaw05.RegexTrees', WHERE WHAT IT READS IS OF BULK AT MOST 1048576: true; the input reads as it did. -/
def regexTreesUptoRow : OpenClaim := { program := "ytghchmemjjpcbaa", sum := "9512842df878ca26c78c34efcb9c55185fd34df246a5845fa2f2b006337bee08", func := "dragoman/dragomanlaw05.RegexTrees", spec := "regexTrees", inPlace := ["internal/bytealg.IndexByteString"], unfollowed := true, recurses := true, apart := false, narrowed := true }
def RegexTreesUptoSaid : Prop := regexTreesUptoRow.holds Try.pinned (OpenSpec.upto regexTreesSpec)

end Rows
end Go.Proofs.Ytghchmemjjpcbaa
