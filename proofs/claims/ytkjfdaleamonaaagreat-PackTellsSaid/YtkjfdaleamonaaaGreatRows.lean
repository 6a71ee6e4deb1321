/-
  No cell of these rows narrows 'for every input' (looked for: loops, veiled, ifaces, maps, wideKeys, modest, calm, conditions, laid).
  DERIVED. THE GIVEN ROWS OF THIS SEAT. 10 by the template 'for every input the law returns true; each argument reads behind the call as it read before'; 0 by the template 'total and deterministic' (their statements: YtkjfdaleamonaaaGreatTotals.lean).
  GIVEN WITH THE SEED: the statements are not yours to turn. If you find one false, say at which input.
  Laid BY PROGRAM, IN A SANDBOX (cutbox-rows.mjs): the forced cells as the released guide's own fill.sh prints them over the translation 4cba14d9bf54f35c… (all of the seat's roots in one cut). By AI agents, Wed Nov 11 2026. No macro, syntax, notation, axiom, sorry.
-/
import Derived.Test.YtkjfdaleamonaaaGreatChecked
import GoSem.Claim
import GoSem.ClaimJoined
import GoSem.ClaimMapViews
import Derived.JoinedTies
import Derived.KernelRfl
namespace Go.Proofs.YtkjfdaleamonaaaGreat
/- THE CELL 'sum', in the pinned program and in every row, IS THE sha256 OF THE DUMP (.gsa) THAT YtkjfdaleamonaaaGreatProg.lean LOADS. Nothing in Lean hashes anything: it is a label: what it is worth is what the hold of that sum in a sandbox is worth. -/
noncomputable def Tryz.pinned : Pinned := { name := "ytkjfdaleamonaaagreat", sum := "4cba14d9bf54f35c3e3bbef068b15e53f975c66e72f04ea67f83eec68a62e104", checked := Tryz.checked }
namespace Rows
def none {H : Type} : Left H := { results := [], args := [] }

/-- 'apiarylaw7.CellsChecks': WHATEVER THE INPUT: true; the input reads as it did. -/
def cellsChecksSpec : ChangeSpec := { name := "cellsChecks", fn := fun _ => fun
  | [d1, d2, d3, d4] => { results := [.lit (.bool true)], args := [d1, d2, d3, d4] }
  | _ => none }
def cellsChecksRow : OpenClaim := { program := "ytkjfdaleamonaaagreat", sum := "4cba14d9bf54f35c3e3bbef068b15e53f975c66e72f04ea67f83eec68a62e104", func := "apiary/apiarylaw7.CellsChecks", spec := "cellsChecks", inPlace := ["math/bits.Add64", "math/bits.Sub64"], unfollowed := true, recurses := true, apart := false }
def CellsChecksSaid : Prop := cellsChecksRow.holds Tryz.pinned (OpenSpec.ofChange cellsChecksSpec)

/-- ITS FALSE NEIGHBOUR: 'it returns false'. Refute it at one input. -/
def cellsChecksWrong : ChangeSpec := { name := "cellsChecks", fn := fun _ => fun
  | [d1, d2, d3, d4] => { results := [.lit (.bool false)], args := [d1, d2, d3, d4] }
  | _ => none }
def CellsChecksWrongFalsely : Prop := cellsChecksRow.holds Tryz.pinned (OpenSpec.ofChange cellsChecksWrong)

/-- 'apiarylaw8.PackLess': WHATEVER THE INPUT: true; the input reads as it did. -/
def packLessSpec : ChangeSpec := { name := "packLess", fn := fun _ => fun
  | [d1, d2, d3, d4] => { results := [.lit (.bool true)], args := [d1, d2, d3, d4] }
  | _ => none }
def packLessRow : OpenClaim := { program := "ytkjfdaleamonaaagreat", sum := "4cba14d9bf54f35c3e3bbef068b15e53f975c66e72f04ea67f83eec68a62e104", func := "apiary/apiarylaw8.PackLess", spec := "packLess", inPlace := ["math/bits.Add64", "math/bits.Sub64"], unfollowed := true, recurses := true, apart := false }
def PackLessSaid : Prop := packLessRow.holds Tryz.pinned (OpenSpec.ofChange packLessSpec)

/-- ITS FALSE NEIGHBOUR: 'it returns false'. Refute it at one input. -/
def packLessWrong : ChangeSpec := { name := "packLess", fn := fun _ => fun
  | [d1, d2, d3, d4] => { results := [.lit (.bool false)], args := [d1, d2, d3, d4] }
  | _ => none }
def PackLessWrongFalsely : Prop := packLessRow.holds Tryz.pinned (OpenSpec.ofChange packLessWrong)

/-- 'apiarylaw8.PackErrors': WHATEVER THE INPUT: true; the input reads as it did. -/
def packErrorsSpec : ChangeSpec := { name := "packErrors", fn := fun _ => fun
  | [d1, d2, d3, d4] => { results := [.lit (.bool true)], args := [d1, d2, d3, d4] }
  | _ => none }
def packErrorsRow : OpenClaim := { program := "ytkjfdaleamonaaagreat", sum := "4cba14d9bf54f35c3e3bbef068b15e53f975c66e72f04ea67f83eec68a62e104", func := "apiary/apiarylaw8.PackErrors", spec := "packErrors", inPlace := ["math/bits.Add64", "math/bits.Sub64"], unfollowed := true, recurses := true, apart := false }
def PackErrorsSaid : Prop := packErrorsRow.holds Tryz.pinned (OpenSpec.ofChange packErrorsSpec)

/-- ITS FALSE NEIGHBOUR: 'it returns false'. Refute it at one input. -/
def packErrorsWrong : ChangeSpec := { name := "packErrors", fn := fun _ => fun
  | [d1, d2, d3, d4] => { results := [.lit (.bool false)], args := [d1, d2, d3, d4] }
  | _ => none }
def PackErrorsWrongFalsely : Prop := packErrorsRow.holds Tryz.pinned (OpenSpec.ofChange packErrorsWrong)

/-- 'apiarylaw8.PackJoins': WHATEVER THE INPUT: true; the input reads as it did. -/
def packJoinsSpec : ChangeSpec := { name := "packJoins", fn := fun _ => fun
  | [d1, d2, d3] => { results := [.lit (.bool true)], args := [d1, d2, d3] }
  | _ => none }
def packJoinsRow : OpenClaim := { program := "ytkjfdaleamonaaagreat", sum := "4cba14d9bf54f35c3e3bbef068b15e53f975c66e72f04ea67f83eec68a62e104", func := "apiary/apiarylaw8.PackJoins", spec := "packJoins", inPlace := ["math/bits.Add64", "math/bits.Sub64"], unfollowed := true, recurses := true, apart := false }
def PackJoinsSaid : Prop := packJoinsRow.holds Tryz.pinned (OpenSpec.ofChange packJoinsSpec)

/-- ITS FALSE NEIGHBOUR: 'it returns false'. Refute it at one input. -/
def packJoinsWrong : ChangeSpec := { name := "packJoins", fn := fun _ => fun
  | [d1, d2, d3] => { results := [.lit (.bool false)], args := [d1, d2, d3] }
  | _ => none }
def PackJoinsWrongFalsely : Prop := packJoinsRow.holds Tryz.pinned (OpenSpec.ofChange packJoinsWrong)

/-- 'apiarylaw8.PackBack': WHATEVER THE INPUT: true; the input reads as it did. -/
def packBackSpec : ChangeSpec := { name := "packBack", fn := fun _ => fun
  | [d1, d2] => { results := [.lit (.bool true)], args := [d1, d2] }
  | _ => none }
def packBackRow : OpenClaim := { program := "ytkjfdaleamonaaagreat", sum := "4cba14d9bf54f35c3e3bbef068b15e53f975c66e72f04ea67f83eec68a62e104", func := "apiary/apiarylaw8.PackBack", spec := "packBack", inPlace := ["math/bits.Add64", "math/bits.Sub64"], unfollowed := true, recurses := true, apart := false }
def PackBackSaid : Prop := packBackRow.holds Tryz.pinned (OpenSpec.ofChange packBackSpec)

/-- ITS FALSE NEIGHBOUR: 'it returns false'. Refute it at one input. -/
def packBackWrong : ChangeSpec := { name := "packBack", fn := fun _ => fun
  | [d1, d2] => { results := [.lit (.bool false)], args := [d1, d2] }
  | _ => none }
def PackBackWrongFalsely : Prop := packBackRow.holds Tryz.pinned (OpenSpec.ofChange packBackWrong)

/-- 'apiarylaw8.PackOnce': WHATEVER THE INPUT: true; the input reads as it did. -/
def packOnceSpec : ChangeSpec := { name := "packOnce", fn := fun _ => fun
  | [d1, d2, d3] => { results := [.lit (.bool true)], args := [d1, d2, d3] }
  | _ => none }
def packOnceRow : OpenClaim := { program := "ytkjfdaleamonaaagreat", sum := "4cba14d9bf54f35c3e3bbef068b15e53f975c66e72f04ea67f83eec68a62e104", func := "apiary/apiarylaw8.PackOnce", spec := "packOnce", inPlace := ["math/bits.Add64", "math/bits.Sub64"], unfollowed := true, recurses := true, apart := false }
def PackOnceSaid : Prop := packOnceRow.holds Tryz.pinned (OpenSpec.ofChange packOnceSpec)

/-- ITS FALSE NEIGHBOUR: 'it returns false'. Refute it at one input. -/
def packOnceWrong : ChangeSpec := { name := "packOnce", fn := fun _ => fun
  | [d1, d2, d3] => { results := [.lit (.bool false)], args := [d1, d2, d3] }
  | _ => none }
def PackOnceWrongFalsely : Prop := packOnceRow.holds Tryz.pinned (OpenSpec.ofChange packOnceWrong)

/-- 'apiarylaw8.PackBounds': WHATEVER THE INPUT: true; the input reads as it did. -/
def packBoundsSpec : ChangeSpec := { name := "packBounds", fn := fun _ => fun
  | [d1, d2, d3, d4] => { results := [.lit (.bool true)], args := [d1, d2, d3, d4] }
  | _ => none }
def packBoundsRow : OpenClaim := { program := "ytkjfdaleamonaaagreat", sum := "4cba14d9bf54f35c3e3bbef068b15e53f975c66e72f04ea67f83eec68a62e104", func := "apiary/apiarylaw8.PackBounds", spec := "packBounds", inPlace := ["math/bits.Add64", "math/bits.Sub64"], unfollowed := true, recurses := true, apart := false }
def PackBoundsSaid : Prop := packBoundsRow.holds Tryz.pinned (OpenSpec.ofChange packBoundsSpec)

/-- ITS FALSE NEIGHBOUR: 'it returns false'. Refute it at one input. -/
def packBoundsWrong : ChangeSpec := { name := "packBounds", fn := fun _ => fun
  | [d1, d2, d3, d4] => { results := [.lit (.bool false)], args := [d1, d2, d3, d4] }
  | _ => none }
def PackBoundsWrongFalsely : Prop := packBoundsRow.holds Tryz.pinned (OpenSpec.ofChange packBoundsWrong)

/-- 'apiarylaw8.PackCovers': WHATEVER THE INPUT: true; the input reads as it did. -/
def packCoversSpec : ChangeSpec := { name := "packCovers", fn := fun _ => fun
  | [d1, d2, d3, d4] => { results := [.lit (.bool true)], args := [d1, d2, d3, d4] }
  | _ => none }
def packCoversRow : OpenClaim := { program := "ytkjfdaleamonaaagreat", sum := "4cba14d9bf54f35c3e3bbef068b15e53f975c66e72f04ea67f83eec68a62e104", func := "apiary/apiarylaw8.PackCovers", spec := "packCovers", inPlace := ["math/bits.Add64", "math/bits.Sub64"], unfollowed := true, recurses := true, apart := false }
def PackCoversSaid : Prop := packCoversRow.holds Tryz.pinned (OpenSpec.ofChange packCoversSpec)

/-- ITS FALSE NEIGHBOUR: 'it returns false'. Refute it at one input. -/
def packCoversWrong : ChangeSpec := { name := "packCovers", fn := fun _ => fun
  | [d1, d2, d3, d4] => { results := [.lit (.bool false)], args := [d1, d2, d3, d4] }
  | _ => none }
def PackCoversWrongFalsely : Prop := packCoversRow.holds Tryz.pinned (OpenSpec.ofChange packCoversWrong)

/-- 'apiarylaw8.PackTells': WHATEVER THE INPUT: true; the input reads as it did. -/
def packTellsSpec : ChangeSpec := { name := "packTells", fn := fun _ => fun
  | [d1, d2, d3, d4, d5] => { results := [.lit (.bool true)], args := [d1, d2, d3, d4, d5] }
  | _ => none }
def packTellsRow : OpenClaim := { program := "ytkjfdaleamonaaagreat", sum := "4cba14d9bf54f35c3e3bbef068b15e53f975c66e72f04ea67f83eec68a62e104", func := "apiary/apiarylaw8.PackTells", spec := "packTells", inPlace := ["math/bits.Add64", "math/bits.Sub64"], unfollowed := true, recurses := true, apart := false }
def PackTellsSaid : Prop := packTellsRow.holds Tryz.pinned (OpenSpec.ofChange packTellsSpec)

/-- ITS FALSE NEIGHBOUR: 'it returns false'. Refute it at one input. -/
def packTellsWrong : ChangeSpec := { name := "packTells", fn := fun _ => fun
  | [d1, d2, d3, d4, d5] => { results := [.lit (.bool false)], args := [d1, d2, d3, d4, d5] }
  | _ => none }
def PackTellsWrongFalsely : Prop := packTellsRow.holds Tryz.pinned (OpenSpec.ofChange packTellsWrong)

/-- 'apiarylaw8.PackSpreads': WHATEVER THE INPUT: true; the input reads as it did. -/
def packSpreadsSpec : ChangeSpec := { name := "packSpreads", fn := fun _ => fun
  | [d1, d2, d3, d4] => { results := [.lit (.bool true)], args := [d1, d2, d3, d4] }
  | _ => none }
def packSpreadsRow : OpenClaim := { program := "ytkjfdaleamonaaagreat", sum := "4cba14d9bf54f35c3e3bbef068b15e53f975c66e72f04ea67f83eec68a62e104", func := "apiary/apiarylaw8.PackSpreads", spec := "packSpreads", inPlace := ["math/bits.Add64", "math/bits.Sub64"], unfollowed := true, recurses := true, apart := false }
def PackSpreadsSaid : Prop := packSpreadsRow.holds Tryz.pinned (OpenSpec.ofChange packSpreadsSpec)

/-- ITS FALSE NEIGHBOUR: 'it returns false'. Refute it at one input. -/
def packSpreadsWrong : ChangeSpec := { name := "packSpreads", fn := fun _ => fun
  | [d1, d2, d3, d4] => { results := [.lit (.bool false)], args := [d1, d2, d3, d4] }
  | _ => none }
def PackSpreadsWrongFalsely : Prop := packSpreadsRow.holds Tryz.pinned (OpenSpec.ofChange packSpreadsWrong)

/- THE SECOND FORM. 'bulk': how many values and letters a reading holds, each counted each time it is reached (what is shared counts as often as it is met; a slice's spare places count too). A statement '..UptoSaid' is the law's where the arguments, and the package variables that the reading takes, are together of bulk at most 1048576: NARROWER than '..Said'. Prove '..Said' where nothing that the law and all that it calls make is longer than what came in: it says more and counts as full. Else prove '..UptoSaid'. A law counts once. -/
mutual
def uptoBulk {H : Type} : DataW H → Nat
  | .lit (.string bytes) => bytes.length + 1
  | .lit _ => 1
  | .nil => 1
  | .ptr d => uptoBulk d + 1
  | .slice elems spare => uptoBulkAll elems + uptoBulkAll spare + 1
  | .agg parts => uptoBulkAll parts + 1
  | .iface _ d => uptoBulk d + 1
  | .map entries => uptoBulkEntries entries + 1
  | .held _ => 1
def uptoBulkAll {H : Type} : List (DataW H) → Nat
  | [] => 0
  | d :: r => uptoBulk d + uptoBulkAll r
def uptoBulkEntries {H : Type} : List (Lit × DataW H) → Nat
  | [] => 0
  | x :: r => uptoBulkEntry x + uptoBulkEntries r
def uptoBulkEntry {H : Type} : Lit × DataW H → Nat
  | (.string bytes, d) => bytes.length + uptoBulk d + 1
  | (_, d) => uptoBulk d + 1
 end
def uptoSmall : (H : Type) → List (DataW H) → Bool := fun _ ds => decide (uptoBulkAll ds ≤ 1048576)
def OpenSpec.upto (s : _root_.Go.ChangeSpec) : _root_.Go.OpenSpec := { _root_.Go.OpenSpec.ofChange s with cond := some uptoSmall }

/-- 'apiarylaw7.CellsChecks', WHERE WHAT IT READS IS OF BULK AT MOST 1048576: true; the input reads as it did. -/
def cellsChecksUptoRow : OpenClaim := { program := "ytkjfdaleamonaaagreat", sum := "4cba14d9bf54f35c3e3bbef068b15e53f975c66e72f04ea67f83eec68a62e104", func := "apiary/apiarylaw7.CellsChecks", spec := "cellsChecks", inPlace := ["math/bits.Add64", "math/bits.Sub64"], unfollowed := true, recurses := true, apart := false, narrowed := true }
def CellsChecksUptoSaid : Prop := cellsChecksUptoRow.holds Tryz.pinned (OpenSpec.upto cellsChecksSpec)

/-- 'apiarylaw8.PackLess', WHERE WHAT IT READS IS OF BULK AT MOST 1048576: true; the input reads as it did. -/
def packLessUptoRow : OpenClaim := { program := "ytkjfdaleamonaaagreat", sum := "4cba14d9bf54f35c3e3bbef068b15e53f975c66e72f04ea67f83eec68a62e104", func := "apiary/apiarylaw8.PackLess", spec := "packLess", inPlace := ["math/bits.Add64", "math/bits.Sub64"], unfollowed := true, recurses := true, apart := false, narrowed := true }
def PackLessUptoSaid : Prop := packLessUptoRow.holds Tryz.pinned (OpenSpec.upto packLessSpec)

/-- 'apiarylaw8.PackErrors', WHERE WHAT IT READS IS OF BULK AT MOST 1048576: true; the input reads as it did. -/
def packErrorsUptoRow : OpenClaim := { program := "ytkjfdaleamonaaagreat", sum := "4cba14d9bf54f35c3e3bbef068b15e53f975c66e72f04ea67f83eec68a62e104", func := "apiary/apiarylaw8.PackErrors", spec := "packErrors", inPlace := ["math/bits.Add64", "math/bits.Sub64"], unfollowed := true, recurses := true, apart := false, narrowed := true }
def PackErrorsUptoSaid : Prop := packErrorsUptoRow.holds Tryz.pinned (OpenSpec.upto packErrorsSpec)

/-- 'apiarylaw8.PackJoins', WHERE WHAT IT READS IS OF BULK AT MOST 1048576: true; the input reads as it did. -/
def packJoinsUptoRow : OpenClaim := { program := "ytkjfdaleamonaaagreat", sum := "4cba14d9bf54f35c3e3bbef068b15e53f975c66e72f04ea67f83eec68a62e104", func := "apiary/apiarylaw8.PackJoins", spec := "packJoins", inPlace := ["math/bits.Add64", "math/bits.Sub64"], unfollowed := true, recurses := true, apart := false, narrowed := true }
def PackJoinsUptoSaid : Prop := packJoinsUptoRow.holds Tryz.pinned (OpenSpec.upto packJoinsSpec)

/-- 'apiarylaw8.PackBack', WHERE WHAT IT READS IS OF BULK AT MOST 1048576: true; the input reads as it did. -/
def packBackUptoRow : OpenClaim := { program := "ytkjfdaleamonaaagreat", sum := "4cba14d9bf54f35c3e3bbef068b15e53f975c66e72f04ea67f83eec68a62e104", func := "apiary/apiarylaw8.PackBack", spec := "packBack", inPlace := ["math/bits.Add64", "math/bits.Sub64"], unfollowed := true, recurses := true, apart := false, narrowed := true }
def PackBackUptoSaid : Prop := packBackUptoRow.holds Tryz.pinned (OpenSpec.upto packBackSpec)

/-- 'apiarylaw8.PackOnce', WHERE WHAT IT READS IS OF BULK AT MOST 1048576: true; the input reads as it did. -/
def packOnceUptoRow : OpenClaim := { program := "ytkjfdaleamonaaagreat", sum := "4cba14d9bf54f35c3e3bbef068b15e53f975c66e72f04ea67f83eec68a62e104", func := "apiary/apiarylaw8.PackOnce", spec := "packOnce", inPlace := ["math/bits.Add64", "math/bits.Sub64"], unfollowed := true, recurses := true, apart := false, narrowed := true }
def PackOnceUptoSaid : Prop := packOnceUptoRow.holds Tryz.pinned (OpenSpec.upto packOnceSpec)

/-- 'apiarylaw8.PackBounds', WHERE WHAT IT READS IS OF BULK AT MOST 1048576: true; the input reads as it did. -/
def packBoundsUptoRow : OpenClaim := { program := "ytkjfdaleamonaaagreat", sum := "4cba14d9bf54f35c3e3bbef068b15e53f975c66e72f04ea67f83eec68a62e104", func := "apiary/apiarylaw8.PackBounds", spec := "packBounds", inPlace := ["math/bits.Add64", "math/bits.Sub64"], unfollowed := true, recurses := true, apart := false, narrowed := true }
def PackBoundsUptoSaid : Prop := packBoundsUptoRow.holds Tryz.pinned (OpenSpec.upto packBoundsSpec)

/-- 'apiarylaw8.PackCovers', WHERE WHAT IT READS IS OF BULK AT MOST 1048576: true; the input reads as it did. -/
def packCoversUptoRow : OpenClaim := { program := "ytkjfdaleamonaaagreat", sum := "4cba14d9bf54f35c3e3bbef068b15e53f975c66e72f04ea67f83eec68a62e104", func := "apiary/apiarylaw8.PackCovers", spec := "packCovers", inPlace := ["math/bits.Add64", "math/bits.Sub64"], unfollowed := true, recurses := true, apart := false, narrowed := true }
def PackCoversUptoSaid : Prop := packCoversUptoRow.holds Tryz.pinned (OpenSpec.upto packCoversSpec)

/-- 'apiarylaw8.PackTells', WHERE WHAT IT READS IS OF BULK AT MOST 1048576: true; the input reads as it did. -/
def packTellsUptoRow : OpenClaim := { program := "ytkjfdaleamonaaagreat", sum := "4cba14d9bf54f35c3e3bbef068b15e53f975c66e72f04ea67f83eec68a62e104", func := "apiary/apiarylaw8.PackTells", spec := "packTells", inPlace := ["math/bits.Add64", "math/bits.Sub64"], unfollowed := true, recurses := true, apart := false, narrowed := true }
def PackTellsUptoSaid : Prop := packTellsUptoRow.holds Tryz.pinned (OpenSpec.upto packTellsSpec)

/-- 'apiarylaw8.PackSpreads', WHERE WHAT IT READS IS OF BULK AT MOST 1048576: true; the input reads as it did. -/
def packSpreadsUptoRow : OpenClaim := { program := "ytkjfdaleamonaaagreat", sum := "4cba14d9bf54f35c3e3bbef068b15e53f975c66e72f04ea67f83eec68a62e104", func := "apiary/apiarylaw8.PackSpreads", spec := "packSpreads", inPlace := ["math/bits.Add64", "math/bits.Sub64"], unfollowed := true, recurses := true, apart := false, narrowed := true }
def PackSpreadsUptoSaid : Prop := packSpreadsUptoRow.holds Tryz.pinned (OpenSpec.upto packSpreadsSpec)

end Rows
end Go.Proofs.YtkjfdaleamonaaaGreat
