/-
  No cell of these rows narrows 'for every input' (looked for: loops, veiled, ifaces, maps, wideKeys, modest, calm, conditions, laid).
  DERIVED. THE GIVEN ROWS OF THIS SEAT. 9 by the template 'for every input the law returns true; each argument reads behind the call as it read before'; 0 by the template 'total and deterministic' (their statements: YticbkdignmlfiaaTotals.lean).
  GIVEN WITH THE SEED: the statements are not yours to turn. If you find one false, say at which input.
  Laid BY PROGRAM, IN A SANDBOX (cutbox-rows.mjs): the forced cells as the released guide's own fill.sh prints them over the translation c8c81bbd3217402d… (all of the seat's roots in one cut). By AI agents, Wed Nov 11 2026. No macro, syntax, notation, axiom, sorry.
-/
import Derived.Test.YticbkdignmlfiaaChecked
import GoSem.Claim
import GoSem.ClaimJoined
import GoSem.ClaimMapViews
import Derived.JoinedTies
import Derived.KernelRfl
namespace Go.Proofs.Yticbkdignmlfiaa
/- THE CELL 'sum', in the pinned program and in every row, IS THE sha256 OF THE DUMP (.gsa) THAT YticbkdignmlfiaaProg.lean LOADS. Nothing in Lean hashes anything: it is a label: what it is worth is what the hold of that sum in a sandbox is worth. -/
noncomputable def Try.pinned : Pinned := { name := "yticbkdignmlfiaa", sum := "c8c81bbd3217402db77e60465126d3c5df01e7df7fc0b44d77278d0fc04d1382", checked := Try.checked }
namespace Rows
def none {H : Type} : Left H := { results := [], args := [] }

/-- 'apiarylaw6.NearEdge': WHATEVER THE INPUT: true; the input reads as it did. -/
def nearEdgeSpec : ChangeSpec := { name := "nearEdge", fn := fun _ => fun
  | [d1, d2, d3] => { results := [.lit (.bool true)], args := [d1, d2, d3] }
  | _ => none }
def nearEdgeRow : OpenClaim := { program := "yticbkdignmlfiaa", sum := "c8c81bbd3217402db77e60465126d3c5df01e7df7fc0b44d77278d0fc04d1382", func := "apiary/apiarylaw6.NearEdge", spec := "nearEdge", inPlace := ["math/bits.Add64", "math/bits.Sub64"], unfollowed := true, recurses := true, apart := false }
def NearEdgeSaid : Prop := nearEdgeRow.holds Try.pinned (OpenSpec.ofChange nearEdgeSpec)

/-- ITS FALSE NEIGHBOUR: 'it returns false'. Refute it at one input. -/
def nearEdgeWrong : ChangeSpec := { name := "nearEdge", fn := fun _ => fun
  | [d1, d2, d3] => { results := [.lit (.bool false)], args := [d1, d2, d3] }
  | _ => none }
def NearEdgeWrongFalsely : Prop := nearEdgeRow.holds Try.pinned (OpenSpec.ofChange nearEdgeWrong)

/-- 'apiarylaw6.NearRings': WHATEVER THE INPUT: true; the input reads as it did. -/
def nearRingsSpec : ChangeSpec := { name := "nearRings", fn := fun _ => fun
  | [d1, d2, d3, d4, d5] => { results := [.lit (.bool true)], args := [d1, d2, d3, d4, d5] }
  | _ => none }
def nearRingsRow : OpenClaim := { program := "yticbkdignmlfiaa", sum := "c8c81bbd3217402db77e60465126d3c5df01e7df7fc0b44d77278d0fc04d1382", func := "apiary/apiarylaw6.NearRings", spec := "nearRings", inPlace := ["math/bits.Add64", "math/bits.Sub64"], unfollowed := true, recurses := true, apart := false }
def NearRingsSaid : Prop := nearRingsRow.holds Try.pinned (OpenSpec.ofChange nearRingsSpec)

/-- ITS FALSE NEIGHBOUR: 'it returns false'. Refute it at one input. -/
def nearRingsWrong : ChangeSpec := { name := "nearRings", fn := fun _ => fun
  | [d1, d2, d3, d4, d5] => { results := [.lit (.bool false)], args := [d1, d2, d3, d4, d5] }
  | _ => none }
def NearRingsWrongFalsely : Prop := nearRingsRow.holds Try.pinned (OpenSpec.ofChange nearRingsWrong)

/-- 'apiarylaw6.NearBounds': WHATEVER THE INPUT: true; the input reads as it did. -/
def nearBoundsSpec : ChangeSpec := { name := "nearBounds", fn := fun _ => fun
  | [d1, d2, d3, d4] => { results := [.lit (.bool true)], args := [d1, d2, d3, d4] }
  | _ => none }
def nearBoundsRow : OpenClaim := { program := "yticbkdignmlfiaa", sum := "c8c81bbd3217402db77e60465126d3c5df01e7df7fc0b44d77278d0fc04d1382", func := "apiary/apiarylaw6.NearBounds", spec := "nearBounds", inPlace := ["math/bits.Add64", "math/bits.Sub64"], unfollowed := true, recurses := true, apart := false }
def NearBoundsSaid : Prop := nearBoundsRow.holds Try.pinned (OpenSpec.ofChange nearBoundsSpec)

/-- ITS FALSE NEIGHBOUR: 'it returns false'. Refute it at one input. -/
def nearBoundsWrong : ChangeSpec := { name := "nearBounds", fn := fun _ => fun
  | [d1, d2, d3, d4] => { results := [.lit (.bool false)], args := [d1, d2, d3, d4] }
  | _ => none }
def NearBoundsWrongFalsely : Prop := nearBoundsRow.holds Try.pinned (OpenSpec.ofChange nearBoundsWrong)

/-- 'apiarylaw6.NearKids': WHATEVER THE INPUT: true; the input reads as it did. -/
def nearKidsSpec : ChangeSpec := { name := "nearKids", fn := fun _ => fun
  | [d1, d2, d3] => { results := [.lit (.bool true)], args := [d1, d2, d3] }
  | _ => none }
def nearKidsRow : OpenClaim := { program := "yticbkdignmlfiaa", sum := "c8c81bbd3217402db77e60465126d3c5df01e7df7fc0b44d77278d0fc04d1382", func := "apiary/apiarylaw6.NearKids", spec := "nearKids", inPlace := ["math/bits.Add64", "math/bits.Sub64"], unfollowed := true, recurses := true, apart := false }
def NearKidsSaid : Prop := nearKidsRow.holds Try.pinned (OpenSpec.ofChange nearKidsSpec)

/-- ITS FALSE NEIGHBOUR: 'it returns false'. Refute it at one input. -/
def nearKidsWrong : ChangeSpec := { name := "nearKids", fn := fun _ => fun
  | [d1, d2, d3] => { results := [.lit (.bool false)], args := [d1, d2, d3] }
  | _ => none }
def NearKidsWrongFalsely : Prop := nearKidsRow.holds Try.pinned (OpenSpec.ofChange nearKidsWrong)

/-- 'apiarylaw6.NearTells': WHATEVER THE INPUT: true; the input reads as it did. -/
def nearTellsSpec : ChangeSpec := { name := "nearTells", fn := fun _ => fun
  | [d1, d2, d3, d4, d5, d6, d7] => { results := [.lit (.bool true)], args := [d1, d2, d3, d4, d5, d6, d7] }
  | _ => none }
def nearTellsRow : OpenClaim := { program := "yticbkdignmlfiaa", sum := "c8c81bbd3217402db77e60465126d3c5df01e7df7fc0b44d77278d0fc04d1382", func := "apiary/apiarylaw6.NearTells", spec := "nearTells", inPlace := ["math/bits.Add64", "math/bits.Sub64"], unfollowed := true, recurses := true, apart := false }
def NearTellsSaid : Prop := nearTellsRow.holds Try.pinned (OpenSpec.ofChange nearTellsSpec)

/-- ITS FALSE NEIGHBOUR: 'it returns false'. Refute it at one input. -/
def nearTellsWrong : ChangeSpec := { name := "nearTells", fn := fun _ => fun
  | [d1, d2, d3, d4, d5, d6, d7] => { results := [.lit (.bool false)], args := [d1, d2, d3, d4, d5, d6, d7] }
  | _ => none }
def NearTellsWrongFalsely : Prop := nearTellsRow.holds Try.pinned (OpenSpec.ofChange nearTellsWrong)

/-- 'apiarylaw6.NearMetric': WHATEVER THE INPUT: true; the input reads as it did. -/
def nearMetricSpec : ChangeSpec := { name := "nearMetric", fn := fun _ => fun
  | [d1, d2, d3, d4, d5, d6, d7] => { results := [.lit (.bool true)], args := [d1, d2, d3, d4, d5, d6, d7] }
  | _ => none }
def nearMetricRow : OpenClaim := { program := "yticbkdignmlfiaa", sum := "c8c81bbd3217402db77e60465126d3c5df01e7df7fc0b44d77278d0fc04d1382", func := "apiary/apiarylaw6.NearMetric", spec := "nearMetric", inPlace := ["math/bits.Add64", "math/bits.Sub64"], unfollowed := true, recurses := true, apart := false }
def NearMetricSaid : Prop := nearMetricRow.holds Try.pinned (OpenSpec.ofChange nearMetricSpec)

/-- ITS FALSE NEIGHBOUR: 'it returns false'. Refute it at one input. -/
def nearMetricWrong : ChangeSpec := { name := "nearMetric", fn := fun _ => fun
  | [d1, d2, d3, d4, d5, d6, d7] => { results := [.lit (.bool false)], args := [d1, d2, d3, d4, d5, d6, d7] }
  | _ => none }
def NearMetricWrongFalsely : Prop := nearMetricRow.holds Try.pinned (OpenSpec.ofChange nearMetricWrong)

/-- 'apiarylaw6.NearDisks': WHATEVER THE INPUT: true; the input reads as it did. -/
def nearDisksSpec : ChangeSpec := { name := "nearDisks", fn := fun _ => fun
  | [d1, d2, d3, d4] => { results := [.lit (.bool true)], args := [d1, d2, d3, d4] }
  | _ => none }
def nearDisksRow : OpenClaim := { program := "yticbkdignmlfiaa", sum := "c8c81bbd3217402db77e60465126d3c5df01e7df7fc0b44d77278d0fc04d1382", func := "apiary/apiarylaw6.NearDisks", spec := "nearDisks", inPlace := ["math/bits.Add64", "math/bits.Sub64"], unfollowed := true, recurses := true, apart := false }
def NearDisksSaid : Prop := nearDisksRow.holds Try.pinned (OpenSpec.ofChange nearDisksSpec)

/-- ITS FALSE NEIGHBOUR: 'it returns false'. Refute it at one input. -/
def nearDisksWrong : ChangeSpec := { name := "nearDisks", fn := fun _ => fun
  | [d1, d2, d3, d4] => { results := [.lit (.bool false)], args := [d1, d2, d3, d4] }
  | _ => none }
def NearDisksWrongFalsely : Prop := nearDisksRow.holds Try.pinned (OpenSpec.ofChange nearDisksWrong)

/-- 'apiarylaw6.NearBack': WHATEVER THE INPUT: true; the input reads as it did. -/
def nearBackSpec : ChangeSpec := { name := "nearBack", fn := fun _ => fun
  | [d1, d2, d3, d4] => { results := [.lit (.bool true)], args := [d1, d2, d3, d4] }
  | _ => none }
def nearBackRow : OpenClaim := { program := "yticbkdignmlfiaa", sum := "c8c81bbd3217402db77e60465126d3c5df01e7df7fc0b44d77278d0fc04d1382", func := "apiary/apiarylaw6.NearBack", spec := "nearBack", inPlace := ["math/bits.Add64", "math/bits.Sub64"], unfollowed := true, recurses := true, apart := false }
def NearBackSaid : Prop := nearBackRow.holds Try.pinned (OpenSpec.ofChange nearBackSpec)

/-- ITS FALSE NEIGHBOUR: 'it returns false'. Refute it at one input. -/
def nearBackWrong : ChangeSpec := { name := "nearBack", fn := fun _ => fun
  | [d1, d2, d3, d4] => { results := [.lit (.bool false)], args := [d1, d2, d3, d4] }
  | _ => none }
def NearBackWrongFalsely : Prop := nearBackRow.holds Try.pinned (OpenSpec.ofChange nearBackWrong)

/-- 'apiarylaw6.NearLines': WHATEVER THE INPUT: true; the input reads as it did. -/
def nearLinesSpec : ChangeSpec := { name := "nearLines", fn := fun _ => fun
  | [d1, d2, d3, d4, d5, d6] => { results := [.lit (.bool true)], args := [d1, d2, d3, d4, d5, d6] }
  | _ => none }
def nearLinesRow : OpenClaim := { program := "yticbkdignmlfiaa", sum := "c8c81bbd3217402db77e60465126d3c5df01e7df7fc0b44d77278d0fc04d1382", func := "apiary/apiarylaw6.NearLines", spec := "nearLines", inPlace := ["math/bits.Add64", "math/bits.Sub64"], unfollowed := true, recurses := true, apart := false }
def NearLinesSaid : Prop := nearLinesRow.holds Try.pinned (OpenSpec.ofChange nearLinesSpec)

/-- ITS FALSE NEIGHBOUR: 'it returns false'. Refute it at one input. -/
def nearLinesWrong : ChangeSpec := { name := "nearLines", fn := fun _ => fun
  | [d1, d2, d3, d4, d5, d6] => { results := [.lit (.bool false)], args := [d1, d2, d3, d4, d5, d6] }
  | _ => none }
def NearLinesWrongFalsely : Prop := nearLinesRow.holds Try.pinned (OpenSpec.ofChange nearLinesWrong)

/- THE SECOND FORM. 'bulk': how many values and letters a reading holds, each counted each time it is reached (what is shared counts as often as it is met; a slice's spare places count too). A statement '..UptoSaid' is the law's where the arguments, and the package variables that the reading takes, are together of bulk at most 1048576: NARROWER than '..Said'. Prove '..Said' where nothing that the law and all that it calls make is longer than what came in: it says more and counts as full. Else prove '..UptoSaid'. A law counts once. -/
mutual
def uptoBulk {H : Type} : DataW H → Nat
  | .lit (.string bytes) => bytes.length + 1
  | .lit _ => 1
  | .nil => 1
  | .ptr d => uptoBulk d + 1
  | .slice elems spare => uptoBulkAll elems + uptoBulkAll spare + 1
  | .agg parts => uptoBulkAll parts + 1
  | .iface _ d => uptoBulk d + 1
  | .map entries => uptoBulkEntries entries + 1
  | .held _ => 1
def uptoBulkAll {H : Type} : List (DataW H) → Nat
  | [] => 0
  | d :: r => uptoBulk d + uptoBulkAll r
def uptoBulkEntries {H : Type} : List (Lit × DataW H) → Nat
  | [] => 0
  | x :: r => uptoBulkEntry x + uptoBulkEntries r
def uptoBulkEntry {H : Type} : Lit × DataW H → Nat
  | (.string bytes, d) => bytes.length + uptoBulk d + 1
  | (_, d) => uptoBulk d + 1
 end
def uptoSmall : (H : Type) → List (DataW H) → Bool := fun _ ds => decide (uptoBulkAll ds ≤ 1048576)
def OpenSpec.upto (s : _root_.Go.ChangeSpec) : _root_.Go.OpenSpec := { _root_.Go.OpenSpec.ofChange s with cond := some uptoSmall }

/-- 'apiarylaw6.NearEdge', WHERE WHAT IT READS IS OF BULK AT MOST 1048576: true; the input reads as it did. -/
def nearEdgeUptoRow : OpenClaim := { program := "yticbkdignmlfiaa", sum := "c8c81bbd3217402db77e60465126d3c5df01e7df7fc0b44d77278d0fc04d1382", func := "apiary/apiarylaw6.NearEdge", spec := "nearEdge", inPlace := ["math/bits.Add64", "math/bits.Sub64"], unfollowed := true, recurses := true, apart := false, narrowed := true }
def NearEdgeUptoSaid : Prop := nearEdgeUptoRow.holds Try.pinned (OpenSpec.upto nearEdgeSpec)

/-- 'apiarylaw6.NearRings', WHERE WHAT IT READS IS OF BULK AT MOST 1048576: true; the input reads as it did. -/
def nearRingsUptoRow : OpenClaim := { program := "yticbkdignmlfiaa", sum := "c8c81bbd3217402db77e60465126d3c5df01e7df7fc0b44d77278d0fc04d1382", func := "apiary/apiarylaw6.NearRings", spec := "nearRings", inPlace := ["math/bits.Add64", "math/bits.Sub64"], unfollowed := true, recurses := true, apart := false, narrowed := true }
def NearRingsUptoSaid : Prop := nearRingsUptoRow.holds Try.pinned (OpenSpec.upto nearRingsSpec)

/-- 'apiarylaw6.NearBounds', WHERE WHAT IT READS IS OF BULK AT MOST 1048576: true; the input reads as it did. -/
def nearBoundsUptoRow : OpenClaim := { program := "yticbkdignmlfiaa", sum := "c8c81bbd3217402db77e60465126d3c5df01e7df7fc0b44d77278d0fc04d1382", func := "apiary/apiarylaw6.NearBounds", spec := "nearBounds", inPlace := ["math/bits.Add64", "math/bits.Sub64"], unfollowed := true, recurses := true, apart := false, narrowed := true }
def NearBoundsUptoSaid : Prop := nearBoundsUptoRow.holds Try.pinned (OpenSpec.upto nearBoundsSpec)

/-- 'apiarylaw6.NearKids', WHERE WHAT IT READS IS OF BULK AT MOST 1048576: true; the input reads as it did. -/
def nearKidsUptoRow : OpenClaim := { program := "yticbkdignmlfiaa", sum := "c8c81bbd3217402db77e60465126d3c5df01e7df7fc0b44d77278d0fc04d1382", func := "apiary/apiarylaw6.NearKids", spec := "nearKids", inPlace := ["math/bits.Add64", "math/bits.Sub64"], unfollowed := true, recurses := true, apart := false, narrowed := true }
def NearKidsUptoSaid : Prop := nearKidsUptoRow.holds Try.pinned (OpenSpec.upto nearKidsSpec)

/-- 'apiarylaw6.NearTells', WHERE WHAT IT READS IS OF BULK AT MOST 1048576: true; the input reads as it did. -/
def nearTellsUptoRow : OpenClaim := { program := "yticbkdignmlfiaa", sum := "c8c81bbd3217402db77e60465126d3c5df01e7df7fc0b44d77278d0fc04d1382", func := "apiary/apiarylaw6.NearTells", spec := "nearTells", inPlace := ["math/bits.Add64", "math/bits.Sub64"], unfollowed := true, recurses := true, apart := false, narrowed := true }
def NearTellsUptoSaid : Prop := nearTellsUptoRow.holds Try.pinned (OpenSpec.upto nearTellsSpec)

/-- 'apiarylaw6.NearMetric', WHERE WHAT IT READS IS OF BULK AT MOST 1048576: true; the input reads as it did. -/
def nearMetricUptoRow : OpenClaim := { program := "yticbkdignmlfiaa", sum := "c8c81bbd3217402db77e60465126d3c5df01e7df7fc0b44d77278d0fc04d1382", func := "apiary/apiarylaw6.NearMetric", spec := "nearMetric", inPlace := ["math/bits.Add64", "math/bits.Sub64"], unfollowed := true, recurses := true, apart := false, narrowed := true }
def NearMetricUptoSaid : Prop := nearMetricUptoRow.holds Try.pinned (OpenSpec.upto nearMetricSpec)

/-- 'apiarylaw6.NearDisks', WHERE WHAT IT READS IS OF BULK AT MOST 1048576: true; the input reads as it did. -/
def nearDisksUptoRow : OpenClaim := { program := "yticbkdignmlfiaa", sum := "c8c81bbd3217402db77e60465126d3c5df01e7df7fc0b44d77278d0fc04d1382", func := "apiary/apiarylaw6.NearDisks", spec := "nearDisks", inPlace := ["math/bits.Add64", "math/bits.Sub64"], unfollowed := true, recurses := true, apart := false, narrowed := true }
def NearDisksUptoSaid : Prop := nearDisksUptoRow.holds Try.pinned (OpenSpec.upto nearDisksSpec)

/-- 'apiarylaw6.NearBack', WHERE WHAT IT READS IS OF BULK AT MOST 1048576: true; the input reads as it did. -/
def nearBackUptoRow : OpenClaim := { program := "yticbkdignmlfiaa", sum := "c8c81bbd3217402db77e60465126d3c5df01e7df7fc0b44d77278d0fc04d1382", func := "apiary/apiarylaw6.NearBack", spec := "nearBack", inPlace := ["math/bits.Add64", "math/bits.Sub64"], unfollowed := true, recurses := true, apart := false, narrowed := true }
def NearBackUptoSaid : Prop := nearBackUptoRow.holds Try.pinned (OpenSpec.upto nearBackSpec)

/-- 'apiarylaw6.NearLines', WHERE WHAT IT READS IS OF BULK AT MOST 1048576: true; the input reads as it did. -/
def nearLinesUptoRow : OpenClaim := { program := "yticbkdignmlfiaa", sum := "c8c81bbd3217402db77e60465126d3c5df01e7df7fc0b44d77278d0fc04d1382", func := "apiary/apiarylaw6.NearLines", spec := "nearLines", inPlace := ["math/bits.Add64", "math/bits.Sub64"], unfollowed := true, recurses := true, apart := false, narrowed := true }
def NearLinesUptoSaid : Prop := nearLinesUptoRow.holds Try.pinned (OpenSpec.upto nearLinesSpec)

end Rows
end Go.Proofs.Yticbkdignmlfiaa
