/-
  No cell of these rows narrows 'for every input' (looked for: loops, veiled, ifaces, maps, wideKeys, modest, calm, conditions, laid).
  DERIVED. THE GIVEN ROWS OF THIS SEAT. 5 by the template 'for every input the law returns true; each argument reads behind the call as it read before'; 0 by the template 'total and deterministic' (their statements: YtpbednjnompefaaTotals.lean).
  GIVEN WITH THE SEED: the statements are not yours to turn. If you find one false, say at which input.
  Laid BY PROGRAM, IN A SANDBOX (cutbox-rows.mjs): the forced cells as the released guide's own fill.sh prints them over the translation 05521d8f6119346c… (all of the seat's roots in one cut). By AI agents, Wed Nov 11 2026. No macro, syntax, notation, axiom, sorry.
-/
import Derived.Test.YtpbednjnompefaaChecked
import GoSem.Claim
import GoSem.ClaimJoined
import GoSem.ClaimMapViews
import Derived.JoinedTies
import Derived.KernelRfl
namespace Go.Proofs.Ytpbednjnompefaa
/- THE CELL 'sum', in the pinned program and in every row, IS THE sha256 OF THE DUMP (.gsa) THAT YtpbednjnompefaaProg.lean LOADS. Nothing in Lean hashes anything: it is a label: what it is worth is what the hold of that sum in a sandbox is worth. -/
noncomputable def Try.pinned : Pinned := { name := "ytpbednjnompefaa", sum := "05521d8f6119346c3076ab0a8e62df8333a0e32aa808e8fd6453dac93fc8061c", checked := Try.checked }
namespace Rows
def none {H : Type} : Left H := { results := [], args := [] }

/-- 'apiarylaw7.CellsHas': WHATEVER THE INPUT: true; the input reads as it did. -/
def cellsHasSpec : ChangeSpec := { name := "cellsHas", fn := fun _ => fun
  | [d1, d2, d3, d4] => { results := [.lit (.bool true)], args := [d1, d2, d3, d4] }
  | _ => none }
def cellsHasRow : OpenClaim := { program := "ytpbednjnompefaa", sum := "05521d8f6119346c3076ab0a8e62df8333a0e32aa808e8fd6453dac93fc8061c", func := "apiary/apiarylaw7.CellsHas", spec := "cellsHas", unfollowed := true, recurses := true, apart := false }
def CellsHasSaid : Prop := cellsHasRow.holds Try.pinned (OpenSpec.ofChange cellsHasSpec)

/-- ITS FALSE NEIGHBOUR: 'it returns false'. Refute it at one input. -/
def cellsHasWrong : ChangeSpec := { name := "cellsHas", fn := fun _ => fun
  | [d1, d2, d3, d4] => { results := [.lit (.bool false)], args := [d1, d2, d3, d4] }
  | _ => none }
def CellsHasWrongFalsely : Prop := cellsHasRow.holds Try.pinned (OpenSpec.ofChange cellsHasWrong)

/-- 'apiarylaw7.CellsSets': WHATEVER THE INPUT: true; the input reads as it did. -/
def cellsSetsSpec : ChangeSpec := { name := "cellsSets", fn := fun _ => fun
  | [d1, d2, d3] => { results := [.lit (.bool true)], args := [d1, d2, d3] }
  | _ => none }
def cellsSetsRow : OpenClaim := { program := "ytpbednjnompefaa", sum := "05521d8f6119346c3076ab0a8e62df8333a0e32aa808e8fd6453dac93fc8061c", func := "apiary/apiarylaw7.CellsSets", spec := "cellsSets", unfollowed := true, recurses := true, apart := false }
def CellsSetsSaid : Prop := cellsSetsRow.holds Try.pinned (OpenSpec.ofChange cellsSetsSpec)

/-- ITS FALSE NEIGHBOUR: 'it returns false'. Refute it at one input. -/
def cellsSetsWrong : ChangeSpec := { name := "cellsSets", fn := fun _ => fun
  | [d1, d2, d3] => { results := [.lit (.bool false)], args := [d1, d2, d3] }
  | _ => none }
def CellsSetsWrongFalsely : Prop := cellsSetsRow.holds Try.pinned (OpenSpec.ofChange cellsSetsWrong)

/-- 'apiarylaw7.CellsAlgebra': WHATEVER THE INPUT: true; the input reads as it did. -/
def cellsAlgebraSpec : ChangeSpec := { name := "cellsAlgebra", fn := fun _ => fun
  | [d1, d2, d3] => { results := [.lit (.bool true)], args := [d1, d2, d3] }
  | _ => none }
def cellsAlgebraRow : OpenClaim := { program := "ytpbednjnompefaa", sum := "05521d8f6119346c3076ab0a8e62df8333a0e32aa808e8fd6453dac93fc8061c", func := "apiary/apiarylaw7.CellsAlgebra", spec := "cellsAlgebra", unfollowed := true, recurses := true, apart := false }
def CellsAlgebraSaid : Prop := cellsAlgebraRow.holds Try.pinned (OpenSpec.ofChange cellsAlgebraSpec)

/-- ITS FALSE NEIGHBOUR: 'it returns false'. Refute it at one input. -/
def cellsAlgebraWrong : ChangeSpec := { name := "cellsAlgebra", fn := fun _ => fun
  | [d1, d2, d3] => { results := [.lit (.bool false)], args := [d1, d2, d3] }
  | _ => none }
def CellsAlgebraWrongFalsely : Prop := cellsAlgebraRow.holds Try.pinned (OpenSpec.ofChange cellsAlgebraWrong)

/-- 'apiarylaw7.CellsBounds': WHATEVER THE INPUT: true; the input reads as it did. -/
def cellsBoundsSpec : ChangeSpec := { name := "cellsBounds", fn := fun _ => fun
  | [d1, d2] => { results := [.lit (.bool true)], args := [d1, d2] }
  | _ => none }
def cellsBoundsRow : OpenClaim := { program := "ytpbednjnompefaa", sum := "05521d8f6119346c3076ab0a8e62df8333a0e32aa808e8fd6453dac93fc8061c", func := "apiary/apiarylaw7.CellsBounds", spec := "cellsBounds", unfollowed := true, recurses := true, apart := false }
def CellsBoundsSaid : Prop := cellsBoundsRow.holds Try.pinned (OpenSpec.ofChange cellsBoundsSpec)

/-- ITS FALSE NEIGHBOUR: 'it returns false'. Refute it at one input. -/
def cellsBoundsWrong : ChangeSpec := { name := "cellsBounds", fn := fun _ => fun
  | [d1, d2] => { results := [.lit (.bool false)], args := [d1, d2] }
  | _ => none }
def CellsBoundsWrongFalsely : Prop := cellsBoundsRow.holds Try.pinned (OpenSpec.ofChange cellsBoundsWrong)

/-- 'apiarylaw7.CellsFamilies': WHATEVER THE INPUT: true; the input reads as it did. -/
def cellsFamiliesSpec : ChangeSpec := { name := "cellsFamilies", fn := fun _ => fun
  | [d1, d2] => { results := [.lit (.bool true)], args := [d1, d2] }
  | _ => none }
def cellsFamiliesRow : OpenClaim := { program := "ytpbednjnompefaa", sum := "05521d8f6119346c3076ab0a8e62df8333a0e32aa808e8fd6453dac93fc8061c", func := "apiary/apiarylaw7.CellsFamilies", spec := "cellsFamilies", inPlace := ["math/bits.Add64", "math/bits.Sub64"], unfollowed := true, recurses := true, apart := false }
def CellsFamiliesSaid : Prop := cellsFamiliesRow.holds Try.pinned (OpenSpec.ofChange cellsFamiliesSpec)

/-- ITS FALSE NEIGHBOUR: 'it returns false'. Refute it at one input. -/
def cellsFamiliesWrong : ChangeSpec := { name := "cellsFamilies", fn := fun _ => fun
  | [d1, d2] => { results := [.lit (.bool false)], args := [d1, d2] }
  | _ => none }
def CellsFamiliesWrongFalsely : Prop := cellsFamiliesRow.holds Try.pinned (OpenSpec.ofChange cellsFamiliesWrong)

/- THE SECOND FORM. 'bulk': how many values and letters a reading holds, each counted each time it is reached (what is shared counts as often as it is met; a slice's spare places count too). A statement '..UptoSaid' is the law's where the arguments, and the package variables that the reading takes, are together of bulk at most 1048576: NARROWER than '..Said'. Prove '..Said' where nothing that the law and all that it calls make is longer than what came in: it says more and counts as full. Else prove '..UptoSaid'. A law counts once. -/
mutual
def uptoBulk {H : Type} : DataW H → Nat
  | .lit (.string bytes) => bytes.length + 1
  | .lit _ => 1
  | .nil => 1
  | .ptr d => uptoBulk d + 1
  | .slice elems spare => uptoBulkAll elems + uptoBulkAll spare + 1
  | .agg parts => uptoBulkAll parts + 1
  | .iface _ d => uptoBulk d + 1
  | .map entries => uptoBulkEntries entries + 1
  | .held _ => 1
def uptoBulkAll {H : Type} : List (DataW H) → Nat
  | [] => 0
  | d :: r => uptoBulk d + uptoBulkAll r
def uptoBulkEntries {H : Type} : List (Lit × DataW H) → Nat
  | [] => 0
  | x :: r => uptoBulkEntry x + uptoBulkEntries r
def uptoBulkEntry {H : Type} : Lit × DataW H → Nat
  | (.string bytes, d) => bytes.length + uptoBulk d + 1
  | (_, d) => uptoBulk d + 1
 end
def uptoSmall : (H : Type) → List (DataW H) → Bool := fun _ ds => decide (uptoBulkAll ds ≤ 1048576)
def OpenSpec.upto (s : _root_.Go.ChangeSpec) : _root_.Go.OpenSpec := { _root_.Go.OpenSpec.ofChange s with cond := some uptoSmall }

/-- 'apiarylaw7.CellsHas', WHERE WHAT IT READS IS OF BULK AT MOST 1048576: true; the input reads as it did. -/
def cellsHasUptoRow : OpenClaim := { program := "ytpbednjnompefaa", sum := "05521d8f6119346c3076ab0a8e62df8333a0e32aa808e8fd6453dac93fc8061c", func := "apiary/apiarylaw7.CellsHas", spec := "cellsHas", unfollowed := true, recurses := true, apart := false, narrowed := true }
def CellsHasUptoSaid : Prop := cellsHasUptoRow.holds Try.pinned (OpenSpec.upto cellsHasSpec)

/-- 'apiarylaw7.CellsSets', WHERE WHAT IT READS IS OF BULK AT MOST 1048576: true; the input reads as it did. -/
def cellsSetsUptoRow : OpenClaim := { program := "ytpbednjnompefaa", sum := "05521d8f6119346c3076ab0a8e62df8333a0e32aa808e8fd6453dac93fc8061c", func := "apiary/apiarylaw7.CellsSets", spec := "cellsSets", unfollowed := true, recurses := true, apart := false, narrowed := true }
def CellsSetsUptoSaid : Prop := cellsSetsUptoRow.holds Try.pinned (OpenSpec.upto cellsSetsSpec)

/-- 'apiarylaw7.CellsAlgebra', WHERE WHAT IT READS IS OF BULK AT MOST 1048576: true; the input reads as it did. -/
def cellsAlgebraUptoRow : OpenClaim := { program := "ytpbednjnompefaa", sum := "05521d8f6119346c3076ab0a8e62df8333a0e32aa808e8fd6453dac93fc8061c", func := "apiary/apiarylaw7.CellsAlgebra", spec := "cellsAlgebra", unfollowed := true, recurses := true, apart := false, narrowed := true }
def CellsAlgebraUptoSaid : Prop := cellsAlgebraUptoRow.holds Try.pinned (OpenSpec.upto cellsAlgebraSpec)

/-- 'apiarylaw7.CellsBounds', WHERE WHAT IT READS IS OF BULK AT MOST 1048576: true; the input reads as it did. -/
def cellsBoundsUptoRow : OpenClaim := { program := "ytpbednjnompefaa", sum := "05521d8f6119346c3076ab0a8e62df8333a0e32aa808e8fd6453dac93fc8061c", func := "apiary/apiarylaw7.CellsBounds", spec := "cellsBounds", unfollowed := true, recurses := true, apart := false, narrowed := true }
def CellsBoundsUptoSaid : Prop := cellsBoundsUptoRow.holds Try.pinned (OpenSpec.upto cellsBoundsSpec)

/-- 'apiarylaw7.CellsFamilies', WHERE WHAT IT READS IS OF BULK AT MOST 1048576: true; the input reads as it did. -/
def cellsFamiliesUptoRow : OpenClaim := { program := "ytpbednjnompefaa", sum := "05521d8f6119346c3076ab0a8e62df8333a0e32aa808e8fd6453dac93fc8061c", func := "apiary/apiarylaw7.CellsFamilies", spec := "cellsFamilies", inPlace := ["math/bits.Add64", "math/bits.Sub64"], unfollowed := true, recurses := true, apart := false, narrowed := true }
def CellsFamiliesUptoSaid : Prop := cellsFamiliesUptoRow.holds Try.pinned (OpenSpec.upto cellsFamiliesSpec)

end Rows
end Go.Proofs.Ytpbednjnompefaa
