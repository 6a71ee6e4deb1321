/-
  No cell of these rows narrows 'for every input' (looked for: loops, veiled, ifaces, maps, wideKeys, modest, calm, conditions, laid).
  DERIVED. THE GIVEN ROWS OF THIS SEAT. 7 by the template 'for every input the law returns true; each argument reads behind the call as it read before'; 0 by the template 'total and deterministic' (their statements: YtnnfkdajbaicoaaTotals.lean).
  GIVEN WITH THE SEED: the statements are not yours to turn. If you find one false, say at which input.
  Laid BY PROGRAM, IN A SANDBOX (cutbox-rows.mjs): the forced cells as the released guide's own fill.sh prints them over the translation 602e5e0ff2231725… (all of the seat's roots in one cut). By AI agents, Wed Nov 11 2026. No macro, syntax, notation, axiom, sorry.
-/
import Derived.Test.YtnnfkdajbaicoaaChecked
import GoSem.Claim
import GoSem.ClaimJoined
import GoSem.ClaimMapViews
import Derived.JoinedTies
import Derived.KernelRfl
namespace Go.Proofs.Ytnnfkdajbaicoaa
/- THE CELL 'sum', in the pinned program and in every row, IS THE sha256 OF THE DUMP (.gsa) THAT YtnnfkdajbaicoaaProg.lean LOADS. Nothing in Lean hashes anything: it is a label: what it is worth is what the hold of that sum in a sandbox is worth. -/
noncomputable def Try.pinned : Pinned := { name := "ytnnfkdajbaicoaa", sum := "602e5e0ff2231725c529b151e9b5104381923fc9b901990a0f68315873151f26", checked := Try.checked }
namespace Rows
def none {H : Type} : Left H := { results := [], args := [] }

/-- 'apiarylaw9.PolyTogether': WHATEVER THE INPUT: true; the input reads as it did. -/
def polyTogetherSpec : ChangeSpec := { name := "polyTogether", fn := fun _ => fun
  | [d1, d2, d3] => { results := [.lit (.bool true)], args := [d1, d2, d3] }
  | _ => none }
def polyTogetherRow : OpenClaim := { program := "ytnnfkdajbaicoaa", sum := "602e5e0ff2231725c529b151e9b5104381923fc9b901990a0f68315873151f26", func := "apiary/apiarylaw9.PolyTogether", spec := "polyTogether", unfollowed := true, recurses := true, apart := false }
def PolyTogetherSaid : Prop := polyTogetherRow.holds Try.pinned (OpenSpec.ofChange polyTogetherSpec)

/-- ITS FALSE NEIGHBOUR: 'it returns false'. Refute it at one input. -/
def polyTogetherWrong : ChangeSpec := { name := "polyTogether", fn := fun _ => fun
  | [d1, d2, d3] => { results := [.lit (.bool false)], args := [d1, d2, d3] }
  | _ => none }
def PolyTogetherWrongFalsely : Prop := polyTogetherRow.holds Try.pinned (OpenSpec.ofChange polyTogetherWrong)

/-- 'apiarylaw9.PolyBounds': WHATEVER THE INPUT: true; the input reads as it did. -/
def polyBoundsSpec : ChangeSpec := { name := "polyBounds", fn := fun _ => fun
  | [d1, d2, d3] => { results := [.lit (.bool true)], args := [d1, d2, d3] }
  | _ => none }
def polyBoundsRow : OpenClaim := { program := "ytnnfkdajbaicoaa", sum := "602e5e0ff2231725c529b151e9b5104381923fc9b901990a0f68315873151f26", func := "apiary/apiarylaw9.PolyBounds", spec := "polyBounds", unfollowed := true, recurses := true, apart := false }
def PolyBoundsSaid : Prop := polyBoundsRow.holds Try.pinned (OpenSpec.ofChange polyBoundsSpec)

/-- ITS FALSE NEIGHBOUR: 'it returns false'. Refute it at one input. -/
def polyBoundsWrong : ChangeSpec := { name := "polyBounds", fn := fun _ => fun
  | [d1, d2, d3] => { results := [.lit (.bool false)], args := [d1, d2, d3] }
  | _ => none }
def PolyBoundsWrongFalsely : Prop := polyBoundsRow.holds Try.pinned (OpenSpec.ofChange polyBoundsWrong)

/-- 'apiarylaw9.PolyTurned': WHATEVER THE INPUT: true; the input reads as it did. -/
def polyTurnedSpec : ChangeSpec := { name := "polyTurned", fn := fun _ => fun
  | [d1, d2, d3, d4] => { results := [.lit (.bool true)], args := [d1, d2, d3, d4] }
  | _ => none }
def polyTurnedRow : OpenClaim := { program := "ytnnfkdajbaicoaa", sum := "602e5e0ff2231725c529b151e9b5104381923fc9b901990a0f68315873151f26", func := "apiary/apiarylaw9.PolyTurned", spec := "polyTurned", unfollowed := true, recurses := true, apart := false }
def PolyTurnedSaid : Prop := polyTurnedRow.holds Try.pinned (OpenSpec.ofChange polyTurnedSpec)

/-- ITS FALSE NEIGHBOUR: 'it returns false'. Refute it at one input. -/
def polyTurnedWrong : ChangeSpec := { name := "polyTurned", fn := fun _ => fun
  | [d1, d2, d3, d4] => { results := [.lit (.bool false)], args := [d1, d2, d3, d4] }
  | _ => none }
def PolyTurnedWrongFalsely : Prop := polyTurnedRow.holds Try.pinned (OpenSpec.ofChange polyTurnedWrong)

/-- 'apiarylaw9.PolyThree': WHATEVER THE INPUT: true; the input reads as it did. -/
def polyThreeSpec : ChangeSpec := { name := "polyThree", fn := fun _ => fun
  | [d1, d2, d3, d4, d5] => { results := [.lit (.bool true)], args := [d1, d2, d3, d4, d5] }
  | _ => none }
def polyThreeRow : OpenClaim := { program := "ytnnfkdajbaicoaa", sum := "602e5e0ff2231725c529b151e9b5104381923fc9b901990a0f68315873151f26", func := "apiary/apiarylaw9.PolyThree", spec := "polyThree", unfollowed := true, recurses := true, apart := false }
def PolyThreeSaid : Prop := polyThreeRow.holds Try.pinned (OpenSpec.ofChange polyThreeSpec)

/-- ITS FALSE NEIGHBOUR: 'it returns false'. Refute it at one input. -/
def polyThreeWrong : ChangeSpec := { name := "polyThree", fn := fun _ => fun
  | [d1, d2, d3, d4, d5] => { results := [.lit (.bool false)], args := [d1, d2, d3, d4, d5] }
  | _ => none }
def PolyThreeWrongFalsely : Prop := polyThreeRow.holds Try.pinned (OpenSpec.ofChange polyThreeWrong)

/-- 'apiarylaw9.PolyMoved': WHATEVER THE INPUT: true; the input reads as it did. -/
def polyMovedSpec : ChangeSpec := { name := "polyMoved", fn := fun _ => fun
  | [d1, d2, d3, d4, d5] => { results := [.lit (.bool true)], args := [d1, d2, d3, d4, d5] }
  | _ => none }
def polyMovedRow : OpenClaim := { program := "ytnnfkdajbaicoaa", sum := "602e5e0ff2231725c529b151e9b5104381923fc9b901990a0f68315873151f26", func := "apiary/apiarylaw9.PolyMoved", spec := "polyMoved", unfollowed := true, recurses := true, apart := false }
def PolyMovedSaid : Prop := polyMovedRow.holds Try.pinned (OpenSpec.ofChange polyMovedSpec)

/-- ITS FALSE NEIGHBOUR: 'it returns false'. Refute it at one input. -/
def polyMovedWrong : ChangeSpec := { name := "polyMoved", fn := fun _ => fun
  | [d1, d2, d3, d4, d5] => { results := [.lit (.bool false)], args := [d1, d2, d3, d4, d5] }
  | _ => none }
def PolyMovedWrongFalsely : Prop := polyMovedRow.holds Try.pinned (OpenSpec.ofChange polyMovedWrong)

/-- 'apiarylaw9.PolyBoxes': WHATEVER THE INPUT: true; the input reads as it did. -/
def polyBoxesSpec : ChangeSpec := { name := "polyBoxes", fn := fun _ => fun
  | [d1, d2, d3, d4, d5, d6, d7] => { results := [.lit (.bool true)], args := [d1, d2, d3, d4, d5, d6, d7] }
  | _ => none }
def polyBoxesRow : OpenClaim := { program := "ytnnfkdajbaicoaa", sum := "602e5e0ff2231725c529b151e9b5104381923fc9b901990a0f68315873151f26", func := "apiary/apiarylaw9.PolyBoxes", spec := "polyBoxes", unfollowed := true, recurses := true, apart := false }
def PolyBoxesSaid : Prop := polyBoxesRow.holds Try.pinned (OpenSpec.ofChange polyBoxesSpec)

/-- ITS FALSE NEIGHBOUR: 'it returns false'. Refute it at one input. -/
def polyBoxesWrong : ChangeSpec := { name := "polyBoxes", fn := fun _ => fun
  | [d1, d2, d3, d4, d5, d6, d7] => { results := [.lit (.bool false)], args := [d1, d2, d3, d4, d5, d6, d7] }
  | _ => none }
def PolyBoxesWrongFalsely : Prop := polyBoxesRow.holds Try.pinned (OpenSpec.ofChange polyBoxesWrong)

/-- 'apiarylaw9.PolyTells': WHATEVER THE INPUT: true; the input reads as it did. -/
def polyTellsSpec : ChangeSpec := { name := "polyTells", fn := fun _ => fun
  | [d1, d2, d3, d4] => { results := [.lit (.bool true)], args := [d1, d2, d3, d4] }
  | _ => none }
def polyTellsRow : OpenClaim := { program := "ytnnfkdajbaicoaa", sum := "602e5e0ff2231725c529b151e9b5104381923fc9b901990a0f68315873151f26", func := "apiary/apiarylaw9.PolyTells", spec := "polyTells", inPlace := ["math/bits.Add64"], unfollowed := true, recurses := true, apart := false }
def PolyTellsSaid : Prop := polyTellsRow.holds Try.pinned (OpenSpec.ofChange polyTellsSpec)

/-- ITS FALSE NEIGHBOUR: 'it returns false'. Refute it at one input. -/
def polyTellsWrong : ChangeSpec := { name := "polyTells", fn := fun _ => fun
  | [d1, d2, d3, d4] => { results := [.lit (.bool false)], args := [d1, d2, d3, d4] }
  | _ => none }
def PolyTellsWrongFalsely : Prop := polyTellsRow.holds Try.pinned (OpenSpec.ofChange polyTellsWrong)

/- THE SECOND FORM. 'bulk': how many values and letters a reading holds, each counted each time it is reached (what is shared counts as often as it is met; a slice's spare places count too). A statement '..UptoSaid' is the law's where the arguments, and the package variables that the reading takes, are together of bulk at most 1048576: NARROWER than '..Said'. Prove '..Said' where nothing that the law and all that it calls make is longer than what came in: it says more and counts as full. Else prove '..UptoSaid'. A law counts once. -/
mutual
def uptoBulk {H : Type} : DataW H → Nat
  | .lit (.string bytes) => bytes.length + 1
  | .lit _ => 1
  | .nil => 1
  | .ptr d => uptoBulk d + 1
  | .slice elems spare => uptoBulkAll elems + uptoBulkAll spare + 1
  | .agg parts => uptoBulkAll parts + 1
  | .iface _ d => uptoBulk d + 1
  | .map entries => uptoBulkEntries entries + 1
  | .held _ => 1
def uptoBulkAll {H : Type} : List (DataW H) → Nat
  | [] => 0
  | d :: r => uptoBulk d + uptoBulkAll r
def uptoBulkEntries {H : Type} : List (Lit × DataW H) → Nat
  | [] => 0
  | x :: r => uptoBulkEntry x + uptoBulkEntries r
def uptoBulkEntry {H : Type} : Lit × DataW H → Nat
  | (.string bytes, d) => bytes.length + uptoBulk d + 1
  | (_, d) => uptoBulk d + 1
 end
def uptoSmall : (H : Type) → List (DataW H) → Bool := fun _ ds => decide (uptoBulkAll ds ≤ 1048576)
def OpenSpec.upto (s : _root_.Go.ChangeSpec) : _root_.Go.OpenSpec := { _root_.Go.OpenSpec.ofChange s with cond := some uptoSmall }

/-- 'apiarylaw9.PolyTogether', WHERE WHAT IT READS IS OF BULK AT MOST 1048576: true; the input reads as it did. -/
def polyTogetherUptoRow : OpenClaim := { program := "ytnnfkdajbaicoaa", sum := "602e5e0ff2231725c529b151e9b5104381923fc9b901990a0f68315873151f26", func := "apiary/apiarylaw9.PolyTogether", spec := "polyTogether", unfollowed := true, recurses := true, apart := false, narrowed := true }
def PolyTogetherUptoSaid : Prop := polyTogetherUptoRow.holds Try.pinned (OpenSpec.upto polyTogetherSpec)

/-- 'apiarylaw9.PolyBounds', WHERE WHAT IT READS IS OF BULK AT MOST 1048576: true; the input reads as it did. -/
def polyBoundsUptoRow : OpenClaim := { program := "ytnnfkdajbaicoaa", sum := "602e5e0ff2231725c529b151e9b5104381923fc9b901990a0f68315873151f26", func := "apiary/apiarylaw9.PolyBounds", spec := "polyBounds", unfollowed := true, recurses := true, apart := false, narrowed := true }
def PolyBoundsUptoSaid : Prop := polyBoundsUptoRow.holds Try.pinned (OpenSpec.upto polyBoundsSpec)

/-- 'apiarylaw9.PolyTurned', WHERE WHAT IT READS IS OF BULK AT MOST 1048576: true; the input reads as it did. -/
def polyTurnedUptoRow : OpenClaim := { program := "ytnnfkdajbaicoaa", sum := "602e5e0ff2231725c529b151e9b5104381923fc9b901990a0f68315873151f26", func := "apiary/apiarylaw9.PolyTurned", spec := "polyTurned", unfollowed := true, recurses := true, apart := false, narrowed := true }
def PolyTurnedUptoSaid : Prop := polyTurnedUptoRow.holds Try.pinned (OpenSpec.upto polyTurnedSpec)

/-- 'apiarylaw9.PolyThree', WHERE WHAT IT READS IS OF BULK AT MOST 1048576: true; the input reads as it did. -/
def polyThreeUptoRow : OpenClaim := { program := "ytnnfkdajbaicoaa", sum := "602e5e0ff2231725c529b151e9b5104381923fc9b901990a0f68315873151f26", func := "apiary/apiarylaw9.PolyThree", spec := "polyThree", unfollowed := true, recurses := true, apart := false, narrowed := true }
def PolyThreeUptoSaid : Prop := polyThreeUptoRow.holds Try.pinned (OpenSpec.upto polyThreeSpec)

/-- 'apiarylaw9.PolyMoved', WHERE WHAT IT READS IS OF BULK AT MOST 1048576: true; the input reads as it did. -/
def polyMovedUptoRow : OpenClaim := { program := "ytnnfkdajbaicoaa", sum := "602e5e0ff2231725c529b151e9b5104381923fc9b901990a0f68315873151f26", func := "apiary/apiarylaw9.PolyMoved", spec := "polyMoved", unfollowed := true, recurses := true, apart := false, narrowed := true }
def PolyMovedUptoSaid : Prop := polyMovedUptoRow.holds Try.pinned (OpenSpec.upto polyMovedSpec)

/-- 'apiarylaw9.PolyBoxes', WHERE WHAT IT READS IS OF BULK AT MOST 1048576: true; the input reads as it did. -/
def polyBoxesUptoRow : OpenClaim := { program := "ytnnfkdajbaicoaa", sum := "602e5e0ff2231725c529b151e9b5104381923fc9b901990a0f68315873151f26", func := "apiary/apiarylaw9.PolyBoxes", spec := "polyBoxes", unfollowed := true, recurses := true, apart := false, narrowed := true }
def PolyBoxesUptoSaid : Prop := polyBoxesUptoRow.holds Try.pinned (OpenSpec.upto polyBoxesSpec)

/-- 'apiarylaw9.PolyTells', WHERE WHAT IT READS IS OF BULK AT MOST 1048576: true; the input reads as it did. -/
def polyTellsUptoRow : OpenClaim := { program := "ytnnfkdajbaicoaa", sum := "602e5e0ff2231725c529b151e9b5104381923fc9b901990a0f68315873151f26", func := "apiary/apiarylaw9.PolyTells", spec := "polyTells", inPlace := ["math/bits.Add64"], unfollowed := true, recurses := true, apart := false, narrowed := true }
def PolyTellsUptoSaid : Prop := polyTellsUptoRow.holds Try.pinned (OpenSpec.upto polyTellsSpec)

end Rows
end Go.Proofs.Ytnnfkdajbaicoaa
