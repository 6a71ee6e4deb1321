/-
  No cell of these rows narrows 'for every input' (looked for: loops, veiled, ifaces, maps, wideKeys, modest, calm, conditions, laid).
  DERIVED. THE GIVEN ROWS OF THIS SEAT. 8 by the template 'for every input the law returns true; each argument reads behind the call as it read before'; 0 by the template 'total and deterministic' (their statements: YtdbfimdcaacjhaaGreatTotals.lean).
  GIVEN WITH THE SEED: the statements are not yours to turn. If you find one false, say at which input.
  Laid BY PROGRAM, IN A SANDBOX (cutbox-rows.mjs): the forced cells as the released guide's own fill.sh prints them over the translation 9d1e48e512114d9d… (all of the seat's roots in one cut). By AI agents, Wed Nov 11 2026. No macro, syntax, notation, axiom, sorry.
-/
import Derived.Test.YtdbfimdcaacjhaaGreatChecked
import GoSem.Claim
import GoSem.ClaimJoined
import GoSem.ClaimMapViews
import Derived.JoinedTies
import Derived.KernelRfl
namespace Go.Proofs.YtdbfimdcaacjhaaGreat
/- THE CELL 'sum', in the pinned program and in every row, IS THE sha256 OF THE DUMP (.gsa) THAT YtdbfimdcaacjhaaGreatProg.lean LOADS. Nothing in Lean hashes anything: it is a label: what it is worth is what the hold of that sum in a sandbox is worth. -/
noncomputable def Tryz.pinned : Pinned := { name := "ytdbfimdcaacjhaagreat", sum := "9d1e48e512114d9dedd51d7c74004edfdcb0967ac81edc4e364d527a3dbd98ca", checked := Tryz.checked }
namespace Rows
def none {H : Type} : Left H := { results := [], args := [] }

/-- 'apiarylaw10.CoverSizes': WHATEVER THE INPUT: true; the input reads as it did. -/
def coverSizesSpec : ChangeSpec := { name := "coverSizes", fn := fun _ => fun
  | [d1, d2, d3] => { results := [.lit (.bool true)], args := [d1, d2, d3] }
  | _ => none }
def coverSizesRow : OpenClaim := { program := "ytdbfimdcaacjhaagreat", sum := "9d1e48e512114d9dedd51d7c74004edfdcb0967ac81edc4e364d527a3dbd98ca", func := "apiary/apiarylaw10.CoverSizes", spec := "coverSizes", inPlace := ["math/bits.Add64", "math/bits.Sub64"], unfollowed := true, recurses := true, plainKeys := false, apart := false }
def CoverSizesSaid : Prop := coverSizesRow.holds Tryz.pinned (OpenSpec.ofChange coverSizesSpec)

/-- ITS FALSE NEIGHBOUR: 'it returns false'. Refute it at one input. -/
def coverSizesWrong : ChangeSpec := { name := "coverSizes", fn := fun _ => fun
  | [d1, d2, d3] => { results := [.lit (.bool false)], args := [d1, d2, d3] }
  | _ => none }
def CoverSizesWrongFalsely : Prop := coverSizesRow.holds Tryz.pinned (OpenSpec.ofChange coverSizesWrong)

/-- 'apiarylaw10.CoverTouches': WHATEVER THE INPUT: true; the input reads as it did. -/
def coverTouchesSpec : ChangeSpec := { name := "coverTouches", fn := fun _ => fun
  | [d1, d2, d3, d4, d5, d6, d7] => { results := [.lit (.bool true)], args := [d1, d2, d3, d4, d5, d6, d7] }
  | _ => none }
def coverTouchesRow : OpenClaim := { program := "ytdbfimdcaacjhaagreat", sum := "9d1e48e512114d9dedd51d7c74004edfdcb0967ac81edc4e364d527a3dbd98ca", func := "apiary/apiarylaw10.CoverTouches", spec := "coverTouches", inPlace := ["math/bits.Add64", "math/bits.Sub64"], unfollowed := true, recurses := true, plainKeys := false, apart := false }
def CoverTouchesSaid : Prop := coverTouchesRow.holds Tryz.pinned (OpenSpec.ofChange coverTouchesSpec)

/-- ITS FALSE NEIGHBOUR: 'it returns false'. Refute it at one input. -/
def coverTouchesWrong : ChangeSpec := { name := "coverTouches", fn := fun _ => fun
  | [d1, d2, d3, d4, d5, d6, d7] => { results := [.lit (.bool false)], args := [d1, d2, d3, d4, d5, d6, d7] }
  | _ => none }
def CoverTouchesWrongFalsely : Prop := coverTouchesRow.holds Tryz.pinned (OpenSpec.ofChange coverTouchesWrong)

/-- 'apiarylaw10.CoverPoints': WHATEVER THE INPUT: true; the input reads as it did. -/
def coverPointsSpec : ChangeSpec := { name := "coverPoints", fn := fun _ => fun
  | [d1, d2, d3, d4, d5, d6, d7] => { results := [.lit (.bool true)], args := [d1, d2, d3, d4, d5, d6, d7] }
  | _ => none }
def coverPointsRow : OpenClaim := { program := "ytdbfimdcaacjhaagreat", sum := "9d1e48e512114d9dedd51d7c74004edfdcb0967ac81edc4e364d527a3dbd98ca", func := "apiary/apiarylaw10.CoverPoints", spec := "coverPoints", inPlace := ["math/bits.Add64", "math/bits.Sub64"], unfollowed := true, recurses := true, plainKeys := false, apart := false }
def CoverPointsSaid : Prop := coverPointsRow.holds Tryz.pinned (OpenSpec.ofChange coverPointsSpec)

/-- ITS FALSE NEIGHBOUR: 'it returns false'. Refute it at one input. -/
def coverPointsWrong : ChangeSpec := { name := "coverPoints", fn := fun _ => fun
  | [d1, d2, d3, d4, d5, d6, d7] => { results := [.lit (.bool false)], args := [d1, d2, d3, d4, d5, d6, d7] }
  | _ => none }
def CoverPointsWrongFalsely : Prop := coverPointsRow.holds Tryz.pinned (OpenSpec.ofChange coverPointsWrong)

/-- 'apiarylaw10.CoverArgs': WHATEVER THE INPUT: true; the input reads as it did. -/
def coverArgsSpec : ChangeSpec := { name := "coverArgs", fn := fun _ => fun
  | [d1, d2, d3, d4] => { results := [.lit (.bool true)], args := [d1, d2, d3, d4] }
  | _ => none }
def coverArgsRow : OpenClaim := { program := "ytdbfimdcaacjhaagreat", sum := "9d1e48e512114d9dedd51d7c74004edfdcb0967ac81edc4e364d527a3dbd98ca", func := "apiary/apiarylaw10.CoverArgs", spec := "coverArgs", inPlace := ["math/bits.Add64", "math/bits.Sub64"], unfollowed := true, recurses := true, plainKeys := false, apart := false }
def CoverArgsSaid : Prop := coverArgsRow.holds Tryz.pinned (OpenSpec.ofChange coverArgsSpec)

/-- ITS FALSE NEIGHBOUR: 'it returns false'. Refute it at one input. -/
def coverArgsWrong : ChangeSpec := { name := "coverArgs", fn := fun _ => fun
  | [d1, d2, d3, d4] => { results := [.lit (.bool false)], args := [d1, d2, d3, d4] }
  | _ => none }
def CoverArgsWrongFalsely : Prop := coverArgsRow.holds Tryz.pinned (OpenSpec.ofChange coverArgsWrong)

/-- 'apiarylaw10.CoverBoxes': WHATEVER THE INPUT: true; the input reads as it did. -/
def coverBoxesSpec : ChangeSpec := { name := "coverBoxes", fn := fun _ => fun
  | [d1, d2, d3, d4, d5, d6, d7, d8] => { results := [.lit (.bool true)], args := [d1, d2, d3, d4, d5, d6, d7, d8] }
  | _ => none }
def coverBoxesRow : OpenClaim := { program := "ytdbfimdcaacjhaagreat", sum := "9d1e48e512114d9dedd51d7c74004edfdcb0967ac81edc4e364d527a3dbd98ca", func := "apiary/apiarylaw10.CoverBoxes", spec := "coverBoxes", inPlace := ["math/bits.Add64", "math/bits.Sub64"], unfollowed := true, recurses := true, plainKeys := false, apart := false }
def CoverBoxesSaid : Prop := coverBoxesRow.holds Tryz.pinned (OpenSpec.ofChange coverBoxesSpec)

/-- ITS FALSE NEIGHBOUR: 'it returns false'. Refute it at one input. -/
def coverBoxesWrong : ChangeSpec := { name := "coverBoxes", fn := fun _ => fun
  | [d1, d2, d3, d4, d5, d6, d7, d8] => { results := [.lit (.bool false)], args := [d1, d2, d3, d4, d5, d6, d7, d8] }
  | _ => none }
def CoverBoxesWrongFalsely : Prop := coverBoxesRow.holds Tryz.pinned (OpenSpec.ofChange coverBoxesWrong)

/-- 'apiarylaw10.CoverParts': WHATEVER THE INPUT: true; the input reads as it did. -/
def coverPartsSpec : ChangeSpec := { name := "coverParts", fn := fun _ => fun
  | [d1, d2, d3, d4, d5, d6] => { results := [.lit (.bool true)], args := [d1, d2, d3, d4, d5, d6] }
  | _ => none }
def coverPartsRow : OpenClaim := { program := "ytdbfimdcaacjhaagreat", sum := "9d1e48e512114d9dedd51d7c74004edfdcb0967ac81edc4e364d527a3dbd98ca", func := "apiary/apiarylaw10.CoverParts", spec := "coverParts", inPlace := ["math/bits.Add64", "math/bits.Sub64"], unfollowed := true, recurses := true, plainKeys := false, apart := false }
def CoverPartsSaid : Prop := coverPartsRow.holds Tryz.pinned (OpenSpec.ofChange coverPartsSpec)

/-- ITS FALSE NEIGHBOUR: 'it returns false'. Refute it at one input. -/
def coverPartsWrong : ChangeSpec := { name := "coverParts", fn := fun _ => fun
  | [d1, d2, d3, d4, d5, d6] => { results := [.lit (.bool false)], args := [d1, d2, d3, d4, d5, d6] }
  | _ => none }
def CoverPartsWrongFalsely : Prop := coverPartsRow.holds Tryz.pinned (OpenSpec.ofChange coverPartsWrong)

/-- 'apiarylaw10.CoverBounds': WHATEVER THE INPUT: true; the input reads as it did. -/
def coverBoundsSpec : ChangeSpec := { name := "coverBounds", fn := fun _ => fun
  | [d1, d2, d3] => { results := [.lit (.bool true)], args := [d1, d2, d3] }
  | _ => none }
def coverBoundsRow : OpenClaim := { program := "ytdbfimdcaacjhaagreat", sum := "9d1e48e512114d9dedd51d7c74004edfdcb0967ac81edc4e364d527a3dbd98ca", func := "apiary/apiarylaw10.CoverBounds", spec := "coverBounds", inPlace := ["math/bits.Add64", "math/bits.Sub64"], unfollowed := true, recurses := true, plainKeys := false, apart := false }
def CoverBoundsSaid : Prop := coverBoundsRow.holds Tryz.pinned (OpenSpec.ofChange coverBoundsSpec)

/-- ITS FALSE NEIGHBOUR: 'it returns false'. Refute it at one input. -/
def coverBoundsWrong : ChangeSpec := { name := "coverBounds", fn := fun _ => fun
  | [d1, d2, d3] => { results := [.lit (.bool false)], args := [d1, d2, d3] }
  | _ => none }
def CoverBoundsWrongFalsely : Prop := coverBoundsRow.holds Tryz.pinned (OpenSpec.ofChange coverBoundsWrong)

/-- 'apiarylaw10.CoverNext': WHATEVER THE INPUT: true; the input reads as it did. -/
def coverNextSpec : ChangeSpec := { name := "coverNext", fn := fun _ => fun
  | [d1, d2, d3, d4] => { results := [.lit (.bool true)], args := [d1, d2, d3, d4] }
  | _ => none }
def coverNextRow : OpenClaim := { program := "ytdbfimdcaacjhaagreat", sum := "9d1e48e512114d9dedd51d7c74004edfdcb0967ac81edc4e364d527a3dbd98ca", func := "apiary/apiarylaw10.CoverNext", spec := "coverNext", inPlace := ["math/bits.Add64", "math/bits.Sub64"], unfollowed := true, recurses := true, plainKeys := false, apart := false }
def CoverNextSaid : Prop := coverNextRow.holds Tryz.pinned (OpenSpec.ofChange coverNextSpec)

/-- ITS FALSE NEIGHBOUR: 'it returns false'. Refute it at one input. -/
def coverNextWrong : ChangeSpec := { name := "coverNext", fn := fun _ => fun
  | [d1, d2, d3, d4] => { results := [.lit (.bool false)], args := [d1, d2, d3, d4] }
  | _ => none }
def CoverNextWrongFalsely : Prop := coverNextRow.holds Tryz.pinned (OpenSpec.ofChange coverNextWrong)

/- THE SECOND FORM. 'bulk': how many values and letters a reading holds, each counted each time it is reached (what is shared counts as often as it is met; a slice's spare places count too). A statement '..UptoSaid' is the law's where the arguments, and the package variables that the reading takes, are together of bulk at most 1048576: NARROWER than '..Said'. Prove '..Said' where nothing that the law and all that it calls make is longer than what came in: it says more and counts as full. Else prove '..UptoSaid'. A law counts once. -/
mutual
def uptoBulk {H : Type} : DataW H → Nat
  | .lit (.string bytes) => bytes.length + 1
  | .lit _ => 1
  | .nil => 1
  | .ptr d => uptoBulk d + 1
  | .slice elems spare => uptoBulkAll elems + uptoBulkAll spare + 1
  | .agg parts => uptoBulkAll parts + 1
  | .iface _ d => uptoBulk d + 1
  | .map entries => uptoBulkEntries entries + 1
  | .held _ => 1
def uptoBulkAll {H : Type} : List (DataW H) → Nat
  | [] => 0
  | d :: r => uptoBulk d + uptoBulkAll r
def uptoBulkEntries {H : Type} : List (Lit × DataW H) → Nat
  | [] => 0
  | x :: r => uptoBulkEntry x + uptoBulkEntries r
def uptoBulkEntry {H : Type} : Lit × DataW H → Nat
  | (.string bytes, d) => bytes.length + uptoBulk d + 1
  | (_, d) => uptoBulk d + 1
 end
def uptoSmall : (H : Type) → List (DataW H) → Bool := fun _ ds => decide (uptoBulkAll ds ≤ 1048576)
def OpenSpec.upto (s : _root_.Go.ChangeSpec) : _root_.Go.OpenSpec := { _root_.Go.OpenSpec.ofChange s with cond := some uptoSmall }

/-- 'apiarylaw10.CoverSizes', WHERE WHAT IT READS IS OF BULK AT MOST 1048576: true; the input reads as it did. -/
def coverSizesUptoRow : OpenClaim := { program := "ytdbfimdcaacjhaagreat", sum := "9d1e48e512114d9dedd51d7c74004edfdcb0967ac81edc4e364d527a3dbd98ca", func := "apiary/apiarylaw10.CoverSizes", spec := "coverSizes", inPlace := ["math/bits.Add64", "math/bits.Sub64"], unfollowed := true, recurses := true, plainKeys := false, apart := false, narrowed := true }
def CoverSizesUptoSaid : Prop := coverSizesUptoRow.holds Tryz.pinned (OpenSpec.upto coverSizesSpec)

/-- 'apiarylaw10.CoverTouches', WHERE WHAT IT READS IS OF BULK AT MOST 1048576: true; the input reads as it did. -/
def coverTouchesUptoRow : OpenClaim := { program := "ytdbfimdcaacjhaagreat", sum := "9d1e48e512114d9dedd51d7c74004edfdcb0967ac81edc4e364d527a3dbd98ca", func := "apiary/apiarylaw10.CoverTouches", spec := "coverTouches", inPlace := ["math/bits.Add64", "math/bits.Sub64"], unfollowed := true, recurses := true, plainKeys := false, apart := false, narrowed := true }
def CoverTouchesUptoSaid : Prop := coverTouchesUptoRow.holds Tryz.pinned (OpenSpec.upto coverTouchesSpec)

/-- 'apiarylaw10.CoverPoints', WHERE WHAT IT READS IS OF BULK AT MOST 1048576: true; the input reads as it did. -/
def coverPointsUptoRow : OpenClaim := { program := "ytdbfimdcaacjhaagreat", sum := "9d1e48e512114d9dedd51d7c74004edfdcb0967ac81edc4e364d527a3dbd98ca", func := "apiary/apiarylaw10.CoverPoints", spec := "coverPoints", inPlace := ["math/bits.Add64", "math/bits.Sub64"], unfollowed := true, recurses := true, plainKeys := false, apart := false, narrowed := true }
def CoverPointsUptoSaid : Prop := coverPointsUptoRow.holds Tryz.pinned (OpenSpec.upto coverPointsSpec)

/-- 'apiarylaw10.CoverArgs', WHERE WHAT IT READS IS OF BULK AT MOST 1048576: true; the input reads as it did. -/
def coverArgsUptoRow : OpenClaim := { program := "ytdbfimdcaacjhaagreat", sum := "9d1e48e512114d9dedd51d7c74004edfdcb0967ac81edc4e364d527a3dbd98ca", func := "apiary/apiarylaw10.CoverArgs", spec := "coverArgs", inPlace := ["math/bits.Add64", "math/bits.Sub64"], unfollowed := true, recurses := true, plainKeys := false, apart := false, narrowed := true }
def CoverArgsUptoSaid : Prop := coverArgsUptoRow.holds Tryz.pinned (OpenSpec.upto coverArgsSpec)

/-- 'apiarylaw10.CoverBoxes', WHERE WHAT IT READS IS OF BULK AT MOST 1048576: true; the input reads as it did. -/
def coverBoxesUptoRow : OpenClaim := { program := "ytdbfimdcaacjhaagreat", sum := "9d1e48e512114d9dedd51d7c74004edfdcb0967ac81edc4e364d527a3dbd98ca", func := "apiary/apiarylaw10.CoverBoxes", spec := "coverBoxes", inPlace := ["math/bits.Add64", "math/bits.Sub64"], unfollowed := true, recurses := true, plainKeys := false, apart := false, narrowed := true }
def CoverBoxesUptoSaid : Prop := coverBoxesUptoRow.holds Tryz.pinned (OpenSpec.upto coverBoxesSpec)

/-- 'apiarylaw10.CoverParts', WHERE WHAT IT READS IS OF BULK AT MOST 1048576: true; the input reads as it did. -/
def coverPartsUptoRow : OpenClaim := { program := "ytdbfimdcaacjhaagreat", sum := "9d1e48e512114d9dedd51d7c74004edfdcb0967ac81edc4e364d527a3dbd98ca", func := "apiary/apiarylaw10.CoverParts", spec := "coverParts", inPlace := ["math/bits.Add64", "math/bits.Sub64"], unfollowed := true, recurses := true, plainKeys := false, apart := false, narrowed := true }
def CoverPartsUptoSaid : Prop := coverPartsUptoRow.holds Tryz.pinned (OpenSpec.upto coverPartsSpec)

/-- 'apiarylaw10.CoverBounds', WHERE WHAT IT READS IS OF BULK AT MOST 1048576: true; the input reads as it did. -/
def coverBoundsUptoRow : OpenClaim := { program := "ytdbfimdcaacjhaagreat", sum := "9d1e48e512114d9dedd51d7c74004edfdcb0967ac81edc4e364d527a3dbd98ca", func := "apiary/apiarylaw10.CoverBounds", spec := "coverBounds", inPlace := ["math/bits.Add64", "math/bits.Sub64"], unfollowed := true, recurses := true, plainKeys := false, apart := false, narrowed := true }
def CoverBoundsUptoSaid : Prop := coverBoundsUptoRow.holds Tryz.pinned (OpenSpec.upto coverBoundsSpec)

/-- 'apiarylaw10.CoverNext', WHERE WHAT IT READS IS OF BULK AT MOST 1048576: true; the input reads as it did. -/
def coverNextUptoRow : OpenClaim := { program := "ytdbfimdcaacjhaagreat", sum := "9d1e48e512114d9dedd51d7c74004edfdcb0967ac81edc4e364d527a3dbd98ca", func := "apiary/apiarylaw10.CoverNext", spec := "coverNext", inPlace := ["math/bits.Add64", "math/bits.Sub64"], unfollowed := true, recurses := true, plainKeys := false, apart := false, narrowed := true }
def CoverNextUptoSaid : Prop := coverNextUptoRow.holds Tryz.pinned (OpenSpec.upto coverNextSpec)

end Rows
end Go.Proofs.YtdbfimdcaacjhaaGreat
