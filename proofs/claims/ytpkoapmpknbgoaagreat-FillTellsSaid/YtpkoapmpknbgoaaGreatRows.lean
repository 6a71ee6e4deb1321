/-
  No cell of these rows narrows 'for every input' (looked for: loops, veiled, ifaces, maps, wideKeys, modest, calm, conditions, laid).
  DERIVED. THE GIVEN ROWS OF THIS SEAT. 5 by the template 'for every input the law returns true; each argument reads behind the call as it read before'; 0 by the template 'total and deterministic' (their statements: YtpkoapmpknbgoaaGreatTotals.lean).
  GIVEN WITH THE SEED: the statements are not yours to turn. If you find one false, say at which input.
  Laid BY PROGRAM, IN A SANDBOX (cutbox-rows.mjs): the forced cells as the released guide's own fill.sh prints them over the translation 66155401383b230d… (all of the seat's roots in one cut). By AI agents, Wed Nov 11 2026. No macro, syntax, notation, axiom, sorry.
-/
import Derived.Test.YtpkoapmpknbgoaaGreatChecked
import GoSem.Claim
import GoSem.ClaimJoined
import GoSem.ClaimMapViews
import Derived.JoinedTies
import Derived.KernelRfl
namespace Go.Proofs.YtpkoapmpknbgoaaGreat
/- THE CELL 'sum', in the pinned program and in every row, IS THE sha256 OF THE DUMP (.gsa) THAT YtpkoapmpknbgoaaGreatProg.lean LOADS. Nothing in Lean hashes anything: it is a label: what it is worth is what the hold of that sum in a sandbox is worth. -/
noncomputable def Tryz.pinned : Pinned := { name := "ytpkoapmpknbgoaagreat", sum := "66155401383b230d28ef784f03ad54b36d98259a2fba88de1dcd96fd4da187c8", checked := Tryz.checked }
namespace Rows
def none {H : Type} : Left H := { results := [], args := [] }

/-- 'apiarylaw11.FillBoxes': WHATEVER THE INPUT: true; the input reads as it did. -/
def fillBoxesSpec : ChangeSpec := { name := "fillBoxes", fn := fun _ => fun
  | [d1, d2, d3, d4, d5] => { results := [.lit (.bool true)], args := [d1, d2, d3, d4, d5] }
  | _ => none }
def fillBoxesRow : OpenClaim := { program := "ytpkoapmpknbgoaagreat", sum := "66155401383b230d28ef784f03ad54b36d98259a2fba88de1dcd96fd4da187c8", func := "apiary/apiarylaw11.FillBoxes", spec := "fillBoxes", inPlace := ["math/bits.Add64", "math/bits.Sub64"], unfollowed := true, recurses := true, plainKeys := false, apart := false }
def FillBoxesSaid : Prop := fillBoxesRow.holds Tryz.pinned (OpenSpec.ofChange fillBoxesSpec)

/-- ITS FALSE NEIGHBOUR: 'it returns false'. Refute it at one input. -/
def fillBoxesWrong : ChangeSpec := { name := "fillBoxes", fn := fun _ => fun
  | [d1, d2, d3, d4, d5] => { results := [.lit (.bool false)], args := [d1, d2, d3, d4, d5] }
  | _ => none }
def FillBoxesWrongFalsely : Prop := fillBoxesRow.holds Tryz.pinned (OpenSpec.ofChange fillBoxesWrong)

/-- 'apiarylaw11.FillHalves': WHATEVER THE INPUT: true; the input reads as it did. -/
def fillHalvesSpec : ChangeSpec := { name := "fillHalves", fn := fun _ => fun
  | [d1, d2, d3, d4, d5] => { results := [.lit (.bool true)], args := [d1, d2, d3, d4, d5] }
  | _ => none }
def fillHalvesRow : OpenClaim := { program := "ytpkoapmpknbgoaagreat", sum := "66155401383b230d28ef784f03ad54b36d98259a2fba88de1dcd96fd4da187c8", func := "apiary/apiarylaw11.FillHalves", spec := "fillHalves", inPlace := ["math/bits.Add64", "math/bits.Sub64"], unfollowed := true, recurses := true, plainKeys := false, apart := false }
def FillHalvesSaid : Prop := fillHalvesRow.holds Tryz.pinned (OpenSpec.ofChange fillHalvesSpec)

/-- ITS FALSE NEIGHBOUR: 'it returns false'. Refute it at one input. -/
def fillHalvesWrong : ChangeSpec := { name := "fillHalves", fn := fun _ => fun
  | [d1, d2, d3, d4, d5] => { results := [.lit (.bool false)], args := [d1, d2, d3, d4, d5] }
  | _ => none }
def FillHalvesWrongFalsely : Prop := fillHalvesRow.holds Tryz.pinned (OpenSpec.ofChange fillHalvesWrong)

/-- 'apiarylaw11.FillApart': WHATEVER THE INPUT: true; the input reads as it did. -/
def fillApartSpec : ChangeSpec := { name := "fillApart", fn := fun _ => fun
  | [d1, d2, d3, d4] => { results := [.lit (.bool true)], args := [d1, d2, d3, d4] }
  | _ => none }
def fillApartRow : OpenClaim := { program := "ytpkoapmpknbgoaagreat", sum := "66155401383b230d28ef784f03ad54b36d98259a2fba88de1dcd96fd4da187c8", func := "apiary/apiarylaw11.FillApart", spec := "fillApart", inPlace := ["math/bits.Add64", "math/bits.Sub64"], unfollowed := true, recurses := true, plainKeys := false, apart := false }
def FillApartSaid : Prop := fillApartRow.holds Tryz.pinned (OpenSpec.ofChange fillApartSpec)

/-- ITS FALSE NEIGHBOUR: 'it returns false'. Refute it at one input. -/
def fillApartWrong : ChangeSpec := { name := "fillApart", fn := fun _ => fun
  | [d1, d2, d3, d4] => { results := [.lit (.bool false)], args := [d1, d2, d3, d4] }
  | _ => none }
def FillApartWrongFalsely : Prop := fillApartRow.holds Tryz.pinned (OpenSpec.ofChange fillApartWrong)

/-- 'apiarylaw11.FillTells': WHATEVER THE INPUT: true; the input reads as it did. -/
def fillTellsSpec : ChangeSpec := { name := "fillTells", fn := fun _ => fun
  | [d1, d2, d3, d4, d5, d6] => { results := [.lit (.bool true)], args := [d1, d2, d3, d4, d5, d6] }
  | _ => none }
def fillTellsRow : OpenClaim := { program := "ytpkoapmpknbgoaagreat", sum := "66155401383b230d28ef784f03ad54b36d98259a2fba88de1dcd96fd4da187c8", func := "apiary/apiarylaw11.FillTells", spec := "fillTells", inPlace := ["math/bits.Add64", "math/bits.Sub64"], unfollowed := true, recurses := true, plainKeys := false, apart := false }
def FillTellsSaid : Prop := fillTellsRow.holds Tryz.pinned (OpenSpec.ofChange fillTellsSpec)

/-- ITS FALSE NEIGHBOUR: 'it returns false'. Refute it at one input. -/
def fillTellsWrong : ChangeSpec := { name := "fillTells", fn := fun _ => fun
  | [d1, d2, d3, d4, d5, d6] => { results := [.lit (.bool false)], args := [d1, d2, d3, d4, d5, d6] }
  | _ => none }
def FillTellsWrongFalsely : Prop := fillTellsRow.holds Tryz.pinned (OpenSpec.ofChange fillTellsWrong)

/-- 'apiarylaw11.FillPacks': WHATEVER THE INPUT: true; the input reads as it did. -/
def fillPacksSpec : ChangeSpec := { name := "fillPacks", fn := fun _ => fun
  | [d1, d2, d3, d4] => { results := [.lit (.bool true)], args := [d1, d2, d3, d4] }
  | _ => none }
def fillPacksRow : OpenClaim := { program := "ytpkoapmpknbgoaagreat", sum := "66155401383b230d28ef784f03ad54b36d98259a2fba88de1dcd96fd4da187c8", func := "apiary/apiarylaw11.FillPacks", spec := "fillPacks", inPlace := ["math/bits.Add64", "math/bits.Sub64"], unfollowed := true, recurses := true, plainKeys := false, apart := false }
def FillPacksSaid : Prop := fillPacksRow.holds Tryz.pinned (OpenSpec.ofChange fillPacksSpec)

/-- ITS FALSE NEIGHBOUR: 'it returns false'. Refute it at one input. -/
def fillPacksWrong : ChangeSpec := { name := "fillPacks", fn := fun _ => fun
  | [d1, d2, d3, d4] => { results := [.lit (.bool false)], args := [d1, d2, d3, d4] }
  | _ => none }
def FillPacksWrongFalsely : Prop := fillPacksRow.holds Tryz.pinned (OpenSpec.ofChange fillPacksWrong)

/- THE SECOND FORM. 'bulk': how many values and letters a reading holds, each counted each time it is reached (what is shared counts as often as it is met; a slice's spare places count too). A statement '..UptoSaid' is the law's where the arguments, and the package variables that the reading takes, are together of bulk at most 1048576: NARROWER than '..Said'. Prove '..Said' where nothing that the law and all that it calls make is longer than what came in: it says more and counts as full. Else prove '..UptoSaid'. A law counts once. -/
mutual
def uptoBulk {H : Type} : DataW H → Nat
  | .lit (.string bytes) => bytes.length + 1
  | .lit _ => 1
  | .nil => 1
  | .ptr d => uptoBulk d + 1
  | .slice elems spare => uptoBulkAll elems + uptoBulkAll spare + 1
  | .agg parts => uptoBulkAll parts + 1
  | .iface _ d => uptoBulk d + 1
  | .map entries => uptoBulkEntries entries + 1
  | .held _ => 1
def uptoBulkAll {H : Type} : List (DataW H) → Nat
  | [] => 0
  | d :: r => uptoBulk d + uptoBulkAll r
def uptoBulkEntries {H : Type} : List (Lit × DataW H) → Nat
  | [] => 0
  | x :: r => uptoBulkEntry x + uptoBulkEntries r
def uptoBulkEntry {H : Type} : Lit × DataW H → Nat
  | (.string bytes, d) => bytes.length + uptoBulk d + 1
  | (_, d) => uptoBulk d + 1
 end
def uptoSmall : (H : Type) → List (DataW H) → Bool := fun _ ds => decide (uptoBulkAll ds ≤ 1048576)
def OpenSpec.upto (s : _root_.Go.ChangeSpec) : _root_.Go.OpenSpec := { _root_.Go.OpenSpec.ofChange s with cond := some uptoSmall }

/-- 'apiarylaw11.FillBoxes', WHERE WHAT IT READS IS OF BULK AT MOST 1048576: true; the input reads as it did. -/
def fillBoxesUptoRow : OpenClaim := { program := "ytpkoapmpknbgoaagreat", sum := "66155401383b230d28ef784f03ad54b36d98259a2fba88de1dcd96fd4da187c8", func := "apiary/apiarylaw11.FillBoxes", spec := "fillBoxes", inPlace := ["math/bits.Add64", "math/bits.Sub64"], unfollowed := true, recurses := true, plainKeys := false, apart := false, narrowed := true }
def FillBoxesUptoSaid : Prop := fillBoxesUptoRow.holds Tryz.pinned (OpenSpec.upto fillBoxesSpec)

/-- 'apiarylaw11.FillHalves', WHERE WHAT IT READS IS OF BULK AT MOST 1048576: true; the input reads as it did. -/
def fillHalvesUptoRow : OpenClaim := { program := "ytpkoapmpknbgoaagreat", sum := "66155401383b230d28ef784f03ad54b36d98259a2fba88de1dcd96fd4da187c8", func := "apiary/apiarylaw11.FillHalves", spec := "fillHalves", inPlace := ["math/bits.Add64", "math/bits.Sub64"], unfollowed := true, recurses := true, plainKeys := false, apart := false, narrowed := true }
def FillHalvesUptoSaid : Prop := fillHalvesUptoRow.holds Tryz.pinned (OpenSpec.upto fillHalvesSpec)

/-- 'apiarylaw11.FillApart', WHERE WHAT IT READS IS OF BULK AT MOST 1048576: true; the input reads as it did. -/
def fillApartUptoRow : OpenClaim := { program := "ytpkoapmpknbgoaagreat", sum := "66155401383b230d28ef784f03ad54b36d98259a2fba88de1dcd96fd4da187c8", func := "apiary/apiarylaw11.FillApart", spec := "fillApart", inPlace := ["math/bits.Add64", "math/bits.Sub64"], unfollowed := true, recurses := true, plainKeys := false, apart := false, narrowed := true }
def FillApartUptoSaid : Prop := fillApartUptoRow.holds Tryz.pinned (OpenSpec.upto fillApartSpec)

/-- 'apiarylaw11.FillTells', WHERE WHAT IT READS IS OF BULK AT MOST 1048576: true; the input reads as it did. -/
def fillTellsUptoRow : OpenClaim := { program := "ytpkoapmpknbgoaagreat", sum := "66155401383b230d28ef784f03ad54b36d98259a2fba88de1dcd96fd4da187c8", func := "apiary/apiarylaw11.FillTells", spec := "fillTells", inPlace := ["math/bits.Add64", "math/bits.Sub64"], unfollowed := true, recurses := true, plainKeys := false, apart := false, narrowed := true }
def FillTellsUptoSaid : Prop := fillTellsUptoRow.holds Tryz.pinned (OpenSpec.upto fillTellsSpec)

/-- 'apiarylaw11.FillPacks', WHERE WHAT IT READS IS OF BULK AT MOST 1048576: true; the input reads as it did. -/
def fillPacksUptoRow : OpenClaim := { program := "ytpkoapmpknbgoaagreat", sum := "66155401383b230d28ef784f03ad54b36d98259a2fba88de1dcd96fd4da187c8", func := "apiary/apiarylaw11.FillPacks", spec := "fillPacks", inPlace := ["math/bits.Add64", "math/bits.Sub64"], unfollowed := true, recurses := true, plainKeys := false, apart := false, narrowed := true }
def FillPacksUptoSaid : Prop := fillPacksUptoRow.holds Tryz.pinned (OpenSpec.upto fillPacksSpec)

end Rows
end Go.Proofs.YtpkoapmpknbgoaaGreat
