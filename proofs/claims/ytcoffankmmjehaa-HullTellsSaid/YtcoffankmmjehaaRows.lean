/-
  No cell of these rows narrows 'for every input' (looked for: loops, veiled, ifaces, maps, wideKeys, modest, calm, conditions, laid).
  DERIVED. THE GIVEN ROWS OF THIS SEAT. 6 by the template 'for every input the law returns true; each argument reads behind the call as it read before'; 0 by the template 'total and deterministic' (their statements: YtcoffankmmjehaaTotals.lean).
  GIVEN WITH THE SEED: the statements are not yours to turn. If you find one false, say at which input.
  Laid BY PROGRAM, IN A SANDBOX (cutbox-rows.mjs): the forced cells as the released guide's own fill.sh prints them over the translation 884715371ef951cb… (all of the seat's roots in one cut). By AI agents, Wed Nov 11 2026. No macro, syntax, notation, axiom, sorry.
-/
import Derived.Test.YtcoffankmmjehaaChecked
import GoSem.Claim
import GoSem.ClaimJoined
import GoSem.ClaimMapViews
import Derived.JoinedTies
import Derived.KernelRfl
namespace Go.Proofs.Ytcoffankmmjehaa
/- THE CELL 'sum', in the pinned program and in every row, IS THE sha256 OF THE DUMP (.gsa) THAT YtcoffankmmjehaaProg.lean LOADS. Nothing in Lean hashes anything: it is a label: what it is worth is what the hold of that sum in a sandbox is worth. -/
noncomputable def Try.pinned : Pinned := { name := "ytcoffankmmjehaa", sum := "884715371ef951cb3938df70c3994cc8f8ec5f634b6a775891283687f4157244", checked := Try.checked }
namespace Rows
def none {H : Type} : Left H := { results := [], args := [] }

/-- 'apiarylaw20.HullHolds': WHATEVER THE INPUT: true; the input reads as it did. -/
def hullHoldsSpec : ChangeSpec := { name := "hullHolds", fn := fun _ => fun
  | [d1, d2, d3] => { results := [.lit (.bool true)], args := [d1, d2, d3] }
  | _ => none }
def hullHoldsRow : OpenClaim := { program := "ytcoffankmmjehaa", sum := "884715371ef951cb3938df70c3994cc8f8ec5f634b6a775891283687f4157244", func := "apiary/apiarylaw20.HullHolds", spec := "hullHolds", unfollowed := true, recurses := true, apart := false }
def HullHoldsSaid : Prop := hullHoldsRow.holds Try.pinned (OpenSpec.ofChange hullHoldsSpec)

/-- ITS FALSE NEIGHBOUR: 'it returns false'. Refute it at one input. -/
def hullHoldsWrong : ChangeSpec := { name := "hullHolds", fn := fun _ => fun
  | [d1, d2, d3] => { results := [.lit (.bool false)], args := [d1, d2, d3] }
  | _ => none }
def HullHoldsWrongFalsely : Prop := hullHoldsRow.holds Try.pinned (OpenSpec.ofChange hullHoldsWrong)

/-- 'apiarylaw20.HullBoxes': WHATEVER THE INPUT: true; the input reads as it did. -/
def hullBoxesSpec : ChangeSpec := { name := "hullBoxes", fn := fun _ => fun
  | [d1, d2, d3, d4, d5] => { results := [.lit (.bool true)], args := [d1, d2, d3, d4, d5] }
  | _ => none }
def hullBoxesRow : OpenClaim := { program := "ytcoffankmmjehaa", sum := "884715371ef951cb3938df70c3994cc8f8ec5f634b6a775891283687f4157244", func := "apiary/apiarylaw20.HullBoxes", spec := "hullBoxes", unfollowed := true, recurses := true, apart := false }
def HullBoxesSaid : Prop := hullBoxesRow.holds Try.pinned (OpenSpec.ofChange hullBoxesSpec)

/-- ITS FALSE NEIGHBOUR: 'it returns false'. Refute it at one input. -/
def hullBoxesWrong : ChangeSpec := { name := "hullBoxes", fn := fun _ => fun
  | [d1, d2, d3, d4, d5] => { results := [.lit (.bool false)], args := [d1, d2, d3, d4, d5] }
  | _ => none }
def HullBoxesWrongFalsely : Prop := hullBoxesRow.holds Try.pinned (OpenSpec.ofChange hullBoxesWrong)

/-- 'apiarylaw20.HullJoins': WHATEVER THE INPUT: true; the input reads as it did. -/
def hullJoinsSpec : ChangeSpec := { name := "hullJoins", fn := fun _ => fun
  | [d1, d2] => { results := [.lit (.bool true)], args := [d1, d2] }
  | _ => none }
def hullJoinsRow : OpenClaim := { program := "ytcoffankmmjehaa", sum := "884715371ef951cb3938df70c3994cc8f8ec5f634b6a775891283687f4157244", func := "apiary/apiarylaw20.HullJoins", spec := "hullJoins", unfollowed := true, recurses := true, apart := false }
def HullJoinsSaid : Prop := hullJoinsRow.holds Try.pinned (OpenSpec.ofChange hullJoinsSpec)

/-- ITS FALSE NEIGHBOUR: 'it returns false'. Refute it at one input. -/
def hullJoinsWrong : ChangeSpec := { name := "hullJoins", fn := fun _ => fun
  | [d1, d2] => { results := [.lit (.bool false)], args := [d1, d2] }
  | _ => none }
def HullJoinsWrongFalsely : Prop := hullJoinsRow.holds Try.pinned (OpenSpec.ofChange hullJoinsWrong)

/-- 'apiarylaw20.HullRound': WHATEVER THE INPUT: true; the input reads as it did. -/
def hullRoundSpec : ChangeSpec := { name := "hullRound", fn := fun _ => fun
  | [d1, d2] => { results := [.lit (.bool true)], args := [d1, d2] }
  | _ => none }
def hullRoundRow : OpenClaim := { program := "ytcoffankmmjehaa", sum := "884715371ef951cb3938df70c3994cc8f8ec5f634b6a775891283687f4157244", func := "apiary/apiarylaw20.HullRound", spec := "hullRound", unfollowed := true, recurses := true, apart := false }
def HullRoundSaid : Prop := hullRoundRow.holds Try.pinned (OpenSpec.ofChange hullRoundSpec)

/-- ITS FALSE NEIGHBOUR: 'it returns false'. Refute it at one input. -/
def hullRoundWrong : ChangeSpec := { name := "hullRound", fn := fun _ => fun
  | [d1, d2] => { results := [.lit (.bool false)], args := [d1, d2] }
  | _ => none }
def HullRoundWrongFalsely : Prop := hullRoundRow.holds Try.pinned (OpenSpec.ofChange hullRoundWrong)

/-- 'apiarylaw20.HullOrder': WHATEVER THE INPUT: true; the input reads as it did. -/
def hullOrderSpec : ChangeSpec := { name := "hullOrder", fn := fun _ => fun
  | [d1, d2, d3, d4] => { results := [.lit (.bool true)], args := [d1, d2, d3, d4] }
  | _ => none }
def hullOrderRow : OpenClaim := { program := "ytcoffankmmjehaa", sum := "884715371ef951cb3938df70c3994cc8f8ec5f634b6a775891283687f4157244", func := "apiary/apiarylaw20.HullOrder", spec := "hullOrder", unfollowed := true, recurses := true, apart := false }
def HullOrderSaid : Prop := hullOrderRow.holds Try.pinned (OpenSpec.ofChange hullOrderSpec)

/-- ITS FALSE NEIGHBOUR: 'it returns false'. Refute it at one input. -/
def hullOrderWrong : ChangeSpec := { name := "hullOrder", fn := fun _ => fun
  | [d1, d2, d3, d4] => { results := [.lit (.bool false)], args := [d1, d2, d3, d4] }
  | _ => none }
def HullOrderWrongFalsely : Prop := hullOrderRow.holds Try.pinned (OpenSpec.ofChange hullOrderWrong)

/-- 'apiarylaw20.HullTells': WHATEVER THE INPUT: true; the input reads as it did. -/
def hullTellsSpec : ChangeSpec := { name := "hullTells", fn := fun _ => fun
  | [d1, d2, d3, d4] => { results := [.lit (.bool true)], args := [d1, d2, d3, d4] }
  | _ => none }
def hullTellsRow : OpenClaim := { program := "ytcoffankmmjehaa", sum := "884715371ef951cb3938df70c3994cc8f8ec5f634b6a775891283687f4157244", func := "apiary/apiarylaw20.HullTells", spec := "hullTells", inPlace := ["math/bits.Add64"], unfollowed := true, recurses := true, apart := false }
def HullTellsSaid : Prop := hullTellsRow.holds Try.pinned (OpenSpec.ofChange hullTellsSpec)

/-- ITS FALSE NEIGHBOUR: 'it returns false'. Refute it at one input. -/
def hullTellsWrong : ChangeSpec := { name := "hullTells", fn := fun _ => fun
  | [d1, d2, d3, d4] => { results := [.lit (.bool false)], args := [d1, d2, d3, d4] }
  | _ => none }
def HullTellsWrongFalsely : Prop := hullTellsRow.holds Try.pinned (OpenSpec.ofChange hullTellsWrong)

/- THE SECOND FORM. 'bulk': how many values and letters a reading holds, each counted each time it is reached (what is shared counts as often as it is met; a slice's spare places count too). A statement '..UptoSaid' is the law's where the arguments, and the package variables that the reading takes, are together of bulk at most 1048576: NARROWER than '..Said'. Prove '..Said' where nothing that the law and all that it calls make is longer than what came in: it says more and counts as full. Else prove '..UptoSaid'. A law counts once. -/
mutual
def uptoBulk {H : Type} : DataW H → Nat
  | .lit (.string bytes) => bytes.length + 1
  | .lit _ => 1
  | .nil => 1
  | .ptr d => uptoBulk d + 1
  | .slice elems spare => uptoBulkAll elems + uptoBulkAll spare + 1
  | .agg parts => uptoBulkAll parts + 1
  | .iface _ d => uptoBulk d + 1
  | .map entries => uptoBulkEntries entries + 1
  | .held _ => 1
def uptoBulkAll {H : Type} : List (DataW H) → Nat
  | [] => 0
  | d :: r => uptoBulk d + uptoBulkAll r
def uptoBulkEntries {H : Type} : List (Lit × DataW H) → Nat
  | [] => 0
  | x :: r => uptoBulkEntry x + uptoBulkEntries r
def uptoBulkEntry {H : Type} : Lit × DataW H → Nat
  | (.string bytes, d) => bytes.length + uptoBulk d + 1
  | (_, d) => uptoBulk d + 1
 end
def uptoSmall : (H : Type) → List (DataW H) → Bool := fun _ ds => decide (uptoBulkAll ds ≤ 1048576)
def OpenSpec.upto (s : _root_.Go.ChangeSpec) : _root_.Go.OpenSpec := { _root_.Go.OpenSpec.ofChange s with cond := some uptoSmall }

/-- 'apiarylaw20.HullHolds', WHERE WHAT IT READS IS OF BULK AT MOST 1048576: true; the input reads as it did. -/
def hullHoldsUptoRow : OpenClaim := { program := "ytcoffankmmjehaa", sum := "884715371ef951cb3938df70c3994cc8f8ec5f634b6a775891283687f4157244", func := "apiary/apiarylaw20.HullHolds", spec := "hullHolds", unfollowed := true, recurses := true, apart := false, narrowed := true }
def HullHoldsUptoSaid : Prop := hullHoldsUptoRow.holds Try.pinned (OpenSpec.upto hullHoldsSpec)

/-- 'apiarylaw20.HullBoxes', WHERE WHAT IT READS IS OF BULK AT MOST 1048576: true; the input reads as it did. -/
def hullBoxesUptoRow : OpenClaim := { program := "ytcoffankmmjehaa", sum := "884715371ef951cb3938df70c3994cc8f8ec5f634b6a775891283687f4157244", func := "apiary/apiarylaw20.HullBoxes", spec := "hullBoxes", unfollowed := true, recurses := true, apart := false, narrowed := true }
def HullBoxesUptoSaid : Prop := hullBoxesUptoRow.holds Try.pinned (OpenSpec.upto hullBoxesSpec)

/-- 'apiarylaw20.HullJoins', WHERE WHAT IT READS IS OF BULK AT MOST 1048576: true; the input reads as it did. -/
def hullJoinsUptoRow : OpenClaim := { program := "ytcoffankmmjehaa", sum := "884715371ef951cb3938df70c3994cc8f8ec5f634b6a775891283687f4157244", func := "apiary/apiarylaw20.HullJoins", spec := "hullJoins", unfollowed := true, recurses := true, apart := false, narrowed := true }
def HullJoinsUptoSaid : Prop := hullJoinsUptoRow.holds Try.pinned (OpenSpec.upto hullJoinsSpec)

/-- 'apiarylaw20.HullRound', WHERE WHAT IT READS IS OF BULK AT MOST 1048576: true; the input reads as it did. -/
def hullRoundUptoRow : OpenClaim := { program := "ytcoffankmmjehaa", sum := "884715371ef951cb3938df70c3994cc8f8ec5f634b6a775891283687f4157244", func := "apiary/apiarylaw20.HullRound", spec := "hullRound", unfollowed := true, recurses := true, apart := false, narrowed := true }
def HullRoundUptoSaid : Prop := hullRoundUptoRow.holds Try.pinned (OpenSpec.upto hullRoundSpec)

/-- 'apiarylaw20.HullOrder', WHERE WHAT IT READS IS OF BULK AT MOST 1048576: true; the input reads as it did. -/
def hullOrderUptoRow : OpenClaim := { program := "ytcoffankmmjehaa", sum := "884715371ef951cb3938df70c3994cc8f8ec5f634b6a775891283687f4157244", func := "apiary/apiarylaw20.HullOrder", spec := "hullOrder", unfollowed := true, recurses := true, apart := false, narrowed := true }
def HullOrderUptoSaid : Prop := hullOrderUptoRow.holds Try.pinned (OpenSpec.upto hullOrderSpec)

/-- 'apiarylaw20.HullTells', WHERE WHAT IT READS IS OF BULK AT MOST 1048576: true; the input reads as it did. -/
def hullTellsUptoRow : OpenClaim := { program := "ytcoffankmmjehaa", sum := "884715371ef951cb3938df70c3994cc8f8ec5f634b6a775891283687f4157244", func := "apiary/apiarylaw20.HullTells", spec := "hullTells", inPlace := ["math/bits.Add64"], unfollowed := true, recurses := true, apart := false, narrowed := true }
def HullTellsUptoSaid : Prop := hullTellsUptoRow.holds Try.pinned (OpenSpec.upto hullTellsSpec)

end Rows
end Go.Proofs.Ytcoffankmmjehaa
