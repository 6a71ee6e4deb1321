/-
  No cell of these rows narrows 'for every input' (looked for: loops, veiled, ifaces, maps, wideKeys, modest, calm, conditions, laid).
  DERIVED. THE GIVEN ROWS OF THIS SEAT. 5 by the template 'for every input the law returns true; each argument reads behind the call as it read before'; 0 by the template 'total and deterministic' (their statements: YtbmhnadnomngnaaTotals.lean).
  GIVEN WITH THE SEED: the statements are not yours to turn. If you find one false, say at which input.
  Laid BY PROGRAM, IN A SANDBOX (cutbox-rows.mjs): the forced cells as the released guide's own fill.sh prints them over the translation 7c755dc21555bd78… (all of the seat's roots in one cut). By AI agents, Wed Nov 11 2026. No macro, syntax, notation, axiom, sorry.
-/
import Derived.Test.YtbmhnadnomngnaaChecked
import GoSem.Claim
import GoSem.ClaimJoined
import GoSem.ClaimMapViews
import Derived.JoinedTies
import Derived.KernelRfl
namespace Go.Proofs.Ytbmhnadnomngnaa
/- THE CELL 'sum', in the pinned program and in every row, IS THE sha256 OF THE DUMP (.gsa) THAT YtbmhnadnomngnaaProg.lean LOADS. Nothing in Lean hashes anything: it is a label: what it is worth is what the hold of that sum in a sandbox is worth. -/
noncomputable def Try.pinned : Pinned := { name := "ytbmhnadnomngnaa", sum := "7c755dc21555bd78ae234dc84624651904c0f790ca96d1846e7af81492f79c71", checked := Try.checked }
namespace Rows
def none {H : Type} : Left H := { results := [], args := [] }

/-- 'apiarylaw16.QueueOrder': WHATEVER THE INPUT: true; the input reads as it did. -/
def queueOrderSpec : ChangeSpec := { name := "queueOrder", fn := fun _ => fun
  | [d1, d2] => { results := [.lit (.bool true)], args := [d1, d2] }
  | _ => none }
def queueOrderRow : OpenClaim := { program := "ytbmhnadnomngnaa", sum := "7c755dc21555bd78ae234dc84624651904c0f790ca96d1846e7af81492f79c71", func := "apiary/apiarylaw16.QueueOrder", spec := "queueOrder", unfollowed := true, recurses := true, apart := false }
def QueueOrderSaid : Prop := queueOrderRow.holds Try.pinned (OpenSpec.ofChange queueOrderSpec)

/-- ITS FALSE NEIGHBOUR: 'it returns false'. Refute it at one input. -/
def queueOrderWrong : ChangeSpec := { name := "queueOrder", fn := fun _ => fun
  | [d1, d2] => { results := [.lit (.bool false)], args := [d1, d2] }
  | _ => none }
def QueueOrderWrongFalsely : Prop := queueOrderRow.holds Try.pinned (OpenSpec.ofChange queueOrderWrong)

/-- 'apiarylaw16.QueueChanged': WHATEVER THE INPUT: true; the input reads as it did. -/
def queueChangedSpec : ChangeSpec := { name := "queueChanged", fn := fun _ => fun
  | [d1, d2, d3, d4] => { results := [.lit (.bool true)], args := [d1, d2, d3, d4] }
  | _ => none }
def queueChangedRow : OpenClaim := { program := "ytbmhnadnomngnaa", sum := "7c755dc21555bd78ae234dc84624651904c0f790ca96d1846e7af81492f79c71", func := "apiary/apiarylaw16.QueueChanged", spec := "queueChanged", unfollowed := true, recurses := true, apart := false }
def QueueChangedSaid : Prop := queueChangedRow.holds Try.pinned (OpenSpec.ofChange queueChangedSpec)

/-- ITS FALSE NEIGHBOUR: 'it returns false'. Refute it at one input. -/
def queueChangedWrong : ChangeSpec := { name := "queueChanged", fn := fun _ => fun
  | [d1, d2, d3, d4] => { results := [.lit (.bool false)], args := [d1, d2, d3, d4] }
  | _ => none }
def QueueChangedWrongFalsely : Prop := queueChangedRow.holds Try.pinned (OpenSpec.ofChange queueChangedWrong)

/-- 'apiarylaw16.QueuePlays': WHATEVER THE INPUT: true; the input reads as it did. -/
def queuePlaysSpec : ChangeSpec := { name := "queuePlays", fn := fun _ => fun
  | [d] => { results := [.lit (.bool true)], args := [d] }
  | _ => none }
def queuePlaysRow : OpenClaim := { program := "ytbmhnadnomngnaa", sum := "7c755dc21555bd78ae234dc84624651904c0f790ca96d1846e7af81492f79c71", func := "apiary/apiarylaw16.QueuePlays", spec := "queuePlays", unfollowed := true, recurses := true, apart := false }
def QueuePlaysSaid : Prop := queuePlaysRow.holds Try.pinned (OpenSpec.ofChange queuePlaysSpec)

/-- ITS FALSE NEIGHBOUR: 'it returns false'. Refute it at one input. -/
def queuePlaysWrong : ChangeSpec := { name := "queuePlays", fn := fun _ => fun
  | [d] => { results := [.lit (.bool false)], args := [d] }
  | _ => none }
def QueuePlaysWrongFalsely : Prop := queuePlaysRow.holds Try.pinned (OpenSpec.ofChange queuePlaysWrong)

/-- 'apiarylaw16.QueueSame': WHATEVER THE INPUT: true; the input reads as it did. -/
def queueSameSpec : ChangeSpec := { name := "queueSame", fn := fun _ => fun
  | [d1, d2] => { results := [.lit (.bool true)], args := [d1, d2] }
  | _ => none }
def queueSameRow : OpenClaim := { program := "ytbmhnadnomngnaa", sum := "7c755dc21555bd78ae234dc84624651904c0f790ca96d1846e7af81492f79c71", func := "apiary/apiarylaw16.QueueSame", spec := "queueSame", unfollowed := true, recurses := true, apart := false }
def QueueSameSaid : Prop := queueSameRow.holds Try.pinned (OpenSpec.ofChange queueSameSpec)

/-- ITS FALSE NEIGHBOUR: 'it returns false'. Refute it at one input. -/
def queueSameWrong : ChangeSpec := { name := "queueSame", fn := fun _ => fun
  | [d1, d2] => { results := [.lit (.bool false)], args := [d1, d2] }
  | _ => none }
def QueueSameWrongFalsely : Prop := queueSameRow.holds Try.pinned (OpenSpec.ofChange queueSameWrong)

/-- 'apiarylaw16.QueueTop': WHATEVER THE INPUT: true; the input reads as it did. -/
def queueTopSpec : ChangeSpec := { name := "queueTop", fn := fun _ => fun
  | [d1, d2, d3, d4] => { results := [.lit (.bool true)], args := [d1, d2, d3, d4] }
  | _ => none }
def queueTopRow : OpenClaim := { program := "ytbmhnadnomngnaa", sum := "7c755dc21555bd78ae234dc84624651904c0f790ca96d1846e7af81492f79c71", func := "apiary/apiarylaw16.QueueTop", spec := "queueTop", unfollowed := true, recurses := true, apart := false }
def QueueTopSaid : Prop := queueTopRow.holds Try.pinned (OpenSpec.ofChange queueTopSpec)

/-- ITS FALSE NEIGHBOUR: 'it returns false'. Refute it at one input. -/
def queueTopWrong : ChangeSpec := { name := "queueTop", fn := fun _ => fun
  | [d1, d2, d3, d4] => { results := [.lit (.bool false)], args := [d1, d2, d3, d4] }
  | _ => none }
def QueueTopWrongFalsely : Prop := queueTopRow.holds Try.pinned (OpenSpec.ofChange queueTopWrong)

/- THE SECOND FORM. 'bulk': how many values and letters a reading holds, each counted each time it is reached (what is shared counts as often as it is met; a slice's spare places count too). A statement '..UptoSaid' is the law's where the arguments, and the package variables that the reading takes, are together of bulk at most 1048576: NARROWER than '..Said'. Prove '..Said' where nothing that the law and all that it calls make is longer than what came in: it says more and counts as full. Else prove '..UptoSaid'. A law counts once. -/
mutual
def uptoBulk {H : Type} : DataW H → Nat
  | .lit (.string bytes) => bytes.length + 1
  | .lit _ => 1
  | .nil => 1
  | .ptr d => uptoBulk d + 1
  | .slice elems spare => uptoBulkAll elems + uptoBulkAll spare + 1
  | .agg parts => uptoBulkAll parts + 1
  | .iface _ d => uptoBulk d + 1
  | .map entries => uptoBulkEntries entries + 1
  | .held _ => 1
def uptoBulkAll {H : Type} : List (DataW H) → Nat
  | [] => 0
  | d :: r => uptoBulk d + uptoBulkAll r
def uptoBulkEntries {H : Type} : List (Lit × DataW H) → Nat
  | [] => 0
  | x :: r => uptoBulkEntry x + uptoBulkEntries r
def uptoBulkEntry {H : Type} : Lit × DataW H → Nat
  | (.string bytes, d) => bytes.length + uptoBulk d + 1
  | (_, d) => uptoBulk d + 1
 end
def uptoSmall : (H : Type) → List (DataW H) → Bool := fun _ ds => decide (uptoBulkAll ds ≤ 1048576)
def OpenSpec.upto (s : _root_.Go.ChangeSpec) : _root_.Go.OpenSpec := { _root_.Go.OpenSpec.ofChange s with cond := some uptoSmall }

/-- 'apiarylaw16.QueueOrder', WHERE WHAT IT READS IS OF BULK AT MOST 1048576: true; the input reads as it did. -/
def queueOrderUptoRow : OpenClaim := { program := "ytbmhnadnomngnaa", sum := "7c755dc21555bd78ae234dc84624651904c0f790ca96d1846e7af81492f79c71", func := "apiary/apiarylaw16.QueueOrder", spec := "queueOrder", unfollowed := true, recurses := true, apart := false, narrowed := true }
def QueueOrderUptoSaid : Prop := queueOrderUptoRow.holds Try.pinned (OpenSpec.upto queueOrderSpec)

/-- 'apiarylaw16.QueueChanged', WHERE WHAT IT READS IS OF BULK AT MOST 1048576: true; the input reads as it did. -/
def queueChangedUptoRow : OpenClaim := { program := "ytbmhnadnomngnaa", sum := "7c755dc21555bd78ae234dc84624651904c0f790ca96d1846e7af81492f79c71", func := "apiary/apiarylaw16.QueueChanged", spec := "queueChanged", unfollowed := true, recurses := true, apart := false, narrowed := true }
def QueueChangedUptoSaid : Prop := queueChangedUptoRow.holds Try.pinned (OpenSpec.upto queueChangedSpec)

/-- 'apiarylaw16.QueuePlays', WHERE WHAT IT READS IS OF BULK AT MOST 1048576: true; the input reads as it did. -/
def queuePlaysUptoRow : OpenClaim := { program := "ytbmhnadnomngnaa", sum := "7c755dc21555bd78ae234dc84624651904c0f790ca96d1846e7af81492f79c71", func := "apiary/apiarylaw16.QueuePlays", spec := "queuePlays", unfollowed := true, recurses := true, apart := false, narrowed := true }
def QueuePlaysUptoSaid : Prop := queuePlaysUptoRow.holds Try.pinned (OpenSpec.upto queuePlaysSpec)

/-- 'apiarylaw16.QueueSame', WHERE WHAT IT READS IS OF BULK AT MOST 1048576: true; the input reads as it did. -/
def queueSameUptoRow : OpenClaim := { program := "ytbmhnadnomngnaa", sum := "7c755dc21555bd78ae234dc84624651904c0f790ca96d1846e7af81492f79c71", func := "apiary/apiarylaw16.QueueSame", spec := "queueSame", unfollowed := true, recurses := true, apart := false, narrowed := true }
def QueueSameUptoSaid : Prop := queueSameUptoRow.holds Try.pinned (OpenSpec.upto queueSameSpec)

/-- 'apiarylaw16.QueueTop', WHERE WHAT IT READS IS OF BULK AT MOST 1048576: true; the input reads as it did. -/
def queueTopUptoRow : OpenClaim := { program := "ytbmhnadnomngnaa", sum := "7c755dc21555bd78ae234dc84624651904c0f790ca96d1846e7af81492f79c71", func := "apiary/apiarylaw16.QueueTop", spec := "queueTop", unfollowed := true, recurses := true, apart := false, narrowed := true }
def QueueTopUptoSaid : Prop := queueTopUptoRow.holds Try.pinned (OpenSpec.upto queueTopSpec)

end Rows
end Go.Proofs.Ytbmhnadnomngnaa
