/- A weight by value, opened. -/
import Derived.Test.YtbmhnadnomngnaaOpsOpen
namespace Go.Proofs.Ytbmhnadnomngnaa
open Go.RowKit Go.Deep Go.ChangeShapes Go.WideShapes
theorem open_wtv {H : Type} {enc : TypeId × Value → H} {W : World} {b0 : Nat} {held : Bool} {r : Reach} {v : Value} {d : DataW H} {p : List MemPlace}
    (hok : Value.okWide Try.prog W r b0 28 v) (h : DataW.Trod enc Try.prog W 0 (fun _ => true) held 28 v d p) : ∃ x : Wt, v = .agg #[.int .u64 x.1, .int .i64 x.2] := by
  simp only [Value.okWide, Try.underlying28] at hok
  obtain ⟨cs, rfl, _⟩ := hok
  obtain ⟨fuel, hf⟩ := h
  obtain ⟨q, hq, _⟩ := open_wt hf
  refine ⟨q, ?_⟩
  have : cs.toList = [.int .u64 q.1, .int .i64 q.2] := hq
  obtain ⟨l⟩ := cs
  simp at this
  rw [this]
end Go.Proofs.Ytbmhnadnomngnaa
