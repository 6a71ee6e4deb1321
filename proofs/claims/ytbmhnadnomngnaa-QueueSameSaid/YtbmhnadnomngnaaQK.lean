/- Rows of weights: Heavier, what is copied, Sorted. -/
import Derived.Test.YtbmhnadnomngnaaQJ
import Derived.Laws.CopyOwn
import Derived.Shelf.Spec.SlicesInsert
namespace Go.Proofs.Ytbmhnadnomngnaa
open Go.RowKit Go.Lib

/-- copy of weights within or into a row of the call's own. -/
theorem run_copy_w (w : World) (ty : TypeId) (g o dLen dCap : Nat) (a : Addr) (sLen sCap : Nat) (cur : List Value) (t : TypeId) (cs : List Value)
    (hg : w.heap[g]? = some (.cells cur.toArray t (0, 0))) (hn : cs.length = Nat.min sLen dLen * 2)
    (hsrc : ∀ j v, cs[j]? = some v → w.cell? (a.add j) = some v) (hfit : o + cs.length ≤ cur.length) (h1 : ∀ v ∈ cs, v.oneCell' = true) :
    (Builtin.copy_ #[39, 39] ty #[.slice (some ⟨g, o, none⟩) dLen dCap, .slice (some a) sLen sCap]).run Try.prog w =
      .ok (goInt (Nat.min sLen dLen)) (w.setRow g (splice cur o cs).toArray) := by
  obtain ⟨i0, hi, hz0, hz1, hz2⟩ := info_parts info_w
  have hl := run_loadCells_list (P := Try.prog) w a cs hsrc
  have hst := run_storeCells_at Try.prog g o t cs 0 cur.toArray w hg (by simpa using hfit) h1
  simp [Builtin.copy_, run_underlying Try.underlying39, Builtin.lenOf, Builtin.firstCells, sizeOf, typeInfo, hi, hz1, ← hn, hl, hst, splice]
/-- In w, a slice's address leads to weights. -/
def WAt (w : World) (ao : Option Addr) (l : List Wt) : Prop := 0 < l.length → ∃ b off, ao = some ⟨b, off, none⟩ ∧ b < w.heap.size ∧ ∀ i, i < l.length → w.cell? ⟨b, off + i * 2, none⟩ = some (.int .u64 (wg l i).1) ∧ w.cell? ⟨b, off + i * 2 + 1, none⟩ = some (.int .i64 (wg l i).2)
theorem WAt.below {w w' : World} {ao : Option Addr} {l : List Wt} (h : WAt w ao l) (hb : Below w.heap.size w w') : WAt w' ao l := fun h0 => by
  obtain ⟨b, off, e, hlt, hc⟩ := h h0
  exact ⟨b, off, e, Nat.lt_of_lt_of_le hlt hb.size, fun i hi => ⟨(hb.cell (p := ⟨b, _, none⟩) hlt).trans (hc i hi).1, (hb.cell (p := ⟨b, _, none⟩) hlt).trans (hc i hi).2⟩⟩
theorem wAt_own {w : World} {base n c : Nat} {ao : Option Addr} {l : List Wt} (hn : n = l.length) (h : w.ownsRow base 28 2 (.slice ao n c) n (wV l)) : WAt w ao l := fun h0 => by
  subst hn
  obtain ⟨ao', c', e, _, hh⟩ := own_form h
  cases e
  obtain ⟨g, rfl, _, hlt, hc⟩ := hh h0
  exact ⟨g, 0, rfl, hlt, fun i hi => by
    have := wV_get l i hi
    rw [Nat.zero_add]
    exact ⟨hc _ _ this.1, hc _ _ this.2⟩⟩
theorem heavier_any (a b : Wt) (w : World) : Calls Try.prog 20 #[.agg #[.int .u64 a.1, .int .i64 a.2], .agg #[.int .u64 b.1, .int .i64 b.2]] w fun e w' => e = .returned (.bool (lessW a b)) ∧ Below w.heap.size w w' := by
  obtain ⟨a1, a2⟩ := a
  obtain ⟨b1, b2⟩ := b
  have hb : Below w.heap.size w ((w.alloc (.cells #[.int .u64 a1, .int .i64 a2] 28)).alloc (.cells #[.int .u64 b1, .int .i64 b2] 28)) := ((Below.refl _ _).alloc (Nat.le_refl _) _).alloc (by simp) _
  by_cases h1 : b2 < a2
  · have hl : Hid (lessW (a1, a2) (b1, b2) = true) := by show _ = _; rw [less_iff]; exact .inl h1
    have q1 : decide (b2 < a2) = true := by simpa using h1
    clear h1
    go_enter Try.func20, Try.ntmps20
    go_wp2
    go_ret
    exact ⟨by rw [hl.out]; rfl, hb⟩
  · have q1 : decide (b2 < a2) = false := by simpa using h1
    by_cases h2 : a2 = b2
    · subst h2
      have hl : Hid (lessW (a1, a2) (b1, a2) = decide (a1 < b1)) := by show _ = _; simp [lessW]
      clear h1
      go_enter Try.func20, Try.ntmps20
      go_wp2
      go_ret
      exact ⟨by rw [hl.out]; rfl, hb⟩
    · have hl : Hid (lessW (a1, a2) (b1, b2) = false) := by show _ = _; rw [less_not]; omega
      have q2 : (a2 == b2) = false := by simpa using h2
      clear h1 h2
      go_enter Try.func20, Try.ntmps20
      go_wp2
      go_ret
      exact ⟨by rw [hl.out]; rfl, hb⟩
end Go.Proofs.Ytbmhnadnomngnaa
