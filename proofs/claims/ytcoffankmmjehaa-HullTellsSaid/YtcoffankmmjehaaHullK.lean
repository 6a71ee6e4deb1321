/- What the laws on hulls share: rows put together. -/
import Derived.Test.YtcoffankmmjehaaHullJ
import Derived.Test.YtcoffankmmjehaaLex6
namespace Go.Proofs.Ytcoffankmmjehaa
open Go.RowKit Go.Lib Hull

/-- The cells of points, wherever they lie. -/
theorem pAt_news {w : World} {ao : Option Addr} {l : List Pt} (h : PAt w ao l) (h0 : 0 < l.length) : ∃ b off, ao = some ⟨b, off, none⟩ ∧ b < w.heap.size ∧ ∀ wx, Below w.heap.size w wx → ∀ j u, (pV l)[j]? = some u → wx.cell? ((⟨b, off, none⟩ : Addr).add j) = some u := by
  obtain ⟨b, off, e, hb, hc⟩ := h h0
  refine ⟨b, off, e, hb, fun wx hx j u hj => ?_⟩
  have hjl : j < (pV l).length := (List.getElem?_eq_some_iff.1 hj).1
  rw [pV_length] at hjl
  rw [Addr.add_lit, hx.cell (p := ⟨b, off + j, none⟩) hb]
  have h1 := hc (j / 2) (by omega)
  have h2 := pV_get l (j / 2) (by omega)
  rcases (show j % 2 = 0 ∨ j % 2 = 1 by omega) with e | e
  · rw [show j / 2 * 2 = j by omega] at h2
    rw [show off + j = off + j / 2 * 2 by omega, h1.1, ← hj, h2.1]
  · rw [show j / 2 * 2 + 1 = j by omega] at h2
    rw [show off + j = off + j / 2 * 2 + 1 by omega, h1.2, ← hj, h2.2]
/-- An own row of points. -/
def wOwn (B n : Nat) (l : List Pt) : SP := ⟨fun v w => ∃ ao c, v = .slice ao n c ∧ w.ownsRow B 26 2 (.slice ao n c) n (pV l), fun _ _ _ hb ⟨ao, c, e, h⟩ => ⟨ao, c, e, own_later h hb⟩⟩
/-- A slice of points. -/
def wPts (l : List Pt) : SP := ⟨fun v w => ∃ ao c, v = .slice ao l.length c ∧ PAt w ao l ∧ l.length ≤ c, fun _ _ _ hb ⟨ao, c, e, h, h2⟩ => ⟨ao, c, e, h.below hb, h2⟩⟩
/-- A slice of one new block, as long as it. -/
def wLit (n : Nat) (l : List Pt) : SP := ⟨fun v w => ∃ g, v = .slice (some ⟨g, 0, none⟩) n n ∧ w.heap[g]? = some (.cells (pV l).toArray 26 (0, 0)), fun _ _ _ hb ⟨g, e, h⟩ => ⟨g, e, (hb.block g (Array.getElem?_eq_some_iff.1 h).1).trans h⟩⟩
theorem lit_news {w : World} {g : Nat} {xs : List Value} (h : w.heap[g]? = some (.cells xs.toArray 26 (0, 0))) : ∀ j u, xs[j]? = some u → w.cell? ((⟨g, 0, none⟩ : Addr).add j) = some u := fun j u hj => by
  rw [Addr.add_lit, Nat.zero_add]
  simp [World.cell?, h, hj]
/-- An empty slice of one new block. -/
def wNil : SP := ⟨fun v w => ∃ g, v = .slice (some ⟨g, 0, none⟩) 0 0 ∧ w.heap[g]? = some (.cells #[] 26 (0, 0)), fun _ _ _ hb ⟨g, e, h⟩ => ⟨g, e, (hb.block g (Array.getElem?_eq_some_iff.1 h).1).trans h⟩⟩
end Go.Proofs.Ytcoffankmmjehaa
