/- Two rows apart; rings that lie in blocks that stay. -/
import Derived.Test.YtcoffankmmjehaaHullL
import Derived.Maps.AppendAt
namespace Go.Proofs.Ytcoffankmmjehaa
open Go.RowKit Go.Lib Hull
/-- Two rows lie in blocks of their own. -/
def Apart (v u : Value) : Prop := ∀ k, v.ownBlock = some k → u.ownBlock ≠ some k
theorem Apart.symm {v u : Value} (h : Apart v u) : Apart u v := fun k h1 h2 => h k h2 h1
theorem Apart.ne {v u : Value} (h : Apart v u) : v.ownBlock = none ∨ v.ownBlock ≠ u.ownBlock := by
  cases e : v.ownBlock with
  | none => exact .inl rfl
  | some k => exact .inr fun e2 => h k e e2.symm
theorem own_lt_size {w : World} {base : Nat} {e : TypeId} {size : Nat} {v : Value} {n : Nat} {xs : List Value} (h : w.ownsRow base e size v n xs) : ∀ k, v.ownBlock = some k → k < w.heap.size := fun k hk => (h.lt k hk).2
theorem Apart.step {v v' u : Value} {g : Nat} (h : Apart v u) (hv : v'.ownBlock = v.ownBlock ∨ v'.ownBlock = some g) (hu : ∀ k, u.ownBlock = some k → k < g) : Apart v' u := fun k h1 h2 => by
  rcases hv with e | e
  · exact h k (e.symm.trans h1) h2
  · have := hu k h2
    rw [e] at h1
    cases h1
    omega
theorem RingAt.turn {w w' : World} {B pb : Nat} {ao : Option Addr} {l : List Pt} (h : RingAt w B ao l) (ht : Turn (fun k => k = pb) w w') (hB : B ≤ pb) (hw : B ≤ w.heap.size) : RingAt w' B ao l := fun h0 => by
  obtain ⟨b, off, e, hlt, hc⟩ := h h0
  refine ⟨b, off, e, hlt, fun k hk => ?_⟩
  have hcell : ∀ j, w'.cell? ⟨b, j, none⟩ = w.cell? ⟨b, j, none⟩ := fun j => ht.cell (p := ⟨b, j, none⟩) (show b < w.heap.size by omega) (show ¬ b = pb by omega)
  rw [hcell, hcell]
  exact hc k hk
theorem set_pt {w : World} {pb : Nat} {a b : Value} {t : TypeId} (h : w.heap[pb]? = some (.cells #[a, b] t (0, 0))) (x y : Value) : ((w.setCell ⟨pb, 0, none⟩ x).setCell ⟨pb, 1, none⟩ y).heap[pb]? = some (.cells #[x, y] t (0, 0)) := by
  rw [Sort.setCell_eq, Sort.setCell_eq]
  simp [Sort.mapBlock, Array.getElem?_modify, h, Sort.onCells]
theorem tdiv2_bd (x : Int) : x.tdiv 2 ≤ x.natAbs ∧ -(x.natAbs : Int) ≤ x.tdiv 2 := by
  have h1 := Int.mul_tdiv_add_tmod x 2
  have h2 := tmod_near x 2 (by omega)
  omega
end Go.Proofs.Ytcoffankmmjehaa
