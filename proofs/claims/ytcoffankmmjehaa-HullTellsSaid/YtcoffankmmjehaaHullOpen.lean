/- An argument that is a slice of points, opened. -/
import Derived.Test.YtcoffankmmjehaaHullA
import Derived.Deep.Slices
import Derived.OpenShut
namespace Go.Proofs.Ytcoffankmmjehaa
open Go.RowKit Go.Deep Go.ChangeShapes Go.WideShapes Hull

section
variable {H : Type} {enc : TypeId × Value → H} {w : World} {held : Bool}

theorem cellsPt' : Try.prog.cellsOf 26 = 2 := by kernel_rfl
theorem cellsI64' : Try.prog.cellsOf 2 = 1 := by kernel_rfl
theorem cellsRing' : Try.prog.cellsOf 23 = 1 := by kernel_rfl
/-- Two cells that read as a point. -/
theorem open_pt {fuel : Nat} {cs : List Value} {x : DataW H × List MemPlace} (h : DataW.trod enc Try.prog w 0 (fun _ => true) held fuel 26 cs = some x) : ∃ p : Pt, cs = [.int .i64 p.1, .int .i64 p.2] := by
  obtain ⟨xs, m, rfl, _, hl, hlen, hget⟩ := DataW.trod_array Try.underlying26 h
  have h0 := hget 0 (by omega)
  have h1 := hget 1 (by omega)
  rw [cellsI64', List.getElem?_eq_getElem (by omega)] at h0 h1
  obtain ⟨a, ea, _, _⟩ := DataW.trod_int Try.underlying2 h0
  obtain ⟨b, eb, _, _⟩ := DataW.trod_int Try.underlying2 h1
  rw [cellsPt'] at hl
  match cs, hl with
  | [u, v], _ =>
    simp at ea eb
    exact ⟨(a, b), by rw [ea, eb]⟩
theorem plain_of {a : Addr} {v : Value} (h : w.cell? (a.add 0) = some v) : a.spot = none := by simpa [Addr.add] using World.cell?_spot h
theorem open_ring {fuel : Nat} {ao : Option Addr} {n c : Nat} {x : DataW H × List MemPlace} (h : DataW.trod enc Try.prog w 0 (fun _ => true) held fuel 23 [.slice ao n c] = some x) :
    ∃ l : List Pt, l.length = n ∧ RingAt w w.heap.size ao l := by
  rcases open_slice Try.underlying23 h with ⟨h0, _⟩ | ⟨a, len, cap, m, k, D, Pl, hcs, _, hl, _, hm, _, hx⟩
  · simp at h0
    obtain ⟨rfl, rfl, rfl⟩ := h0
    exact ⟨[], rfl, fun h0 => by simp at h0⟩
  · simp at hcs
    obtain ⟨rfl, rfl, rfl⟩ := hcs
    simp only [if_true] at hm
    subst hm
    obtain ⟨X, hX⟩ := choose_lt (α := Pt) (n := n) (p := fun i p => w.cell? (a.add (i * 2)) = some (.int .i64 p.1) ∧ w.cell? (a.add (i * 2 + 1)) = some (.int .i64 p.2)) fun i hi => by
      obtain ⟨cs', h1, h2⟩ := hx i (by omega)
      rw [cellsPt'] at h1
      obtain ⟨p, rfl⟩ := open_pt h2
      obtain ⟨_, _, hc⟩ := World.cells?_some h1
      refine ⟨p, ?_, ?_⟩
      · have := hc 0 (by omega)
        rw [add_add] at this
        simpa using this
      · have := hc 1 (by omega)
        rw [add_add] at this
        simpa using this
    refine ⟨(List.range n).map X, by simp, fun h0 => ?_⟩
    have hn0 : 0 < n := by simpa using h0
    obtain ⟨b, off, spot⟩ := a
    have hspot : spot = none := plain_of (by simpa using (hX 0 hn0).1)
    subst hspot
    have hadd : ∀ i, (⟨b, off, none⟩ : Addr).add i = ⟨b, off + i, none⟩ := fun i => by unfold Addr.add; split <;> simp_all
    have hb := World.block_lt_of_cell? w _ ((hadd _) ▸ (hX 0 hn0).1)
    refine ⟨b, off, rfl, hb, fun k hk => ?_⟩
    have hk' : k < n := by simpa using hk
    obtain ⟨g1, g2⟩ := hX k hk'
    rw [hadd] at g1 g2
    have e1 : pg ((List.range n).map X) k = X k := by unfold pg; simp [List.getD_eq_getElem?_getD, hk']
    rw [e1]
    exact ⟨g1, by rw [Nat.add_assoc]; exact g2⟩
end
end Go.Proofs.Ytcoffankmmjehaa
