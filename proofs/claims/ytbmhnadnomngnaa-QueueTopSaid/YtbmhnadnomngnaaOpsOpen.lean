/- Arguments of weights and ops, opened. -/
import Derived.Test.YtbmhnadnomngnaaQR
import Derived.Deep.Slices
import Derived.OpenShut
namespace Go.Proofs.Ytbmhnadnomngnaa
open Go.RowKit Go.Deep Go.ChangeShapes Go.WideShapes

theorem plain_of {w : World} {a : Addr} {v : Value} (h : w.cell? (a.add 0) = some v) : a.spot = none := by simpa [Addr.add] using World.cell?_spot h
section
variable {H : Type} {enc : TypeId × Value → H} {w : World} {held : Bool}

theorem cellsOp' : Try.prog.cellsOf 41 = 3 := by kernel_rfl
theorem cellsWt' : Try.prog.cellsOf 28 = 2 := by kernel_rfl
theorem cellsI' : Try.prog.cellsOf 3 = 1 := by kernel_rfl
theorem cellsI64' : Try.prog.cellsOf 2 = 1 := by kernel_rfl
theorem cellsU64' : Try.prog.cellsOf 26 = 1 := by kernel_rfl
/-- Three cells that read as an op. -/
theorem open_op {fuel : Nat} {cs : List Value} {x : DataW H × List MemPlace} (h : DataW.trod enc Try.prog w 0 (fun _ => true) held fuel 41 cs = some x) :
    ∃ p : OpT, cs = [.int .i64 p.1, .int .u64 p.2.1, .int .i64 p.2.2] ∧ (Lit.int .u64 p.2.1).wf = true ∧ (Lit.int .i64 p.2.2).wf = true := by
  obtain ⟨xs, m, rfl, _, hl, hlen, hget⟩ := DataW.trod_struct Try.underlying41 h
  have h0 : DataW.trod enc Try.prog w 0 (fun _ => true) held m 3 ((cs.drop 0).take (Try.prog.cellsOf 3)) = xs[0]? := hget 0 _ rfl
  have h1 : DataW.trod enc Try.prog w 0 (fun _ => true) held m 26 ((cs.drop 1).take (Try.prog.cellsOf 26)) = xs[1]? := hget 1 _ rfl
  have h2 : DataW.trod enc Try.prog w 0 (fun _ => true) held m 2 ((cs.drop 2).take (Try.prog.cellsOf 2)) = xs[2]? := hget 2 _ rfl
  have hsz : xs.length = 3 := hlen
  rw [cellsI'] at h0
  rw [cellsU64'] at h1
  rw [cellsI64'] at h2
  rw [List.getElem?_eq_getElem (by omega)] at h0 h1 h2
  obtain ⟨a, ea, _, _⟩ := DataW.trod_int Try.underlying3 h0
  obtain ⟨b, eb, _, hb⟩ := DataW.trod_int Try.underlying26 h1
  obtain ⟨c, ec, _, hc⟩ := DataW.trod_int Try.underlying2 h2
  rw [cellsOp'] at hl
  match cs, hl with
  | [u, v, z], _ =>
    simp at ea eb ec
    exact ⟨(a, b, c), by rw [ea, eb, ec], hb, hc⟩
theorem open_wt {fuel : Nat} {cs : List Value} {x : DataW H × List MemPlace} (h : DataW.trod enc Try.prog w 0 (fun _ => true) held fuel 28 cs = some x) :
    ∃ p : Wt, cs = [.int .u64 p.1, .int .i64 p.2] ∧ WfW p := by
  obtain ⟨xs, m, rfl, _, hl, hlen, hget⟩ := DataW.trod_struct Try.underlying28 h
  have h0 : DataW.trod enc Try.prog w 0 (fun _ => true) held m 26 ((cs.drop 0).take (Try.prog.cellsOf 26)) = xs[0]? := hget 0 _ rfl
  have h1 : DataW.trod enc Try.prog w 0 (fun _ => true) held m 2 ((cs.drop 1).take (Try.prog.cellsOf 2)) = xs[1]? := hget 1 _ rfl
  have hsz : xs.length = 2 := hlen
  rw [cellsU64'] at h0
  rw [cellsI64'] at h1
  rw [List.getElem?_eq_getElem (by omega)] at h0 h1
  obtain ⟨a, ea, _, ha⟩ := DataW.trod_int Try.underlying26 h0
  obtain ⟨b, eb, _, hb⟩ := DataW.trod_int Try.underlying2 h1
  rw [cellsWt'] at hl
  match cs, hl with
  | [u, v], _ =>
    simp at ea eb
    exact ⟨(a, b), by rw [ea, eb], ha, hb⟩
instance : Inhabited Wt := ⟨(0, 0)⟩
instance : Inhabited OpT := ⟨(0, 0, 0)⟩
theorem addr_add (b off i : Nat) : (⟨b, off, none⟩ : Addr).add i = ⟨b, off + i, none⟩ := by unfold Addr.add; split <;> simp_all
theorem open_ops {fuel : Nat} {ao : Option Addr} {n c : Nat} {x : DataW H × List MemPlace} (h : DataW.trod enc Try.prog w 0 (fun _ => true) held fuel 38 [.slice ao n c] = some x) :
    ∃ l : List OpT, l.length = n ∧ OpsAt w w.heap.size ao l ∧ WfOps l := by
  rcases open_slice Try.underlying38 h with ⟨h0, _⟩ | ⟨a, len, cap, m, k, D, Pl, hcs, _, hl, _, hm, _, hx⟩
  · simp at h0
    obtain ⟨rfl, rfl, rfl⟩ := h0
    exact ⟨[], rfl, fun h0 => by simp at h0, fun i hi => by simp at hi⟩
  · simp at hcs
    obtain ⟨rfl, rfl, rfl⟩ := hcs
    simp only [if_true] at hm
    subst hm
    obtain ⟨X, hX⟩ := choose_lt (α := OpT) (n := n) (p := fun i p => w.cell? (a.add (i * 3)) = some (.int .i64 p.1) ∧ w.cell? (a.add (i * 3 + 1)) = some (.int .u64 p.2.1) ∧ w.cell? (a.add (i * 3 + 2)) = some (.int .i64 p.2.2) ∧ (Lit.int .u64 p.2.1).wf = true ∧ (Lit.int .i64 p.2.2).wf = true) fun i hi => by
      obtain ⟨cs', h1, h2⟩ := hx i (by omega)
      rw [cellsOp'] at h1
      obtain ⟨p, rfl, hw1, hw2⟩ := open_op h2
      obtain ⟨_, _, hc⟩ := World.cells?_some h1
      refine ⟨p, ?_, ?_, ?_, hw1, hw2⟩
      · have := hc 0 (by omega)
        rw [add_add] at this
        simpa using this
      · have := hc 1 (by omega)
        rw [add_add] at this
        simpa using this
      · have := hc 2 (by omega)
        rw [add_add] at this
        simpa using this
    have e1 : ∀ k, k < n → og ((List.range n).map X) k = X k := fun k hk => by unfold og; simp [List.getD_eq_getElem?_getD, hk]
    refine ⟨(List.range n).map X, by simp, fun h0 => ?_, fun k hk => ?_⟩
    · have hn0 : 0 < n := by simpa using h0
      obtain ⟨b, off, spot⟩ := a
      have hspot : spot = none := plain_of (by simpa using (hX 0 hn0).1)
      subst hspot
      have hb := World.block_lt_of_cell? w _ (addr_add .. ▸ (hX 0 hn0).1)
      refine ⟨b, off, rfl, hb, fun k hk => ?_⟩
      have hk' : k < n := by simpa using hk
      obtain ⟨g1, g2, g3, _⟩ := hX k hk'
      rw [addr_add] at g1 g2 g3
      rw [e1 k hk']
      exact ⟨g1, by rw [Nat.add_assoc]; exact g2, by rw [Nat.add_assoc]; exact g3⟩
    · have hk' : k < n := by simpa using hk
      rw [e1 k hk']
      exact (hX k hk').2.2.2
theorem open_ws {fuel : Nat} {ao : Option Addr} {n c : Nat} {x : DataW H × List MemPlace} (h : DataW.trod enc Try.prog w 0 (fun _ => true) held fuel 39 [.slice ao n c] = some x) :
    ∃ l : List Wt, l.length = n ∧ WAt w ao l ∧ (∀ p ∈ l, WfW p) ∧ n ≤ c := by
  rcases open_slice Try.underlying39 h with ⟨h0, _⟩ | ⟨a, len, cap, m, k, D, Pl, hcs, _, hl, _, hm, _, hx⟩
  · simp at h0
    obtain ⟨rfl, rfl, rfl⟩ := h0
    exact ⟨[], rfl, fun h0 => by simp at h0, fun p hp => by simp at hp, Nat.le_refl _⟩
  · simp at hcs
    obtain ⟨rfl, rfl, rfl⟩ := hcs
    simp only [if_true] at hm
    subst hm
    obtain ⟨X, hX⟩ := choose_lt (α := Wt) (n := n) (p := fun i p => w.cell? (a.add (i * 2)) = some (.int .u64 p.1) ∧ w.cell? (a.add (i * 2 + 1)) = some (.int .i64 p.2) ∧ WfW p) fun i hi => by
      obtain ⟨cs', h1, h2⟩ := hx i (by omega)
      rw [cellsWt'] at h1
      obtain ⟨p, rfl, hw⟩ := open_wt h2
      obtain ⟨_, _, hc⟩ := World.cells?_some h1
      refine ⟨p, ?_, ?_, hw⟩
      · have := hc 0 (by omega)
        rw [add_add] at this
        simpa using this
      · have := hc 1 (by omega)
        rw [add_add] at this
        simpa using this
    have e1 : ∀ k, k < n → wg ((List.range n).map X) k = X k := fun k hk => by unfold wg; simp [List.getD_eq_getElem?_getD, hk]
    refine ⟨(List.range n).map X, by simp, fun h0 => ?_, fun p hp => ?_, hl⟩
    · have hn0 : 0 < n := by simpa using h0
      obtain ⟨b, off, spot⟩ := a
      have hspot : spot = none := plain_of (by simpa using (hX 0 hn0).1)
      subst hspot
      have hb := World.block_lt_of_cell? w _ (addr_add .. ▸ (hX 0 hn0).1)
      refine ⟨b, off, rfl, hb, fun k hk => ?_⟩
      have hk' : k < n := by simpa using hk
      obtain ⟨g1, g2, _⟩ := hX k hk'
      rw [addr_add] at g1 g2
      rw [e1 k hk']
      exact ⟨g1, by rw [Nat.add_assoc]; exact g2⟩
    · obtain ⟨k, hk, rfl⟩ := List.mem_map.1 hp
      exact (hX k (by simpa using hk)).2.2
end
end Go.Proofs.Ytbmhnadnomngnaa
