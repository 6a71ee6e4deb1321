/- The contract of apiaryref9.Area2. -/
import Derived.Test.YtnnfkdajbaicoaaRefB
import Derived.BigRegion
import Derived.Deep.CutRange
namespace Go.Proofs.Ytnnfkdajbaicoaa
open Go.RowKit

def stepAr (l : List Pt) (s : Int) (j : Nat) : Int :=
  wrap64 (wrap64 (s + wrap64 (px l j * py l ((j + 1) % l.length))) - wrap64 (px l ((j + 1) % l.length) * py l j))
def areaRTo (l : List Pt) (j : Nat) : Int := (List.range j).foldl (stepAr l) 0
theorem areaRTo_succ (l : List Pt) (j : Nat) : areaRTo l (j + 1) = stepAr l (areaRTo l j) j := by unfold areaRTo; rw [List.range_succ]; simp
theorem wrap_congr {x y : Int} (h : (x - y) % 18446744073709551616 = 0) : wrap64 x = wrap64 y := by
  unfold wrap64; omega
theorem wrap_mod (z : Int) : (wrap64 z - z) % 18446744073709551616 = 0 := by
  unfold wrap64; omega
theorem wrap_sum (s a b : Int) : wrap64 (wrap64 (s + wrap64 a) - wrap64 b) = wrap64 (s + wrap64 (wrap64 a - wrap64 b)) := by
  refine wrap_congr ?_
  have h1 := wrap_mod a
  have h2 := wrap_mod b
  have h3 := wrap_mod (s + wrap64 a)
  have h4 := wrap_mod (wrap64 a - wrap64 b)
  generalize wrap64 (s + wrap64 a) = u at *
  generalize wrap64 (wrap64 a - wrap64 b) = v at *
  generalize wrap64 a = x at *
  generalize wrap64 b = y at *
  omega
theorem area_same (l : List Pt) (j : Nat) : areaRTo l j = areaTo l j := by
  induction j with
  | zero => simp [areaRTo, areaTo]
  | succ j ih =>
    rw [areaRTo_succ, areaTo_succ, ih]
    unfold stepAr stepA
    exact wrap_sum _ _ _
/-- Two new blocks of two numbers each, a draw behind them. -/
theorem pq_cells (w : World) (p q r s : Value) (t : TypeId) :
    ((((w.alloc (.cells #[p, q] t)).alloc (.cells #[r, s] t)).drew).cell? ⟨w.heap.size, 0, none⟩ = some p ∧ (((w.alloc (.cells #[p, q] t)).alloc (.cells #[r, s] t)).drew).cell? ⟨w.heap.size, 1, none⟩ = some q) ∧
    ((((w.alloc (.cells #[p, q] t)).alloc (.cells #[r, s] t)).drew).cell? ⟨w.heap.size + 1, 0, none⟩ = some r ∧ (((w.alloc (.cells #[p, q] t)).alloc (.cells #[r, s] t)).drew).cell? ⟨w.heap.size + 1, 1, none⟩ = some s) ∧
    w.heap.size < (((w.alloc (.cells #[p, q] t)).alloc (.cells #[r, s] t)).drew).heap.size ∧ w.heap.size + 1 < (((w.alloc (.cells #[p, q] t)).alloc (.cells #[r, s] t)).drew).heap.size ∧
    Below w.heap.size w (((w.alloc (.cells #[p, q] t)).alloc (.cells #[r, s] t)).drew) := by
  have h1 : (((w.alloc (.cells #[p, q] t)).alloc (.cells #[r, s] t)).drew).heap[w.heap.size]? = some (.cells #[p, q] t) := by
    show (World.alloc (World.alloc w _) _).heap[_]? = _
    rw [Below.heap_alloc _ _ _ (by simp)]; exact heap_new _ _ _ rfl
  have h2 : (((w.alloc (.cells #[p, q] t)).alloc (.cells #[r, s] t)).drew).heap[w.heap.size + 1]? = some (.cells #[r, s] t) := by
    show (World.alloc (World.alloc w _) _).heap[_]? = _
    exact heap_new _ _ _ (by simp)
  rw [cell_of_row _ _ _ _ _ _ h1, cell_of_row _ _ _ _ _ _ h1, cell_of_row _ _ _ _ _ _ h2, cell_of_row _ _ _ _ _ _ h2]
  exact ⟨⟨rfl, rfl⟩, ⟨rfl, rfl⟩, by show _ < (World.alloc (World.alloc w _) _).heap.size; simp; omega, by show _ < (World.alloc (World.alloc w _) _).heap.size; simp, (((Below.refl _ _).alloc (Nat.le_refl _) _).alloc (by simp) _).drew⟩

set_option maxHeartbeats 4000000 in
theorem rarea_any (ao : Option Addr) (c : Nat) (l : List Pt) (w : World) (B : Nat) (hB : B ≤ w.heap.size) (h : RingAt w B ao l) (hl : l.length ≤ 1000000000) :
    Calls Try.prog 21 #[.slice ao l.length c] w fun e w' => e = .returned (.int .i64 (areaTo l l.length)) ∧ Below w.heap.size w w' := by
  obtain ⟨n, hnn⟩ : ∃ n, l.length = n := ⟨_, rfl⟩
  have HR := Lib.hid h
  rw [hnn] at hl ⊢
  have HN : Hid (l.length = n) := hnn
  clear hnn h
  go_enter Try.func21, Try.ntmps21
  go_wp2
  go_loopw [3, 4] (fun v i wr => ∃ (k : Nat) (s : Int), k ≤ n ∧ i = .int .i64 k ∧ v = .int .i64 s ∧ Hid (s = areaRTo l k) ∧ Below w.heap.size w wr) (fun _ i _ => n - (intOf i).toNat)
  case atStart => exact ⟨0, 0, Nat.zero_le _, rfl, rfl, rfl, Below.refl _ _⟩
  case round =>
    obtain ⟨k, s, hk, rfl, rfl, HS, hnx⟩ := hrel
    have hsz := hnx.size
    by_cases hlt : k < n
    · obtain ⟨b, off, rfl, hb, hc⟩ := (HR.out.below hnx hB) (by rw [HN.out]; omega)
      obtain ⟨t, ht, htn⟩ : ∃ t, (k + 1) % n = t ∧ t < n := ⟨_, rfl, Nat.mod_lt _ (by omega)⟩
      have htI : ((k : Int) + 1) % (n : Int) = (t : Int) := by have := congrArg (fun x : Nat => (x : Int)) ht; simpa using this
      obtain ⟨c0, c1⟩ := hc k (by rw [HN.out]; exact hlt)
      obtain ⟨d0, d1⟩ := hc t (by rw [HN.out]; exact htn)
      have HSS := Lib.hid (areaRTo_succ l k)
      have HST : Hid (stepAr l s k = wrap64 (wrap64 (s + wrap64 (px l k * py l t)) - wrap64 (px l t * py l k))) := by show _ = _; unfold stepAr; rw [HN.out, ht]
      generalize px l k = a1 at *
      generalize py l k = a2 at *
      generalize px l t = b1 at *
      generalize py l t = b2 at *
      clear hc ht
      have hbw : b < wr.heap.size := by omega
      go_upto_region 5 with (fail)
      go_cut [5, 6] from 13 to 24 (fun v5 v6 wx => ∃ g1 g2 : Nat, v5 = .pointer (some ⟨g1, 0, none⟩) ∧ v6 = .pointer (some ⟨g2, 0, none⟩) ∧ (wx.cell? ⟨g1, 0, none⟩ = some (.int .i64 a1) ∧ wx.cell? ⟨g1, 1, none⟩ = some (.int .i64 a2)) ∧ (wx.cell? ⟨g2, 0, none⟩ = some (.int .i64 b1) ∧ wx.cell? ⟨g2, 1, none⟩ = some (.int .i64 b2)) ∧ g1 < wx.heap.size ∧ g2 < wx.heap.size ∧ Below wr.heap.size wr wx)
      case first =>
        go_region
        · go_wp2
          go_meet
          obtain ⟨k1, k2, k3, k4, k5⟩ := pq_cells wr (.int .i64 a1) (.int .i64 a2) (.int .i64 b1) (.int .i64 b2) 27
          exact ⟨_, _, rfl, rfl, k1, k2, k3, k4, k5⟩
        · go_wp2
          go_meet
          obtain ⟨k1, k2, k3, k4, k5⟩ := pq_cells wr (.int .i64 b1) (.int .i64 b2) (.int .i64 a1) (.int .i64 a2) 27
          exact ⟨_, _, rfl, rfl, k2, k1, k4, k3, k5⟩
      case rest =>
        obtain ⟨g1, g2, rfl, rfl, ⟨e0, e1⟩, ⟨f0, f1⟩, hg1, hg2, hbc⟩ := hcut
        clear c0 c1 d0 d1
        have hnc := hnx.trans (hbc.mono hsz)
        go_wp2
        go_roundw
        case rel => exact ⟨k + 1, _, by omega, by go_num, rfl, (by rw [HSS.out, ← HS.out, HST.out] : _ = areaRTo l (k + 1)), hnc⟩
        case measure => simp [intOf]; omega
    · obtain rfl : k = n := by omega
      have HF : Hid (areaTo l k = s) := by show _ = _; rw [HS.out, area_same]
      go_wp2
      go_ret
      exact ⟨ret_int HF.out.symm, hnx⟩
end Go.Proofs.Ytnnfkdajbaicoaa
