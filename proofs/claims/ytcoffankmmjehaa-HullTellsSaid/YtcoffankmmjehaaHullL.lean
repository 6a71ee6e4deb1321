/- The contract of apiarylaw20.line: points on one line. -/
import Derived.Test.YtcoffankmmjehaaHullK
import Derived.BigRegion
namespace Go.Proofs.Ytcoffankmmjehaa
open Go.RowKit Go.Lib Hull

/-- A point in a block of its own. -/
def PtIn (w : World) (g : Nat) (p : Pt) : Prop := w.cell? ⟨g, 0, none⟩ = some (.int .i64 p.1) ∧ w.cell? ⟨g, 1, none⟩ = some (.int .i64 p.2) ∧ g < w.heap.size
def ptObj (p : Pt) : Obj := .cells #[.int .i64 p.1, .int .i64 p.2] 26
theorem ptIn_of {w : World} {g : Nat} {p : Pt} (h : w.heap[g]? = some (ptObj p)) : PtIn w g p := ⟨cell_of_row _ _ 0 _ _ _ h, cell_of_row _ _ 1 _ _ _ h, (Array.getElem?_eq_some_iff.1 h).1⟩
/-- Three new blocks of a point each. -/
theorem tri_cells (w : World) (p q r : Pt) :
    PtIn ((((w.alloc (ptObj p)).alloc (ptObj q)).alloc (ptObj r)).drew) w.heap.size p ∧ PtIn ((((w.alloc (ptObj p)).alloc (ptObj q)).alloc (ptObj r)).drew) (w.heap.size + 1) q ∧ PtIn ((((w.alloc (ptObj p)).alloc (ptObj q)).alloc (ptObj r)).drew) (w.heap.size + 2) r ∧ Below w.heap.size w ((((w.alloc (ptObj p)).alloc (ptObj q)).alloc (ptObj r)).drew) := by
  have s1 : (w.alloc (ptObj p)).heap.size = w.heap.size + 1 := World.size_alloc _ _
  have s2 : ((w.alloc (ptObj p)).alloc (ptObj q)).heap.size = w.heap.size + 2 := by rw [World.size_alloc, s1]
  refine ⟨ptIn_of ?_, ptIn_of ?_, ptIn_of ?_, ((((Below.refl _ _).alloc (Nat.le_refl _) _).alloc (by rw [s1]; omega) _).alloc (by rw [s2]; omega) _).drew⟩
  · show (World.alloc (World.alloc (World.alloc w _) _) _).heap[_]? = _
    rw [Below.heap_alloc _ _ _ (by rw [s2]; omega), Below.heap_alloc _ _ _ (by rw [s1]; omega)]; exact heap_new _ _ _ rfl
  · show (World.alloc (World.alloc (World.alloc w _) _) _).heap[_]? = _
    rw [Below.heap_alloc _ _ _ (by rw [s2]; omega)]; exact heap_new _ _ _ s1
  · show (World.alloc (World.alloc (World.alloc w _) _) _).heap[_]? = _
    exact heap_new _ _ _ s2
set_option maxRecDepth 100000 in
set_option maxHeartbeats 8000000 in
theorem line_any (ao : Option Addr) (c : Nat) (l : List Pt) (w : World) (h : PAt w ao l) (hn : l.length ≤ 1000) (hs : Small 1000000 l) (hf : Flat (fun p => p ∈ l)) :
    Calls Try.prog 15 #[.slice ao l.length c] w fun e w' => e = .returned (.bool true) ∧ Below w.heap.size w w' := by
  obtain ⟨n, hnn⟩ : ∃ n, l.length = n := ⟨_, rfl⟩
  have HN := Lib.hid hnn
  have HW := Lib.hid h
  have HF := Lib.hid hf
  have HS := Lib.hid hs
  rw [hnn] at hn ⊢
  clear h hf hs hnn
  go_enter Try.func15, Try.ntmps15
  go_wp2
  go_loopw [3] (fun i wr => ∃ k : Nat, k ≤ n ∧ i = .int .i64 k ∧ Hid (Below w.heap.size w wr)) (fun i _ => n - (intOf i).toNat)
  case atStart => exact ⟨0, Nat.zero_le _, rfl, Below.refl _ _⟩
  case round =>
    obtain ⟨k, hk, rfl, HB⟩ := hrel
    by_cases hlt : k < n
    · obtain ⟨wo, hwo⟩ : ∃ wo : World, wo = wr := ⟨_, rfl⟩
      subst hwo
      go_wp2
      go_loopw [4] (fun i wr => ∃ j : Nat, j ≤ n ∧ i = .int .i64 j ∧ Hid (Below wo.heap.size wo wr)) (fun i _ => n - (intOf i).toNat)
      case atStart => exact ⟨0, Nat.zero_le _, rfl, Below.refl _ _⟩
      case round =>
        obtain ⟨j, hj, rfl, HC⟩ := hrel
        have HB3 : Hid (Below w.heap.size w wr) := HB.out.trans (HC.out.mono HB.out.size)
        by_cases hjm : j < n
        · obtain ⟨b, off, rfl, hb, hc⟩ := (HW.out.below HB3.out) (by rw [HN.out]; omega)
          obtain ⟨c0, c1⟩ := hc 0 (by rw [HN.out]; omega)
          obtain ⟨d0, d1⟩ := hc k (by rw [HN.out]; exact hlt)
          obtain ⟨e0, e1⟩ := hc j (by rw [HN.out]; exact hjm)
          have hz := HF.out _ _ _ (pg_mem (l := l) (i := 0) (by rw [HN.out]; omega)) (pg_mem (l := l) (i := k) (by rw [HN.out]; exact hlt)) (pg_mem (l := l) (i := j) (by rw [HN.out]; exact hjm))
          have s0 := HS.out _ (pg_mem (l := l) (i := 0) (by rw [HN.out]; omega))
          have s1 := HS.out _ (pg_mem (l := l) (i := k) (by rw [HN.out]; exact hlt))
          have s2 := HS.out _ (pg_mem (l := l) (i := j) (by rw [HN.out]; exact hjm))
          rw [Nat.zero_mul, Nat.add_zero] at c0 c1
          generalize pg l 0 = x at *
          generalize pg l k = y at *
          generalize pg l j = z at *
          have hn0 : 0 < n := by omega
          have hb1 : b < wr.heap.size + 1 := by omega
          have hb2 : b < wr.heap.size + 1 + 1 := by omega
          have hb3 : b < wr.heap.size + 2 := by omega
          clear hc
          go_upto_region 7 with (fail)
          go_cut [5, 6, 7] from 20 to 30 (fun v5 v6 v7 wx => ∃ g1 g2 g3 : Nat, v5 = .pointer (some ⟨g1, 0, none⟩) ∧ v6 = .pointer (some ⟨g2, 0, none⟩) ∧ v7 = .pointer (some ⟨g3, 0, none⟩) ∧ Hid (PtIn wx g1 x ∧ PtIn wx g2 y ∧ PtIn wx g3 z ∧ Below wr.heap.size wr wx))
          case first =>
            have T1 := Lib.hid (tri_cells wr x y z)
            have T2 := Lib.hid (tri_cells wr x z y)
            have T3 := Lib.hid (tri_cells wr y x z)
            have T4 := Lib.hid (tri_cells wr y z x)
            have T5 := Lib.hid (tri_cells wr z x y)
            have T6 := Lib.hid (tri_cells wr z y x)
            clear HS HF HW s0 s1 s2 hz
            go_region
            all_goals
              go_wp2
              go_meet
              first
                | exact ⟨_, _, _, rfl, rfl, rfl, T1.out.1, T1.out.2.1, T1.out.2.2.1, T1.out.2.2.2⟩
                | exact ⟨_, _, _, rfl, rfl, rfl, T2.out.1, T2.out.2.2.1, T2.out.2.1, T2.out.2.2.2⟩
                | exact ⟨_, _, _, rfl, rfl, rfl, T3.out.2.1, T3.out.1, T3.out.2.2.1, T3.out.2.2.2⟩
                | exact ⟨_, _, _, rfl, rfl, rfl, T4.out.2.2.1, T4.out.1, T4.out.2.1, T4.out.2.2.2⟩
                | exact ⟨_, _, _, rfl, rfl, rfl, T5.out.2.1, T5.out.2.2.1, T5.out.1, T5.out.2.2.2⟩
                | exact ⟨_, _, _, rfl, rfl, rfl, T6.out.2.2.1, T6.out.2.1, T6.out.1, T6.out.2.2.2⟩
          case rest =>
            obtain ⟨g1, g2, g3, rfl, rfl, rfl, HT⟩ := hcut
            obtain ⟨⟨a1, a2, a3⟩, ⟨b1, b2, b3⟩, ⟨f1, f2, f3⟩, hbx⟩ := HT.out
            have HBX : Hid (Below wo.heap.size wo wc) := HC.out.trans (hbx.mono HC.out.size)
            have m1 := mul_le (a := y.1 - x.1) (b := z.2 - x.2) (U := 2000000) (V := 2000000) (by omega) (by omega) (by omega) (by omega)
            have m2 := mul_le (a := y.2 - x.2) (b := z.1 - x.1) (U := 2000000) (V := 2000000) (by omega) (by omega) (by omega) (by omega)
            have w1 : IntKind.i64.wrap (y.1 - x.1) = y.1 - x.1 := wrap_in (by omega) (by omega)
            have w2 : IntKind.i64.wrap (z.2 - x.2) = z.2 - x.2 := wrap_in (by omega) (by omega)
            have w3 : IntKind.i64.wrap (y.2 - x.2) = y.2 - x.2 := wrap_in (by omega) (by omega)
            have w4 : IntKind.i64.wrap (z.1 - x.1) = z.1 - x.1 := wrap_in (by omega) (by omega)
            obtain ⟨p, hp⟩ : ∃ p, (y.1 - x.1) * (z.2 - x.2) = p := ⟨_, rfl⟩
            obtain ⟨q, hq⟩ : ∃ q, (y.2 - x.2) * (z.1 - x.1) = q := ⟨_, rfl⟩
            rw [hp] at m1
            rw [hq] at m2
            have hpq : p = q := by
              have : turn x y z = p - q := by rw [← hp, ← hq]; rfl
              omega
            subst hpq
            have w5 : IntKind.i64.wrap ((y.1 - x.1) * (z.2 - x.2)) = p := by rw [hp]; exact wrap_in (by omega) (by omega)
            have w6 : IntKind.i64.wrap ((y.2 - x.2) * (z.1 - x.1)) = p := by rw [hq]; exact wrap_in (by omega) (by omega)
            clear hbx hz hp hq HT c0 c1 d0 d1 e0 e1
            go_wp2
            go_roundw
            case rel => exact ⟨j + 1, by omega, by go_num, HBX.out⟩
            case measure => simp [intOf]; omega
        · obtain rfl : j = n := by omega
          go_wp2
          go_roundw
          case rel => exact ⟨k + 1, by omega, by go_num, HB3.out⟩
          case measure => simp [intOf]; omega
    · obtain rfl : k = n := by omega
      go_wp2
      go_ret
      exact ⟨rfl, HB.out⟩
end Go.Proofs.Ytcoffankmmjehaa
