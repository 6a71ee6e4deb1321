/- The contract of apiaryref9.cross. -/
import Derived.Test.YtcoffankmmjehaaWide
namespace Go.Proofs.Ytcoffankmmjehaa
open Go.RowKit

def crossF (a b c d x y : Int) : Int :=
  if wrap64 (c - a) * wrap64 (y - b) < wrap64 (d - b) * wrap64 (x - a) then -1
  else if wrap64 (d - b) * wrap64 (x - a) < wrap64 (c - a) * wrap64 (y - b) then 1 else 0
theorem wrap64_bd (z : Int) : -9223372036854775808 ≤ wrap64 z ∧ wrap64 z ≤ 9223372036854775807 := by
  unfold wrap64; omega

set_option maxHeartbeats 2000000 in
theorem cross_any (a b c d x y : Int) (w : World) :
    Calls Try.prog 37 #[.agg #[.int .i64 a, .int .i64 b], .agg #[.int .i64 c, .int .i64 d], .int .i64 x, .int .i64 y] w fun e w' => e = .returned (.int .i64 (crossF a b c d x y)) ∧ Below w.heap.size w w' := by
  have T1 : Hid (∀ w : World, _) := fun w => times_rep (wrap64 (c - a)) (wrap64 (y - b)) (wrap64_bd _) (wrap64_bd _) w
  have T2 : Hid (∀ w : World, _) := fun w => times_rep (wrap64 (d - b)) (wrap64 (x - a)) (wrap64_bd _) (wrap64_bd _) w
  have k1 := prod_bound (wrap64_bd (c - a)) (wrap64_bd (y - b))
  have k2 := prod_bound (wrap64_bd (d - b)) (wrap64_bd (x - a))
  have HF : Hid (crossF a b c d x y = if wrap64 (c - a) * wrap64 (y - b) < wrap64 (d - b) * wrap64 (x - a) then -1 else if wrap64 (d - b) * wrap64 (x - a) < wrap64 (c - a) * wrap64 (y - b) then 1 else 0) := rfl
  generalize wrap64 (c - a) * wrap64 (y - b) = A at *
  generalize wrap64 (d - b) * wrap64 (x - a) = B at *
  have L1 : Hid (∀ (ah al bh bl : Nat), Rep ah al A → Rep bh bl B → ∀ w, Calls Try.prog 52 #[.agg #[.int .u64 ah, .int .u64 al], .agg #[.int .u64 bh, .int .u64 bl]] w fun e w' => e = .returned (.bool (decide (A < B))) ∧ Below w.heap.size w w') := fun _ _ _ _ h1 h2 w => less_rep h1 h2 k1.1 k1.2 k2.1 k2.2 w
  have L2 : Hid (∀ (ah al bh bl : Nat), Rep ah al B → Rep bh bl A → ∀ w, Calls Try.prog 52 #[.agg #[.int .u64 ah, .int .u64 al], .agg #[.int .u64 bh, .int .u64 bl]] w fun e w' => e = .returned (.bool (decide (B < A))) ∧ Below w.heap.size w w') := fun _ _ _ _ h1 h2 w => less_rep h1 h2 k2.1 k2.2 k1.1 k1.2 w
  have HC : Hid (∀ w1 : World, Below ((w.alloc (.cells #[.int .i64 a, .int .i64 b] 26)).alloc (.cells #[.int .i64 c, .int .i64 d] 26)).heap.size ((w.alloc (.cells #[.int .i64 a, .int .i64 b] 26)).alloc (.cells #[.int .i64 c, .int .i64 d] 26)) w1 →
      (w1.cell? ⟨w.heap.size, 0, none⟩ = some (.int .i64 a) ∧ w1.cell? ⟨w.heap.size, 1, none⟩ = some (.int .i64 b)) ∧ (w1.cell? ⟨w.heap.size + 1, 0, none⟩ = some (.int .i64 c) ∧ w1.cell? ⟨w.heap.size + 1, 1, none⟩ = some (.int .i64 d)) ∧ w.heap.size + 1 < w1.heap.size ∧ Below w.heap.size w w1) := fun w1 hb => by
    have h1 : ((w.alloc (.cells #[.int .i64 a, .int .i64 b] 26)).alloc (.cells #[.int .i64 c, .int .i64 d] 26)).heap[w.heap.size]? = some (.cells #[.int .i64 a, .int .i64 b] 26) := by
      rw [Below.heap_alloc _ _ _ (by simp)]; exact heap_new _ _ _ rfl
    have h2 : ((w.alloc (.cells #[.int .i64 a, .int .i64 b] 26)).alloc (.cells #[.int .i64 c, .int .i64 d] 26)).heap[w.heap.size + 1]? = some (.cells #[.int .i64 c, .int .i64 d] 26) := heap_new _ _ _ (by simp)
    have hz := hb.size
    rw [hb.cell (p := ⟨w.heap.size, 0, none⟩) (by simp; omega), hb.cell (p := ⟨w.heap.size, 1, none⟩) (by simp; omega), hb.cell (p := ⟨w.heap.size + 1, 0, none⟩) (by simp), hb.cell (p := ⟨w.heap.size + 1, 1, none⟩) (by simp),
      cell_of_row _ _ _ _ _ _ h1, cell_of_row _ _ _ _ _ _ h1, cell_of_row _ _ _ _ _ _ h2, cell_of_row _ _ _ _ _ _ h2]
    exact ⟨⟨rfl, rfl⟩, ⟨rfl, rfl⟩, by simp at hz; omega, ((Below.refl _ _).alloc (Nat.le_refl _) _).alloc (by simp) _ |>.trans (hb.mono (by simp; omega))⟩
  clear k1 k2
  go_enter Try.func37, Try.ntmps37
  go_wp2_with fail
  refine (T1.out _).mono ?_
  rintro e w1 ⟨h1, l1, rfl, hr1, hb1⟩
  obtain ⟨⟨c0, c1⟩, ⟨d0, d1⟩, hz1, hbw⟩ := HC.out _ hb1
  have hz0 : w.heap.size < w1.heap.size := by omega
  have HR1 := Lib.hid hr1
  have HB1 := Lib.hid hbw
  clear hb1 hr1 hbw HC T1
  go_wp2_with fail
  refine (T2.out _).mono ?_
  rintro e w2 ⟨h2, l2, rfl, hr2, hb2⟩
  obtain ⟨e0, e1, hz2⟩ := pair_kept hb2
  have HR2 := Lib.hid hr2
  have HB2 := Lib.hid (below_alloc' HB1.out hb2)
  clear hb2 hr2 c0 c1 d0 d1 T2 HB1
  go_wp2_with fail
  refine (L1.out _ _ _ _ HR1.out HR2.out _).mono ?_
  rintro e w3 ⟨rfl, hb3⟩
  obtain ⟨f0, f1, hz3⟩ := pair_kept hb3
  have g0 := (hb3.cell (p := ⟨w1.heap.size, 0, none⟩) (by simp; omega)).trans ((World.cell?_alloc_lt w2 _ _ hz2).trans e0)
  have g1 := (hb3.cell (p := ⟨w1.heap.size, 1, none⟩) (by simp; omega)).trans ((World.cell?_alloc_lt w2 _ _ hz2).trans e1)
  have HB3 := Lib.hid (below_alloc' HB2.out hb3)
  clear hb3 HB2 e0 e1 L1
  by_cases hab : A < B
  · go_wp2
    go_ret
    exact ⟨ret_int (by rw [HF.out, if_pos hab]), HB3.out⟩
  · go_wp2_with fail
    refine (L2.out _ _ _ _ HR2.out HR1.out _).mono ?_
    rintro e w4 ⟨rfl, hb4⟩
    have HB4 := Lib.hid (below_later HB3.out HB3.out.size hb4)
    clear hb4 HB3 L2
    by_cases hba : B < A
    · go_wp2
      go_ret
      exact ⟨ret_int (by rw [HF.out, if_neg (by omega), if_pos hba]), HB4.out⟩
    · go_wp2
      go_ret
      exact ⟨ret_int (by rw [HF.out, if_neg (by omega), if_neg (by omega)]), HB4.out⟩

end Go.Proofs.Ytcoffankmmjehaa
