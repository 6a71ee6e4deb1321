/- Contracts of package eisen: Add, Sub, Conj, Unit. -/
import Derived.Test.YtkjfdaleamonaaaWdC
namespace Go.Proofs.Ytkjfdaleamonaaa
open Go.RowKit Go.Lib Wd

/-- A number of the lattice, as a value. -/
abbrev vE (z : E2) : Value := .agg #[.int .i64 z.1, .int .i64 z.2]
set_option maxHeartbeats 1000000 in
theorem sides_nadd (a b c d x y : Int) (h1 : ∀ w, Calls Try.prog 88 #[.int .i64 a, .int .i64 c] w fun e w' => e = .returned (.tuple #[.int .i64 x, .bool true]) ∧ w' = w)
    (h2 : ∀ w, Calls Try.prog 88 #[.int .i64 b, .int .i64 d] w fun e w' => e = .returned (.tuple #[.int .i64 y, .bool true]) ∧ w' = w) (w : World) :
    Calls Try.prog 87 #[.agg #[.int .i64 a, .int .i64 b], .agg #[.int .i64 c, .int .i64 d], .func (.func 88) #[] #[]] w fun e w' => e = .returned (.tuple #[.agg #[.int .i64 x, .int .i64 y], .bool true]) ∧ Below w.heap.size w w' := by
  have H1 := Lib.hid h1
  have H2 := Lib.hid h2
  clear h1 h2
  go_enter Try.func87, Try.ntmps87
  go_wp2_with fail
  refine (H1.out _).mono ?_
  rintro e w1 ⟨rfl, rfl⟩
  go_wp2_with fail
  refine (H2.out _).mono ?_
  rintro e w1 ⟨rfl, rfl⟩
  go_wp2_with fail
  refine (both_in _ _ _).mono ?_
  rintro e w1 ⟨rfl, hb⟩
  have h5 : Two2 w1 (w.heap.size + 2) (.int .i64 0) (.int .i64 0) := (Two2.of_row (t := 27) (heap_new _ _ _ (by simp))).later (by simp) hb
  obtain ⟨⟨c0, c1⟩, f0, f1⟩ := h5
  have hz := hb.size
  simp at hz
  have hq : Hid (Below w.heap.size w w1) := (((Below.refl _ _).alloc (Nat.le_refl _) _).alloc (by simp) _).alloc (by simp; omega) _ |>.trans (hb.mono (by simp; omega))
  clear hb H1 H2
  go_wp2
  exact bodyPost_ret (v := .tuple #[.agg #[.int .i64 x, .int .i64 y], .bool true]) (by simp [results, Try.results87, go_sem, *]) rfl ⟨rfl, (hq.out.setCell (p := ⟨w.heap.size + 1 + 1, 0, none⟩) (by simp; omega) _).setCell (p := ⟨w.heap.size + 1 + 1, 1, none⟩) (by simp; omega) _⟩
set_option maxHeartbeats 1000000 in
theorem sides_nsub (a b c d x y : Int) (h1 : ∀ w, Calls Try.prog 101 #[.int .i64 a, .int .i64 c] w fun e w' => e = .returned (.tuple #[.int .i64 x, .bool true]) ∧ w' = w)
    (h2 : ∀ w, Calls Try.prog 101 #[.int .i64 b, .int .i64 d] w fun e w' => e = .returned (.tuple #[.int .i64 y, .bool true]) ∧ w' = w) (w : World) :
    Calls Try.prog 87 #[.agg #[.int .i64 a, .int .i64 b], .agg #[.int .i64 c, .int .i64 d], .func (.func 101) #[] #[]] w fun e w' => e = .returned (.tuple #[.agg #[.int .i64 x, .int .i64 y], .bool true]) ∧ Below w.heap.size w w' := by
  have H1 := Lib.hid h1
  have H2 := Lib.hid h2
  clear h1 h2
  go_enter Try.func87, Try.ntmps87
  go_wp2_with fail
  refine (H1.out _).mono ?_
  rintro e w1 ⟨rfl, rfl⟩
  go_wp2_with fail
  refine (H2.out _).mono ?_
  rintro e w1 ⟨rfl, rfl⟩
  go_wp2_with fail
  refine (both_in _ _ _).mono ?_
  rintro e w1 ⟨rfl, hb⟩
  have h5 : Two2 w1 (w.heap.size + 2) (.int .i64 0) (.int .i64 0) := (Two2.of_row (t := 27) (heap_new _ _ _ (by simp))).later (by simp) hb
  obtain ⟨⟨c0, c1⟩, f0, f1⟩ := h5
  have hz := hb.size
  simp at hz
  have hq : Hid (Below w.heap.size w w1) := (((Below.refl _ _).alloc (Nat.le_refl _) _).alloc (by simp) _).alloc (by simp; omega) _ |>.trans (hb.mono (by simp; omega))
  clear hb H1 H2
  go_wp2
  exact bodyPost_ret (v := .tuple #[.agg #[.int .i64 x, .int .i64 y], .bool true]) (by simp [results, Try.results87, go_sem, *]) rfl ⟨rfl, (hq.out.setCell (p := ⟨w.heap.size + 1 + 1, 0, none⟩) (by simp; omega) _).setCell (p := ⟨w.heap.size + 1 + 1, 1, none⟩) (by simp; omega) _⟩
/-- Numbers that may be added. -/
def Sm (h : Int) (z : E2) : Prop := -h ≤ z.1 ∧ z.1 ≤ h ∧ -h ≤ z.2 ∧ z.2 ≤ h
theorem add_in (y z : E2) (hy : Sm 4611686018427387903 y) (hz : Sm 4611686018427387903 z) (w : World) :
    Calls Try.prog 64 #[vE y, vE z] w fun e w' => e = .returned (.tuple #[vE (addE y z), .bool true]) ∧ Below w.heap.size w w' := by
  obtain ⟨a, b⟩ := y
  obtain ⟨c, d⟩ := z
  unfold Sm at hy hz
  simp only at hy hz
  have HS := Lib.hid (sides_nadd a b c d (a + c) (b + d) (nadd_in a c (by omega) (by omega) (by omega) (by omega)) (nadd_in b d (by omega) (by omega) (by omega) (by omega)))
  clear hy hz
  show Calls Try.prog 64 #[.agg #[.int .i64 a, .int .i64 b], .agg #[.int .i64 c, .int .i64 d]] w fun e w' => e = .returned (.tuple #[.agg #[.int .i64 (a + c), .int .i64 (b + d)], .bool true]) ∧ Below w.heap.size w w'
  generalize a + c = x at *
  generalize b + d = y at *
  go_enter Try.func64, Try.ntmps64
  go_wp2_with fail
  refine (HS.out _).mono ?_
  rintro e w1 ⟨rfl, hb⟩
  have h5 : Two2 w1 (w.heap.size + 2) (.int .i64 0) (.int .i64 0) := (Two2.of_row (t := 27) (heap_new _ _ _ (by simp))).later (by simp) hb
  obtain ⟨⟨c0, c1⟩, f0, f1⟩ := h5
  have hz := hb.size
  simp at hz
  have hq : Hid (Below w.heap.size w w1) := (((Below.refl _ _).alloc (Nat.le_refl _) _).alloc (by simp) _).alloc (by simp; omega) _ |>.trans (hb.mono (by simp; omega))
  clear hb HS
  go_wp2
  exact bodyPost_ret (v := .tuple #[.agg #[.int .i64 x, .int .i64 y], .bool true]) (by simp [results, Try.results64, go_sem, *]) rfl ⟨rfl, (hq.out.setCell (p := ⟨w.heap.size + 1 + 1, 0, none⟩) (by simp; omega) _).setCell (p := ⟨w.heap.size + 1 + 1, 1, none⟩) (by simp; omega) _⟩
theorem sub_in (y z : E2) (hy : Sm 4611686018427387903 y) (hz : Sm 4611686018427387903 z) (w : World) :
    Calls Try.prog 97 #[vE y, vE z] w fun e w' => e = .returned (.tuple #[vE (subE y z), .bool true]) ∧ Below w.heap.size w w' := by
  obtain ⟨a, b⟩ := y
  obtain ⟨c, d⟩ := z
  unfold Sm at hy hz
  simp only at hy hz
  have HS := Lib.hid (sides_nsub a b c d (a - c) (b - d) (nsub_in a c (by omega) (by omega) (by omega) (by omega)) (nsub_in b d (by omega) (by omega) (by omega) (by omega)))
  clear hy hz
  show Calls Try.prog 97 #[.agg #[.int .i64 a, .int .i64 b], .agg #[.int .i64 c, .int .i64 d]] w fun e w' => e = .returned (.tuple #[.agg #[.int .i64 (a - c), .int .i64 (b - d)], .bool true]) ∧ Below w.heap.size w w'
  generalize a - c = x at *
  generalize b - d = y at *
  go_enter Try.func97, Try.ntmps97
  go_wp2_with fail
  refine (HS.out _).mono ?_
  rintro e w1 ⟨rfl, hb⟩
  have h5 : Two2 w1 (w.heap.size + 2) (.int .i64 0) (.int .i64 0) := (Two2.of_row (t := 27) (heap_new _ _ _ (by simp))).later (by simp) hb
  obtain ⟨⟨c0, c1⟩, f0, f1⟩ := h5
  have hz := hb.size
  simp at hz
  have hq : Hid (Below w.heap.size w w1) := (((Below.refl _ _).alloc (Nat.le_refl _) _).alloc (by simp) _).alloc (by simp; omega) _ |>.trans (hb.mono (by simp; omega))
  clear hb HS
  go_wp2
  exact bodyPost_ret (v := .tuple #[.agg #[.int .i64 x, .int .i64 y], .bool true]) (by simp [results, Try.results97, go_sem, *]) rfl ⟨rfl, (hq.out.setCell (p := ⟨w.heap.size + 1 + 1, 0, none⟩) (by simp; omega) _).setCell (p := ⟨w.heap.size + 1 + 1, 1, none⟩) (by simp; omega) _⟩
theorem neg_in (a : Int) (h1 : -4611686018427387903 ≤ a) (h2 : a ≤ 4611686018427387903) (w : World) :
    Calls Try.prog 99 #[.int .i64 a] w fun e w' => e = .returned (.tuple #[.int .i64 (-a), .bool true]) ∧ w' = w := by
  have H := Lib.hid (nsub_in 0 a (by omega) (by omega) (by omega) (by omega))
  rw [Int.zero_sub] at H
  generalize -a = b at *
  go_enter Try.func99, Try.ntmps99
  go_wp2_with fail
  refine (H.out _).mono ?_
  rintro e w1 ⟨rfl, rfl⟩
  go_wp2
  go_ret2
  exact ⟨rfl, rfl⟩
set_option maxHeartbeats 1000000 in
theorem conj_in (z : E2) (hz : Sm 1152921504606846976 z) (w : World) :
    Calls Try.prog 95 #[vE z] w fun e w' => e = .returned (.tuple #[.agg #[.int .i64 (z.1 + z.2), .int .i64 (-z.2)], .bool true]) ∧ Below w.heap.size w w' := by
  obtain ⟨a, b⟩ := z
  unfold Sm at hz
  simp only at hz ⊢
  have H1 := Lib.hid (nadd_in a b (by omega) (by omega) (by omega) (by omega))
  have H2 := Lib.hid (neg_in b (by omega) (by omega))
  clear hz
  generalize a + b = x at *
  generalize -b = y at *
  go_enter Try.func95, Try.ntmps95
  go_wp2_with fail
  refine (H1.out _).mono ?_
  rintro e w1 ⟨rfl, rfl⟩
  go_wp2_with fail
  refine (H2.out _).mono ?_
  rintro e w1 ⟨rfl, rfl⟩
  go_wp2_with fail
  refine (both_in _ _ _).mono ?_
  rintro e w1 ⟨rfl, hb⟩
  have h5 : Two2 w1 (w.heap.size + 1) (.int .i64 0) (.int .i64 0) := (Two2.of_row (t := 27) (heap_new _ _ _ (by simp))).later (by simp) hb
  obtain ⟨⟨c0, c1⟩, f0, f1⟩ := h5
  have hz := hb.size
  simp at hz
  have hq : Hid (Below w.heap.size w w1) := ((Below.refl _ _).alloc (Nat.le_refl _) _).alloc (by simp) _ |>.trans (hb.mono (by simp; omega))
  clear hb H1 H2
  go_wp2
  exact bodyPost_ret (v := .tuple #[.agg #[.int .i64 x, .int .i64 y], .bool true]) (by simp [results, Try.results95, go_sem, *]) rfl ⟨rfl, (hq.out.setCell (p := ⟨w.heap.size + 1, 0, none⟩) (by simp) _).setCell (p := ⟨w.heap.size + 1, 1, none⟩) (by simp) _⟩
set_option maxHeartbeats 1000000 in
theorem unit_in (k : Nat) (hk : k < 6) (w : World) :
    Calls Try.prog 65 #[.int .i64 k] w fun e w' => e = .returned (vE (unitE k)) ∧ Below w.heap.size w w' := by
  have hu : (k = 0 ∧ unitE k = (1, 0)) ∨ (k = 1 ∧ unitE k = (0, 1)) ∨ (k = 2 ∧ unitE k = (-1, 1)) ∨ (k = 3 ∧ unitE k = (-1, 0)) ∨ (k = 4 ∧ unitE k = (0, -1)) ∨ (k = 5 ∧ unitE k = (1, -1)) := by
    rcases (show k = 0 ∨ k = 1 ∨ k = 2 ∨ k = 3 ∨ k = 4 ∨ k = 5 by omega) with rfl | rfl | rfl | rfl | rfl | rfl <;> simp [unitE]
  rcases hu with ⟨rfl, e⟩ | ⟨rfl, e⟩ | ⟨rfl, e⟩ | ⟨rfl, e⟩ | ⟨rfl, e⟩ | ⟨rfl, e⟩ <;> rw [e] <;> clear e hk <;>
  · go_enter Try.func65, Try.ntmps65
    go_wp2
    exact bodyPost_ret (by simp [results, Try.results65, go_sem]) rfl ⟨rfl, by
      exact ((Below.refl _ _).alloc (Nat.le_refl _) _).alloc (by simp) _⟩
end Go.Proofs.Ytkjfdaleamonaaa
