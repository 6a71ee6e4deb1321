/- Contracts of apiarylaw3.Point, apiarylaw4.Some and apiarylaw5.Word at even y: the word of a point's cell. -/
import Derived.Test.YtkjfdaleamonaaaNfH
import Derived.Test.YtkjfdaleamonaaaNfD
namespace Go.Proofs.Ytkjfdaleamonaaa
open Go.RowKit Go.Lib Wd

theorem point_in (x y : Int) (w : World) : Calls Try.prog 28 #[.int .i64 x, .int .i64 y] w fun e w' => e = .returned (.tuple #[.int .i64 (x % 1073741824), .int .i64 (y % 1073741824)]) ∧ Below w.heap.size w w' := by
  have e1 : bits BinOp.and IntKind.i64 x 1073741823 = x % 1073741824 := i64_and_mask x 30 (by omega) 1073741823 rfl
  have e2 : bits BinOp.and IntKind.i64 y 1073741823 = y % 1073741824 := i64_and_mask y 30 (by omega) 1073741823 rfl
  generalize x % 1073741824 = a at *
  generalize y % 1073741824 = b at *
  go_enter Try.func28, Try.ntmps28
  go_wp2
  exact bodyPost_ret (v := .tuple #[.int .i64 a, .int .i64 b]) (by simp [results, Try.results28, go_sem]) rfl ⟨rfl, by first | exact Below.refl _ _ | exact below_drewN (Below.refl _ _) _⟩
theorem rem13 (r : Int) : (-13 < r.tmod 13 ∧ r.tmod 13 < 13) ∧ (r.tmod 13 + 13).tmod 13 = r % 13 := by
  have h : (-13 < r.tmod 13 ∧ r.tmod 13 < 13) ∧ (r.tmod 13 + 13) % 13 = r % 13 := by
    rcases Int.lt_or_le r 0 with h | h
    · have e : r.tmod 13 = -((-r) % 13) := by rw [← Int.tmod_eq_emod_of_nonneg (show 0 ≤ -r by omega), Int.neg_tmod, Int.neg_neg]
      omega
    · rw [Int.tmod_eq_emod_of_nonneg h]; omega
  refine ⟨h.1, ?_⟩
  rw [Int.tmod_eq_emod_of_nonneg (by omega)]
  exact h.2
set_option maxRecDepth 100000 in
set_option maxHeartbeats 4000000 in
theorem some_even (x y r : Int) (hy : y % 2 = 0) (w : World) :
    Calls Try.prog 13 #[.int .i64 x, .int .i64 y, .int .i64 r] w fun e w' => e = .returned (vC (r % 13) (nearE (x % 1073741824) (y % 1073741824) (r % 13).toNat)) ∧ Below w.heap.size w w' := by
  have e1 : bits BinOp.and IntKind.i64 y 1 = 0 := by rw [i64_and_mask y 1 (by omega) 1 rfl]; exact hy
  obtain ⟨hr2, hr1⟩ := rem13 r
  have hR : r % 13 = ((r % 13).toNat : Int) := by omega
  have hR2 : (r % 13).toNat ≤ 12 := by omega
  have HP := Lib.hid (point_in x y)
  have HNE := Lib.hid (rnear_in (x % 1073741824) (y % 1073741824) (by omega) (by omega) (r % 13).toNat hR2)
  generalize nearE (x % 1073741824) (y % 1073741824) (r % 13).toNat = z at *
  generalize x % 1073741824 = a at *
  generalize y % 1073741824 = b at *
  generalize (r % 13).toNat = R at *
  rw [hR] at hr1 ⊢
  simp only [vE] at HNE
  obtain ⟨s, hs⟩ : ∃ s, r.tmod 13 = s := ⟨_, rfl⟩
  rw [hs] at hr1 hr2
  obtain ⟨hr3, hr4⟩ := hr2
  clear hR hy
  go_enter Try.func13, Try.ntmps13
  go_wp2_with fail
  refine (HP.out _).mono ?_
  rintro e w1 ⟨rfl, hb1⟩
  have hz := hb1.size
  simp at hz
  have H1 : Hid (Tri w1 w.heap.size 0 (0, 0)) := Tri.later (heap_new _ _ _ rfl) hb1
  have HQ : Hid (Below w.heap.size w w1) := ((Below.refl _ _).alloc (Nat.le_refl _) _).trans (hb1.mono (by simp))
  clear hb1
  go_wp2_with fail
  refine (HNE.out _).mono ?_
  rintro e w2 ⟨rfl, hb2⟩
  have hz2 := hb2.size
  have HT : Hid (Two (w2.alloc (.cells #[.int .i64 z.1, .int .i64 z.2] 27)) w2.heap.size (.int .i64 z.1) (.int .i64 z.2)) := Two.of_row (t := 27) (f := _) (heap_new _ _ _ rfl)
  have H2 : Hid (Tri (w2.alloc (.cells #[.int .i64 z.1, .int .i64 z.2] 27)) w.heap.size 0 (0, 0)) := (H1.out.later hb2).later ((Below.refl _ _).alloc (Nat.le_refl _) _)
  have HQ3 : Hid (Below w.heap.size w (w2.alloc (.cells #[.int .i64 z.1, .int .i64 z.2] 27))) := (HQ.out.trans (hb2.mono (by omega))).alloc (by omega) _
  have hs : w2.heap.size < (w2.alloc (.cells #[.int .i64 z.1, .int .i64 z.2] 27)).heap.size := by simp
  clear hb2 HQ H1
  go_upto_region 5 with (fail)
  generalize w2.alloc (.cells #[.int .i64 z.1, .int .i64 z.2] 27) = w4 at *
  obtain ⟨t0, t1, t2, t3, t4, t5, t6⟩ := H2.out.cells
  obtain ⟨c0, c1⟩ := HT.out
  clear HT H2
  go_wp2
  exact bodyPost_ret (v := .agg #[.int .i64 R, .int .i64 z.1, .int .i64 z.2]) (by simp [results, Try.results13, go_sem, *]) rfl ⟨rfl, ((HQ3.out.setCell (p := ⟨w.heap.size, 0, none⟩) (Nat.le_refl _) _).setCell (p := ⟨w.heap.size, 1, none⟩) (Nat.le_refl _) _).setCell (p := ⟨w.heap.size, 2, none⟩) (Nat.le_refl _) _⟩
theorem lword_even (x y r : Int) (hy : y % 2 = 0) (w : World) :
    Calls Try.prog 4 #[.int .i64 x, .int .i64 y, .int .i64 r] w fun e w' => e = .returned (.int .u64 (ofW (r % 13) (nearE (x % 1073741824) (y % 1073741824) (r % 13).toNat) : Nat)) ∧ Below w.heap.size w w' := by
  have HS := Lib.hid (some_even x y r hy)
  have HWD := Lib.hid (word_any (r % 13) (nearE (x % 1073741824) (y % 1073741824) (r % 13).toNat))
  generalize nearE (x % 1073741824) (y % 1073741824) (r % 13).toNat = z at *
  generalize r % 13 = R at *
  simp only [vC] at *
  generalize ofW R z = v at *
  generalize ofE R z = v2 at *
  clear hy
  go_enter Try.func4, Try.ntmps4
  go_wp2_with fail
  refine (HS.out _).mono ?_
  rintro e w1 ⟨rfl, hb1⟩
  go_wp2_with fail
  refine (HWD.out _).mono ?_
  rintro e w2 ⟨rfl, hb2⟩
  have HQ : Hid (Below w.heap.size w w2) := hb1.trans (hb2.mono hb1.size)
  clear hb1 hb2
  go_wp2
  exact bodyPost_ret (v := .int .u64 v) (by simp [results, Try.results4, go_sem]) rfl ⟨rfl, HQ.out⟩
end Go.Proofs.Ytkjfdaleamonaaa
