/- The contract of near.Line. -/
import Derived.Test.YticbkdignmlfiaaNfP
namespace Go.Proofs.Yticbkdignmlfiaa
open Go.RowKit Go.Lib Wd

/-- What a line tells: its words, and the error. -/
def lnE (a b : Nat) : Int := if dsE a b = 0 then (if 10000 < dsN a b then 7 else 0) else dsE a b
def lnL (a b : Nat) : List Int := if lnE a b = 0 then (if dsN a b = 0 then [(a : Int)] else tellL (cvR a) (pathL (cvZ a) (cvZ b) (dsN a b).toNat)) else []
theorem ds_zero {a b : Nat} (h : dsE a b = 0) : yR a b = cvR b ∧ yZ a b = cvZ b ∧ cvR a = cvR b ∧ dsN a b = stepsN (subE (cvZ a) (cvZ b)) ∧ cvE a = 0 ∧ cvE b = 0 := by
  unfold dsE at h
  by_cases hA : isW a = true
  · rw [if_pos hA] at h
    by_cases hB : isW b = true
    · rw [if_pos hB] at h
      by_cases hr : rW a = rW b
      · refine ⟨by unfold yR; rw [if_pos hA], by unfold yZ; rw [if_pos hA], by unfold cvR; rw [if_pos hA, if_pos hB, hr], ?_, by unfold cvE; rw [if_pos hA], by unfold cvE; rw [if_pos hB]⟩
        unfold dsN dsE cvZ
        rw [if_pos hA, if_pos hB, if_pos hA, if_pos hB, if_pos hr, if_pos rfl]
      · rw [if_neg hr] at h; omega
    · rw [if_neg hB] at h; omega
  · rw [if_neg hA] at h; omega
theorem path_take (x y : E2) (n : Nat) {k : Nat} (h : k < n + 1) : (pathL x y n).take (k + 1) = (pathL x y n).take k ++ [lineE x y n k] := by
  rw [List.take_add_one]
  congr 1
  unfold pathL
  rw [List.getElem?_map, List.getElem?_range h]
  rfl
theorem path_len (x y : E2) (n : Nat) : (pathL x y n).length = n + 1 := by unfold pathL; simp
theorem mulz_in {k a : Int} {n : Nat} (h0 : 0 ≤ k) (h1 : k ≤ n) (hn : n ≤ 10000) (h2 : -1073741824 ≤ a) (h3 : a ≤ 1073741824) : -10737418240000 ≤ k * a ∧ k * a ≤ 10737418240000 := by
  have e1 : k * a ≤ k * 1073741824 := Int.mul_le_mul_of_nonneg_left h3 h0
  have e2 : k * (-1073741824) ≤ k * a := Int.mul_le_mul_of_nonneg_left h2 h0
  omega
set_option maxRecDepth 100000 in
set_option maxHeartbeats 8000000 in
theorem line_any (a b : Nat) (ha : a < 18446744073709551616) (hb : b < 18446744073709551616) (w : World) : Calls Try.prog 28 #[.int .u64 a, .int .u64 b] w (Told w (lnL a b) (lnE a b)) := by
  obtain ⟨i0, hi, hz0, hz1, hz2⟩ := info_parts info_u
  have HT := Lib.hid (two_any a b ha hb)
  have hxs := cv_sm a
  have hys := cv_sm b
  obtain ⟨hr0, hr12⟩ := cvR_in a
  by_cases hE : dsE a b = 0
  · obtain ⟨y1, y2, y3, y4, -, -⟩ := ds_zero hE
    rw [y1, y2, hE] at HT
    have hn0 := steps_nonneg (subE (cvZ a) (cvZ b))
    rw [← y4] at hn0
    have hn1 : dsN a b ≤ 4294967296 := by
      rw [y4, ← steps_hex]
      unfold Sm Hex subE at *
      simp only
      omega
    by_cases hbig : 10000 < dsN a b
    · have e1 : lnE a b = 7 := by unfold lnE; rw [if_pos hE, if_pos hbig]
      have e2 : lnL a b = [] := by unfold lnL; rw [e1]; rfl
      rw [e1, e2]
      generalize dsN a b = n at *
      generalize cvR a = ra at *
      generalize cvR b = rb at *
      generalize cvZ a = x at *
      generalize cvZ b = y at *
      clear e1 e2 y1 y2 y3 y4 hE hxs hys hn0 hn1
      have q1 : decide (10000 < n) = true := decide_eq_true hbig
      simp only [vC] at *
      go_enter Try.func28, Try.ntmps28
      go_wp2_with fail
      refine (HT.out _).mono ?_
      rintro e w1 ⟨rfl, hb1⟩
      have B1 : Hid (Below w.heap.size w ((w1.alloc (.cells #[.int .i64 ra, .int .i64 x.1, .int .i64 x.2] 29)).alloc (.cells #[.int .i64 rb, .int .i64 y.1, .int .i64 y.2] 29))) := (hb1.alloc hb1.size _).alloc (by have := hb1.size; simp; omega) _
      clear hb1
      go_wp2
      go_ret2
      exact Told.nil B1.out
    · have e1 : lnE a b = 0 := by unfold lnE; rw [if_pos hE, if_neg hbig]
      by_cases h0 : dsN a b = 0
      · have e2 : lnL a b = [(a : Int)] := by unfold lnL; rw [if_pos e1, if_pos h0]
        rw [e1, e2]
        rw [h0] at HT
        generalize cvR a = ra at *
        generalize cvR b = rb at *
        generalize cvZ a = x at *
        generalize cvZ b = y at *
        clear e1 e2 y1 y2 y3 y4 hE hxs hys hn0 hn1 hbig h0
        simp only [vC] at *
        go_enter Try.func28, Try.ntmps28
        go_wp2_with fail
        refine (HT.out _).mono ?_
        rintro e w1 ⟨rfl, hb1⟩
        have B1 : Hid (Below w.heap.size w ((w1.alloc (.cells #[.int .i64 ra, .int .i64 x.1, .int .i64 x.2] 29)).alloc (.cells #[.int .i64 rb, .int .i64 y.1, .int .i64 y.2] 29))) := (hb1.alloc hb1.size _).alloc (by have := hb1.size; simp; omega) _
        clear hb1
        go_upto_region 7 with (fail)
        generalize (w1.alloc (.cells #[.int .i64 ra, .int .i64 x.1, .int .i64 x.2] 29)).alloc (.cells #[.int .i64 rb, .int .i64 y.1, .int .i64 y.2] 29) = w2 at *
        have HF : Hid (Told w [(a : Int)] 0 (.returned (.tuple #[.slice (some ⟨w2.heap.size, 0, none⟩) 1 1, .int .i64 0])) (w2.alloc (.cells #[.int .u64 (a : Int)] 25))) := ⟨some ⟨w2.heap.size, 0, none⟩, 1, rfl, fun _ => ⟨w2.heap.size, 0, rfl, by simp, fun i hi => by
          obtain rfl : i = 0 := by simp at hi; omega
          exact cell_of_row _ _ 0 _ _ _ (heap_new w2 _ _ rfl)⟩, B1.out.alloc B1.out.size _⟩
        go_wp2
        go_ret2
        exact HF.out
      · obtain ⟨n, hn⟩ : ∃ n : Nat, dsN a b = n := ⟨(dsN a b).toNat, by omega⟩
        have e2 : lnL a b = tellL (cvR a) (pathL (cvZ a) (cvZ b) n) := by unfold lnL; rw [if_pos e1, if_neg h0, hn]; rfl
        rw [e1, e2]
        rw [hn] at HT hbig h0
        rw [← y3] at HT
        generalize cvR a = R at *
        generalize cvZ a = x at *
        generalize cvZ b = y at *
        clear e1 e2 y1 y2 y3 y4 hE hn0 hn1 hn
        have hn10 : n ≤ 10000 := by omega
        have hn1 : 1 ≤ n := by omega
        have q1 : ((n : Int) == 0) = false := by simp; omega
        have q2 : decide (10000 < (n : Int)) = false := decide_eq_false (by omega)
        clear hbig h0
        have HPT := Lib.hid (fun k (h : k < n + 1) => path_take x y n h)
        have HPL := Lib.hid (path_len x y n)
        generalize pathL x y n = P at *
        unfold Sm at hxs hys
        obtain ⟨x1, x2, x3, x4⟩ := hxs
        obtain ⟨y1, y2, y3, y4⟩ := hys
        have HRO : Hid (∀ k : Nat, k ≤ n → ∀ w, Calls Try.prog 40 #[vE (((n : Int) - k) * x.1 + k * y.1, ((n : Int) - k) * x.2 + k * y.2), .int .i64 n] w fun e w' => e = .returned (.tuple #[vE (lineE x y n k), .bool true]) ∧ Below w.heap.size w w') := fun k hk w => by
          have m1 := mulz_in (k := (n : Int) - k) (by omega) (by omega) hn10 x1 x2
          have m2 := mulz_in (k := (k : Int)) (by omega) (by omega) hn10 y1 y2
          have m3 := mulz_in (k := (n : Int) - k) (by omega) (by omega) hn10 x3 x4
          have m4 := mulz_in (k := (k : Int)) (by omega) (by omega) hn10 y3 y4
          exact round_in _ _ (by omega) (by omega) (by unfold Sm; simp only; omega) w
        have HT1 := Lib.hid (tellL_app R)
        have HT2 := Lib.hid (tellL_one R)
        have HOK := Lib.hid (ok_any R)
        have HOF := Lib.hid (of_any R)
        simp only [vC] at *
        go_enter Try.func28, Try.ntmps28
        go_wp2_with fail
        refine (HT.out _).mono ?_
        rintro e w1 ⟨rfl, hb1⟩
        have hzz1 := hb1.size
        have B1 : Hid (Below w.heap.size w ((w1.alloc (.cells #[.int .i64 R, .int .i64 x.1, .int .i64 x.2] 29)).alloc (.cells #[.int .i64 R, .int .i64 y.1, .int .i64 y.2] 29))) := (hb1.alloc hb1.size _).alloc (by simp; omega) _
        have X1 : Hid (Tri ((w1.alloc (.cells #[.int .i64 R, .int .i64 x.1, .int .i64 x.2] 29)).alloc (.cells #[.int .i64 R, .int .i64 y.1, .int .i64 y.2] 29)) w1.heap.size R x) := by
          show _ = _
          rw [Below.heap_alloc _ _ _ (by simp)]
          exact heap_new _ _ _ rfl
        have Y1 : Hid (Tri ((w1.alloc (.cells #[.int .i64 R, .int .i64 x.1, .int .i64 x.2] 29)).alloc (.cells #[.int .i64 R, .int .i64 y.1, .int .i64 y.2] 29)) (w1.heap.size + 1) R y) := heap_new _ _ _ (by simp)
        clear hb1
        go_upto_region 8 with (fail)
        generalize (w1.alloc (.cells #[.int .i64 R, .int .i64 x.1, .int .i64 x.2] 29)).alloc (.cells #[.int .i64 R, .int .i64 y.1, .int .i64 y.2] 29) = w2 at *
        have hs1 := X1.out.lt
        have hs2 := Y1.out.lt
        have hs3 := B1.out.size
        go_wp2
        go_loopw [10, 40] (fun sl i wr => ∃ (k m : Nat) (ao : Option Addr) (c : Nat), k ≤ n + 1 ∧ i = .int .i64 k ∧ m ≤ k ∧ sl = .slice ao m c ∧ Hid ((tellL R (P.take k)).length = m) ∧ Hid (wr.ownsRow w2.heap.size 25 1 (.slice ao m c) m (uV (tellL R (P.take k))) ∧ Below w2.heap.size w2 wr)) (fun _ i _ => n + 1 - (intOf i).toNat)
        case atStart => exact ⟨0, 0, _, _, by omega, rfl, by omega, rfl, rfl, World.ownsRow_nil _ _ _ _, Below.refl _ _⟩
        case round =>
          obtain ⟨k, m, ao, c, hk, rfl, hmk, rfl, HLEN, HI⟩ := hrel
          by_cases hlt : k < n + 1
          · have m1 := mulz_in (k := (n : Int) - k) (by omega) (by omega) hn10 x1 x2
            have m2 := mulz_in (k := (k : Int)) (by omega) (by omega) hn10 y1 y2
            have m3 := mulz_in (k := (n : Int) - k) (by omega) (by omega) hn10 x3 x4
            have m4 := mulz_in (k := (k : Int)) (by omega) (by omega) hn10 y3 y4
            have HRK := Lib.hid (HRO.out k (by omega))
            have HTK := Lib.hid (HPT.out k hlt)
            generalize lineE x y n k = z at *
            have HOKz := Lib.hid (HOK.out z)
            have HOFz := Lib.hid (HOF.out z)
            have HT2z := Lib.hid (HT2.out z)
            have HX := Lib.hid (X1.out.later HI.out.2)
            have HY := Lib.hid (Y1.out.later HI.out.2)
            obtain ⟨c0, c1, c2, c3, c4, c5, c6⟩ := HX.out.cells
            obtain ⟨d0, d1, d2, d3, d4, d5, d6⟩ := HY.out.cells
            obtain ⟨p1, hp1⟩ : ∃ p, ((n : Int) - k) * x.1 = p := ⟨_, rfl⟩
            obtain ⟨p2, hp2⟩ : ∃ p, (k : Int) * y.1 = p := ⟨_, rfl⟩
            obtain ⟨p3, hp3⟩ : ∃ p, ((n : Int) - k) * x.2 = p := ⟨_, rfl⟩
            obtain ⟨p4, hp4⟩ : ∃ p, (k : Int) * y.2 = p := ⟨_, rfl⟩
            rw [hp1] at m1 HRK
            rw [hp2] at m2 HRK
            rw [hp3] at m3 HRK
            rw [hp4] at m4 HRK
            obtain ⟨m11, m12⟩ := m1
            obtain ⟨m21, m22⟩ := m2
            obtain ⟨m31, m32⟩ := m3
            obtain ⟨m41, m42⟩ := m4
            simp only [vE] at HRK
            clear HX HY
            go_upto_region 13 with (fail)
            have hown := HI.out.1
            have hbw := HI.out.2
            have hal : Below wr.heap.size wr (wr.alloc (.cells #[.int .i64 (p1 + p2), .int .i64 (p3 + p4)] 23)) := (Below.refl _ _).alloc (Nat.le_refl _) _
            have HO1 := Lib.hid (own_later hown hal)
            have HB1 := Lib.hid (hbw.trans (hal.mono hbw.size))
            have U1 : Hid (Two (wr.alloc (.cells #[.int .i64 (p1 + p2), .int .i64 (p3 + p4)] 23)) wr.heap.size (.int .i64 (p1 + p2)) (.int .i64 (p3 + p4))) := Two.of_row (t := 23) (f := _) (heap_new _ _ _ rfl)
            clear hown hbw HI hal c0 c1 c2 c3 c4 c5 c6 d0 d1 d2 d3 d4 d5 d6
            have hsz1 : wr.heap.size < (wr.alloc (.cells #[.int .i64 (p1 + p2), .int .i64 (p3 + p4)] 23)).heap.size := by simp
            generalize wr.alloc (.cells #[.int .i64 (p1 + p2), .int .i64 (p3 + p4)] 23) = w3 at *
            obtain ⟨u0, u1⟩ := U1.out
            go_wp2_with fail
            refine (HRK.out _).mono ?_
            rintro e w4 ⟨rfl, hb4⟩
            have HO2 := Lib.hid (own_later HO1.out hb4)
            have HB2 := Lib.hid (HB1.out.trans (hb4.mono HB1.out.size))
            clear hb4 HO1 HB1 U1 u0 u1
            have hal : Below w4.heap.size w4 (w4.alloc (.cells #[.int .i64 z.1, .int .i64 z.2] 23)) := (Below.refl _ _).alloc (Nat.le_refl _) _
            have HO3 := Lib.hid (own_later HO2.out hal)
            have HB3 := Lib.hid (HB2.out.trans (hal.mono HB2.out.size))
            have U1 : Hid (Two (w4.alloc (.cells #[.int .i64 z.1, .int .i64 z.2] 23)) w4.heap.size (.int .i64 z.1) (.int .i64 z.2)) := Two.of_row (t := 23) (f := _) (heap_new _ _ _ rfl)
            clear hal HO2 HB2
            go_upto_region 14 with (fail)
            generalize w4.alloc (.cells #[.int .i64 z.1, .int .i64 z.2] 23) = w5 at *
            obtain ⟨u0, u1⟩ := U1.out
            obtain ⟨c0, c1, c2, c3, c4, c5, c6⟩ := (X1.out.later HB3.out).cells
            have hal : Below w5.heap.size w5 (w5.alloc (.cells #[.int .i64 R, .int .i64 z.1, .int .i64 z.2] 29)) := (Below.refl _ _).alloc (Nat.le_refl _) _
            have HO4 := Lib.hid (own_later HO3.out hal)
            have HB4 := Lib.hid (HB3.out.trans (hal.mono HB3.out.size))
            have C4 : Hid (Tri (w5.alloc (.cells #[.int .i64 R, .int .i64 z.1, .int .i64 z.2] 29)) w5.heap.size R z) := heap_new _ _ _ rfl
            clear hal HO3 HB3
            go_upto_region 15 with (fail)
            generalize w5.alloc (.cells #[.int .i64 R, .int .i64 z.1, .int .i64 z.2] 29) = w6 at *
            clear u0 u1 c0 c1 c2 c3 c4 c5 c6 U1
            obtain ⟨c0, c1, c2, c3, c4, c5, c6⟩ := C4.out.cells
            go_wp2_with fail
            refine (HOKz.out _).mono ?_
            rintro e w7 ⟨rfl, hb7⟩
            have C7 := Lib.hid (C4.out.later hb7)
            have HO7 := Lib.hid (own_later HO4.out hb7)
            have HB7 := Lib.hid (HB4.out.trans (hb7.mono HB4.out.size))
            clear hb7 c0 c1 c2 c3 c4 c5 c6 HO4 HB4 C4
            have HTA := Lib.hid (HT1.out (P.take k) [z])
            by_cases hokz : okB R z = true
            · obtain ⟨c0, c1, c2, c3, c4, c5, c6⟩ := C7.out.cells
              have HNX : Hid (tellL R (P.take (k + 1)) = tellL R (P.take k) ++ [(ofW R z : Int)]) := by show _ = _; rw [HTK.out, HTA.out, HT2z.out, if_pos hokz]
              rw [hokz]
              generalize ofW R z = v at *
              generalize ofE R z = v2 at *
              go_wp2_with fail
              refine (HOFz.out _).mono ?_
              rintro e w8 ⟨rfl, hb8⟩
              have hown := own_later HO7.out hb8
              have HB8 := Lib.hid (HB7.out.trans (hb8.mono HB7.out.size))
              have hz8 := HB8.out.size
              clear hb8 c0 c1 c2 c3 c4 c5 c6 HO7 HB7
              go_wp2_with (at_builtin; refine wpList_append_own _ rfl (.tmp 87) (.tmp 89) 30 rfl w2.heap.size 25 i0 (.int .u64 0) 1 8 Try.underlying30 hi hz0 hz1 hz2 rfl (by decide) _ _ _ rfl (hown.alloc _) ⟨w8.heap.size, 0, none⟩ 1 1 [.int .u64 v] rfl rfl (cells_new _ _ _ _ rfl) (by simp [Value.oneCell']) (by unfold maxLen; omega) (by omega) (by simp; omega) ?_; intro v' w9 hown1 hgrow _)
              have HB9 : Hid (Below w2.heap.size w2 w9) := below_append (HB8.out.alloc (by omega) (.cells #[.int .u64 v] 25)) (hown.alloc (.cells #[.int .u64 v] 25)) (by simp; omega) hgrow
              obtain ⟨ao', c', rfl, _⟩ := own_form hown1
              have ho9 : w9.ownsRow w2.heap.size 25 1 (.slice ao' (m + 1) c') (m + 1) (uV (tellL R (P.take (k + 1)))) := by rw [HNX.out]; simpa [uV] using hown1
              have HO9 := Lib.hid ho9
              have HLN : Hid ((tellL R (P.take (k + 1))).length = m + 1) := by show _ = _; rw [HNX.out, List.length_append, HLEN.out]; rfl
              clear hown1 hgrow hown ho9
              go_wp2
              go_roundw
              case rel => exact ⟨k + 1, m + 1, ao', c', by omega, by go_num, by omega, rfl, HLN.out, HO9.out, HB9.out⟩
              case measure => simp [intOf]; omega
            · have HNX : Hid (tellL R (P.take (k + 1)) = tellL R (P.take k)) := by show _ = _; rw [HTK.out, HTA.out, HT2z.out, if_neg hokz, List.append_nil]
              rw [Bool.eq_false_iff.2 hokz]
              have HLN : Hid ((tellL R (P.take (k + 1))).length = m) := by show _ = _; rw [HNX.out, HLEN.out]
              rw [← HNX.out] at HO7
              go_wp2
              go_roundw
              case rel => exact ⟨k + 1, m, ao, c, by omega, by go_num, by omega, rfl, HLN.out, HO7.out, HB7.out⟩
              case measure => simp [intOf]; omega
          · have hkn : n < k := by omega
            have hown := HI.out.1
            have hlen := HLEN.out
            have e9 : P.take k = P := List.take_of_length_le (by rw [HPL.out]; omega)
            rw [e9] at hown hlen
            have HF : Hid (Told w (tellL R P) 0 (.returned (.tuple #[.slice ao m c, .int .i64 0])) wr) := ⟨ao, c, by rw [hlen], words_own hlen.symm hown, B1.out.trans (HI.out.2.mono B1.out.size)⟩
            clear hown hlen e9 HI HLEN
            go_wp2
            go_ret2
            exact HF.out
  · have e1 : lnE a b = dsE a b := by unfold lnE; rw [if_neg hE]
    have e2 : lnL a b = [] := by unfold lnL; rw [e1, if_neg hE]
    rw [e1, e2]
    generalize dsN a b = n at *
    generalize dsE a b = er at *
    generalize cvR a = ra at *
    generalize cvZ a = x at *
    generalize yR a b = rb at *
    generalize yZ a b = y at *
    have q1 : (er != 0) = true := by simp [hE]
    clear e1 e2 hxs hys hE
    simp only [vC] at *
    go_enter Try.func28, Try.ntmps28
    go_wp2_with fail
    refine (HT.out _).mono ?_
    rintro e w1 ⟨rfl, hb1⟩
    have B1 : Hid (Below w.heap.size w ((w1.alloc (.cells #[.int .i64 ra, .int .i64 x.1, .int .i64 x.2] 29)).alloc (.cells #[.int .i64 rb, .int .i64 y.1, .int .i64 y.2] 29))) := (hb1.alloc hb1.size _).alloc (by have := hb1.size; simp; omega) _
    clear hb1
    go_wp2
    go_ret2
    exact Told.nil B1.out
end Go.Proofs.Yticbkdignmlfiaa
