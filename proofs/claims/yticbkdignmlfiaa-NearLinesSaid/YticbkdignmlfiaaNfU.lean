/- The contract of apiaryref1.Line. -/
import Derived.Test.YticbkdignmlfiaaNfR
namespace Go.Proofs.Yticbkdignmlfiaa
open Go.RowKit Go.Lib Wd

set_option maxRecDepth 100000 in
set_option maxHeartbeats 8000000 in
theorem rline_any (a b : Nat) (ha : a < 18446744073709551616) (hb : b < 18446744073709551616) (w : World) : Calls Try.prog 29 #[.int .u64 a, .int .u64 b] w (Told w (lnL a b) (lnE a b)) := by
  obtain ⟨i0, hi, hz0, hz1, hz2⟩ := info_parts info_u
  have HT := Lib.hid (rdist_any a b ha hb)
  have hxs := cv_sm a
  have hys := cv_sm b
  obtain ⟨hr0, hr12⟩ := cvR_in a
  by_cases hE : dsE a b = 0
  · obtain ⟨-, -, y3, y4, cA, cB⟩ := ds_zero hE
    rw [hE] at HT
    have hn0 := steps_nonneg (subE (cvZ a) (cvZ b))
    rw [← y4] at hn0
    by_cases hbig : 10000 < dsN a b
    · have e1 : lnE a b = 7 := by unfold lnE; rw [if_pos hE, if_pos hbig]
      have e2 : lnL a b = [] := by unfold lnL; rw [e1]; rfl
      rw [e1, e2]
      generalize dsN a b = n at *
      clear e1 e2 y3 y4 hE hxs hys hn0
      have q1 : decide (10000 < n) = true := decide_eq_true hbig
      go_enter Try.func29, Try.ntmps29
      go_wp2_with fail
      refine (HT.out _).mono ?_
      rintro e w1 ⟨rfl, hb1⟩
      have B1 := Lib.hid hb1
      clear hb1
      go_wp2
      go_ret2
      exact Told.nil B1.out
    · have e1 : lnE a b = 0 := by unfold lnE; rw [if_pos hE, if_neg hbig]
      by_cases h0 : dsN a b = 0
      · have e2 : lnL a b = [(a : Int)] := by unfold lnL; rw [if_pos e1, if_pos h0]
        rw [e1, e2]
        rw [h0] at HT
        clear e1 e2 y3 y4 hE hxs hys hn0 hbig h0
        go_enter Try.func29, Try.ntmps29
        go_wp2_with fail
        refine (HT.out _).mono ?_
        rintro e w2 ⟨rfl, hb1⟩
        have B1 := Lib.hid hb1
        clear hb1
        have HF : Hid (Told w [(a : Int)] 0 (.returned (.tuple #[.slice (some ⟨w2.heap.size, 0, none⟩) 1 1, .int .i64 0])) (w2.alloc (.cells #[.int .u64 (a : Int)] 25))) := ⟨some ⟨w2.heap.size, 0, none⟩, 1, rfl, fun _ => ⟨w2.heap.size, 0, rfl, by simp, fun i hi => by
          obtain rfl : i = 0 := by simp at hi; omega
          exact cell_of_row _ _ 0 _ _ _ (heap_new w2 _ _ rfl)⟩, B1.out.alloc B1.out.size _⟩
        go_wp2
        go_ret2
        exact HF.out
      · obtain ⟨n, hn⟩ : ∃ n : Nat, dsN a b = n := ⟨(dsN a b).toNat, by omega⟩
        have e2 : lnL a b = tellL (cvR a) (pathL (cvZ a) (cvZ b) n) := by unfold lnL; rw [if_pos e1, if_neg h0, hn]; rfl
        rw [e1, e2]
        rw [hn] at HT hbig h0
        have HCA := Lib.hid (rcell_any a ha)
        have HCB := Lib.hid (rcell_any b hb)
        rw [cA] at HCA
        rw [cB, ← y3] at HCB
        generalize cvR a = R at *
        generalize cvZ a = x at *
        generalize cvZ b = y at *
        clear e1 e2 y3 y4 hE hn0 hn cA cB
        have hn10 : n ≤ 10000 := by omega
        have hn1 : 1 ≤ n := by omega
        have q1 : ((n : Int) == 0) = false := by simp; omega
        have q2 : decide (10000 < (n : Int)) = false := decide_eq_false (by omega)
        clear hbig h0
        have HPT := Lib.hid (fun k (h : k < n + 1) => path_take x y n h)
        have HPL := Lib.hid (path_len x y n)
        generalize pathL x y n = P at *
        unfold Sm at hxs hys
        obtain ⟨x1, x2, x3, x4⟩ := hxs
        obtain ⟨y1, y2, y3, y4⟩ := hys
        have HRO : Hid (∀ k : Nat, k ≤ n → ∀ w, Calls Try.prog 43 #[vE (((n : Int) - k) * x.1 + k * y.1, ((n : Int) - k) * x.2 + k * y.2), .int .i64 n] w fun e w' => e = .returned (.tuple #[vE (lineE x y n k), .bool true]) ∧ Below w.heap.size w w') := fun k hk w => by
          have m1 := mulz_in (k := (n : Int) - k) (by omega) (by omega) hn10 x1 x2
          have m2 := mulz_in (k := (k : Int)) (by omega) (by omega) hn10 y1 y2
          have m3 := mulz_in (k := (n : Int) - k) (by omega) (by omega) hn10 x3 x4
          have m4 := mulz_in (k := (k : Int)) (by omega) (by omega) hn10 y3 y4
          exact rround_in _ _ (by omega) (by omega) (by unfold Sm; simp only; omega) w
        have HT1 := Lib.hid (tellL_app R)
        have HT2 := Lib.hid (tellL_one R)
        have HOF := Lib.hid (word_any R)
        have HOE : Hid (∀ z, ofE R z = if okB R z = true then 0 else 2) := fun z => rfl
        simp only [vC] at *
        go_enter Try.func29, Try.ntmps29
        go_wp2_with fail
        refine (HT.out _).mono ?_
        rintro e w1 ⟨rfl, hb1⟩
        have B1 := Lib.hid hb1
        clear hb1
        go_wp2_with fail
        refine (HCA.out _).mono ?_
        rintro e wa ⟨rfl, hba⟩
        have B2 := Lib.hid (B1.out.trans (hba.mono B1.out.size))
        clear hba B1
        have B3 : Hid (Below w.heap.size w (wa.alloc (.cells #[.int .i64 R, .int .i64 x.1, .int .i64 x.2] 29))) := B2.out.alloc B2.out.size _
        have X3 : Hid (Tri (wa.alloc (.cells #[.int .i64 R, .int .i64 x.1, .int .i64 x.2] 29)) wa.heap.size R x) := heap_new _ _ _ rfl
        clear B2
        go_wp2_with fail
        refine (HCB.out _).mono ?_
        rintro e wb ⟨rfl, hbb⟩
        have X4 := Lib.hid (X3.out.later hbb)
        have B4 := Lib.hid (B3.out.trans (hbb.mono B3.out.size))
        clear hbb X3 B3
        have hal : Below wb.heap.size wb (wb.alloc (.cells #[.int .i64 R, .int .i64 y.1, .int .i64 y.2] 29)) := (Below.refl _ _).alloc (Nat.le_refl _) _
        have X1 := Lib.hid (X4.out.later hal)
        have B1 := Lib.hid (B4.out.trans (hal.mono B4.out.size))
        have Y1 : Hid (Tri (wb.alloc (.cells #[.int .i64 R, .int .i64 y.1, .int .i64 y.2] 29)) wb.heap.size R y) := heap_new _ _ _ rfl
        clear hal X4 B4
        go_upto_region 10 with (fail)
        generalize wb.alloc (.cells #[.int .i64 R, .int .i64 y.1, .int .i64 y.2] 29) = w2 at *
        have hs1 := X1.out.lt
        have hs2 := Y1.out.lt
        have hs3 := B1.out.size
        go_wp2
        go_loopw [12, 13] (fun sl i wr => ∃ (k m : Nat) (ao : Option Addr) (c : Nat), k ≤ n + 1 ∧ i = .int .i64 k ∧ m ≤ k ∧ sl = .slice ao m c ∧ Hid ((tellL R (P.take k)).length = m) ∧ Hid (wr.ownsRow w2.heap.size 25 1 (.slice ao m c) m (uV (tellL R (P.take k))) ∧ Below w2.heap.size w2 wr)) (fun _ i _ => n + 1 - (intOf i).toNat)
        case atStart => exact ⟨0, 0, _, _, by omega, rfl, by omega, rfl, rfl, World.ownsRow_nil _ _ _ _, Below.refl _ _⟩
        case round =>
          obtain ⟨k, m, ao, c, hk, rfl, hmk, rfl, HLEN, HI⟩ := hrel
          by_cases hlt : k < n + 1
          · have m1 := mulz_in (k := (n : Int) - k) (by omega) (by omega) hn10 x1 x2
            have m2 := mulz_in (k := (k : Int)) (by omega) (by omega) hn10 y1 y2
            have m3 := mulz_in (k := (n : Int) - k) (by omega) (by omega) hn10 x3 x4
            have m4 := mulz_in (k := (k : Int)) (by omega) (by omega) hn10 y3 y4
            have HRK := Lib.hid (HRO.out k (by omega))
            have HTK := Lib.hid (HPT.out k hlt)
            have q3 : decide ((k : Int) ≤ n) = true := decide_eq_true (by omega)
            generalize lineE x y n k = z at *
            have HOFz := Lib.hid (HOF.out z)
            have HT2z := Lib.hid (HT2.out z)
            have HOEz := Lib.hid (HOE.out z)
            have HX := Lib.hid (X1.out.later HI.out.2)
            have HY := Lib.hid (Y1.out.later HI.out.2)
            obtain ⟨c0, c1, c2, c3, c4, c5, c6⟩ := HX.out.cells
            obtain ⟨d0, d1, d2, d3, d4, d5, d6⟩ := HY.out.cells
            obtain ⟨p1, hp1⟩ : ∃ p, ((n : Int) - k) * x.1 = p := ⟨_, rfl⟩
            obtain ⟨p2, hp2⟩ : ∃ p, (k : Int) * y.1 = p := ⟨_, rfl⟩
            obtain ⟨p3, hp3⟩ : ∃ p, ((n : Int) - k) * x.2 = p := ⟨_, rfl⟩
            obtain ⟨p4, hp4⟩ : ∃ p, (k : Int) * y.2 = p := ⟨_, rfl⟩
            rw [hp1] at m1 HRK
            rw [hp2] at m2 HRK
            rw [hp3] at m3 HRK
            rw [hp4] at m4 HRK
            obtain ⟨m11, m12⟩ := m1
            obtain ⟨m21, m22⟩ := m2
            obtain ⟨m31, m32⟩ := m3
            obtain ⟨m41, m42⟩ := m4
            simp only [vE] at HRK
            clear HX HY
            go_wp2_with fail
            refine (HRK.out _).mono ?_
            rintro e w4 ⟨rfl, hb4⟩
            have HO2 := Lib.hid (own_later HI.out.1 hb4)
            have HB2 := Lib.hid (HI.out.2.trans (hb4.mono HI.out.2.size))
            clear hb4 HI c0 c1 c2 c3 c4 c5 c6 d0 d1 d2 d3 d4 d5 d6
            have hal : Below w4.heap.size w4 (w4.alloc (.cells #[.int .i64 z.1, .int .i64 z.2] 23)) := (Below.refl _ _).alloc (Nat.le_refl _) _
            have HO3 := Lib.hid (own_later HO2.out hal)
            have HB3 := Lib.hid (HB2.out.trans (hal.mono HB2.out.size))
            have U1 : Hid (Two (w4.alloc (.cells #[.int .i64 z.1, .int .i64 z.2] 23)) w4.heap.size (.int .i64 z.1) (.int .i64 z.2)) := Two.of_row (t := 23) (f := _) (heap_new _ _ _ rfl)
            clear hal HO2 HB2
            go_upto_region 15 with (fail)
            generalize w4.alloc (.cells #[.int .i64 z.1, .int .i64 z.2] 23) = w5 at *
            obtain ⟨u0, u1⟩ := U1.out
            obtain ⟨c0, c1, c2, c3, c4, c5, c6⟩ := (X1.out.later HB3.out).cells
            go_wp2_with fail
            refine (HOFz.out _).mono ?_
            rintro e w8 ⟨rfl, hb8⟩
            have HO7 := Lib.hid (own_later HO3.out hb8)
            have HB8 := Lib.hid (HB3.out.trans (hb8.mono HB3.out.size))
            have hz8 := HB8.out.size
            clear hb8 c0 c1 c2 c3 c4 c5 c6 u0 u1 HO3 HB3
            have HTA := Lib.hid (HT1.out (P.take k) [z])
            by_cases hokz : okB R z = true
            · have HNX : Hid (tellL R (P.take (k + 1)) = tellL R (P.take k) ++ [(ofW R z : Int)]) := by show _ = _; rw [HTK.out, HTA.out, HT2z.out, if_pos hokz]
              have h0E : ofE R z = 0 := by rw [HOEz.out, if_pos hokz]
              rw [h0E]
              generalize ofW R z = v at *
              have hown := HO7.out
              clear HO7 h0E
              go_wp2_with (at_builtin; refine wpList_append_own _ rfl (.tmp 90) (.tmp 92) 30 rfl w2.heap.size 25 i0 (.int .u64 0) 1 8 Try.underlying30 hi hz0 hz1 hz2 rfl (by decide) _ _ _ rfl (hown.alloc _) ⟨w8.heap.size, 0, none⟩ 1 1 [.int .u64 v] rfl rfl (cells_new _ _ _ _ rfl) (by simp [Value.oneCell']) (by unfold maxLen; omega) (by omega) (by simp; omega) ?_; intro v' w9 hown1 hgrow _)
              have HB9 : Hid (Below w2.heap.size w2 w9) := below_append (HB8.out.alloc (by omega) (.cells #[.int .u64 v] 25)) (hown.alloc (.cells #[.int .u64 v] 25)) (by simp; omega) hgrow
              obtain ⟨ao', c', rfl, _⟩ := own_form hown1
              have ho9 : w9.ownsRow w2.heap.size 25 1 (.slice ao' (m + 1) c') (m + 1) (uV (tellL R (P.take (k + 1)))) := by rw [HNX.out]; simpa [uV] using hown1
              have HO9 := Lib.hid ho9
              have HLN : Hid ((tellL R (P.take (k + 1))).length = m + 1) := by show _ = _; rw [HNX.out, List.length_append, HLEN.out]; rfl
              clear hown1 hgrow hown ho9
              go_wp2
              go_roundw
              case rel => exact ⟨k + 1, m + 1, ao', c', by omega, by go_num, by omega, rfl, HLN.out, HO9.out, HB9.out⟩
              case measure => simp [intOf]; omega
            · have HNX : Hid (tellL R (P.take (k + 1)) = tellL R (P.take k)) := by show _ = _; rw [HTK.out, HTA.out, HT2z.out, if_neg hokz, List.append_nil]
              have h0E : ofE R z = 2 := by rw [HOEz.out, if_neg hokz]
              rw [h0E]
              have HLN : Hid ((tellL R (P.take (k + 1))).length = m) := by show _ = _; rw [HNX.out, HLEN.out]
              rw [← HNX.out] at HO7
              go_wp2
              go_roundw
              case rel => exact ⟨k + 1, m, ao, c, by omega, by go_num, by omega, rfl, HLN.out, HO7.out, HB8.out⟩
              case measure => simp [intOf]; omega
          · have hkn : n < k := by omega
            have q3 : decide ((k : Int) ≤ n) = false := decide_eq_false (by omega)
            have hown := HI.out.1
            have hlen := HLEN.out
            have e9 : P.take k = P := List.take_of_length_le (by rw [HPL.out]; omega)
            rw [e9] at hown hlen
            have HF : Hid (Told w (tellL R P) 0 (.returned (.tuple #[.slice ao m c, .int .i64 0])) wr) := ⟨ao, c, by rw [hlen], words_own hlen.symm hown, B1.out.trans (HI.out.2.mono B1.out.size)⟩
            clear hown hlen e9 HI HLEN
            go_wp2
            go_ret2
            exact HF.out
  · have e1 : lnE a b = dsE a b := by unfold lnE; rw [if_neg hE]
    have e2 : lnL a b = [] := by unfold lnL; rw [e1, if_neg hE]
    rw [e1, e2]
    generalize dsN a b = n at *
    generalize dsE a b = er at *
    have q1 : (er != 0) = true := by simp [hE]
    clear e1 e2 hxs hys hE
    go_enter Try.func29, Try.ntmps29
    go_wp2_with fail
    refine (HT.out _).mono ?_
    rintro e w1 ⟨rfl, hb1⟩
    have B1 := Lib.hid hb1
    clear hb1
    go_wp2
    go_ret2
    exact Told.nil B1.out
end Go.Proofs.Yticbkdignmlfiaa
