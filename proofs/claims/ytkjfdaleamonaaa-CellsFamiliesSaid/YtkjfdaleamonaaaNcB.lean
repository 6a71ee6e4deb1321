/- Contracts of apiaryref1: Parent, WordUp. -/
import Derived.Test.YtkjfdaleamonaaaNcA
import Derived.Test.YtkjfdaleamonaaaNfE
namespace Go.Proofs.Ytkjfdaleamonaaa
open Go.RowKit Go.Lib Wd

set_option maxRecDepth 100000 in
set_option maxHeartbeats 4000000 in
theorem rpar_any (r : Int) (z : E2) (w : World) : Calls Try.prog 24 #[vC r z] w fun e w' => e = .returned (.tuple #[vC (if cpE r z = 0 then r - 1 else 0) (if cpE r z = 0 then upE z else (0, 0)), .int .i64 (cpE r z)]) ∧ Below w.heap.size w w' := by
  have HOK := Lib.hid (rok_any r z)
  obtain ⟨T0, G0, B0⟩ := two_new w r z
  by_cases h : okB r z = true
  · obtain ⟨r0, r12, hsm⟩ := ok_parts h
    rw [h] at HOK
    by_cases hr : r = 0
    · have hE : cpE r z = 3 := by unfold cpE; rw [if_pos h, if_pos hr]
      rw [hE, if_neg (by decide), if_neg (by decide)]
      subst hr
      clear hE h hsm
      simp only [vC] at *
      go_enter Try.func24, Try.ntmps24
      go_upto_region 1 with (fail)
      generalize (w.alloc (.cells #[.int .i64 0, .int .i64 z.1, .int .i64 z.2] 29)).alloc (.cells #[.int .i64 0, .int .i64 0, .int .i64 0] 29) = w0 at *
      obtain ⟨t0, t1, t2, t3, t4, t5, t6⟩ := T0.out.cells
      go_wp2_with fail
      refine (HOK.out _).mono ?_
      rintro e w1 ⟨rfl, hb1⟩
      have B1 := Lib.hid (B0.out.trans (hb1.mono B0.out.size))
      have T1 := Lib.hid (T0.out.later hb1)
      have G1 := Lib.hid (G0.out.later hb1)
      clear hb1 t0 t1 t2 t3 t4 t5 t6 T0 G0 B0
      obtain ⟨t0, t1, t2, t3, t4, t5, t6⟩ := T1.out.cells
      obtain ⟨g0, g1, g2, g3, g4, g5, g6⟩ := G1.out.cells
      go_wp2
      exact bodyPost_ret (v := .tuple #[.agg #[.int .i64 0, .int .i64 0, .int .i64 0], .int .i64 3]) (by simp [results, Try.results24, go_sem, *]) rfl ⟨rfl, below3 B1.out (by omega) _ _ _⟩
    · have hE : cpE r z = 0 := by unfold cpE; rw [if_pos h, if_neg hr]
      rw [hE, if_pos rfl, if_pos rfl]
      have HST := Lib.hid (parent_in z (hsm.mono (by decide)))
      have q1 : (r == 0) = false := by simp [hr]
      have q2 : IntKind.i64.wrap (r - 1) = r - 1 := wrap_in (by omega) (by omega)
      generalize upE z = p at *
      generalize digE z = dg at *
      clear hE h hsm hr
      simp only [vC, vE] at *
      go_enter Try.func24, Try.ntmps24
      go_upto_region 1 with (fail)
      generalize (w.alloc (.cells #[.int .i64 r, .int .i64 z.1, .int .i64 z.2] 29)).alloc (.cells #[.int .i64 0, .int .i64 0, .int .i64 0] 29) = w0 at *
      obtain ⟨t0, t1, t2, t3, t4, t5, t6⟩ := T0.out.cells
      go_wp2_with fail
      refine (HOK.out _).mono ?_
      rintro e w1 ⟨rfl, hb1⟩
      have B1 := Lib.hid (B0.out.trans (hb1.mono B0.out.size))
      have T1 := Lib.hid (T0.out.later hb1)
      have G1 := Lib.hid (G0.out.later hb1)
      clear hb1 t0 t1 t2 t3 t4 t5 t6 T0 G0 B0
      obtain ⟨t0, t1, t2, t3, t4, t5, t6⟩ := T1.out.cells
      go_wp2_with fail
      refine (HST.out _).mono ?_
      rintro e w2 ⟨rfl, hb2⟩
      have hal : Below w2.heap.size w2 (w2.alloc (.cells #[.int .i64 p.1, .int .i64 p.2] 27)) := (Below.refl _ _).alloc (Nat.le_refl _) _
      have hb3 := hb2.trans (hal.mono hb2.size)
      have B2 := Lib.hid (B1.out.trans (hb3.mono B1.out.size))
      have P2 : Hid (Two (w2.alloc (.cells #[.int .i64 p.1, .int .i64 p.2] 27)) w2.heap.size (.int .i64 p.1) (.int .i64 p.2)) := Two.of_row (t := 27) (f := _) (heap_new _ _ _ rfl)
      have T2 := Lib.hid (T1.out.later hb3)
      have G2 := Lib.hid (G1.out.later hb3)
      clear hb2 hb3 hal t0 t1 t2 t3 t4 t5 t6 T1 G1 B1
      go_upto_region 6 with (fail)
      generalize w2.alloc (.cells #[.int .i64 p.1, .int .i64 p.2] 27) = w3 at *
      obtain ⟨p0, p1⟩ := P2.out
      obtain ⟨t0, t1, t2, t3, t4, t5, t6⟩ := T2.out.cells
      obtain ⟨g0, g1, g2, g3, g4, g5, g6⟩ := G2.out.cells
      go_wp2
      exact bodyPost_ret (v := .tuple #[.agg #[.int .i64 (r - 1), .int .i64 p.1, .int .i64 p.2], .int .i64 0]) (by simp [results, Try.results24, go_sem, *]) rfl ⟨rfl, below3 B2.out (by omega) _ _ _⟩
  · have hE : cpE r z = 2 := by unfold cpE; rw [if_neg h]
    rw [hE, if_neg (by decide), if_neg (by decide)]
    rw [Bool.eq_false_iff.2 h] at HOK
    clear hE h
    simp only [vC] at *
    go_enter Try.func24, Try.ntmps24
    go_upto_region 1 with (fail)
    generalize (w.alloc (.cells #[.int .i64 r, .int .i64 z.1, .int .i64 z.2] 29)).alloc (.cells #[.int .i64 0, .int .i64 0, .int .i64 0] 29) = w0 at *
    obtain ⟨t0, t1, t2, t3, t4, t5, t6⟩ := T0.out.cells
    go_wp2_with fail
    refine (HOK.out _).mono ?_
    rintro e w1 ⟨rfl, hb1⟩
    have B1 := Lib.hid (B0.out.trans (hb1.mono B0.out.size))
    have G1 := Lib.hid (G0.out.later hb1)
    clear hb1 t0 t1 t2 t3 t4 t5 t6 T0 G0 B0
    obtain ⟨g0, g1, g2, g3, g4, g5, g6⟩ := G1.out.cells
    go_wp2
    exact bodyPost_ret (v := .tuple #[.agg #[.int .i64 0, .int .i64 0, .int .i64 0], .int .i64 2]) (by simp [results, Try.results24, go_sem, *]) rfl ⟨rfl, below3 B1.out (by omega) _ _ _⟩
set_option maxRecDepth 100000 in
set_option maxHeartbeats 4000000 in
theorem wup_any (w0 : Nat) (hw : w0 < 18446744073709551616) (w : World) : Calls Try.prog 11 #[.int .u64 w0] w fun e w' => e = .returned (.tuple #[.int .u64 (parW w0 : Nat), .int .i64 (parE w0)]) ∧ Below w.heap.size w w' := by
  have HC := Lib.hid (rcell_any w0 hw)
  have HP := Lib.hid (rpar_any (cvR w0) (cvZ w0))
  have HO := Lib.hid (word_any (cvR w0 - 1) (upE (cvZ w0)))
  rcases par_cases w0 with ⟨e1, e2, e3⟩ | ⟨e1, e2, e3, e4⟩ | ⟨e1, e2, e3, e4, e5⟩
  · rw [e2, e3]
    rw [e1] at HC
    generalize cvR w0 = r at *
    generalize cvZ w0 = z at *
    clear e1 e2 e3 HP HO
    simp only [vC] at *
    go_enter Try.func11, Try.ntmps11
    go_wp2_with fail
    refine (HC.out _).mono ?_
    rintro e w1 ⟨rfl, hb1⟩
    have B1 : Hid (Below w.heap.size w (w1.alloc (.cells #[.int .i64 r, .int .i64 z.1, .int .i64 z.2] 29))) := hb1.alloc hb1.size _
    clear hb1
    go_wp2
    go_ret2
    exact ⟨rfl, B1.out⟩
  · rw [e3, e4]
    rw [e1] at HC
    rw [e2, if_neg (by decide), if_neg (by decide)] at HP
    generalize cvR w0 = r at *
    generalize cvZ w0 = z at *
    clear e1 e2 e3 e4 HO
    simp only [vC] at *
    go_enter Try.func11, Try.ntmps11
    go_wp2_with fail
    refine (HC.out _).mono ?_
    rintro e w1 ⟨rfl, hb1⟩
    have B1 : Hid (Below w.heap.size w (w1.alloc (.cells #[.int .i64 r, .int .i64 z.1, .int .i64 z.2] 29))) := hb1.alloc hb1.size _
    have T1 : Hid (Tri (w1.alloc (.cells #[.int .i64 r, .int .i64 z.1, .int .i64 z.2] 29)) w1.heap.size r z) := heap_new _ _ _ rfl
    clear hb1
    go_upto_region 2 with (fail)
    generalize w1.alloc (.cells #[.int .i64 r, .int .i64 z.1, .int .i64 z.2] 29) = w2 at *
    obtain ⟨t0, t1, t2, t3, t4, t5, t6⟩ := T1.out.cells
    go_wp2_with fail
    refine (HP.out _).mono ?_
    rintro e w3 ⟨rfl, hb3⟩
    have B3 : Hid (Below w.heap.size w (w3.alloc (.cells #[.int .i64 0, .int .i64 0, .int .i64 0] 29))) := (B1.out.trans (hb3.mono B1.out.size)).alloc (Nat.le_trans B1.out.size hb3.size) _
    clear hb3 t0 t1 t2 t3 t4 t5 t6
    go_wp2
    go_ret2
    exact ⟨rfl, B3.out⟩
  · rw [e3]
    rw [e1] at HC
    rw [e2, if_pos rfl, if_pos rfl] at HP
    rw [e4, e5] at HO
    generalize parW w0 = v at *
    generalize cvR w0 = r at *
    generalize cvZ w0 = z at *
    generalize upE z = p at *
    clear e1 e2 e3 e4 e5
    simp only [vC] at *
    go_enter Try.func11, Try.ntmps11
    go_wp2_with fail
    refine (HC.out _).mono ?_
    rintro e w1 ⟨rfl, hb1⟩
    have B1 : Hid (Below w.heap.size w (w1.alloc (.cells #[.int .i64 r, .int .i64 z.1, .int .i64 z.2] 29))) := hb1.alloc hb1.size _
    have T1 : Hid (Tri (w1.alloc (.cells #[.int .i64 r, .int .i64 z.1, .int .i64 z.2] 29)) w1.heap.size r z) := heap_new _ _ _ rfl
    clear hb1
    go_upto_region 2 with (fail)
    generalize w1.alloc (.cells #[.int .i64 r, .int .i64 z.1, .int .i64 z.2] 29) = w2 at *
    obtain ⟨t0, t1, t2, t3, t4, t5, t6⟩ := T1.out.cells
    go_wp2_with fail
    refine (HP.out _).mono ?_
    rintro e w3 ⟨rfl, hb3⟩
    have B3 : Hid (Below w.heap.size w (w3.alloc (.cells #[.int .i64 (r - 1), .int .i64 p.1, .int .i64 p.2] 29))) := (B1.out.trans (hb3.mono B1.out.size)).alloc (Nat.le_trans B1.out.size hb3.size) _
    have T3 : Hid (Tri (w3.alloc (.cells #[.int .i64 (r - 1), .int .i64 p.1, .int .i64 p.2] 29)) w3.heap.size (r - 1) p) := heap_new _ _ _ rfl
    clear hb3 t0 t1 t2 t3 t4 t5 t6 T1 B1
    go_upto_region 5 with (fail)
    generalize w3.alloc (.cells #[.int .i64 (r - 1), .int .i64 p.1, .int .i64 p.2] 29) = w4 at *
    obtain ⟨t0, t1, t2, t3, t4, t5, t6⟩ := T3.out.cells
    go_wp2_with fail
    refine (HO.out _).mono ?_
    rintro e w5 ⟨rfl, hb5⟩
    have B5 := Lib.hid (B3.out.trans (hb5.mono B3.out.size))
    clear hb5
    go_wp2
    go_ret2
    exact ⟨rfl, B5.out⟩
end Go.Proofs.Ytkjfdaleamonaaa
