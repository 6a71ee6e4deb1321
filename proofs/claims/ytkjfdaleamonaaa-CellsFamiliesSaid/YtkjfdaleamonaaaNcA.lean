/- Contracts of cell.step, cell.Parent, ident.Parent, ident.Res. -/
import Derived.Test.YtkjfdaleamonaaaNcP
import Derived.Test.YtkjfdaleamonaaaWdI
namespace Go.Proofs.Ytkjfdaleamonaaa
open Go.RowKit Go.Lib Wd

/-- Two new blocks: a cell that is handed in, a cell that is to be told. -/
theorem two_new (w : World) (r : Int) (z : E2) :
    Hid (Tri ((w.alloc (.cells #[.int .i64 r, .int .i64 z.1, .int .i64 z.2] 29)).alloc (.cells #[.int .i64 0, .int .i64 0, .int .i64 0] 29)) w.heap.size r z) ∧ Hid (Tri ((w.alloc (.cells #[.int .i64 r, .int .i64 z.1, .int .i64 z.2] 29)).alloc (.cells #[.int .i64 0, .int .i64 0, .int .i64 0] 29)) (w.heap.size + 1) 0 (0, 0)) ∧ Hid (Below w.heap.size w ((w.alloc (.cells #[.int .i64 r, .int .i64 z.1, .int .i64 z.2] 29)).alloc (.cells #[.int .i64 0, .int .i64 0, .int .i64 0] 29))) := by
  refine ⟨?_, heap_new _ _ _ (by simp), ((Below.refl _ _).alloc (Nat.le_refl _) _).alloc (by simp) _⟩
  show _ = _
  rw [Below.heap_alloc _ _ _ (by simp)]
  exact heap_new _ _ _ rfl
theorem below3 {B : Nat} {w w1 : World} (h : Below B w w1) {g : Nat} (hg : B ≤ g) (a b c : Value) : Below B w (((w1.setCell ⟨g, 0, none⟩ a).setCell ⟨g, 1, none⟩ b).setCell ⟨g, 2, none⟩ c) :=
  ((h.setCell (p := ⟨g, 0, none⟩) hg _).setCell (p := ⟨g, 1, none⟩) hg _).setCell (p := ⟨g, 2, none⟩) hg _
set_option maxRecDepth 100000 in
set_option maxHeartbeats 4000000 in
theorem step_in (r : Int) (z : E2) (hz : Sm 1073741824 z) (hr : 0 ≤ r) (hr2 : r ≤ 12) (w : World) : Calls Try.prog 67 #[vC r z] w fun e w' => e = .returned (vC (r - 1) (upE z)) ∧ Below w.heap.size w w' := by
  have HS := Lib.hid (split_in z (hz.mono (by decide)))
  obtain ⟨T0, G0, B0⟩ := two_new w r z
  generalize upE z = p at *
  generalize leftE (digE z) = l at *
  simp only [vC, vE] at *
  clear hz
  go_enter Try.func67, Try.ntmps67
  go_upto_region 1 with (fail)
  generalize (w.alloc (.cells #[.int .i64 r, .int .i64 z.1, .int .i64 z.2] 29)).alloc (.cells #[.int .i64 0, .int .i64 0, .int .i64 0] 29) = w0 at *
  obtain ⟨t0, t1, t2, t3, t4, t5, t6⟩ := T0.out.cells
  go_wp2_with fail
  refine (HS.out _).mono ?_
  rintro e w1 ⟨rfl, hb1⟩
  have hal : Below w1.heap.size w1 ((w1.alloc (.cells #[.int .i64 p.1, .int .i64 p.2] 27)).alloc (.cells #[.int .i64 l.1, .int .i64 l.2] 27)) := ((Below.refl _ _).alloc (Nat.le_refl _) _).alloc (by simp) _
  have P0 : Two ((w1.alloc (.cells #[.int .i64 p.1, .int .i64 p.2] 27)).alloc (.cells #[.int .i64 l.1, .int .i64 l.2] 27)) w1.heap.size (.int .i64 p.1) (.int .i64 p.2) := Two.alloc (Two.of_row (t := 27) (f := _) (heap_new _ _ _ rfl)) (by simp) _
  have hb2 := hb1.trans (hal.mono hb1.size)
  have B1 := Lib.hid (B0.out.trans (hb2.mono B0.out.size))
  obtain ⟨p0, p1⟩ := P0
  have T1 := Lib.hid (T0.out.later hb2)
  have G1 := Lib.hid (G0.out.later hb2)
  clear hal hb1 hb2 t0 t1 t2 t3 t4 t5 t6 T0 G0 B0
  go_upto_region 2 with (fail)
  generalize (w1.alloc (.cells #[.int .i64 p.1, .int .i64 p.2] 27)).alloc (.cells #[.int .i64 l.1, .int .i64 l.2] 27) = w2 at *
  obtain ⟨t0, t1, t2, t3, t4, t5, t6⟩ := T1.out.cells
  obtain ⟨g0, g1, g2, g3, g4, g5, g6⟩ := G1.out.cells
  have q : IntKind.i64.wrap (r - 1) = r - 1 := wrap_in (by omega) (by omega)
  go_wp2
  exact bodyPost_ret (v := .agg #[.int .i64 (r - 1), .int .i64 p.1, .int .i64 p.2]) (by simp [results, Try.results67, go_sem, *]) rfl ⟨rfl, below3 B1.out (by omega) _ _ _⟩
/-- A cell's parent, as told. -/
def cpE (r : Int) (z : E2) : Int := if okB r z = true then (if r = 0 then 3 else 0) else 2
set_option maxRecDepth 100000 in
set_option maxHeartbeats 4000000 in
theorem cpar_any (r : Int) (z : E2) (w : World) : Calls Try.prog 38 #[vC r z] w fun e w' => e = .returned (.tuple #[vC (if cpE r z = 0 then r - 1 else 0) (if cpE r z = 0 then upE z else (0, 0)), .int .i64 (cpE r z)]) ∧ Below w.heap.size w w' := by
  have HOK := Lib.hid (ok_any r z)
  obtain ⟨T0, G0, B0⟩ := two_new w r z
  by_cases h : okB r z = true
  · obtain ⟨r0, r12, hsm⟩ := ok_parts h
    rw [h] at HOK
    by_cases hr : r = 0
    · have hE : cpE r z = 3 := by unfold cpE; rw [if_pos h, if_pos hr]
      rw [hE, if_neg (by decide), if_neg (by decide)]
      subst hr
      clear hE h hsm
      simp only [vC] at *
      go_enter Try.func38, Try.ntmps38
      go_upto_region 1 with (fail)
      generalize (w.alloc (.cells #[.int .i64 0, .int .i64 z.1, .int .i64 z.2] 29)).alloc (.cells #[.int .i64 0, .int .i64 0, .int .i64 0] 29) = w0 at *
      obtain ⟨t0, t1, t2, t3, t4, t5, t6⟩ := T0.out.cells
      go_wp2_with fail
      refine (HOK.out _).mono ?_
      rintro e w1 ⟨rfl, hb1⟩
      have B1 := Lib.hid (B0.out.trans (hb1.mono B0.out.size))
      have T1 := Lib.hid (T0.out.later hb1)
      have G1 := Lib.hid (G0.out.later hb1)
      clear hb1 t0 t1 t2 t3 t4 t5 t6 T0 G0 B0
      obtain ⟨t0, t1, t2, t3, t4, t5, t6⟩ := T1.out.cells
      obtain ⟨g0, g1, g2, g3, g4, g5, g6⟩ := G1.out.cells
      go_wp2
      exact bodyPost_ret (v := .tuple #[.agg #[.int .i64 0, .int .i64 0, .int .i64 0], .int .i64 3]) (by simp [results, Try.results38, go_sem, *]) rfl ⟨rfl, below3 B1.out (by omega) _ _ _⟩
    · have hE : cpE r z = 0 := by unfold cpE; rw [if_pos h, if_neg hr]
      rw [hE, if_pos rfl, if_pos rfl]
      have HST := Lib.hid (step_in r z hsm r0 r12)
      have q1 : (r == 0) = false := by simp [hr]
      generalize upE z = p at *
      clear hE h hsm hr
      simp only [vC] at *
      go_enter Try.func38, Try.ntmps38
      go_upto_region 1 with (fail)
      generalize (w.alloc (.cells #[.int .i64 r, .int .i64 z.1, .int .i64 z.2] 29)).alloc (.cells #[.int .i64 0, .int .i64 0, .int .i64 0] 29) = w0 at *
      obtain ⟨t0, t1, t2, t3, t4, t5, t6⟩ := T0.out.cells
      go_wp2_with fail
      refine (HOK.out _).mono ?_
      rintro e w1 ⟨rfl, hb1⟩
      have B1 := Lib.hid (B0.out.trans (hb1.mono B0.out.size))
      have T1 := Lib.hid (T0.out.later hb1)
      have G1 := Lib.hid (G0.out.later hb1)
      clear hb1 t0 t1 t2 t3 t4 t5 t6 T0 G0 B0
      obtain ⟨t0, t1, t2, t3, t4, t5, t6⟩ := T1.out.cells
      go_wp2_with fail
      refine (HST.out _).mono ?_
      rintro e w2 ⟨rfl, hb2⟩
      have B2 := Lib.hid (B1.out.trans (hb2.mono B1.out.size))
      obtain ⟨g0, g1, g2, g3, g4, g5, g6⟩ := (G1.out.later hb2).cells
      clear hb2 t0 t1 t2 t3 t4 t5 t6 T1 G1 B1
      go_wp2
      exact bodyPost_ret (v := .tuple #[.agg #[.int .i64 (r - 1), .int .i64 p.1, .int .i64 p.2], .int .i64 0]) (by simp [results, Try.results38, go_sem, *]) rfl ⟨rfl, below3 B2.out (by omega) _ _ _⟩
  · have hE : cpE r z = 2 := by unfold cpE; rw [if_neg h]
    rw [hE, if_neg (by decide), if_neg (by decide)]
    rw [Bool.eq_false_iff.2 h] at HOK
    clear hE h
    simp only [vC] at *
    go_enter Try.func38, Try.ntmps38
    go_upto_region 1 with (fail)
    generalize (w.alloc (.cells #[.int .i64 r, .int .i64 z.1, .int .i64 z.2] 29)).alloc (.cells #[.int .i64 0, .int .i64 0, .int .i64 0] 29) = w0 at *
    obtain ⟨t0, t1, t2, t3, t4, t5, t6⟩ := T0.out.cells
    go_wp2_with fail
    refine (HOK.out _).mono ?_
    rintro e w1 ⟨rfl, hb1⟩
    have B1 := Lib.hid (B0.out.trans (hb1.mono B0.out.size))
    have G1 := Lib.hid (G0.out.later hb1)
    clear hb1 t0 t1 t2 t3 t4 t5 t6 T0 G0 B0
    obtain ⟨g0, g1, g2, g3, g4, g5, g6⟩ := G1.out.cells
    go_wp2
    exact bodyPost_ret (v := .tuple #[.agg #[.int .i64 0, .int .i64 0, .int .i64 0], .int .i64 2]) (by simp [results, Try.results38, go_sem, *]) rfl ⟨rfl, below3 B1.out (by omega) _ _ _⟩
/-- What a word's cell and its parent are. -/
theorem par_cases (w0 : Nat) : (cvE w0 = 5 ∧ parE w0 = 5 ∧ parW w0 = 0) ∨ (cvE w0 = 0 ∧ cpE (cvR w0) (cvZ w0) = 3 ∧ parE w0 = 3 ∧ parW w0 = 0) ∨ (cvE w0 = 0 ∧ cpE (cvR w0) (cvZ w0) = 0 ∧ parE w0 = 0 ∧ ofW (cvR w0 - 1) (upE (cvZ w0)) = parW w0 ∧ ofE (cvR w0 - 1) (upE (cvZ w0)) = 0) := by
  unfold cvE cvR cvZ parE parW cpE
  by_cases h : isW w0 = true
  · right
    have ho := (cell_word h).1
    have hr := ((isW_iff w0).1 h).2.1
    rw [if_pos h, if_pos h, if_pos h, if_pos h, if_pos ho]
    by_cases h0 : rW w0 = 0
    · left
      rw [if_pos (by omega), if_pos h0, if_neg (by omega)]
      exact ⟨rfl, rfl, rfl, rfl⟩
    · right
      rw [if_neg (by omega), if_neg h0, if_pos ⟨h, h0⟩]
      refine ⟨rfl, rfl, rfl, rfl, ?_⟩
      obtain ⟨k, hk⟩ : ∃ k, rW w0 = k + 1 := ⟨rW w0 - 1, by omega⟩
      rw [hk] at ho ⊢
      rw [show ((k + 1 : Nat) : Int) - 1 = (k : Int) by omega]
      exact (ofW_ok (up_ok ho)).2.1
  · left
    rw [if_neg h, if_neg h, if_neg (fun h2 => h h2.1)]
    exact ⟨rfl, rfl, rfl⟩
set_option maxRecDepth 100000 in
set_option maxHeartbeats 4000000 in
theorem ipar_any (w0 : Nat) (hw : w0 < 18446744073709551616) (w : World) : Calls Try.prog 22 #[.int .u64 w0] w fun e w' => e = .returned (.tuple #[.int .u64 (parW w0 : Nat), .int .i64 (parE w0)]) ∧ Below w.heap.size w w' := by
  have HC := Lib.hid (cell_any w0 hw)
  have HP := Lib.hid (cpar_any (cvR w0) (cvZ w0))
  have HO := Lib.hid (of_any (cvR w0 - 1) (upE (cvZ w0)))
  rcases par_cases w0 with ⟨e1, e2, e3⟩ | ⟨e1, e2, e3, e4⟩ | ⟨e1, e2, e3, e4, e5⟩
  · rw [e2, e3]
    rw [e1] at HC
    generalize cvR w0 = r at *
    generalize cvZ w0 = z at *
    clear e1 e2 e3 HP HO
    simp only [vC] at *
    go_enter Try.func22, Try.ntmps22
    go_wp2_with fail
    refine (HC.out _).mono ?_
    rintro e w1 ⟨rfl, hb1⟩
    have B1 : Hid (Below w.heap.size w (w1.alloc (.cells #[.int .i64 r, .int .i64 z.1, .int .i64 z.2] 29))) := hb1.alloc hb1.size _
    clear hb1
    go_wp2
    go_ret2
    exact ⟨rfl, B1.out⟩
  · rw [e3, e4]
    rw [e1] at HC
    rw [e2, if_neg (by decide), if_neg (by decide)] at HP
    generalize cvR w0 = r at *
    generalize cvZ w0 = z at *
    clear e1 e2 e3 e4 HO
    simp only [vC] at *
    go_enter Try.func22, Try.ntmps22
    go_wp2_with fail
    refine (HC.out _).mono ?_
    rintro e w1 ⟨rfl, hb1⟩
    have B1 : Hid (Below w.heap.size w (w1.alloc (.cells #[.int .i64 r, .int .i64 z.1, .int .i64 z.2] 29))) := hb1.alloc hb1.size _
    have T1 : Hid (Tri (w1.alloc (.cells #[.int .i64 r, .int .i64 z.1, .int .i64 z.2] 29)) w1.heap.size r z) := heap_new _ _ _ rfl
    clear hb1
    go_upto_region 2 with (fail)
    generalize w1.alloc (.cells #[.int .i64 r, .int .i64 z.1, .int .i64 z.2] 29) = w2 at *
    obtain ⟨t0, t1, t2, t3, t4, t5, t6⟩ := T1.out.cells
    go_wp2_with fail
    refine (HP.out _).mono ?_
    rintro e w3 ⟨rfl, hb3⟩
    have B3 : Hid (Below w.heap.size w (w3.alloc (.cells #[.int .i64 0, .int .i64 0, .int .i64 0] 29))) := (B1.out.trans (hb3.mono B1.out.size)).alloc (Nat.le_trans B1.out.size hb3.size) _
    clear hb3 t0 t1 t2 t3 t4 t5 t6
    go_wp2
    go_ret2
    exact ⟨rfl, B3.out⟩
  · rw [e3]
    rw [e1] at HC
    rw [e2, if_pos rfl, if_pos rfl] at HP
    rw [e4, e5] at HO
    generalize parW w0 = v at *
    generalize cvR w0 = r at *
    generalize cvZ w0 = z at *
    generalize upE z = p at *
    clear e1 e2 e3 e4 e5
    simp only [vC] at *
    go_enter Try.func22, Try.ntmps22
    go_wp2_with fail
    refine (HC.out _).mono ?_
    rintro e w1 ⟨rfl, hb1⟩
    have B1 : Hid (Below w.heap.size w (w1.alloc (.cells #[.int .i64 r, .int .i64 z.1, .int .i64 z.2] 29))) := hb1.alloc hb1.size _
    have T1 : Hid (Tri (w1.alloc (.cells #[.int .i64 r, .int .i64 z.1, .int .i64 z.2] 29)) w1.heap.size r z) := heap_new _ _ _ rfl
    clear hb1
    go_upto_region 2 with (fail)
    generalize w1.alloc (.cells #[.int .i64 r, .int .i64 z.1, .int .i64 z.2] 29) = w2 at *
    obtain ⟨t0, t1, t2, t3, t4, t5, t6⟩ := T1.out.cells
    go_wp2_with fail
    refine (HP.out _).mono ?_
    rintro e w3 ⟨rfl, hb3⟩
    have B3 : Hid (Below w.heap.size w (w3.alloc (.cells #[.int .i64 (r - 1), .int .i64 p.1, .int .i64 p.2] 29))) := (B1.out.trans (hb3.mono B1.out.size)).alloc (Nat.le_trans B1.out.size hb3.size) _
    have T3 : Hid (Tri (w3.alloc (.cells #[.int .i64 (r - 1), .int .i64 p.1, .int .i64 p.2] 29)) w3.heap.size (r - 1) p) := heap_new _ _ _ rfl
    clear hb3 t0 t1 t2 t3 t4 t5 t6 T1 B1
    go_upto_region 5 with (fail)
    generalize w3.alloc (.cells #[.int .i64 (r - 1), .int .i64 p.1, .int .i64 p.2] 29) = w4 at *
    obtain ⟨t0, t1, t2, t3, t4, t5, t6⟩ := T3.out.cells
    go_wp2_with fail
    refine (HO.out _).mono ?_
    rintro e w5 ⟨rfl, hb5⟩
    have B5 := Lib.hid (B3.out.trans (hb5.mono B3.out.size))
    clear hb5
    go_wp2
    go_ret2
    exact ⟨rfl, B5.out⟩
set_option maxRecDepth 100000 in
set_option maxHeartbeats 4000000 in
theorem ires_any (w0 : Nat) (hw : w0 < 18446744073709551616) (w : World) : Calls Try.prog 23 #[.int .u64 w0] w fun e w' => e = .returned (.int .i64 (resW w0)) ∧ Below w.heap.size w w' := by
  have HC := Lib.hid (cell_any w0 hw)
  have HR : (cvE w0 = 0 ∧ resW w0 = cvR w0) ∨ (cvE w0 = 5 ∧ resW w0 = -1) := by
    unfold cvE resW cvR
    by_cases h : isW w0 = true
    · exact .inl ⟨by rw [if_pos h], by rw [if_pos h, if_pos h]⟩
    · exact .inr ⟨by rw [if_neg h], by rw [if_neg h]⟩
  rcases HR with ⟨e1, e2⟩ | ⟨e1, e2⟩
  all_goals
    rw [e2]
    rw [e1] at HC
    generalize cvR w0 = r at *
    generalize cvZ w0 = z at *
    clear e1 e2
    simp only [vC] at *
    go_enter Try.func23, Try.ntmps23
    go_wp2_with fail
    refine (HC.out _).mono ?_
    rintro e w1 ⟨rfl, hb1⟩
    have B1 : Hid (Below w.heap.size w (w1.alloc (.cells #[.int .i64 r, .int .i64 z.1, .int .i64 z.2] 29))) := hb1.alloc hb1.size _
    have T1 : Hid (Tri (w1.alloc (.cells #[.int .i64 r, .int .i64 z.1, .int .i64 z.2] 29)) w1.heap.size r z) := heap_new _ _ _ rfl
    clear hb1
    go_upto_region 2 with (fail)
    generalize w1.alloc (.cells #[.int .i64 r, .int .i64 z.1, .int .i64 z.2] 29) = w2 at *
    obtain ⟨t0, t1, t2, t3, t4, t5, t6⟩ := T1.out.cells
    go_wp2
    go_ret
    exact ⟨rfl, B1.out⟩
end Go.Proofs.Ytkjfdaleamonaaa
