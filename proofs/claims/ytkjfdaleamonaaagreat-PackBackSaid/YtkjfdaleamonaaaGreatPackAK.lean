/- Joined: NwA, PkC: contracts and plain laws, each with its own heading below. -/
import Derived.Test.YtkjfdaleamonaaaGreatPackAG
import Derived.Test.YtkjfdaleamonaaaGreatPackAJ
import Derived.Test.YtkjfdaleamonaaaGreatPackAC
/- Contracts of apiaryref1: Up, Within, WordIn. -/
namespace Go.Proofs.YtkjfdaleamonaaaGreat
open Go.RowKit Go.Lib Wd

theorem Tri.put120 {w : World} {b : Nat} {r : Int} {z : E2} (h : Tri w b r z) (s : Int) (y : E2) : Tri (((w.setCell ⟨b, 1, none⟩ (.int .i64 y.1)).setCell ⟨b, 2, none⟩ (.int .i64 y.2)).setCell ⟨b, 0, none⟩ (.int .i64 s)) b s y ∧ Turn (fun q => q = b) w (((w.setCell ⟨b, 1, none⟩ (.int .i64 y.1)).setCell ⟨b, 2, none⟩ (.int .i64 y.2)).setCell ⟨b, 0, none⟩ (.int .i64 s)) := by
  refine ⟨?_, (((Turn.refl (fun q => q = b) w).setCell (a := ⟨b, 1, none⟩) rfl _).setCell (a := ⟨b, 2, none⟩) rfl _).setCell (a := ⟨b, 0, none⟩) rfl _⟩
  unfold Tri at h ⊢
  rw [Sort.setCell_eq, Sort.setCell_eq, Sort.setCell_eq]
  simp [Sort.mapBlock, Array.getElem?_modify, h, Sort.onCells]
theorem below120 {B : Nat} {w w1 : World} (h : Below B w w1) {g : Nat} (hg : B ≤ g) (a b c : Value) : Below B w (((w1.setCell ⟨g, 1, none⟩ a).setCell ⟨g, 2, none⟩ b).setCell ⟨g, 0, none⟩ c) :=
  ((h.setCell (p := ⟨g, 1, none⟩) hg _).setCell (p := ⟨g, 2, none⟩) hg _).setCell (p := ⟨g, 0, none⟩) hg _
set_option maxRecDepth 100000 in
set_option maxHeartbeats 4000000 in
theorem rup_in {R : Nat} {z : E2} (hz : okB R z = true) {s : Nat} (hs : s ≤ R) (w : World) : Calls Tryz.prog 102 #[vC R z, .int .i64 s] w fun e w' => e = .returned (.tuple #[vC s (upN (R - s) z), .int .i64 0]) ∧ Below w.heap.size w w' := by
  have hR := (okB_parts hz).1
  have HOK := Lib.hid (rok_any (R : Int) z)
  rw [hz] at HOK
  obtain ⟨T0, G0, B0⟩ := two_new w R z
  have HST : Hid (∀ k, s ≤ k → k + 1 ≤ R → ∃ d : Int, ∀ w, Calls Tryz.prog 47 #[vE (upN (R - (k + 1)) z)] w fun e w' => e = .returned (.tuple #[vE (upN (R - k) z), .int .i64 d]) ∧ Below w.heap.size w w') := fun k h1 h2 => ⟨_, fun w => by
    have ho : okB (k + 1 : Nat) (upN (R - (k + 1)) z) = true := upN_ok _ (by rw [show k + 1 + (R - (k + 1)) = R by omega]; exact hz)
    have h := parent_in _ ((ok_parts ho).2.2.mono (by decide)) w
    rw [← upN_up, show R - (k + 1) + 1 = R - k by omega] at h
    exact h⟩
  have H0 : Hid (upN (R - R) z = z) := by show _ = _; rw [Nat.sub_self]; rfl
  obtain ⟨y, hy⟩ : ∃ y, upN (R - s) z = y := ⟨_, rfl⟩
  have HY := Lib.hid hy
  rw [hy]
  clear hz hy
  have p1 : decide ((s : Int) < 0) = false := decide_eq_false (by omega)
  have p2 : decide ((R : Int) < (s : Int)) = false := decide_eq_false (by omega)
  have p3 : decide (R < s) = false := decide_eq_false (by omega)
  simp only [vC, vE] at *
  go_enter Tryz.func102, Tryz.ntmps102
  go_upto_region 1 with (fail)
  generalize (w.alloc (.cells #[.int .i64 R, .int .i64 z.1, .int .i64 z.2] 32)).alloc (.cells #[.int .i64 0, .int .i64 0, .int .i64 0] 32) = w0 at *
  obtain ⟨t0, t1, t2, t3, t4, t5, t6⟩ := T0.out.cells
  go_wp2_with fail
  refine (HOK.out _).mono ?_
  rintro e w1 ⟨rfl, hb1⟩
  have B1 := Lib.hid (B0.out.trans (hb1.mono B0.out.size))
  have T1 := Lib.hid (T0.out.later hb1)
  have G1 := Lib.hid (G0.out.later hb1)
  clear hb1 t0 t1 t2 t3 t4 t5 t6 T0 G0 B0
  obtain ⟨t0, t1, t2, t3, t4, t5, t6⟩ := T1.out.cells
  go_wp2
  clear t0 t1 t2 t3 t4 t5 t6
  go_loopg [] R (fun q wr => ∃ k : Nat, s ≤ k ∧ k ≤ R ∧ k ≤ q ∧ Hid (Tri wr w.heap.size k (upN (R - k) z) ∧ Tri wr (w.heap.size + 1) 0 (0, 0) ∧ Below w.heap.size w wr))
  case atStart => exact ⟨R, hs, Nat.le_refl _, Nat.le_refl _, by rw [H0.out]; exact T1.out, G1.out, B1.out⟩
  case round =>
    obtain ⟨k, hk1, hk2, hq, HI⟩ := hrel
    obtain ⟨t0, t1, t2, t3, t4, t5, t6⟩ := HI.out.1.cells
    by_cases hlt : s < k
    · obtain ⟨j, rfl⟩ : ∃ j, k = j + 1 := ⟨k - 1, by omega⟩
      obtain ⟨d, hd⟩ := HST.out j (by omega) hk2
      have HS := Lib.hid hd
      clear hd
      generalize upN (R - (j + 1)) z = y at *
      have q1 : decide ((s : Int) < ((j + 1 : Nat) : Int)) = true := decide_eq_true (by omega)
      have q1n : decide (s < j + 1) = true := decide_eq_true hlt
      obtain ⟨x, hx⟩ : ∃ x, upN (R - j) z = x := ⟨_, rfl⟩
      rw [hx] at HS
      have HX := Lib.hid hx
      clear hx
      have hw : IntKind.i64.wrap (((j + 1 : Nat) : Int) - 1) = (j : Int) := by rw [show ((j + 1 : Nat) : Int) - 1 = (j : Int) by omega]; exact IntWalk.i64_in _ (by omega)
      go_wp2_with fail
      refine (HS.out _).mono ?_
      rintro e w2 ⟨rfl, hb1⟩
      have hsz := HI.out.2.2.size
      have T1 := HI.out.1.later hb1
      have G1 := HI.out.2.1.later hb1
      have B1 := HI.out.2.2.trans (hb1.mono hsz)
      obtain ⟨p1, p2⟩ := T1.put120 (j : Int) x
      have HI2 : Hid (Tri (((w2.setCell ⟨w.heap.size, 1, none⟩ (.int .i64 x.1)).setCell ⟨w.heap.size, 2, none⟩ (.int .i64 x.2)).setCell ⟨w.heap.size, 0, none⟩ (.int .i64 j)) w.heap.size j (upN (R - j) z) ∧ Tri (((w2.setCell ⟨w.heap.size, 1, none⟩ (.int .i64 x.1)).setCell ⟨w.heap.size, 2, none⟩ (.int .i64 x.2)).setCell ⟨w.heap.size, 0, none⟩ (.int .i64 j)) (w.heap.size + 1) 0 (0, 0) ∧ Below w.heap.size w (((w2.setCell ⟨w.heap.size, 1, none⟩ (.int .i64 x.1)).setCell ⟨w.heap.size, 2, none⟩ (.int .i64 x.2)).setCell ⟨w.heap.size, 0, none⟩ (.int .i64 j))) := ⟨by rw [HX.out]; exact p1, G1.turn p2 (by omega), below120 B1 (Nat.le_refl _) _ _ _⟩
      have hjq := Nat.le_trans (Nat.le_succ j) hq
      clear t0 t1 t2 t3 t4 t5 t6
      obtain ⟨t0, t1, t2, t3, t4, t5, t6⟩ := T1.cells
      clear T1 G1 B1 p1 p2 hb1 HI HS
      go_wp2
      go_roundg j
      case measure => omega
      case rel => exact ⟨j, by omega, by omega, Nat.le_refl _, HI2.out⟩
    · obtain rfl : k = s := by omega
      have q1 : decide ((k : Int) < (k : Int)) = false := decide_eq_false (by omega)
      obtain ⟨g0, g1, g2, g3, g4, g5, g6⟩ := HI.out.2.1.cells
      have HB := Lib.hid HI.out.2.2
      rw [HY.out] at t1 t2
      clear HI
      go_wp2
      exact bodyPost_ret (v := .tuple #[.agg #[.int .i64 k, .int .i64 y.1, .int .i64 y.2], .int .i64 0]) (by simp [results, Tryz.results102, go_sem, *]) rfl ⟨rfl, below3 HB.out (by omega) _ _ _⟩
set_option maxRecDepth 100000 in
set_option maxHeartbeats 4000000 in
theorem rwithin_any (r s : Int) (z y : E2) (w : World) : Calls Tryz.prog 69 #[vC r z, vC s y] w fun e w' => e = .returned (.bool (winB r z s y)) ∧ Below w.heap.size w w' := by
  have HOC := Lib.hid (rok_any r z)
  have HOA := Lib.hid (rok_any s y)
  obtain ⟨T0, T1, B0⟩ := win_new w r s z y
  simp only [vC] at *
  by_cases h1 : okB r z = true
  · by_cases h2 : okB s y = true
    · by_cases h3 : s ≤ r
      · have HCL : Hid (∀ w, Calls Tryz.prog 102 #[.agg #[.int .i64 r, .int .i64 z.1, .int .i64 z.2], .int .i64 s] w fun e w' => e = .returned (.tuple #[.agg #[.int .i64 s, .int .i64 (upN (r - s).toNat z).1, .int .i64 (upN (r - s).toNat z).2], .int .i64 0]) ∧ Below w.heap.size w w') := fun w => by
          obtain ⟨S, rfl⟩ : ∃ S : Nat, s = S := by obtain ⟨k, hk, -⟩ := okB_nat h2; exact ⟨k, hk⟩
          obtain ⟨R, rfl⟩ : ∃ R : Nat, r = R := by obtain ⟨k, hk, -⟩ := okB_nat h1; exact ⟨k, hk⟩
          rw [show ((R : Int) - S).toNat = R - S by omega]
          exact rup_in h1 (s := S) (by omega) w
        have hW : winB r z s y = decide (upN (r - s).toNat z = y) := by unfold winB; rw [h1, h2, decide_eq_true h3]; simp
        rw [hW]
        generalize upN (r - s).toNat z = x at *
        rw [h1] at HOC
        rw [h2] at HOA
        obtain ⟨o, ho⟩ : ∃ o, decide (x = y) = o := ⟨_, rfl⟩
        have HQ1 : Hid (x.1 = y.1 → x.2 = y.2 → o = true) := fun h1 h2 => by rw [← ho]; exact decide_eq_true (Prod.ext h1 h2)
        have HQ2 : Hid (¬ x.1 = y.1 → o = false) := fun h1 => by rw [← ho]; exact decide_eq_false fun e => h1 (by rw [e])
        have HQ3 : Hid (¬ x.2 = y.2 → o = false) := fun h1 => by rw [← ho]; exact decide_eq_false fun e => h1 (by rw [e])
        rw [ho]
        have q1 : decide (r < s) = false := decide_eq_false (by omega)
        clear h1 h2 h3 hW ho
        go_enter Tryz.func69, Tryz.ntmps69
        go_upto_region 1 with (fail)
        generalize (w.alloc (.cells #[.int .i64 r, .int .i64 z.1, .int .i64 z.2] 32)).alloc (.cells #[.int .i64 s, .int .i64 y.1, .int .i64 y.2] 32) = w0 at *
        obtain ⟨t0, t1, t2, t3, t4, t5, t6⟩ := T0.out.cells
        obtain ⟨u0, u1, u2, u3, u4, u5, u6⟩ := T1.out.cells
        go_wp2_with fail
        refine (HOC.out _).mono ?_
        rintro e w1 ⟨rfl, hb1⟩
        have B1 := Lib.hid (B0.out.trans (hb1.mono B0.out.size))
        have S1 := Lib.hid (T0.out.later hb1)
        have S2 := Lib.hid (T1.out.later hb1)
        clear hb1 t0 t1 t2 t3 t4 t5 t6 u0 u1 u2 u3 u4 u5 u6 T0 T1 B0
        obtain ⟨t0, t1, t2, t3, t4, t5, t6⟩ := S1.out.cells
        obtain ⟨u0, u1, u2, u3, u4, u5, u6⟩ := S2.out.cells
        go_wp2_with fail
        refine (HOA.out _).mono ?_
        rintro e w2 ⟨rfl, hb2⟩
        have B2 := Lib.hid (B1.out.trans (hb2.mono B1.out.size))
        have S3 := Lib.hid (S1.out.later hb2)
        have S4 := Lib.hid (S2.out.later hb2)
        clear hb2 t0 t1 t2 t3 t4 t5 t6 u0 u1 u2 u3 u4 u5 u6 S1 S2 B1
        obtain ⟨t0, t1, t2, t3, t4, t5, t6⟩ := S3.out.cells
        obtain ⟨u0, u1, u2, u3, u4, u5, u6⟩ := S4.out.cells
        go_wp2_with fail
        refine (HCL.out _).mono ?_
        rintro e w3 ⟨rfl, hb3⟩
        have B3 : Hid (Below w.heap.size w (w3.alloc (.cells #[.int .i64 s, .int .i64 x.1, .int .i64 x.2] 32))) := (B2.out.trans (hb3.mono B2.out.size)).alloc (B2.out.trans (hb3.mono B2.out.size)).size _
        have S5 := Lib.hid (S4.out.later (hb3.alloc hb3.size (.cells #[.int .i64 s, .int .i64 x.1, .int .i64 x.2] 32)))
        have S6 : Hid (Tri (w3.alloc (.cells #[.int .i64 s, .int .i64 x.1, .int .i64 x.2] 32)) w3.heap.size s x) := heap_new _ _ _ rfl
        clear hb3 t0 t1 t2 t3 t4 t5 t6 u0 u1 u2 u3 u4 u5 u6 S3 S4 B2
        go_upto_region 4 with (fail)
        generalize w3.alloc (.cells #[.int .i64 s, .int .i64 x.1, .int .i64 x.2] 32) = w4 at *
        obtain ⟨t0, t1, t2, t3, t4, t5, t6⟩ := S5.out.cells
        obtain ⟨u0, u1, u2, u3, u4, u5, u6⟩ := S6.out.cells
        go_wp2
        all_goals (go_ret)
        all_goals (first | exact ⟨by rw [show o = true from HQ1.out ‹_› ‹_›] <;> rfl, B3.out⟩ | exact ⟨by rw [show o = false from HQ2.out ‹_›] <;> rfl, B3.out⟩ | exact ⟨by rw [show o = false from HQ3.out ‹_›] <;> rfl, B3.out⟩)
      · have hW : winB r z s y = false := by unfold winB; rw [decide_eq_false h3]; simp
        rw [hW]
        rw [h1] at HOC
        rw [h2] at HOA
        have q1 : decide (r < s) = true := decide_eq_true (by omega)
        clear h1 h2 h3 hW
        go_enter Tryz.func69, Tryz.ntmps69
        go_upto_region 1 with (fail)
        generalize (w.alloc (.cells #[.int .i64 r, .int .i64 z.1, .int .i64 z.2] 32)).alloc (.cells #[.int .i64 s, .int .i64 y.1, .int .i64 y.2] 32) = w0 at *
        obtain ⟨t0, t1, t2, t3, t4, t5, t6⟩ := T0.out.cells
        obtain ⟨u0, u1, u2, u3, u4, u5, u6⟩ := T1.out.cells
        go_wp2_with fail
        refine (HOC.out _).mono ?_
        rintro e w1 ⟨rfl, hb1⟩
        have B1 := Lib.hid (B0.out.trans (hb1.mono B0.out.size))
        have S1 := Lib.hid (T0.out.later hb1)
        have S2 := Lib.hid (T1.out.later hb1)
        clear hb1 t0 t1 t2 t3 t4 t5 t6 u0 u1 u2 u3 u4 u5 u6 T0 T1 B0
        obtain ⟨t0, t1, t2, t3, t4, t5, t6⟩ := S1.out.cells
        obtain ⟨u0, u1, u2, u3, u4, u5, u6⟩ := S2.out.cells
        go_wp2_with fail
        refine (HOA.out _).mono ?_
        rintro e w2 ⟨rfl, hb2⟩
        have B2 := Lib.hid (B1.out.trans (hb2.mono B1.out.size))
        have S3 := Lib.hid (S1.out.later hb2)
        have S4 := Lib.hid (S2.out.later hb2)
        clear hb2 t0 t1 t2 t3 t4 t5 t6 u0 u1 u2 u3 u4 u5 u6 S1 S2 B1
        obtain ⟨t0, t1, t2, t3, t4, t5, t6⟩ := S3.out.cells
        obtain ⟨u0, u1, u2, u3, u4, u5, u6⟩ := S4.out.cells
        go_wp2
        go_ret
        exact ⟨rfl, B2.out⟩
    · have hW : winB r z s y = false := by unfold winB; rw [Bool.eq_false_iff.2 h2]; simp
      rw [hW]
      rw [h1] at HOC
      rw [Bool.eq_false_iff.2 h2] at HOA
      clear h1 h2 hW
      go_enter Tryz.func69, Tryz.ntmps69
      go_upto_region 1 with (fail)
      generalize (w.alloc (.cells #[.int .i64 r, .int .i64 z.1, .int .i64 z.2] 32)).alloc (.cells #[.int .i64 s, .int .i64 y.1, .int .i64 y.2] 32) = w0 at *
      obtain ⟨t0, t1, t2, t3, t4, t5, t6⟩ := T0.out.cells
      obtain ⟨u0, u1, u2, u3, u4, u5, u6⟩ := T1.out.cells
      go_wp2_with fail
      refine (HOC.out _).mono ?_
      rintro e w1 ⟨rfl, hb1⟩
      have B1 := Lib.hid (B0.out.trans (hb1.mono B0.out.size))
      have S1 := Lib.hid (T0.out.later hb1)
      have S2 := Lib.hid (T1.out.later hb1)
      clear hb1 t0 t1 t2 t3 t4 t5 t6 u0 u1 u2 u3 u4 u5 u6 T0 T1 B0
      obtain ⟨t0, t1, t2, t3, t4, t5, t6⟩ := S1.out.cells
      obtain ⟨u0, u1, u2, u3, u4, u5, u6⟩ := S2.out.cells
      go_wp2_with fail
      refine (HOA.out _).mono ?_
      rintro e w2 ⟨rfl, hb2⟩
      have B2 := Lib.hid (B1.out.trans (hb2.mono B1.out.size))
      have S3 := Lib.hid (S1.out.later hb2)
      have S4 := Lib.hid (S2.out.later hb2)
      clear hb2 t0 t1 t2 t3 t4 t5 t6 u0 u1 u2 u3 u4 u5 u6 S1 S2 B1
      obtain ⟨t0, t1, t2, t3, t4, t5, t6⟩ := S3.out.cells
      obtain ⟨u0, u1, u2, u3, u4, u5, u6⟩ := S4.out.cells
      go_wp2
      go_ret
      exact ⟨rfl, B2.out⟩
  · have hW : winB r z s y = false := by unfold winB; rw [Bool.eq_false_iff.2 h1]; simp
    rw [hW]
    rw [Bool.eq_false_iff.2 h1] at HOC
    clear h1 hW
    go_enter Tryz.func69, Tryz.ntmps69
    go_upto_region 1 with (fail)
    generalize (w.alloc (.cells #[.int .i64 r, .int .i64 z.1, .int .i64 z.2] 32)).alloc (.cells #[.int .i64 s, .int .i64 y.1, .int .i64 y.2] 32) = w0 at *
    obtain ⟨t0, t1, t2, t3, t4, t5, t6⟩ := T0.out.cells
    obtain ⟨u0, u1, u2, u3, u4, u5, u6⟩ := T1.out.cells
    go_wp2_with fail
    refine (HOC.out _).mono ?_
    rintro e w1 ⟨rfl, hb1⟩
    have B1 := Lib.hid (B0.out.trans (hb1.mono B0.out.size))
    have S1 := Lib.hid (T0.out.later hb1)
    have S2 := Lib.hid (T1.out.later hb1)
    clear hb1 t0 t1 t2 t3 t4 t5 t6 u0 u1 u2 u3 u4 u5 u6 T0 T1 B0
    obtain ⟨t0, t1, t2, t3, t4, t5, t6⟩ := S1.out.cells
    obtain ⟨u0, u1, u2, u3, u4, u5, u6⟩ := S2.out.cells
    go_wp2
    go_ret
    exact ⟨rfl, B1.out⟩
theorem cvE_cases (w0 : Nat) : (cvE w0 = 0 ∧ isW w0 = true) ∨ (cvE w0 = 5 ∧ isW w0 = false) := by
  unfold cvE
  by_cases h : isW w0 = true
  · exact .inl ⟨by rw [if_pos h], h⟩
  · exact .inr ⟨by rw [if_neg h], Bool.eq_false_iff.2 h⟩
def inB (a b : Nat) : Bool := isW a && wiB a b
set_option maxRecDepth 100000 in
set_option maxHeartbeats 4000000 in
theorem wordin_any (a b : Nat) (ha : a < 18446744073709551616) (hb : b < 18446744073709551616) (w : World) : Calls Tryz.prog 38 #[.int .u64 a, .int .u64 b] w fun e w' => e = .returned (.bool (inB a b)) ∧ Below w.heap.size w w' := by
  have HA := Lib.hid (rcell_any a ha)
  have HB := Lib.hid (rcell_any b hb)
  have HW := Lib.hid (rwithin_any (cvR a) (cvR b) (cvZ a) (cvZ b))
  have HV : Hid (inB a b = (isW a && (isW b && winB (cvR a) (cvZ a) (cvR b) (cvZ b)))) := rfl
  rw [HV.out]
  generalize winB (cvR a) (cvZ a) (cvR b) (cvZ b) = o at *
  generalize cvR a = r at *
  generalize cvZ a = z at *
  generalize cvR b = s at *
  generalize cvZ b = y at *
  clear HV
  simp only [vC] at *
  rcases cvE_cases a with ⟨ea, wa⟩ | ⟨ea, wa⟩ <;> rcases cvE_cases b with ⟨eb, wb⟩ | ⟨eb, wb⟩ <;> rw [ea] at HA <;> rw [eb] at HB <;> rw [wa, wb] <;> clear ea wa eb wb
  · go_enter Tryz.func38, Tryz.ntmps38
    go_wp2_with fail
    refine (HA.out _).mono ?_
    rintro e w1 ⟨rfl, hb1⟩
    have B1 : Hid (Below w.heap.size w (w1.alloc (.cells #[.int .i64 r, .int .i64 z.1, .int .i64 z.2] 32))) := hb1.alloc hb1.size _
    have T1 : Hid (Tri (w1.alloc (.cells #[.int .i64 r, .int .i64 z.1, .int .i64 z.2] 32)) w1.heap.size r z) := heap_new _ _ _ rfl
    clear hb1
    go_upto_region 2 with (fail)
    generalize w1.alloc (.cells #[.int .i64 r, .int .i64 z.1, .int .i64 z.2] 32) = w2 at *
    go_wp2_with fail
    refine (HB.out _).mono ?_
    rintro e w3 ⟨rfl, hb3⟩
    have hb4 := hb3.alloc hb3.size (.cells #[.int .i64 s, .int .i64 y.1, .int .i64 y.2] 32)
    have B2 : Hid (Below w.heap.size w (w3.alloc (.cells #[.int .i64 s, .int .i64 y.1, .int .i64 y.2] 32))) := B1.out.trans (hb4.mono B1.out.size)
    have T2 := Lib.hid (T1.out.later hb4)
    have T3 : Hid (Tri (w3.alloc (.cells #[.int .i64 s, .int .i64 y.1, .int .i64 y.2] 32)) w3.heap.size s y) := heap_new _ _ _ rfl
    clear hb3 hb4 B1 T1
    go_upto_region 3 with (fail)
    generalize w3.alloc (.cells #[.int .i64 s, .int .i64 y.1, .int .i64 y.2] 32) = w4 at *
    obtain ⟨t0, t1, t2, t3, t4, t5, t6⟩ := T2.out.cells
    obtain ⟨u0, u1, u2, u3, u4, u5, u6⟩ := T3.out.cells
    go_wp2_with fail
    refine (HW.out _).mono ?_
    rintro e w5 ⟨rfl, hb5⟩
    have B3 := Lib.hid (B2.out.trans (hb5.mono B2.out.size))
    clear hb5 B2 T2 T3 t0 t1 t2 t3 t4 t5 t6 u0 u1 u2 u3 u4 u5 u6
    go_wp2
    go_ret
    exact ⟨rfl, B3.out⟩
  · go_enter Tryz.func38, Tryz.ntmps38
    go_wp2_with fail
    refine (HA.out _).mono ?_
    rintro e w1 ⟨rfl, hb1⟩
    have B1 : Hid (Below w.heap.size w (w1.alloc (.cells #[.int .i64 r, .int .i64 z.1, .int .i64 z.2] 32))) := hb1.alloc hb1.size _
    have T1 : Hid (Tri (w1.alloc (.cells #[.int .i64 r, .int .i64 z.1, .int .i64 z.2] 32)) w1.heap.size r z) := heap_new _ _ _ rfl
    clear hb1
    go_upto_region 2 with (fail)
    generalize w1.alloc (.cells #[.int .i64 r, .int .i64 z.1, .int .i64 z.2] 32) = w2 at *
    go_wp2_with fail
    refine (HB.out _).mono ?_
    rintro e w3 ⟨rfl, hb3⟩
    have hb4 := hb3.alloc hb3.size (.cells #[.int .i64 s, .int .i64 y.1, .int .i64 y.2] 32)
    have B2 : Hid (Below w.heap.size w (w3.alloc (.cells #[.int .i64 s, .int .i64 y.1, .int .i64 y.2] 32))) := B1.out.trans (hb4.mono B1.out.size)
    have T2 := Lib.hid (T1.out.later hb4)
    have T3 : Hid (Tri (w3.alloc (.cells #[.int .i64 s, .int .i64 y.1, .int .i64 y.2] 32)) w3.heap.size s y) := heap_new _ _ _ rfl
    clear hb3 hb4 B1 T1
    go_upto_region 3 with (fail)
    generalize w3.alloc (.cells #[.int .i64 s, .int .i64 y.1, .int .i64 y.2] 32) = w4 at *
    go_wp2
    go_ret
    exact ⟨rfl, B2.out⟩
  · go_enter Tryz.func38, Tryz.ntmps38
    go_wp2_with fail
    refine (HA.out _).mono ?_
    rintro e w1 ⟨rfl, hb1⟩
    have B1 : Hid (Below w.heap.size w (w1.alloc (.cells #[.int .i64 r, .int .i64 z.1, .int .i64 z.2] 32))) := hb1.alloc hb1.size _
    have T1 : Hid (Tri (w1.alloc (.cells #[.int .i64 r, .int .i64 z.1, .int .i64 z.2] 32)) w1.heap.size r z) := heap_new _ _ _ rfl
    clear hb1
    go_upto_region 2 with (fail)
    generalize w1.alloc (.cells #[.int .i64 r, .int .i64 z.1, .int .i64 z.2] 32) = w2 at *
    go_wp2_with fail
    refine (HB.out _).mono ?_
    rintro e w3 ⟨rfl, hb3⟩
    have hb4 := hb3.alloc hb3.size (.cells #[.int .i64 s, .int .i64 y.1, .int .i64 y.2] 32)
    have B2 : Hid (Below w.heap.size w (w3.alloc (.cells #[.int .i64 s, .int .i64 y.1, .int .i64 y.2] 32))) := B1.out.trans (hb4.mono B1.out.size)
    have T2 := Lib.hid (T1.out.later hb4)
    have T3 : Hid (Tri (w3.alloc (.cells #[.int .i64 s, .int .i64 y.1, .int .i64 y.2] 32)) w3.heap.size s y) := heap_new _ _ _ rfl
    clear hb3 hb4 B1 T1
    go_upto_region 3 with (fail)
    generalize w3.alloc (.cells #[.int .i64 s, .int .i64 y.1, .int .i64 y.2] 32) = w4 at *
    go_wp2
    go_ret
    exact ⟨rfl, B2.out⟩
  · go_enter Tryz.func38, Tryz.ntmps38
    go_wp2_with fail
    refine (HA.out _).mono ?_
    rintro e w1 ⟨rfl, hb1⟩
    have B1 : Hid (Below w.heap.size w (w1.alloc (.cells #[.int .i64 r, .int .i64 z.1, .int .i64 z.2] 32))) := hb1.alloc hb1.size _
    have T1 : Hid (Tri (w1.alloc (.cells #[.int .i64 r, .int .i64 z.1, .int .i64 z.2] 32)) w1.heap.size r z) := heap_new _ _ _ rfl
    clear hb1
    go_upto_region 2 with (fail)
    generalize w1.alloc (.cells #[.int .i64 r, .int .i64 z.1, .int .i64 z.2] 32) = w2 at *
    go_wp2_with fail
    refine (HB.out _).mono ?_
    rintro e w3 ⟨rfl, hb3⟩
    have hb4 := hb3.alloc hb3.size (.cells #[.int .i64 s, .int .i64 y.1, .int .i64 y.2] 32)
    have B2 : Hid (Below w.heap.size w (w3.alloc (.cells #[.int .i64 s, .int .i64 y.1, .int .i64 y.2] 32))) := B1.out.trans (hb4.mono B1.out.size)
    have T2 := Lib.hid (T1.out.later hb4)
    have T3 : Hid (Tri (w3.alloc (.cells #[.int .i64 s, .int .i64 y.1, .int .i64 y.2] 32)) w3.heap.size s y) := heap_new _ _ _ rfl
    clear hb3 hb4 B1 T1
    go_upto_region 3 with (fail)
    generalize w3.alloc (.cells #[.int .i64 s, .int .i64 y.1, .int .i64 y.2] 32) = w4 at *
    go_wp2
    go_ret
    exact ⟨rfl, B2.out⟩
end Go.Proofs.YtkjfdaleamonaaaGreat
/- What is known of a list of words as long as memory stays (for %INW). -/
namespace Go.Proofs.YtkjfdaleamonaaaGreat
open Go.RowKit Go.Lib
def uW (n : Nat) (l : List Int) : SP := ⟨fun v w => ∃ ao c, v = .slice ao n c ∧ WordsAt w w.heap.size ao l, fun _ _ _ hb ⟨ao, c, e, h⟩ => ⟨ao, c, e, (h.below hb (Nat.le_refl _)).wider hb.size⟩⟩
end Go.Proofs.YtkjfdaleamonaaaGreat
