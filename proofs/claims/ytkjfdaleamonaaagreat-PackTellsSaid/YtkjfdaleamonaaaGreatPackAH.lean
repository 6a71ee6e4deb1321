/- Joined: NwA, PdA, QM, PdI, PdB, PdC, SlC, HpA, HpB, HpE, HpC, HpP: contracts and plain laws, each with its own heading below. -/
import Derived.Test.YtkjfdaleamonaaaGreatPackAF
import Derived.Test.YtkjfdaleamonaaaGreatPackAG
import Derived.Maps.AppendAt
import Derived.Test.YtkjfdaleamonaaaGreatProg
import Derived.Test.YtkjfdaleamonaaaGreatPackAC
import Derived.Deep.CutRange
import Derived.BigRegion
import Derived.Maps.OwnSet
import Derived.WideKeyEntry
import Derived.ChangeKeysEq
import Derived.Deep.RegionLawGrows
/- Contracts of apiaryref1: Up, Within, WordIn. -/
namespace Go.Proofs.YtkjfdaleamonaaaGreat
open Go.RowKit Go.Lib Wd

theorem Tri.put120 {w : World} {b : Nat} {r : Int} {z : E2} (h : Tri w b r z) (s : Int) (y : E2) : Tri (((w.setCell ⟨b, 1, none⟩ (.int .i64 y.1)).setCell ⟨b, 2, none⟩ (.int .i64 y.2)).setCell ⟨b, 0, none⟩ (.int .i64 s)) b s y ∧ Turn (fun q => q = b) w (((w.setCell ⟨b, 1, none⟩ (.int .i64 y.1)).setCell ⟨b, 2, none⟩ (.int .i64 y.2)).setCell ⟨b, 0, none⟩ (.int .i64 s)) := by
  refine ⟨?_, (((Turn.refl (fun q => q = b) w).setCell (a := ⟨b, 1, none⟩) rfl _).setCell (a := ⟨b, 2, none⟩) rfl _).setCell (a := ⟨b, 0, none⟩) rfl _⟩
  unfold Tri at h ⊢
  rw [Sort.setCell_eq, Sort.setCell_eq, Sort.setCell_eq]
  simp [Sort.mapBlock, Array.getElem?_modify, h, Sort.onCells]
theorem below120 {B : Nat} {w w1 : World} (h : Below B w w1) {g : Nat} (hg : B ≤ g) (a b c : Value) : Below B w (((w1.setCell ⟨g, 1, none⟩ a).setCell ⟨g, 2, none⟩ b).setCell ⟨g, 0, none⟩ c) :=
  ((h.setCell (p := ⟨g, 1, none⟩) hg _).setCell (p := ⟨g, 2, none⟩) hg _).setCell (p := ⟨g, 0, none⟩) hg _
set_option maxRecDepth 100000 in
set_option maxHeartbeats 4000000 in
theorem rup_in {R : Nat} {z : E2} (hz : okB R z = true) {s : Nat} (hs : s ≤ R) (w : World) : Calls Tryz.prog 102 #[vC R z, .int .i64 s] w fun e w' => e = .returned (.tuple #[vC s (upN (R - s) z), .int .i64 0]) ∧ Below w.heap.size w w' := by
  have hR := (okB_parts hz).1
  have HOK := Lib.hid (rok_any (R : Int) z)
  rw [hz] at HOK
  obtain ⟨T0, G0, B0⟩ := two_new w R z
  have HST : Hid (∀ k, s ≤ k → k + 1 ≤ R → ∃ d : Int, ∀ w, Calls Tryz.prog 47 #[vE (upN (R - (k + 1)) z)] w fun e w' => e = .returned (.tuple #[vE (upN (R - k) z), .int .i64 d]) ∧ Below w.heap.size w w') := fun k h1 h2 => ⟨_, fun w => by
    have ho : okB (k + 1 : Nat) (upN (R - (k + 1)) z) = true := upN_ok _ (by rw [show k + 1 + (R - (k + 1)) = R by omega]; exact hz)
    have h := parent_in _ ((ok_parts ho).2.2.mono (by decide)) w
    rw [← upN_up, show R - (k + 1) + 1 = R - k by omega] at h
    exact h⟩
  have H0 : Hid (upN (R - R) z = z) := by show _ = _; rw [Nat.sub_self]; rfl
  obtain ⟨y, hy⟩ : ∃ y, upN (R - s) z = y := ⟨_, rfl⟩
  have HY := Lib.hid hy
  rw [hy]
  clear hz hy
  have p1 : decide ((s : Int) < 0) = false := decide_eq_false (by omega)
  have p2 : decide ((R : Int) < (s : Int)) = false := decide_eq_false (by omega)
  have p3 : decide (R < s) = false := decide_eq_false (by omega)
  simp only [vC, vE] at *
  go_enter Tryz.func102, Tryz.ntmps102
  go_upto_region 1 with (fail)
  generalize (w.alloc (.cells #[.int .i64 R, .int .i64 z.1, .int .i64 z.2] 32)).alloc (.cells #[.int .i64 0, .int .i64 0, .int .i64 0] 32) = w0 at *
  obtain ⟨t0, t1, t2, t3, t4, t5, t6⟩ := T0.out.cells
  go_wp2_with fail
  refine (HOK.out _).mono ?_
  rintro e w1 ⟨rfl, hb1⟩
  have B1 := Lib.hid (B0.out.trans (hb1.mono B0.out.size))
  have T1 := Lib.hid (T0.out.later hb1)
  have G1 := Lib.hid (G0.out.later hb1)
  clear hb1 t0 t1 t2 t3 t4 t5 t6 T0 G0 B0
  obtain ⟨t0, t1, t2, t3, t4, t5, t6⟩ := T1.out.cells
  go_wp2
  clear t0 t1 t2 t3 t4 t5 t6
  go_loopg [] R (fun q wr => ∃ k : Nat, s ≤ k ∧ k ≤ R ∧ k ≤ q ∧ Hid (Tri wr w.heap.size k (upN (R - k) z) ∧ Tri wr (w.heap.size + 1) 0 (0, 0) ∧ Below w.heap.size w wr))
  case atStart => exact ⟨R, hs, Nat.le_refl _, Nat.le_refl _, by rw [H0.out]; exact T1.out, G1.out, B1.out⟩
  case round =>
    obtain ⟨k, hk1, hk2, hq, HI⟩ := hrel
    obtain ⟨t0, t1, t2, t3, t4, t5, t6⟩ := HI.out.1.cells
    by_cases hlt : s < k
    · obtain ⟨j, rfl⟩ : ∃ j, k = j + 1 := ⟨k - 1, by omega⟩
      obtain ⟨d, hd⟩ := HST.out j (by omega) hk2
      have HS := Lib.hid hd
      clear hd
      generalize upN (R - (j + 1)) z = y at *
      have q1 : decide ((s : Int) < ((j + 1 : Nat) : Int)) = true := decide_eq_true (by omega)
      have q1n : decide (s < j + 1) = true := decide_eq_true hlt
      obtain ⟨x, hx⟩ : ∃ x, upN (R - j) z = x := ⟨_, rfl⟩
      rw [hx] at HS
      have HX := Lib.hid hx
      clear hx
      have hw : IntKind.i64.wrap (((j + 1 : Nat) : Int) - 1) = (j : Int) := by rw [show ((j + 1 : Nat) : Int) - 1 = (j : Int) by omega]; exact IntWalk.i64_in _ (by omega)
      go_wp2_with fail
      refine (HS.out _).mono ?_
      rintro e w2 ⟨rfl, hb1⟩
      have hsz := HI.out.2.2.size
      have T1 := HI.out.1.later hb1
      have G1 := HI.out.2.1.later hb1
      have B1 := HI.out.2.2.trans (hb1.mono hsz)
      obtain ⟨p1, p2⟩ := T1.put120 (j : Int) x
      have HI2 : Hid (Tri (((w2.setCell ⟨w.heap.size, 1, none⟩ (.int .i64 x.1)).setCell ⟨w.heap.size, 2, none⟩ (.int .i64 x.2)).setCell ⟨w.heap.size, 0, none⟩ (.int .i64 j)) w.heap.size j (upN (R - j) z) ∧ Tri (((w2.setCell ⟨w.heap.size, 1, none⟩ (.int .i64 x.1)).setCell ⟨w.heap.size, 2, none⟩ (.int .i64 x.2)).setCell ⟨w.heap.size, 0, none⟩ (.int .i64 j)) (w.heap.size + 1) 0 (0, 0) ∧ Below w.heap.size w (((w2.setCell ⟨w.heap.size, 1, none⟩ (.int .i64 x.1)).setCell ⟨w.heap.size, 2, none⟩ (.int .i64 x.2)).setCell ⟨w.heap.size, 0, none⟩ (.int .i64 j))) := ⟨by rw [HX.out]; exact p1, G1.turn p2 (by omega), below120 B1 (Nat.le_refl _) _ _ _⟩
      have hjq := Nat.le_trans (Nat.le_succ j) hq
      clear t0 t1 t2 t3 t4 t5 t6
      obtain ⟨t0, t1, t2, t3, t4, t5, t6⟩ := T1.cells
      clear T1 G1 B1 p1 p2 hb1 HI HS
      go_wp2
      go_roundg j
      case measure => omega
      case rel => exact ⟨j, by omega, by omega, Nat.le_refl _, HI2.out⟩
    · obtain rfl : k = s := by omega
      have q1 : decide ((k : Int) < (k : Int)) = false := decide_eq_false (by omega)
      obtain ⟨g0, g1, g2, g3, g4, g5, g6⟩ := HI.out.2.1.cells
      have HB := Lib.hid HI.out.2.2
      rw [HY.out] at t1 t2
      clear HI
      go_wp2
      exact bodyPost_ret (v := .tuple #[.agg #[.int .i64 k, .int .i64 y.1, .int .i64 y.2], .int .i64 0]) (by simp [results, Tryz.results102, go_sem, *]) rfl ⟨rfl, below3 HB.out (by omega) _ _ _⟩
set_option maxRecDepth 100000 in
set_option maxHeartbeats 4000000 in
theorem rwithin_any (r s : Int) (z y : E2) (w : World) : Calls Tryz.prog 69 #[vC r z, vC s y] w fun e w' => e = .returned (.bool (winB r z s y)) ∧ Below w.heap.size w w' := by
  have HOC := Lib.hid (rok_any r z)
  have HOA := Lib.hid (rok_any s y)
  obtain ⟨T0, T1, B0⟩ := win_new w r s z y
  simp only [vC] at *
  by_cases h1 : okB r z = true
  · by_cases h2 : okB s y = true
    · by_cases h3 : s ≤ r
      · have HCL : Hid (∀ w, Calls Tryz.prog 102 #[.agg #[.int .i64 r, .int .i64 z.1, .int .i64 z.2], .int .i64 s] w fun e w' => e = .returned (.tuple #[.agg #[.int .i64 s, .int .i64 (upN (r - s).toNat z).1, .int .i64 (upN (r - s).toNat z).2], .int .i64 0]) ∧ Below w.heap.size w w') := fun w => by
          obtain ⟨S, rfl⟩ : ∃ S : Nat, s = S := by obtain ⟨k, hk, -⟩ := okB_nat h2; exact ⟨k, hk⟩
          obtain ⟨R, rfl⟩ : ∃ R : Nat, r = R := by obtain ⟨k, hk, -⟩ := okB_nat h1; exact ⟨k, hk⟩
          rw [show ((R : Int) - S).toNat = R - S by omega]
          exact rup_in h1 (s := S) (by omega) w
        have hW : winB r z s y = decide (upN (r - s).toNat z = y) := by unfold winB; rw [h1, h2, decide_eq_true h3]; simp
        rw [hW]
        generalize upN (r - s).toNat z = x at *
        rw [h1] at HOC
        rw [h2] at HOA
        obtain ⟨o, ho⟩ : ∃ o, decide (x = y) = o := ⟨_, rfl⟩
        have HQ1 : Hid (x.1 = y.1 → x.2 = y.2 → o = true) := fun h1 h2 => by rw [← ho]; exact decide_eq_true (Prod.ext h1 h2)
        have HQ2 : Hid (¬ x.1 = y.1 → o = false) := fun h1 => by rw [← ho]; exact decide_eq_false fun e => h1 (by rw [e])
        have HQ3 : Hid (¬ x.2 = y.2 → o = false) := fun h1 => by rw [← ho]; exact decide_eq_false fun e => h1 (by rw [e])
        rw [ho]
        have q1 : decide (r < s) = false := decide_eq_false (by omega)
        clear h1 h2 h3 hW ho
        go_enter Tryz.func69, Tryz.ntmps69
        go_upto_region 1 with (fail)
        generalize (w.alloc (.cells #[.int .i64 r, .int .i64 z.1, .int .i64 z.2] 32)).alloc (.cells #[.int .i64 s, .int .i64 y.1, .int .i64 y.2] 32) = w0 at *
        obtain ⟨t0, t1, t2, t3, t4, t5, t6⟩ := T0.out.cells
        obtain ⟨u0, u1, u2, u3, u4, u5, u6⟩ := T1.out.cells
        go_wp2_with fail
        refine (HOC.out _).mono ?_
        rintro e w1 ⟨rfl, hb1⟩
        have B1 := Lib.hid (B0.out.trans (hb1.mono B0.out.size))
        have S1 := Lib.hid (T0.out.later hb1)
        have S2 := Lib.hid (T1.out.later hb1)
        clear hb1 t0 t1 t2 t3 t4 t5 t6 u0 u1 u2 u3 u4 u5 u6 T0 T1 B0
        obtain ⟨t0, t1, t2, t3, t4, t5, t6⟩ := S1.out.cells
        obtain ⟨u0, u1, u2, u3, u4, u5, u6⟩ := S2.out.cells
        go_wp2_with fail
        refine (HOA.out _).mono ?_
        rintro e w2 ⟨rfl, hb2⟩
        have B2 := Lib.hid (B1.out.trans (hb2.mono B1.out.size))
        have S3 := Lib.hid (S1.out.later hb2)
        have S4 := Lib.hid (S2.out.later hb2)
        clear hb2 t0 t1 t2 t3 t4 t5 t6 u0 u1 u2 u3 u4 u5 u6 S1 S2 B1
        obtain ⟨t0, t1, t2, t3, t4, t5, t6⟩ := S3.out.cells
        obtain ⟨u0, u1, u2, u3, u4, u5, u6⟩ := S4.out.cells
        go_wp2_with fail
        refine (HCL.out _).mono ?_
        rintro e w3 ⟨rfl, hb3⟩
        have B3 : Hid (Below w.heap.size w (w3.alloc (.cells #[.int .i64 s, .int .i64 x.1, .int .i64 x.2] 32))) := (B2.out.trans (hb3.mono B2.out.size)).alloc (B2.out.trans (hb3.mono B2.out.size)).size _
        have S5 := Lib.hid (S4.out.later (hb3.alloc hb3.size (.cells #[.int .i64 s, .int .i64 x.1, .int .i64 x.2] 32)))
        have S6 : Hid (Tri (w3.alloc (.cells #[.int .i64 s, .int .i64 x.1, .int .i64 x.2] 32)) w3.heap.size s x) := heap_new _ _ _ rfl
        clear hb3 t0 t1 t2 t3 t4 t5 t6 u0 u1 u2 u3 u4 u5 u6 S3 S4 B2
        go_upto_region 4 with (fail)
        generalize w3.alloc (.cells #[.int .i64 s, .int .i64 x.1, .int .i64 x.2] 32) = w4 at *
        obtain ⟨t0, t1, t2, t3, t4, t5, t6⟩ := S5.out.cells
        obtain ⟨u0, u1, u2, u3, u4, u5, u6⟩ := S6.out.cells
        go_wp2
        all_goals (go_ret)
        all_goals (first | exact ⟨by rw [show o = true from HQ1.out ‹_› ‹_›] <;> rfl, B3.out⟩ | exact ⟨by rw [show o = false from HQ2.out ‹_›] <;> rfl, B3.out⟩ | exact ⟨by rw [show o = false from HQ3.out ‹_›] <;> rfl, B3.out⟩)
      · have hW : winB r z s y = false := by unfold winB; rw [decide_eq_false h3]; simp
        rw [hW]
        rw [h1] at HOC
        rw [h2] at HOA
        have q1 : decide (r < s) = true := decide_eq_true (by omega)
        clear h1 h2 h3 hW
        go_enter Tryz.func69, Tryz.ntmps69
        go_upto_region 1 with (fail)
        generalize (w.alloc (.cells #[.int .i64 r, .int .i64 z.1, .int .i64 z.2] 32)).alloc (.cells #[.int .i64 s, .int .i64 y.1, .int .i64 y.2] 32) = w0 at *
        obtain ⟨t0, t1, t2, t3, t4, t5, t6⟩ := T0.out.cells
        obtain ⟨u0, u1, u2, u3, u4, u5, u6⟩ := T1.out.cells
        go_wp2_with fail
        refine (HOC.out _).mono ?_
        rintro e w1 ⟨rfl, hb1⟩
        have B1 := Lib.hid (B0.out.trans (hb1.mono B0.out.size))
        have S1 := Lib.hid (T0.out.later hb1)
        have S2 := Lib.hid (T1.out.later hb1)
        clear hb1 t0 t1 t2 t3 t4 t5 t6 u0 u1 u2 u3 u4 u5 u6 T0 T1 B0
        obtain ⟨t0, t1, t2, t3, t4, t5, t6⟩ := S1.out.cells
        obtain ⟨u0, u1, u2, u3, u4, u5, u6⟩ := S2.out.cells
        go_wp2_with fail
        refine (HOA.out _).mono ?_
        rintro e w2 ⟨rfl, hb2⟩
        have B2 := Lib.hid (B1.out.trans (hb2.mono B1.out.size))
        have S3 := Lib.hid (S1.out.later hb2)
        have S4 := Lib.hid (S2.out.later hb2)
        clear hb2 t0 t1 t2 t3 t4 t5 t6 u0 u1 u2 u3 u4 u5 u6 S1 S2 B1
        obtain ⟨t0, t1, t2, t3, t4, t5, t6⟩ := S3.out.cells
        obtain ⟨u0, u1, u2, u3, u4, u5, u6⟩ := S4.out.cells
        go_wp2
        go_ret
        exact ⟨rfl, B2.out⟩
    · have hW : winB r z s y = false := by unfold winB; rw [Bool.eq_false_iff.2 h2]; simp
      rw [hW]
      rw [h1] at HOC
      rw [Bool.eq_false_iff.2 h2] at HOA
      clear h1 h2 hW
      go_enter Tryz.func69, Tryz.ntmps69
      go_upto_region 1 with (fail)
      generalize (w.alloc (.cells #[.int .i64 r, .int .i64 z.1, .int .i64 z.2] 32)).alloc (.cells #[.int .i64 s, .int .i64 y.1, .int .i64 y.2] 32) = w0 at *
      obtain ⟨t0, t1, t2, t3, t4, t5, t6⟩ := T0.out.cells
      obtain ⟨u0, u1, u2, u3, u4, u5, u6⟩ := T1.out.cells
      go_wp2_with fail
      refine (HOC.out _).mono ?_
      rintro e w1 ⟨rfl, hb1⟩
      have B1 := Lib.hid (B0.out.trans (hb1.mono B0.out.size))
      have S1 := Lib.hid (T0.out.later hb1)
      have S2 := Lib.hid (T1.out.later hb1)
      clear hb1 t0 t1 t2 t3 t4 t5 t6 u0 u1 u2 u3 u4 u5 u6 T0 T1 B0
      obtain ⟨t0, t1, t2, t3, t4, t5, t6⟩ := S1.out.cells
      obtain ⟨u0, u1, u2, u3, u4, u5, u6⟩ := S2.out.cells
      go_wp2_with fail
      refine (HOA.out _).mono ?_
      rintro e w2 ⟨rfl, hb2⟩
      have B2 := Lib.hid (B1.out.trans (hb2.mono B1.out.size))
      have S3 := Lib.hid (S1.out.later hb2)
      have S4 := Lib.hid (S2.out.later hb2)
      clear hb2 t0 t1 t2 t3 t4 t5 t6 u0 u1 u2 u3 u4 u5 u6 S1 S2 B1
      obtain ⟨t0, t1, t2, t3, t4, t5, t6⟩ := S3.out.cells
      obtain ⟨u0, u1, u2, u3, u4, u5, u6⟩ := S4.out.cells
      go_wp2
      go_ret
      exact ⟨rfl, B2.out⟩
  · have hW : winB r z s y = false := by unfold winB; rw [Bool.eq_false_iff.2 h1]; simp
    rw [hW]
    rw [Bool.eq_false_iff.2 h1] at HOC
    clear h1 hW
    go_enter Tryz.func69, Tryz.ntmps69
    go_upto_region 1 with (fail)
    generalize (w.alloc (.cells #[.int .i64 r, .int .i64 z.1, .int .i64 z.2] 32)).alloc (.cells #[.int .i64 s, .int .i64 y.1, .int .i64 y.2] 32) = w0 at *
    obtain ⟨t0, t1, t2, t3, t4, t5, t6⟩ := T0.out.cells
    obtain ⟨u0, u1, u2, u3, u4, u5, u6⟩ := T1.out.cells
    go_wp2_with fail
    refine (HOC.out _).mono ?_
    rintro e w1 ⟨rfl, hb1⟩
    have B1 := Lib.hid (B0.out.trans (hb1.mono B0.out.size))
    have S1 := Lib.hid (T0.out.later hb1)
    have S2 := Lib.hid (T1.out.later hb1)
    clear hb1 t0 t1 t2 t3 t4 t5 t6 u0 u1 u2 u3 u4 u5 u6 T0 T1 B0
    obtain ⟨t0, t1, t2, t3, t4, t5, t6⟩ := S1.out.cells
    obtain ⟨u0, u1, u2, u3, u4, u5, u6⟩ := S2.out.cells
    go_wp2
    go_ret
    exact ⟨rfl, B1.out⟩
theorem cvE_cases (w0 : Nat) : (cvE w0 = 0 ∧ isW w0 = true) ∨ (cvE w0 = 5 ∧ isW w0 = false) := by
  unfold cvE
  by_cases h : isW w0 = true
  · exact .inl ⟨by rw [if_pos h], h⟩
  · exact .inr ⟨by rw [if_neg h], Bool.eq_false_iff.2 h⟩
def inB (a b : Nat) : Bool := isW a && wiB a b
set_option maxRecDepth 100000 in
set_option maxHeartbeats 4000000 in
theorem wordin_any (a b : Nat) (ha : a < 18446744073709551616) (hb : b < 18446744073709551616) (w : World) : Calls Tryz.prog 38 #[.int .u64 a, .int .u64 b] w fun e w' => e = .returned (.bool (inB a b)) ∧ Below w.heap.size w w' := by
  have HA := Lib.hid (rcell_any a ha)
  have HB := Lib.hid (rcell_any b hb)
  have HW := Lib.hid (rwithin_any (cvR a) (cvR b) (cvZ a) (cvZ b))
  have HV : Hid (inB a b = (isW a && (isW b && winB (cvR a) (cvZ a) (cvR b) (cvZ b)))) := rfl
  rw [HV.out]
  generalize winB (cvR a) (cvZ a) (cvR b) (cvZ b) = o at *
  generalize cvR a = r at *
  generalize cvZ a = z at *
  generalize cvR b = s at *
  generalize cvZ b = y at *
  clear HV
  simp only [vC] at *
  rcases cvE_cases a with ⟨ea, wa⟩ | ⟨ea, wa⟩ <;> rcases cvE_cases b with ⟨eb, wb⟩ | ⟨eb, wb⟩ <;> rw [ea] at HA <;> rw [eb] at HB <;> rw [wa, wb] <;> clear ea wa eb wb
  · go_enter Tryz.func38, Tryz.ntmps38
    go_wp2_with fail
    refine (HA.out _).mono ?_
    rintro e w1 ⟨rfl, hb1⟩
    have B1 : Hid (Below w.heap.size w (w1.alloc (.cells #[.int .i64 r, .int .i64 z.1, .int .i64 z.2] 32))) := hb1.alloc hb1.size _
    have T1 : Hid (Tri (w1.alloc (.cells #[.int .i64 r, .int .i64 z.1, .int .i64 z.2] 32)) w1.heap.size r z) := heap_new _ _ _ rfl
    clear hb1
    go_upto_region 2 with (fail)
    generalize w1.alloc (.cells #[.int .i64 r, .int .i64 z.1, .int .i64 z.2] 32) = w2 at *
    go_wp2_with fail
    refine (HB.out _).mono ?_
    rintro e w3 ⟨rfl, hb3⟩
    have hb4 := hb3.alloc hb3.size (.cells #[.int .i64 s, .int .i64 y.1, .int .i64 y.2] 32)
    have B2 : Hid (Below w.heap.size w (w3.alloc (.cells #[.int .i64 s, .int .i64 y.1, .int .i64 y.2] 32))) := B1.out.trans (hb4.mono B1.out.size)
    have T2 := Lib.hid (T1.out.later hb4)
    have T3 : Hid (Tri (w3.alloc (.cells #[.int .i64 s, .int .i64 y.1, .int .i64 y.2] 32)) w3.heap.size s y) := heap_new _ _ _ rfl
    clear hb3 hb4 B1 T1
    go_upto_region 3 with (fail)
    generalize w3.alloc (.cells #[.int .i64 s, .int .i64 y.1, .int .i64 y.2] 32) = w4 at *
    obtain ⟨t0, t1, t2, t3, t4, t5, t6⟩ := T2.out.cells
    obtain ⟨u0, u1, u2, u3, u4, u5, u6⟩ := T3.out.cells
    go_wp2_with fail
    refine (HW.out _).mono ?_
    rintro e w5 ⟨rfl, hb5⟩
    have B3 := Lib.hid (B2.out.trans (hb5.mono B2.out.size))
    clear hb5 B2 T2 T3 t0 t1 t2 t3 t4 t5 t6 u0 u1 u2 u3 u4 u5 u6
    go_wp2
    go_ret
    exact ⟨rfl, B3.out⟩
  · go_enter Tryz.func38, Tryz.ntmps38
    go_wp2_with fail
    refine (HA.out _).mono ?_
    rintro e w1 ⟨rfl, hb1⟩
    have B1 : Hid (Below w.heap.size w (w1.alloc (.cells #[.int .i64 r, .int .i64 z.1, .int .i64 z.2] 32))) := hb1.alloc hb1.size _
    have T1 : Hid (Tri (w1.alloc (.cells #[.int .i64 r, .int .i64 z.1, .int .i64 z.2] 32)) w1.heap.size r z) := heap_new _ _ _ rfl
    clear hb1
    go_upto_region 2 with (fail)
    generalize w1.alloc (.cells #[.int .i64 r, .int .i64 z.1, .int .i64 z.2] 32) = w2 at *
    go_wp2_with fail
    refine (HB.out _).mono ?_
    rintro e w3 ⟨rfl, hb3⟩
    have hb4 := hb3.alloc hb3.size (.cells #[.int .i64 s, .int .i64 y.1, .int .i64 y.2] 32)
    have B2 : Hid (Below w.heap.size w (w3.alloc (.cells #[.int .i64 s, .int .i64 y.1, .int .i64 y.2] 32))) := B1.out.trans (hb4.mono B1.out.size)
    have T2 := Lib.hid (T1.out.later hb4)
    have T3 : Hid (Tri (w3.alloc (.cells #[.int .i64 s, .int .i64 y.1, .int .i64 y.2] 32)) w3.heap.size s y) := heap_new _ _ _ rfl
    clear hb3 hb4 B1 T1
    go_upto_region 3 with (fail)
    generalize w3.alloc (.cells #[.int .i64 s, .int .i64 y.1, .int .i64 y.2] 32) = w4 at *
    go_wp2
    go_ret
    exact ⟨rfl, B2.out⟩
  · go_enter Tryz.func38, Tryz.ntmps38
    go_wp2_with fail
    refine (HA.out _).mono ?_
    rintro e w1 ⟨rfl, hb1⟩
    have B1 : Hid (Below w.heap.size w (w1.alloc (.cells #[.int .i64 r, .int .i64 z.1, .int .i64 z.2] 32))) := hb1.alloc hb1.size _
    have T1 : Hid (Tri (w1.alloc (.cells #[.int .i64 r, .int .i64 z.1, .int .i64 z.2] 32)) w1.heap.size r z) := heap_new _ _ _ rfl
    clear hb1
    go_upto_region 2 with (fail)
    generalize w1.alloc (.cells #[.int .i64 r, .int .i64 z.1, .int .i64 z.2] 32) = w2 at *
    go_wp2_with fail
    refine (HB.out _).mono ?_
    rintro e w3 ⟨rfl, hb3⟩
    have hb4 := hb3.alloc hb3.size (.cells #[.int .i64 s, .int .i64 y.1, .int .i64 y.2] 32)
    have B2 : Hid (Below w.heap.size w (w3.alloc (.cells #[.int .i64 s, .int .i64 y.1, .int .i64 y.2] 32))) := B1.out.trans (hb4.mono B1.out.size)
    have T2 := Lib.hid (T1.out.later hb4)
    have T3 : Hid (Tri (w3.alloc (.cells #[.int .i64 s, .int .i64 y.1, .int .i64 y.2] 32)) w3.heap.size s y) := heap_new _ _ _ rfl
    clear hb3 hb4 B1 T1
    go_upto_region 3 with (fail)
    generalize w3.alloc (.cells #[.int .i64 s, .int .i64 y.1, .int .i64 y.2] 32) = w4 at *
    go_wp2
    go_ret
    exact ⟨rfl, B2.out⟩
  · go_enter Tryz.func38, Tryz.ntmps38
    go_wp2_with fail
    refine (HA.out _).mono ?_
    rintro e w1 ⟨rfl, hb1⟩
    have B1 : Hid (Below w.heap.size w (w1.alloc (.cells #[.int .i64 r, .int .i64 z.1, .int .i64 z.2] 32))) := hb1.alloc hb1.size _
    have T1 : Hid (Tri (w1.alloc (.cells #[.int .i64 r, .int .i64 z.1, .int .i64 z.2] 32)) w1.heap.size r z) := heap_new _ _ _ rfl
    clear hb1
    go_upto_region 2 with (fail)
    generalize w1.alloc (.cells #[.int .i64 r, .int .i64 z.1, .int .i64 z.2] 32) = w2 at *
    go_wp2_with fail
    refine (HB.out _).mono ?_
    rintro e w3 ⟨rfl, hb3⟩
    have hb4 := hb3.alloc hb3.size (.cells #[.int .i64 s, .int .i64 y.1, .int .i64 y.2] 32)
    have B2 : Hid (Below w.heap.size w (w3.alloc (.cells #[.int .i64 s, .int .i64 y.1, .int .i64 y.2] 32))) := B1.out.trans (hb4.mono B1.out.size)
    have T2 := Lib.hid (T1.out.later hb4)
    have T3 : Hid (Tri (w3.alloc (.cells #[.int .i64 s, .int .i64 y.1, .int .i64 y.2] 32)) w3.heap.size s y) := heap_new _ _ _ rfl
    clear hb3 hb4 B1 T1
    go_upto_region 3 with (fail)
    generalize w3.alloc (.cells #[.int .i64 s, .int .i64 y.1, .int .i64 y.2] 32) = w4 at *
    go_wp2
    go_ret
    exact ⟨rfl, B2.out⟩
end Go.Proofs.YtkjfdaleamonaaaGreat
/- The contract of pack.all: the cells of words. -/
namespace Go.Proofs.YtkjfdaleamonaaaGreat
open Go.RowKit Go.Lib Wd

/-- A word's cell. -/
def celW (v : Int) : Cl := (cvR v.toNat, cvZ v.toNat)
theorem cV_snoc (l : List Cl) (c : Cl) : cV (l ++ [c]) = cV l ++ [.int .i64 c.1, .int .i64 c.2.1, .int .i64 c.2.2] := by rw [cV_append]; rfl
/-- What all tells. -/
def ToldA (w : World) (l : List Int) (e : Ending) (w' : World) : Prop :=
  Below w.heap.size w w' ∧ ((allW l = true ∧ ∃ ao c, e = .returned (.tuple #[.slice ao l.length c, .bool true]) ∧ w'.ownsRow w.heap.size 32 3 (.slice ao l.length c) l.length (cV (l.map celW))) ∨ (allW l = false ∧ e = .returned (.tuple #[.slice none 0 0, .bool false])))
set_option maxRecDepth 100000 in
set_option maxHeartbeats 4000000 in
theorem all_any (ao : Option Addr) (c : Nat) (l : List Int) (w : World) (B : Nat) (h : WordsAt w B ao l) (hB : B ≤ w.heap.size) (hn : l.length ≤ 1000000) (h64 : In64 l) :
    Calls Tryz.prog 50 #[.slice ao l.length c] w (ToldA w l) := by
  obtain ⟨i1, hj, hy0, hy1, hy2⟩ := info_parts info_c
  obtain ⟨n, hnn⟩ : ∃ n, l.length = n := ⟨_, rfl⟩
  have HN := Lib.hid hnn
  have HW := Lib.hid h
  have H64 : Hid (∀ k, k < n → 0 ≤ l.getD k 0 ∧ l.getD k 0 < 18446744073709551616) := fun k hk => h64 _ (getD_mem (by rw [hnn]; exact hk))
  have HT : Hid (∀ k, k < n → isW (l.getD k 0).toNat = false → allW l = false) := fun k hk hw => by
    cases ha : allW l with
    | false => rfl
    | true =>
      rw [List.all_eq_true.1 ha _ (getD_mem (by rw [hnn]; exact hk))] at hw
      cases hw
  have HE : Hid ((∀ k, k < n → isW (l.getD k 0).toNat = true) → allW l = true) := fun hall => by
    unfold allW
    rw [List.all_eq_true]
    intro v hv
    obtain ⟨k, hk, rfl⟩ := List.getElem_of_mem hv
    have := hall k (by omega)
    rwa [List.getD_eq_getElem?_getD, List.getElem?_eq_getElem hk, Option.getD_some] at this
  have HTK : Hid (∀ k, k < n → (l.map celW).take (k + 1) = (l.map celW).take k ++ [celW (l.getD k 0)]) := fun k hk => by
    rw [← List.map_take, take_w l (by omega), List.map_append, List.map_take]; rfl
  have HEND : Hid ((l.map celW).take n = l.map celW) := List.take_of_length_le (by rw [List.length_map, hnn]; exact Nat.le_refl _)
  have HFIN : Hid (∀ e w', Below w.heap.size w w' → ((allW l = true ∧ ∃ ao c, e = .returned (.tuple #[.slice ao n c, .bool true]) ∧ w'.ownsRow w.heap.size 32 3 (.slice ao n c) n (cV (l.map celW))) ∨ (allW l = false ∧ e = .returned (.tuple #[.slice none 0 0, .bool false]))) → ToldA w l e w') := fun e w' hb h => ⟨hb, by rw [hnn]; exact h⟩
  rw [hnn] at hn ⊢
  generalize allW l = AW at *
  clear hnn h h64
  go_enter Tryz.func50, Tryz.ntmps50
  go_wp2
  go_loopw [4, 11] (fun sv i wr => ∃ (k : Nat) (oo : Option Addr) (oc : Nat), k ≤ n ∧ i = .int .i64 k ∧ sv = .slice oo k oc ∧ Hid (∀ j, j < k → isW (l.getD j 0).toNat = true) ∧ Hid (wr.ownsRow w.heap.size 32 3 (.slice oo k oc) k (cV ((l.map celW).take k)) ∧ Below w.heap.size w wr)) (fun _ i _ => n - (intOf i).toNat)
  case atStart => exact ⟨0, none, 0, by omega, rfl, rfl, fun j hj => by omega, World.ownsRow_nil _ _ _ _, Below.refl _ _⟩
  case round =>
    obtain ⟨k, oo, oc, hk, rfl, rfl, HA, HI⟩ := hrel
    have hbr := HI.out.2
    have hsz := hbr.size
    by_cases hlt : k < n
    · obtain ⟨g, off, rfl, hg, hc⟩ := (HW.out.below hbr hB) (by rw [HN.out]; omega)
      have c0 := hc k (by rw [HN.out]; exact hlt)
      obtain ⟨v1, v2⟩ := H64.out k hlt
      have ht := HT.out k hlt
      have htk : (l.map celW).take (k + 1) = (l.map celW).take k ++ [(cvR (l.getD k 0).toNat, cvZ (l.getD k 0).toNat)] := HTK.out k hlt
      have hA2 : isW (l.getD k 0).toNat = true → ∀ j, j < k + 1 → isW (l.getD j 0).toNat = true := fun hk2 j hj => by
        by_cases e : j = k
        · rw [e]; exact hk2
        · exact HA.out j (by omega)
      generalize l.getD k 0 = v at *
      obtain ⟨u, rfl⟩ : ∃ u : Nat, v = u := ⟨v.toNat, by omega⟩
      rw [Int.toNat_natCast] at ht hA2 htk
      have hcell := cell_any u (by omega)
      have hgw : g < wr.heap.size := by omega
      clear hc hbr
      by_cases hW : isW u = true
      · have e1 : cvE u = 0 := by unfold cvE; rw [if_pos hW]
        rw [e1] at hcell
        have HC := Lib.hid hcell
        have HA3 := Lib.hid (hA2 hW)
        have HTK2 := Lib.hid htk
        generalize cvR u = r at *
        generalize cvZ u = z at *
        clear hcell e1 hA2 ht hW htk
        simp only [vC] at *
        go_wp2_with fail
        refine (HC.out _).mono ?_
        rintro e w1 ⟨rfl, hb1⟩
        have hsr := HI.out.2.size
        have hal : Below w1.heap.size w1 (w1.alloc (.cells #[.int .i64 r, .int .i64 z.1, .int .i64 z.2] 32)) := (Below.refl _ _).alloc (Nat.le_refl _) _
        have hb2 := hb1.trans (hal.mono hb1.size)
        have T1 : Hid (Tri (w1.alloc (.cells #[.int .i64 r, .int .i64 z.1, .int .i64 z.2] 32)) w1.heap.size r z) := heap_new _ _ _ rfl
        have HO2 := Lib.hid (own_later HI.out.1 hb2)
        have HB2 := Lib.hid (HI.out.2.trans (hb2.mono hsr))
        clear hb1 hal hb2 HI c0
        go_upto_region 6 with (fail)
        generalize w1.alloc (.cells #[.int .i64 r, .int .i64 z.1, .int .i64 z.2] 32) = w2 at *
        obtain ⟨t0, t1, t2, t3, t4, t5, t6⟩ := T1.out.cells
        have hown := HO2.out
        have hs2 := HB2.out.size
        have hbs : w.heap.size ≤ (w2.alloc (.cells #[.int .i64 r, .int .i64 z.1, .int .i64 z.2] 32)).heap.size := by rw [World.size_alloc]; omega
        have HBA := Lib.hid (HB2.out.alloc hs2 (.cells #[.int .i64 r, .int .i64 z.1, .int .i64 z.2] 32))
        clear HO2
        go_wp2_with (at_builtin; refine wpList_append_own_at _ rfl (.tmp 22) (.tmp 24) 35 rfl w.heap.size 32 i1 (.agg #[.int .i64 0, .int .i64 0, .int .i64 0]) 3 24 Tryz.underlying35 hj hy0 hy1 hy2 rfl (by decide) _ _ _ rfl (hown.alloc _) ⟨w2.heap.size, 0, none⟩ 1 1 [.int .i64 r, .int .i64 z.1, .int .i64 z.2] rfl rfl (cells_new _ _ _ _ rfl) (by simp [Value.oneCell']) (by unfold maxLen; omega) (by omega) hbs ?_; intro v' w3 hown1 hgrow _ _)
        have HB3 : Hid (Below w.heap.size w w3) := below_append HBA.out (hown.alloc (.cells #[.int .i64 r, .int .i64 z.1, .int .i64 z.2] 32)) hbs hgrow
        obtain ⟨oo', oc', rfl, -⟩ := own_form hown1
        have HO3 : Hid (w3.ownsRow w.heap.size 32 3 (.slice oo' (k + 1) oc') (k + 1) (cV ((l.map celW).take (k + 1)))) := by rw [HTK2.out, cV_snoc]; exact hown1
        clear hown1 hgrow hown
        go_roundw
        case rel => exact ⟨k + 1, oo', oc', by omega, by go_num, rfl, HA3.out, HO3.out, HB3.out⟩
        case measure => simp [intOf]; omega
      · have e1 : cvE u = 5 := by unfold cvE; rw [if_neg hW]
        have hWf : isW u = false := by simpa using hW
        rw [e1] at hcell
        have HC := Lib.hid hcell
        have HAW := Lib.hid (ht hWf)
        generalize cvR u = r at *
        generalize cvZ u = z at *
        clear hcell e1 hA2 ht hW hWf htk
        simp only [vC] at *
        go_wp2_with fail
        refine (HC.out _).mono ?_
        rintro e w1 ⟨rfl, hb1⟩
        have hal : Below w1.heap.size w1 (w1.alloc (.cells #[.int .i64 r, .int .i64 z.1, .int .i64 z.2] 32)) := (Below.refl _ _).alloc (Nat.le_refl _) _
        have HB2 := Lib.hid (HI.out.2.trans ((hb1.trans (hal.mono hb1.size)).mono hsz))
        clear hb1 hal
        go_wp2
        go_ret2
        exact HFIN.out _ _ HB2.out (.inr ⟨HAW.out, rfl⟩)
    · obtain rfl : n = k := by omega
      have HAW := Lib.hid (HE.out HA.out)
      have ho := HI.out.1
      rw [HEND.out] at ho
      have HO := Lib.hid ho
      clear ho
      go_wp2
      go_ret2
      exact HFIN.out _ _ HI.out.2 (.inl ⟨HAW.out, oo, oc, rfl, HO.out⟩)
end Go.Proofs.YtkjfdaleamonaaaGreat
/- The map of a row as a partial function from IDs to places. -/
namespace Go.Proofs.YtkjfdaleamonaaaGreat
open Go.RowKit Go.Lib
open Go.Maps (Keyed)
open Go.ChangeMaps (setBlock heap_setBlock_same heap_setBlock_other)
open Go.WideElems (findIdx_arr findIdx_born)

theorem keyed_u : Keyed Tryz.prog 25 := Maps.int_keyed Tryz.underlying25
theorem key_u {id : Int} (h : (Lit.int .u64 id).wf = true) : keyOf Tryz.prog 25 (.int .u64 id) = some (.int .u64 id) := Maps.keyOf_int_mk Tryz.underlying25 h
theorem zero_i (w : World) : (zeroValue 3).run Tryz.prog w = .ok (.int .i64 0) w := by kernel_rfl
theorem elem_i {v : Int} (h : (Lit.int .i64 v).wf = true) : plainElem (H := Unit) Tryz.prog 3 (.int .i64 v) = some (.lit (.int .i64 v), []) := plainElem_int Tryz.underlying3 h

def upd (f : Int → Option Int) (id : Int) (v : Option Int) : Int → Option Int := fun x => if x = id then v else f x
/-- Block b is a map of m entries: f. -/
def MapIs (w : World) (b : Nat) (f : Int → Option Int) (m : Nat) : Prop :=
  ∃ D : DataW Unit, w.ownsMap Tryz.prog 25 (plainElem Tryz.prog 3) b m D ∧ Maps.size D = m ∧
    ∀ id, (Lit.int .u64 id).wf = true → Maps.has D (.int .u64 id) = (f id).isSome ∧ D.atKey (.int .u64 id) (.lit (.int .i64 0)) = .lit (.int .i64 ((f id).getD 0))

theorem MapIs.heap {w w' : World} {b m : Nat} {f : Int → Option Int} (h : MapIs w b f m) (hb : w'.heap[b]? = w.heap[b]?) : MapIs w' b f m := by
  obtain ⟨D, ⟨es, clock, h1, h2⟩, h3⟩ := h
  exact ⟨D, ⟨es, clock, by rw [hb]; exact h1, h2⟩, h3⟩
theorem MapIs.lt {w : World} {b m : Nat} {f : Int → Option Int} (h : MapIs w b f m) : b < w.heap.size := by
  obtain ⟨D, h1, _⟩ := h
  exact h1.lt
theorem MapIs.notCells {w : World} {b m : Nat} {f : Int → Option Int} (h : MapIs w b f m) {cs : Array Value} {t : TypeId} {fr : Nat × Nat} : w.heap[b]? ≠ some (.cells cs t fr) := fun e => by
  obtain ⟨D, ⟨es, clock, h1, _⟩, _⟩ := h
  rw [h1] at e
  cases e
theorem mapIs_new (w : World) : MapIs (w.alloc (.map #[] 0)) w.heap.size (fun _ => none) 0 :=
  ⟨.map [], World.ownsMap_made w _ _ _, rfl, fun _ _ => ⟨rfl, rfl⟩⟩
theorem tight {w : World} {b n : Nat} {D : DataW Unit} (h : w.ownsMap Tryz.prog 25 (plainElem Tryz.prog 3) b n D) : w.ownsMap Tryz.prog 25 (plainElem Tryz.prog 3) b (Maps.size D) D := by
  obtain ⟨es, clock, h1, F, h2, rfl⟩ := h
  refine ⟨es, clock, h1, F, ?_, rfl⟩
  rw [Maps.size_eq, length_sorted, List.length_map]
  simp

/-- v, ok := m[id] -/
theorem MapIs.look {w : World} {b m : Nat} {f : Int → Option Int} (h : MapIs w b f m) {id : Int} (hid : (Lit.int .u64 id).wf = true) :
    (Instr.lookup 96 (.map (some b)) (.int .u64 id) true).run Tryz.prog w = .ok (.tuple #[.int .i64 ((f id).getD 0), .bool (f id).isSome]) w := by
  obtain ⟨D, h1, _, h3⟩ := h
  obtain ⟨v, ps, hr, hv⟩ := h1.look_ok keyed_u Tryz.underlying96 (zero_i w) (elem_i (v := 0) (by decide)) (key_u hid)
  obtain ⟨c, rfl, hc, _⟩ := plainElem_int_inv Tryz.underlying3 hv
  rw [hr, (h3 id hid).1]
  have h4 := (h3 id hid).2
  simp only [Prod.mk.injEq] at hc
  rw [hc.1] at h4
  simp only [DataW.lit.injEq, Lit.int.injEq, true_and] at h4
  rw [h4]

theorem mapIs_put {w : World} {b m n : Nat} {f : Int → Option Int} {D : DataW Unit} (ht : Maps.Tidy D) (hs : Maps.size D = m) (h3 : ∀ id, (Lit.int .u64 id).wf = true → Maps.has D (.int .u64 id) = (f id).isSome ∧ D.atKey (.int .u64 id) (.lit (.int .i64 0)) = .lit (.int .i64 ((f id).getD 0)))
    {id v : Int} (hid : (Lit.int .u64 id).wf = true) (h : w.ownsMap Tryz.prog 25 (plainElem Tryz.prog 3) b n (D.put (.int .u64 id) (.lit (.int .i64 v)))) :
    MapIs w b (upd f id (some v)) (if (f id).isSome then m else m + 1) := by
  have hk : WideAt.IsKeyLit (.int .u64 id) := by simp [WideAt.IsKeyLit]
  refine ⟨D.put (.int .u64 id) (.lit (.int .i64 v)), ?_, ?_, fun id' hid' => ?_⟩
  · have e : Maps.size (D.put (.int .u64 id) (.lit (.int .i64 v))) = if (f id).isSome then m else m + 1 := by
      rw [Maps.size_put (k := .int .u64 id) ht, (h3 id hid).1, hs]
    rw [← e]
    exact tight h
  · rw [Maps.size_put (k := .int .u64 id) ht, (h3 id hid).1, hs]
  · unfold upd
    by_cases e : id' = id
    · subst e
      rw [if_pos rfl, Maps.has_put_same ht.isMap hk, Maps.atKey_put_same ht.isMap hk]
      exact ⟨rfl, rfl⟩
    · have hne : (Lit.int .u64 id') ≠ .int .u64 id := fun h => e (by cases h; rfl)
      rw [if_neg e, Maps.has_put_other hne, Maps.atKey_put_other hne]
      exact h3 id' hid'
/-- m[id] = v -/
theorem MapIs.put {w : World} {b m : Nat} {f : Int → Option Int} (h : MapIs w b f m) (hm : m < maxLen) {id v : Int} (hid : (Lit.int .u64 id).wf = true) (hv : (Lit.int .i64 v).wf = true) :
    ∃ w', (Instr.mapUpdate 96 (.map (some b)) (.int .u64 id) (.int .i64 v)).run Tryz.prog w = .ok () w' ∧ MapIs w' b (upd f id (some v)) (if (f id).isSome then m else m + 1) ∧ w.mapTurned w' b := by
  obtain ⟨D, h1, h2, h3⟩ := h
  obtain ⟨w', hr, ho, ht⟩ := h1.store keyed_u Tryz.underlying96 hm (key_u hid) (elem_i hv)
  exact ⟨w', hr, mapIs_put (h1.tidy keyed_u) h2 h3 hid ho, ht⟩
/-- delete(m, id) -/
theorem MapIs.del {w : World} {b m : Nat} {f : Int → Option Int} (h : MapIs w b f m) {id : Int} (hid : (Lit.int .u64 id).wf = true) (hf : (f id).isSome = true) (ty : TypeId) :
    ∃ w', (Builtin.delete_ #[96, 25] ty #[.map (some b), .int .u64 id]).run Tryz.prog w = .ok (.tuple #[]) w' ∧ MapIs w' b (upd f id none) (m - 1) ∧ w.mapTurned w' b := by
  obtain ⟨D, h1, h2, h3⟩ := h
  obtain ⟨w', hr, ho, ht⟩ := h1.drop keyed_u Tryz.underlying96 (key_u hid) ty
  have hsz := Maps.size_del (k := .int .u64 id) (h1.tidy keyed_u)
  rw [(h3 id hid).1, hf, if_pos rfl, h2] at hsz
  refine ⟨w', hr, ⟨D.del (.int .u64 id), ?_, by omega, fun id' hid' => ?_⟩, ht⟩
  · have e : Maps.size (D.del (.int .u64 id)) = m - 1 := by omega
    rw [← e]
    exact tight ho
  · unfold upd
    by_cases e : id' = id
    · subst e
      rw [if_pos rfl, Maps.has_del_same, Maps.atKey_del_same]
      exact ⟨rfl, rfl⟩
    · have hne : (Lit.int .u64 id') ≠ .int .u64 id := fun h => e (by cases h; rfl)
      rw [if_neg e, Maps.has_del_other hne, Maps.atKey_del_other hne]
      exact h3 id' hid'
theorem modify_same {α : Type} (es : Array α) (j : Nat) (e0 : α) (g : α → α) (h : es[j]? = some e0) (hg : g e0 = e0) : es.modify j g = es := by
  apply Array.ext_getElem?
  intro i
  rw [Array.getElem?_modify]
  by_cases e : j = i
  · subst e; simp [h, hg]
  · simp [e]
/-- m[id] = v in two steps, as a tuple's assignment goes, where id is there. -/
theorem MapIs.entry {w : World} {b m : Nat} {f : Int → Option Int} (h : MapIs w b f m) (hm : m < maxLen) {id : Int} (hid : (Lit.int .u64 id).wf = true) (hf : (f id).isSome = true) :
    ∃ v0 st, (Instr.mapEntry 96 (.map (some b)) (.int .u64 id)).run Tryz.prog w = .ok (.tuple #[v0, .int .i64 st]) w ∧
      ∀ v, (Lit.int .i64 v).wf = true → ∃ w2, (Instr.entryStore 96 (.map (some b)) (.int .i64 st) (.int .i64 v)).run Tryz.prog w = .ok () w2 ∧ MapIs w2 b (upd f id (some v)) m ∧ w.mapTurned w2 b := by
  obtain ⟨D, h1, h2, h3⟩ := h
  have htd := h1.tidy keyed_u
  have hhas : Maps.has D (.int .u64 id) = true := by rw [(h3 id hid).1]; exact hf
  obtain ⟨es, clock, hb, F, hs, hD⟩ := h1
  have h1' : w.ownsMap Tryz.prog 25 (plainElem Tryz.prog 3) b m D := ⟨es, clock, hb, F, hs, hD⟩
  rcases keyed_u.find w (key_u hid) es.toList F.keys with ⟨_, g2⟩ | ⟨j, e0, g1, g2, g3⟩
  · exfalso
    rcases Maps.fit_look true keyed_u Tryz.underlying96 (zero_i w) hb F (key_u hid) with ⟨_, _, hat⟩ | ⟨e0, y, he, hk, _⟩
    · rw [hD] at hhas
      rw [Maps.has_false_of_atKey hat] at hhas
      cases hhas
    · exact g2 e0 he hk
  · have hj : es[j]? = some e0 := by simpa using g2
    have hsame : es.modify j (fun e => { e with key := .int .u64 id }) = es := modify_same es j e0 _ hj (by rw [← g3])
    have hidx : es.findIdx? (fun e => ((e.born : Nat) : Int) == ((e0.born : Nat) : Int)) = some j := by
      rw [findIdx_arr]
      exact findIdx_born F.stamped.2.1 g2
    have hset : setBlock w b (.map es clock) = w := by
      have e : w.heap.setIfInBounds b (.map es clock) = w.heap := by
        apply Array.ext_getElem?
        intro i
        by_cases hi : i = b
        · subst hi
          exact (heap_setBlock_same hb _).trans hb.symm
        · exact heap_setBlock_other hb _ hi
      unfold setBlock
      rw [e]
    refine ⟨e0.val, (e0.born : Int), ?_, fun v hv => ?_⟩
    · have : (Instr.mapEntry 96 (.map (some b)) (.int .u64 id)).run Tryz.prog w = .ok (.tuple #[e0.val, .int .i64 (e0.born : Int)]) (setBlock w b (.map es clock)) := by
        simp [Instr.mapEntry, run_underlying Tryz.underlying96, MapKept.run_getObj_map hb, keyed_u.check w false (key_u hid), g1, hj, g3, keyed_u.stays w (key_u hid), hsame, MapKept.run_setObj_map _ hb, Result.andThen, setBlock, goInt]
      rw [hset] at this
      exact this
    · obtain ⟨w', hr4, ho, ht⟩ := h1'.store keyed_u Tryz.underlying96 hm (key_u hid) (elem_i hv)
      have hmod : es.modify j (fun e' => { e' with key := .int .u64 id, val := .int .i64 v }) = es.modify j (fun e' => { e' with val := .int .i64 v }) := by
        apply Array.ext_getElem?
        intro i
        rw [Array.getElem?_modify, Array.getElem?_modify]
        by_cases e : j = i
        · subst e; simp [hj, ← g3]
        · simp [e]
      have hu : (Instr.mapUpdate 96 (.map (some b)) (.int .u64 id) (.int .i64 v)).run Tryz.prog w = .ok () (setBlock w b (.map (es.modify j (fun e' => { e' with val := .int .i64 v })) clock)) := by
        simp [Instr.mapUpdate, run_underlying Tryz.underlying96, MapKept.run_getObj_map hb, keyed_u.check w false (key_u hid), g1, hj, g3, keyed_u.stays w (key_u hid), hmod, MapKept.run_setObj_map _ hb, Result.andThen, setBlock]
      rw [hu] at hr4
      cases hr4
      refine ⟨setBlock w b (.map (es.modify j (fun e' => { e' with val := .int .i64 v })) clock), ?_, ?_, ht⟩
      · simp [Instr.entryStore, MapKept.run_getObj_map hb, asInt, asIntOf, hidx, MapKept.run_setObj_map _ hb, Result.andThen, setBlock]
      · have := mapIs_put htd h2 h3 hid ho
        rwa [hf, if_pos rfl] at this
end Go.Proofs.YtkjfdaleamonaaaGreat
/- The contract of pack.Free. -/
namespace Go.Proofs.YtkjfdaleamonaaaGreat
open Go.RowKit Go.Lib Wd

/-- m[id] -/
theorem MapIs.get {w : World} {b m : Nat} {f : Int → Option Int} (h : MapIs w b f m) {id : Int} (hid : (Lit.int .u64 id).wf = true) :
    (Instr.lookup 96 (.map (some b)) (.int .u64 id) false).run Tryz.prog w = .ok (.int .i64 ((f id).getD 0)) w := by
  obtain ⟨D, h1, _, h3⟩ := h
  obtain ⟨c, hr, hat, -⟩ := h1.lookup_int keyed_u Tryz.underlying96 Tryz.underlying3 (zero_i w) (key_u hid)
  have h4 := (h3 id hid).2
  rw [hat] at h4
  simp only [DataW.lit.injEq, Lit.int.injEq, true_and] at h4
  rw [hr, h4]
theorem wf_u64 {x : Int} (h0 : 0 ≤ x) (h1 : x < 18446744073709551616) : (Lit.int .u64 x).wf = true := by
  unfold Lit.wf; rw [Bool.and_eq_true, decide_eq_true_eq, decide_eq_true_eq]; exact ⟨h0, by show x ≤ 18446744073709551615; omega⟩
/-- The word of the cell of a size around a word's. -/
def ancW (v : Int) (j : Nat) : Int := (wordN j (upN (rW v.toNat - j) (zW v.toNat)) : Int)
def freeB (l : List Int) : Bool := allW l && decide l.Nodup && l.all fun v => (List.range (rW v.toNat)).all fun j => !l.contains (ancW v j)
def inF (l : List Int) (x : Int) : Option Int := if x ∈ l then some 1 else none
set_option maxRecDepth 100000 in
set_option maxHeartbeats 16000000 in
theorem free_any (ao : Option Addr) (c : Nat) (l : List Int) (w : World) (B : Nat) (h : WordsAt w B ao l) (hB : B ≤ w.heap.size) (hn : l.length ≤ 1000000) (h64 : In64 l) :
    Calls Tryz.prog 27 #[.slice ao l.length c] w fun e w' => e = .returned (.bool (freeB l)) ∧ Below w.heap.size w w' := by
  have hall := all_any ao c l w B h hB hn h64
  obtain ⟨n, hnn⟩ : ∃ n, l.length = n := ⟨_, rfl⟩
  have HN := Lib.hid hnn
  have HW := Lib.hid h
  have H64 : Hid (∀ k, k < n → 0 ≤ l.getD k 0 ∧ l.getD k 0 < 18446744073709551616) := fun k hk => h64 _ (getD_mem (by rw [hnn]; exact hk))
  rw [hnn] at hn hall ⊢
  have HALL := Lib.hid hall
  clear hall h
  by_cases ha : allW l = true
  · have HNO : Hid (∀ k, k < n → l.getD k 0 ∈ l.take k → freeB l = false) := fun k hk hm => by
      have : ¬ l.Nodup := fun hnd => by
        rw [← List.take_append_drop k l] at hnd
        have h2 := (List.nodup_append.1 hnd).2.2 _ hm (l.getD k 0) (by rw [drop_w l (by omega)]; exact List.mem_cons_self)
        exact h2 rfl
      unfold freeB
      rw [decide_eq_false this]; simp
    have HAN : Hid (∀ k j, k < n → j < rW (l.getD k 0).toNat → ancW (l.getD k 0) j ∈ l → freeB l = false) := fun k j hk hj hm => by
      unfold freeB
      have : (l.all fun v => (List.range (rW v.toNat)).all fun j => !l.contains (ancW v j)) = false := by
        rw [List.all_eq_false]
        refine ⟨_, getD_mem (l := l) (j := k) (by omega), ?_⟩
        rw [Bool.not_eq_true, List.all_eq_false]
        exact ⟨j, List.mem_range.2 hj, by rw [List.contains_iff_mem.2 hm]; simp⟩
      rw [this]; simp
    have HYE : Hid (l.Nodup → (∀ k, k < n → ∀ j, j < rW (l.getD k 0).toNat → ancW (l.getD k 0) j ∉ l) → freeB l = true) := fun hnd hall => by
      unfold freeB
      rw [ha, decide_eq_true hnd]
      simp only [Bool.true_and]
      rw [List.all_eq_true]
      intro v hv
      rw [List.all_eq_true]
      intro j hj
      obtain ⟨k, hk, rfl⟩ := List.getElem_of_mem hv
      have := hall k (by omega) j
      rw [List.getD_eq_getElem?_getD, List.getElem?_eq_getElem hk, Option.getD_some] at this
      simpa using this (List.mem_range.1 hj)
    have HTK : Hid (∀ k, k < n → l.take (k + 1) = l.take k ++ [l.getD k 0]) := fun k hk => take_w l (by omega)
    have HTE : Hid (l.take n = l) := List.take_of_length_le (by rw [hnn]; exact Nat.le_refl _)
    have HCL : Hid (∀ k, k < n → ∃ (R : Nat) (z : E2), cg (l.map celW) k = ((R : Int), z) ∧ okB R z = true ∧ rW (l.getD k 0).toNat = R ∧ zW (l.getD k 0).toNat = z) := fun k hk => by
      have hw := List.all_eq_true.1 ha _ (getD_mem (l := l) (j := k) (by omega))
      refine ⟨rW (l.getD k 0).toNat, zW (l.getD k 0).toNat, ?_, (cell_word hw).1, rfl, rfl⟩
      unfold cg
      rw [List.getD_eq_getElem?_getD, List.getElem?_map, List.getElem?_eq_getElem (by omega)]
      show celW l[k] = _
      rw [show l[k]'(by omega) = l.getD k 0 by rw [List.getD_eq_getElem?_getD, List.getElem?_eq_getElem (by omega)]; rfl]
      unfold celW cvR cvZ
      rw [if_pos hw, if_pos hw]
    have HAW := Lib.hid ha
    generalize freeB l = FB at *
    have hmk : ∀ w : World, (Instr.makeMap 96 none).run Tryz.prog w = .ok (.map (some w.heap.size)) (w.alloc (.map #[] 0)) := fun _ => by kernel_rfl
    have HCP : Hid (∀ (s : Nat) (y : E2), okB (s + 1 : Nat) y = true → ∀ w, Calls Tryz.prog 61 #[vC (s + 1 : Nat) y] w fun e w' => e = .returned (.tuple #[vC (s : Nat) (upE y), .int .i64 0]) ∧ Below w.heap.size w w') := fun s y hy w => by
      have h := cpar_any ((s + 1 : Nat) : Int) y w
      have e : cpE ((s + 1 : Nat) : Int) y = 0 := by unfold cpE; rw [if_pos hy, if_neg (by omega)]
      rw [e, if_pos rfl, if_pos rfl, show ((s + 1 : Nat) : Int) - 1 = (s : Int) by omega] at h
      exact h
    have HOF : Hid (∀ (k : Nat) (z : E2), okB k z = true → ∀ w, Calls Tryz.prog 51 #[vC k z] w fun e w' => e = .returned (.tuple #[.int .u64 (wordN k z : Nat), .int .i64 0]) ∧ Below w.heap.size w w') := fun k z hz w => by
      have h := of_any (k : Int) z w
      rw [(ofW_ok hz).1, (ofW_ok hz).2.1] at h
      exact h
    simp only [vC] at *
    clear ha hnn h64
    go_enter Tryz.func27, Tryz.ntmps27
    go_wp2_with fail
    refine HALL.out.mono ?_
    rintro e w1 ⟨hb1, h2⟩
    rcases h2 with ⟨-, oo, oc, rfl, ho⟩ | ⟨h2, -⟩
    · rw [HN.out] at ho ⊢
      have HB1 := Lib.hid hb1
      have HCA := Lib.hid (cAt_own (show n = (l.map celW).length by rw [List.length_map, HN.out]) ho)
      have HM0 := Lib.hid (mapIs_new w1)
      have HBM : Hid (Below w1.heap.size w1 (w1.alloc (.map #[] 0))) := (Below.refl _ _).alloc (Nat.le_refl _) _
      clear hb1 ho HALL
      go_upto_region 5 with (fail)
      generalize hmbq : w1.heap.size = mb at *
      have HMB : Hid (w.heap.size ≤ mb) := by show _ ≤ _; rw [← hmbq]; exact HB1.out.size
      have HB2 : Hid (Below w.heap.size w (w1.alloc (.map #[] 0))) := HB1.out.alloc HB1.out.size _
      have HMQ := Lib.hid hmbq
      have HBM1 := Lib.hid HBM.out
      have HM2 : Hid (MapIs (w1.alloc (.map #[] 0)) mb (inF (l.take 0)) 0) := by
        have e : inF (l.take 0) = fun _ => none := by funext x; simp [inF]
        rw [e]; exact HM0.out
      have HL2 : Hid (mb < (w1.alloc (.map #[] 0)).heap.size) := by show _ < _; rw [World.size_alloc, hmbq]; exact Nat.lt_succ_self _
      clear hmbq HBM HM0 HB1 hmk
      generalize w1.alloc (.map #[] 0) = w2 at *
      go_wp2
      go_loopw [22] (fun i wr => ∃ (k m : Nat), k ≤ n ∧ i = .int .i64 k ∧ m ≤ k ∧ Hid (MapIs wr mb (inF (l.take k)) m ∧ (l.take k).Nodup ∧ Turn (fun b => b = mb) w2 wr)) (fun i _ => n - (intOf i).toNat)
      case atStart => exact ⟨0, 0, by omega, rfl, Nat.le_refl _, HM2.out, by simp, Turn.refl _ _⟩
      case round =>
        obtain ⟨k, m, hk, rfl, hm, HI⟩ := hrel
        have HBW : Hid (Below w.heap.size w wr) := HB2.out.trans (HI.out.2.2.below HB2.out.size fun k hk hs => by have := HMB.out; omega)
        by_cases hlt : k < n
        · obtain ⟨g, off, rfl, hg, hc⟩ := (HW.out.below HBW.out hB) (by rw [HN.out]; omega)
          have c0 := hc k (by rw [HN.out]; exact hlt)
          obtain ⟨v1, v2⟩ := H64.out k hlt
          have hno := HNO.out k hlt
          have htk := HTK.out k hlt
          generalize l.getD k 0 = x at *
          have hwf := wf_u64 v1 v2
          have hgw : g < wr.heap.size := by have := HBW.out.size; omega
          by_cases hin : x ∈ l.take k
          · have e1 := HI.out.1.get hwf
            rw [show inF (l.take k) x = some 1 by unfold inF; rw [if_pos hin]] at e1
            simp only [Option.getD_some] at e1
            obtain ⟨w3, e2, hm3, ht3⟩ := HI.out.1.put (by unfold maxLen; omega) hwf (show (Lit.int .i64 2).wf = true by decide)
            have e3 := hm3.get hwf
            rw [show upd (inF (l.take k)) x (some 2) x = some 2 by unfold upd; rw [if_pos rfl]] at e3
            simp only [Option.getD_some] at e3
            have HR := Lib.hid (hno hin)
            have BF : Hid (Below w.heap.size w w3) := HBW.out.grown ht3.grown HBW.out.size fun k hk => by cases hk; exact HMB.out
            clear hno htk hin hm3 ht3 hwf hc
            go_wp2
            go_ret
            exact ⟨by rw [HR.out]; rfl, BF.out⟩
          · have e1 := HI.out.1.get hwf
            rw [show inF (l.take k) x = none by unfold inF; rw [if_neg hin]] at e1
            simp only [Option.getD_none] at e1
            obtain ⟨w3, e2, hm3, ht3⟩ := HI.out.1.put (by unfold maxLen; omega) hwf (show (Lit.int .i64 1).wf = true by decide)
            have e3 := hm3.get hwf
            rw [show upd (inF (l.take k)) x (some 1) x = some 1 by unfold upd; rw [if_pos rfl]] at e3
            simp only [Option.getD_some] at e3
            rw [show inF (l.take k) x = none by unfold inF; rw [if_neg hin]] at hm3
            have hg3 := ht3.grown
            have HI3 : Hid (MapIs w3 mb (inF (l.take (k + 1))) (m + 1) ∧ (l.take (k + 1)).Nodup ∧ Turn (fun b => b = mb) w2 w3) := by
              refine ⟨?_, ?_, ?_⟩
              · have e : upd (inF (l.take k)) x (some 1) = inF (l.take (k + 1)) := by
                  funext y
                  unfold upd inF
                  rw [htk]
                  by_cases e : y = x
                  · subst e; rw [if_pos rfl, if_pos (by simp)]
                  · rw [if_neg e]
                    by_cases h : y ∈ l.take k
                    · rw [if_pos h, if_pos (List.mem_append_left _ h)]
                    · rw [if_neg h, if_neg (fun h2 => (List.mem_append.1 h2).elim h fun h3 => e (List.mem_singleton.1 h3))]
                rw [← e]
                simpa using hm3
              · rw [htk]
                exact List.nodup_append.2 ⟨HI.out.2.1, by simp, fun a ha b hb => by rw [List.mem_singleton.1 hb]; exact fun e => hin (e ▸ ha)⟩
              · have hT := HI.out.2.2
                exact ⟨hg3.os.trans hT.1, hg3.tape.trans hT.2.1, hg3.output.trans hT.2.2.1, Nat.le_trans hT.2.2.2.1 hg3.size, fun j hj hs => (hg3.block j (Nat.lt_of_lt_of_le hj hT.2.2.2.1) (fun e => hs (by cases e; rfl))).trans (hT.2.2.2.2 j hj hs)⟩
            clear hno htk hin hm3 ht3 hwf hg3 HI hc
            go_wp2
            go_roundw
            case rel => exact ⟨k + 1, m + 1, by omega, by go_num, by omega, HI3.out⟩
            case measure => simp [intOf]; omega
        · obtain rfl : k = n := by omega
          have hmm := HI.out.1
          have hnd := HI.out.2.1
          rw [HTE.out] at hmm hnd
          have HMM := Lib.hid hmm
          have HND := Lib.hid hnd
          have HLM : Hid (mb < wr.heap.size) := Nat.lt_of_lt_of_le HL2.out HI.out.2.2.2.2.2.1
          clear hmm hnd hm
          have HCR : Hid (CAt wr oo (l.map celW)) := HCA.out.below (by rw [HMQ.out]; exact HBM1.out.trans (HI.out.2.2.below (Nat.le_of_lt HL2.out) fun k hk hs => by omega))
          have HML : Hid ((l.map celW).length = k) := by show _ = _; rw [List.length_map, HN.out]
          clear HI hlt HCA HBM1 HMQ HM2 HB2
          obtain ⟨wL, rfl⟩ : ∃ wL, wL = wr := ⟨_, rfl⟩
          go_wp2
          go_loopw [37] (fun i wr => ∃ k2 : Nat, k2 ≤ k ∧ i = .int .i64 k2 ∧ Hid ((∀ t, t < k2 → ∀ j, j < rW (l.getD t 0).toNat → ancW (l.getD t 0) j ∉ l) ∧ Below wL.heap.size wL wr)) (fun i _ => k - (intOf i).toNat)
          case atStart => exact ⟨0, by omega, rfl, fun t ht => by omega, Below.refl _ _⟩
          case round =>
            obtain ⟨k2, hk2, rfl, HJ⟩ := hrel
            have hsz := HJ.out.2.size
            by_cases hlt : k2 < k
            · obtain ⟨g, off, rfl, hg, hc⟩ := (HCR.out.below HJ.out.2) (by rw [HML.out]; omega)
              obtain ⟨c0, c1, c2⟩ := hc k2 (by rw [HML.out]; exact hlt)
              obtain ⟨R, z, e1, hok, e2, e3⟩ := HCL.out k2 hlt
              rw [e1] at c0 c1 c2
              simp only at c0 c1 c2
              have han := HAN.out k2
              have HANC : Hid (∀ j, ancW (l.getD k2 0) j = (wordN j (upN (R - j) z) : Int)) := fun j => by unfold ancW; rw [e2, e3]
              have HRW := Lib.hid e2
              have HAK := Lib.hid (fun j (hj : j < rW (l.getD k2 0).toNat) => han j hlt hj)
              have hR := (okB_parts hok).1
              have HUP : Hid (∀ s, s ≤ R → okB s (upN (R - s) z) = true) := fun s hs => upN_ok _ (by rw [show s + (R - s) = R by omega]; exact hok)
              have HU0 : Hid (upN (R - R) z = z) := by show _ = _; rw [Nat.sub_self]; rfl
              have HU1 : Hid (∀ s, s + 1 ≤ R → upE (upN (R - (s + 1)) z) = upN (R - s) z) := fun s hs => by rw [← upN_up, show R - (s + 1) + 1 = R - s by omega]
              have T0 : Hid (Tri (wr.alloc (.cells #[.int .i64 R, .int .i64 z.1, .int .i64 z.2] 32)) wr.heap.size R z) := heap_new _ _ _ rfl
              have B0 : Hid (Below wr.heap.size wr (wr.alloc (.cells #[.int .i64 R, .int .i64 z.1, .int .i64 z.2] 32))) := (Below.refl _ _).alloc (Nat.le_refl _) _
              have HMW : Hid (∀ wx, Below wr.heap.size wr wx → MapIs wx mb (inF l) m) := fun wx hx => HMM.out.heap ((hx.block mb (Nat.lt_of_lt_of_le HLM.out hsz)).trans (HJ.out.2.block mb HLM.out))
              clear hc e1 e2 e3 han hok hg
              go_upto_region 15 with (fail)
              generalize wr.alloc (.cells #[.int .i64 R, .int .i64 z.1, .int .i64 z.2] 32) = w5 at *
              obtain ⟨wo, rfl⟩ : ∃ wo, wo = wr := ⟨_, rfl⟩
              clear c0 c1 c2
              go_loopg [41] R (fun q _ wr => ∃ s : Nat, s ≤ R ∧ s ≤ q ∧ Hid (Tri wr wo.heap.size s (upN (R - s) z) ∧ (∀ j, s ≤ j → j < R → ancW (l.getD k2 0) j ∉ l) ∧ Below wo.heap.size wo wr))
              case atStart => exact ⟨R, Nat.le_refl _, Nat.le_refl _, by rw [HU0.out]; exact T0.out, fun j h1 h2 => by omega, B0.out⟩
              case round =>
                obtain ⟨s, hs, hq, HK⟩ := hrel
                obtain ⟨t0, t1, t2, t3, t4, t5, t6⟩ := HK.out.1.cells
                by_cases hs0 : 0 < s
                · obtain ⟨j, rfl⟩ : ∃ j, s = j + 1 := ⟨s - 1, by omega⟩
                  have HCP1 := Lib.hid (HCP.out j _ (HUP.out (j + 1) hs))
                  have HU := HU1.out j hs
                  rw [HU] at HCP1
                  have hof := HOF.out j _ (HUP.out j (by omega))
                  have hanc := HANC.out j
                  have hakk := HAK.out j (by rw [HRW.out]; omega)
                  generalize upN (R - (j + 1)) z = y at *
                  generalize hp : upN (R - j) z = p at *
                  have HPP := Lib.hid hp
                  have hwb : wordN j p < 18446744073709551616 := by have h1 := HUP.out j (by omega); rw [hp] at h1; have := (wordN_lt h1).1; omega
                  generalize wordN j p = W at *
                  rw [hanc] at hakk
                  have HOF1 := Lib.hid hof
                  have HAKK := Lib.hid hakk
                  have HANJ := Lib.hid hanc
                  have hjq := Nat.lt_of_lt_of_le (Nat.lt_succ_self j) hq
                  have q1 : decide (0 < ((j + 1 : Nat) : Int)) = true := decide_eq_true (by omega)
                  have q1n : decide (0 < j + 1) = true := decide_eq_true (by omega)
                  clear hof hanc hakk HU hp hq
                  go_wp2_with fail
                  refine (HCP1.out _).mono ?_
                  rintro e w6 ⟨rfl, hb6⟩
                  have T6 := HK.out.1.later hb6
                  have hszk := HK.out.2.2.size
                  have B6 := HK.out.2.2.trans (hb6.mono hszk)
                  obtain ⟨p1, p2⟩ := T6.put (j : Int) p
                  have HT7 := Lib.hid p1
                  have HB7 : Hid (Below wo.heap.size wo (((w6.setCell ⟨wo.heap.size, 0, none⟩ (.int .i64 j)).setCell ⟨wo.heap.size, 1, none⟩ (.int .i64 p.1)).setCell ⟨wo.heap.size, 2, none⟩ (.int .i64 p.2))) := below3 B6 (Nat.le_refl _) _ _ _
                  clear t0 t1 t2 t3 t4 t5 t6
                  obtain ⟨t0, t1, t2, t3, t4, t5, t6⟩ := T6.cells
                  have HKA := Lib.hid HK.out.2.1
                  clear hb6 T6 B6 p1 p2 HK HCP1
                  go_upto_region 17 with (fail)
                  clear t0 t1 t2 t3 t4 t5 t6
                  generalize ((w6.setCell ⟨wo.heap.size, 0, none⟩ (.int .i64 j)).setCell ⟨wo.heap.size, 1, none⟩ (.int .i64 p.1)).setCell ⟨wo.heap.size, 2, none⟩ (.int .i64 p.2) = w7 at *
                  obtain ⟨t0, t1, t2, t3, t4, t5, t6⟩ := HT7.out.cells
                  go_wp2_with fail
                  refine (HOF1.out _).mono ?_
                  rintro e w8 ⟨rfl, hb8⟩
                  have HB8 := Lib.hid (HB7.out.trans (hb8.mono HB7.out.size))
                  have HT8 := Lib.hid (HT7.out.later hb8)
                  have hget := (HMW.out w8 HB8.out).get (wf_u64 (x := (W : Int)) (by omega) (by omega))
                  clear hb8 t0 t1 t2 t3 t4 t5 t6 HT7 HB7 HOF1
                  by_cases hin : (W : Int) ∈ l
                  · rw [show inF l (W : Int) = some 1 by unfold inF; rw [if_pos hin]] at hget
                    simp only [Option.getD_some] at hget
                    have HR := Lib.hid (HAKK.out hin)
                    have BF : Hid (Below w.heap.size w w8) := by
                      have h1 := HBW.out
                      exact h1.trans ((HJ.out.2.trans (HB8.out.mono HJ.out.2.size)).mono h1.size)
                    clear hin HAKK
                    go_wp2
                    go_ret
                    exact ⟨by rw [HR.out]; rfl, BF.out⟩
                  · rw [show inF l (W : Int) = none by unfold inF; rw [if_neg hin]] at hget
                    simp only [Option.getD_none] at hget
                    have HK2 : Hid (Tri w8 wo.heap.size j (upN (R - j) z) ∧ (∀ i, j ≤ i → i < R → ancW (l.getD k2 0) i ∉ l) ∧ Below wo.heap.size wo w8) := ⟨by rw [HPP.out]; exact HT8.out, fun i h1 h2 => by
                      by_cases e : i = j
                      · rw [e, HANJ.out]; exact hin
                      · exact HKA.out i (by omega) h2, HB8.out⟩
                    clear hin HAKK HKA HT8 HB8
                    go_wp2
                    go_roundg j
                    case measure => exact hjq
                    case rel => exact ⟨j, by omega, Nat.le_refl _, HK2.out⟩
                · obtain rfl : s = 0 := by omega
                  have q1 : decide ((0 : Int) < ((0 : Nat) : Int)) = false := rfl
                  have HJ2 : Hid ((∀ t, t < k2 + 1 → ∀ j, j < rW (l.getD t 0).toNat → ancW (l.getD t 0) j ∉ l) ∧ Below wL.heap.size wL wr) := ⟨fun t ht j hj => by
                    by_cases e : t = k2
                    · subst e; exact HK.out.2.1 j (Nat.zero_le _) (by rw [HRW.out] at hj; exact hj)
                    · exact HJ.out.1 t (by omega) j hj, HJ.out.2.trans (HK.out.2.2.mono hsz)⟩
                  clear HK HJ
                  go_wp2
                  go_roundw
                  case rel => exact ⟨k2 + 1, by omega, by go_num, HJ2.out⟩
                  case measure => simp [intOf]; omega
            · obtain rfl : k2 = k := by omega
              have HR := Lib.hid (HYE.out HND.out HJ.out.1)
              have BF := Lib.hid (HBW.out.trans (HJ.out.2.mono HBW.out.size))
              clear HJ
              go_wp2
              go_ret
              exact ⟨by rw [HR.out]; rfl, BF.out⟩
    · rw [HAW.out] at h2; cases h2
  · have haf : allW l = false := by simpa using ha
    have hF : freeB l = false := by unfold freeB; rw [haf]; simp
    rw [hF]
    have HAW := Lib.hid haf
    clear ha haf hF hnn h64
    go_enter Tryz.func27, Tryz.ntmps27
    go_wp2_with fail
    refine HALL.out.mono ?_
    rintro e w2 ⟨hb2, h2⟩
    rcases h2 with ⟨h2, -⟩ | ⟨-, rfl⟩
    · rw [HAW.out] at h2; cases h2
    · have HB2 := Lib.hid hb2
      clear hb2
      go_wp2
      go_ret
      exact ⟨rfl, HB2.out⟩
end Go.Proofs.YtkjfdaleamonaaaGreat
/- Contracts of num.Mul at numbers that are not below nought and small, num.Pow of seven; pack.Size. -/
namespace Go.Proofs.YtkjfdaleamonaaaGreat
open Go.RowKit Go.Lib Wd

theorem nsize_any (a : Int) (h0 : 0 ≤ a) (h1 : a < 9223372036854775808) (w : World) : Calls Tryz.prog 126 #[.int .i64 a] w fun e w' => e = .returned (.int .u64 a) ∧ w = w' := by
  have q1 : IntKind.u64.wrap a = a := by rw [IntKind.wrap_u64]; omega
  have q2 : ¬ a < 0 := by omega
  go_enter Tryz.func126, Tryz.ntmps126
  go_wp2
  go_ret
  exact ⟨rfl, rfl⟩
set_option maxRecDepth 100000 in
set_option maxHeartbeats 1000000 in
theorem nmul_nat (a b : Nat) (ha : a < 4611686018427387904) (hb : b < 4611686018427387904) (hp : a * b < 4611686018427387904) (w : World) :
    Calls Tryz.prog 96 #[.int .i64 a, .int .i64 b] w fun e w' => e = .returned (.tuple #[.int .i64 ((a * b : Nat) : Int), .bool true]) ∧ Below w.heap.size w w' := by
  have HA := Lib.hid (nsize_any a (by omega) (by omega))
  have HB := Lib.hid (nsize_any b (by omega) (by omega))
  have hm := mul64_any a b (by omega) (by omega)
  rw [Nat.div_eq_of_lt (by omega), Nat.mod_eq_of_lt (by omega)] at hm
  have HM := Lib.hid hm
  generalize a * b = p at *
  have q1 : ¬ (a : Int) < 0 := by omega
  have q2 : ¬ (b : Int) < 0 := by omega
  have q3 : IntKind.i64.wrap (p : Int) = p := wrap_in (by omega) (by omega)
  have q4 : decide ((9223372036854775808 : Int) < (p : Int)) = false := decide_eq_false (by omega)
  have q5 : ((p : Int) == 9223372036854775808) = false := by rw [beq_eq_false_iff_ne]; omega
  have q6 : ((((0 : Nat) : Int)) != 0) = false := by decide
  clear hm
  go_enter Tryz.func96, Tryz.ntmps96
  go_wp2_with fail
  refine (HA.out _).mono ?_
  rintro e w1 ⟨rfl, rfl⟩
  go_wp2_with fail
  refine (HB.out _).mono ?_
  rintro e w1 ⟨rfl, rfl⟩
  go_wp2_with fail
  refine (HM.out _).mono ?_
  rintro e w1 ⟨rfl, rfl⟩
  go_wp2
  go_ret2
  exact ⟨rfl, Below.refl _ _⟩
theorem seven_le : ∀ {k : Nat}, k ≤ 12 → 7 ^ k ≤ 13841287201 := fun {k} h => Nat.le_trans (Nat.pow_le_pow_right (by decide) h) (by decide)
/-- A block of one cell. -/
def Cel (w : World) (b : Nat) (t : TypeId) (v : Value) : Prop := w.heap[b]? = some (.cells #[v] t (0, 0))
theorem Cel.cell {w : World} {b : Nat} {t : TypeId} {v : Value} (h : Cel w b t v) : w.cell? ⟨b, 0, none⟩ = some v := cell_of_row _ _ 0 _ _ _ h
theorem Cel.frozen {w : World} {b : Nat} {t : TypeId} {v : Value} (h : Cel w b t v) : w.frozen? ⟨b, 0, none⟩ = false := frozen_of_row _ _ _ _ _ h
theorem Cel.lt {w : World} {b : Nat} {t : TypeId} {v : Value} (h : Cel w b t v) : b < w.heap.size := (Array.getElem?_eq_some_iff.1 h).1
theorem Cel.turn {S : Nat → Prop} {w w' : World} {b : Nat} {t : TypeId} {v : Value} (h : Cel w b t v) (ht : Turn S w w') (hs : ¬ S b) : Cel w' b t v := (ht.2.2.2.2 b h.lt hs).trans h
theorem Cel.later {w w' : World} {b : Nat} {t : TypeId} {v : Value} (h : Cel w b t v) (hb : Below w.heap.size w w') : Cel w' b t v := (hb.block b h.lt).trans h
theorem Cel.put {w : World} {b : Nat} {t : TypeId} {v : Value} (h : Cel w b t v) (u : Value) : Cel (w.setCell ⟨b, 0, none⟩ u) b t u := by
  unfold Cel at h ⊢
  rw [Sort.setCell_eq]
  simp [Sort.mapBlock, Array.getElem?_modify, h, Sort.onCells]
theorem Cel.other {w : World} {b : Nat} {t : TypeId} {v : Value} (h : Cel w b t v) {g : Nat} (hg : b ≠ g) (j : Nat) (u : Value) : Cel (w.setCell ⟨g, j, none⟩ u) b t v := (Below.heap_setCell _ _ _ _ hg).trans h
set_option maxRecDepth 100000 in
set_option maxHeartbeats 1000000 in
theorem npow1_any {w : World} {b0 b1 b2 : Nat} {x y : Int} {t0 t1 t2 : TypeId} (h0 : Cel w b0 t0 (.int .i64 7)) (h1 : Cel w b1 t1 (.int .i64 x)) (h2 : Cel w b2 t2 (.bool true)) (h01 : b0 ≠ b1) (h02 : b0 ≠ b2) (h12 : b1 ≠ b2)
    (hm : ∀ w, Calls Tryz.prog 96 #[.int .i64 x, .int .i64 7] w fun e w' => e = .returned (.tuple #[.int .i64 y, .bool true]) ∧ Below w.heap.size w w') :
    Calls Tryz.prog 95 #[.pointer (some ⟨b1, 0, none⟩), .pointer (some ⟨b0, 0, none⟩), .pointer (some ⟨b2, 0, none⟩)] w fun e w' => e = .returned (.tuple #[]) ∧ (Cel w' b0 t0 (.int .i64 7) ∧ Cel w' b1 t1 (.int .i64 y) ∧ Cel w' b2 t2 (.bool true)) ∧ Turn (fun k => k = b1 ∨ k = b2) w w' := by
  have HM := Lib.hid hm
  have c0 := h0.cell
  have c1 := h1.cell
  have l0 := h0.lt
  have l1 := h1.lt
  have HH := Lib.hid (And.intro h0 (And.intro h1 h2))
  clear h0 h1 h2 hm
  go_enter Tryz.func95, Tryz.ntmps95
  go_wp2_with fail
  refine (HM.out _).mono ?_
  rintro e w1 ⟨rfl, hb1⟩
  have d0 := HH.out.1.later hb1
  have d1 := HH.out.2.1.later hb1
  have d2 := HH.out.2.2.later hb1
  have k1 := d1.cell
  have k2 := (d2.other (g := b1) (fun e => h12 e.symm) 0 (.int .i64 y)).cell
  have f1 := d1.frozen
  have f2 := (d2.other (g := b1) (fun e => h12 e.symm) 0 (.int .i64 y)).frozen
  have HF : Hid ((Cel ((w1.setCell ⟨b1, 0, none⟩ (.int .i64 y)).setCell ⟨b2, 0, none⟩ (.bool true)) b0 t0 (.int .i64 7) ∧ Cel ((w1.setCell ⟨b1, 0, none⟩ (.int .i64 y)).setCell ⟨b2, 0, none⟩ (.bool true)) b1 t1 (.int .i64 y) ∧ Cel ((w1.setCell ⟨b1, 0, none⟩ (.int .i64 y)).setCell ⟨b2, 0, none⟩ (.bool true)) b2 t2 (.bool true)) ∧ Turn (fun k => k = b1 ∨ k = b2) w ((w1.setCell ⟨b1, 0, none⟩ (.int .i64 y)).setCell ⟨b2, 0, none⟩ (.bool true))) := by
    refine ⟨⟨(d0.other h01 _ _).other h02 _ _, (d1.put _).other h12 _ _, (d2.other (fun e => h12 e.symm) _ _).put _⟩, ?_⟩
    exact ((Turn.of_below hb1).setCell (a := ⟨b1, 0, none⟩) (.inl rfl) _).setCell (a := ⟨b2, 0, none⟩) (.inr rfl) _
  have r1 := d1.lt
  have r2 := d2.lt
  clear hb1 HH d0 d1 d2 c0 c1
  go_wp2
  go_end0
  exact ⟨rfl, HF.out⟩
set_option maxRecDepth 100000 in
set_option maxHeartbeats 1000000 in
theorem npow_seven {k : Nat} (hk : k ≤ 12) (w : World) : Calls Tryz.prog 64 #[.int .i64 7, .int .i64 k] w fun e w' => e = .returned (.tuple #[.int .i64 ((7 ^ k : Nat) : Int), .bool true]) ∧ Below w.heap.size w w' := by
  have HS : Hid (∀ j, j < 12 → ∀ w, Calls Tryz.prog 96 #[.int .i64 ((7 ^ j : Nat) : Int), .int .i64 7] w fun e w' => e = .returned (.tuple #[.int .i64 ((7 ^ (j + 1) : Nat) : Int), .bool true]) ∧ Below w.heap.size w w') := fun j hj w => by
    have h1 := seven_le (k := j) (by omega)
    have h2 := seven_le (k := j + 1) (by omega)
    rw [Nat.pow_succ] at h2 ⊢
    exact nmul_nat (7 ^ j) 7 (by omega) (by decide) (by omega) w
  have hmf : ∀ (fn : Fn) (first cap : Array Value) (w : World), (Instr.makeFunc fn first cap).run Tryz.prog w = .ok (.func fn first cap) w := fun _ _ _ _ => rfl
  have q1 : ¬ (k : Int) < 0 := by omega
  obtain ⟨p, hp⟩ : ∃ p : Int, ((7 ^ k : Nat) : Int) = p := ⟨_, rfl⟩
  have HP := Lib.hid hp
  rw [hp]
  have H0 : Hid (Cel (((w.alloc (.cells #[.int .i64 7] 2)).alloc (.cells #[.int .i64 1] 2)).alloc (.cells #[.bool true] 4)) w.heap.size 2 (.int .i64 7) ∧ Cel (((w.alloc (.cells #[.int .i64 7] 2)).alloc (.cells #[.int .i64 1] 2)).alloc (.cells #[.bool true] 4)) (w.heap.size + 1) 2 (.int .i64 1) ∧ Cel (((w.alloc (.cells #[.int .i64 7] 2)).alloc (.cells #[.int .i64 1] 2)).alloc (.cells #[.bool true] 4)) (w.heap.size + 1 + 1) 4 (.bool true) ∧ Below w.heap.size w (((w.alloc (.cells #[.int .i64 7] 2)).alloc (.cells #[.int .i64 1] 2)).alloc (.cells #[.bool true] 4))) := by
    have e0 : Cel (w.alloc (.cells #[.int .i64 7] 2)) w.heap.size 2 (.int .i64 7) := heap_new _ _ _ rfl
    have e1 : Cel ((w.alloc (.cells #[.int .i64 7] 2)).alloc (.cells #[.int .i64 1] 2)) (w.heap.size + 1) 2 (.int .i64 1) := heap_new _ _ _ (by simp)
    have e2 : Cel (((w.alloc (.cells #[.int .i64 7] 2)).alloc (.cells #[.int .i64 1] 2)).alloc (.cells #[.bool true] 4)) (w.heap.size + 1 + 1) 4 (.bool true) := heap_new _ _ _ (by simp)
    exact ⟨(e0.later ((Below.refl _ _).alloc (Nat.le_refl _) _)).later ((Below.refl _ _).alloc (Nat.le_refl _) _), e1.later ((Below.refl _ _).alloc (Nat.le_refl _) _), e2, (((Below.refl _ w).alloc (Nat.le_refl _) _).alloc (by simp) _).alloc (by simp; omega) _⟩
  clear hp
  go_enter Tryz.func64, Tryz.ntmps64
  go_upto_region 6 with (fail)
  generalize ((w.alloc (.cells #[.int .i64 7] 2)).alloc (.cells #[.int .i64 1] 2)).alloc (.cells #[.bool true] 4) = w3 at *
  go_wp2
  go_loopw [1] (fun kv wr => ∃ (j m : Nat), j + m = k ∧ kv = .int .i64 m ∧ Hid (Cel wr w.heap.size 2 (.int .i64 7) ∧ Cel wr (w.heap.size + 1) 2 (.int .i64 ((7 ^ j : Nat) : Int)) ∧ Cel wr (w.heap.size + 1 + 1) 4 (.bool true) ∧ Below w.heap.size w wr)) (fun kv _ => (intOf kv).toNat)
  case atStart => exact ⟨0, k, by omega, rfl, H0.out⟩
  case round =>
    obtain ⟨j, m, hjm, rfl, HI⟩ := hrel
    have c2 := HI.out.2.2.1.cell
    have l2 := HI.out.2.2.1.lt
    by_cases hm : 0 < m
    · have HC := Lib.hid (npow1_any HI.out.1 HI.out.2.1 HI.out.2.2.1 (by omega) (by omega) (by omega) (HS.out j (by omega)))
      have HBI := Lib.hid HI.out.2.2.2
      have q2 : decide (0 < (m : Int)) = true := decide_eq_true (by omega)
      have q2n : decide (0 < m) = true := decide_eq_true (by omega)
      have HJ := Lib.hid hjm
      have hm12 : m ≤ 12 := by omega
      clear HI hjm
      go_wp2_with fail
      refine HC.out.mono ?_
      rintro e w4 ⟨rfl, hc4, ht4⟩
      have HI4 : Hid (Cel w4 w.heap.size 2 (.int .i64 7) ∧ Cel w4 (w.heap.size + 1) 2 (.int .i64 ((7 ^ (j + 1) : Nat) : Int)) ∧ Cel w4 (w.heap.size + 1 + 1) 4 (.bool true) ∧ Below w.heap.size w w4) := ⟨hc4.1, hc4.2.1, hc4.2.2, HBI.out.trans (ht4.below HBI.out.size fun k hk hs => by rcases hs with rfl | rfl <;> omega)⟩
      clear hc4 ht4 HC c2 l2
      go_wp2
      go_roundw
      case rel => exact ⟨j + 1, m - 1, by have := HJ.out; omega, by go_num, HI4.out⟩
      case measure => simp [intOf]; omega
    · obtain rfl : j = k := by omega
      obtain rfl : m = 0 := by omega
      have c1 := HI.out.2.1.cell
      rw [HP.out] at c1
      have l1 := HI.out.2.1.lt
      have HB := Lib.hid (HI.out.2.2.2.drew)
      have q2 : decide (0 < (0 : Int)) = false := rfl
      clear HI hjm
      go_wp2_with (first | (with_reducible refine wp_region_lex (by kernel_rfl) (by kernel_rfl) ?_) | (with_reducible refine OnlyG.intro (by kernel_rfl) ?_))
      go_ret2
      exact ⟨rfl, HB.out⟩
end Go.Proofs.YtkjfdaleamonaaaGreat
/- The contract of pack.Size. -/
namespace Go.Proofs.YtkjfdaleamonaaaGreat
open Go.RowKit Go.Lib Wd

set_option maxRecDepth 100000 in
theorem sz1_any {w : World} {b : Nat} {r : Int} {t : TypeId} (c : Cl) (h : Cel w b t (.int .i64 r)) : Calls Tryz.prog 63 #[vC c.1 c.2, .pointer (some ⟨b, 0, none⟩)] w fun e w' => e = .returned (.bool (decide (r < c.1))) ∧ Below w.heap.size w w' := by
  have HL := Lib.hid h
  obtain ⟨x, z⟩ := c
  have T1 : Hid (Tri (w.alloc (.cells #[.int .i64 x, .int .i64 z.1, .int .i64 z.2] 32)) w.heap.size x z) := heap_new _ _ _ rfl
  have HC := Lib.hid (h.later ((Below.refl _ _).alloc (Nat.le_refl _) (.cells #[.int .i64 x, .int .i64 z.1, .int .i64 z.2] 32)))
  have HB : Hid (Below w.heap.size w (w.alloc (.cells #[.int .i64 x, .int .i64 z.1, .int .i64 z.2] 32))) := (Below.refl _ _).alloc (Nat.le_refl _) _
  clear h
  simp only [vC]
  go_enter Tryz.func63, Tryz.ntmps63
  go_upto_region 1 with (fail)
  generalize w.alloc (.cells #[.int .i64 x, .int .i64 z.1, .int .i64 z.2] 32) = w2 at *
  obtain ⟨t0, t1, t2, t3, t4, t5, t6⟩ := T1.out.cells
  have c0 := HC.out.cell
  have l0 := HC.out.lt
  go_wp2
  go_ret
  exact ⟨rfl, HB.out⟩
/-- What IndexFunc tells. -/
def FoundC (l : List Cl) (r : Int) (w : World) (e : Ending) (w' : World) : Prop := ∃ q : Int, e = .returned (.int .i64 q) ∧ decide (0 ≤ q) = l.any (fun c => decide (r < c.1)) ∧ Below w.heap.size w w'
theorem cg_mem {l : List Cl} {k : Nat} (h : k < l.length) : cg l k ∈ l := by
  unfold cg; rw [List.getD_eq_getElem?_getD, List.getElem?_eq_getElem h, Option.getD_some]; exact List.getElem_mem h
theorem cany_no {l : List Cl} {p : Cl → Bool} (h : ∀ j, j < l.length → p (cg l j) = false) : l.any p = false := by
  rw [List.any_eq_false]
  intro c hc
  obtain ⟨i, hi, rfl⟩ := List.getElem_of_mem hc
  have := h i hi
  unfold cg at this
  rw [List.getD_eq_getElem?_getD, List.getElem?_eq_getElem hi, Option.getD_some] at this
  rw [this]; simp
set_option maxRecDepth 100000 in
set_option maxHeartbeats 1000000 in
theorem cindex_any (ao : Option Addr) (c : Nat) (l : List Cl) (w : World) {b : Nat} {r : Int} {t : TypeId} (h : CAt w ao l) (hr : Cel w b t (.int .i64 r)) (hn : l.length ≤ 1000000000) :
    Calls Tryz.prog 94 #[.slice ao l.length c, .func (.func 63) #[] #[.pointer (some ⟨b, 0, none⟩)]] w (FoundC l r w) := by
  obtain ⟨n, hnn⟩ : ∃ n, l.length = n := ⟨_, rfl⟩
  have HN := Lib.hid hnn
  have HW := Lib.hid h
  have HR := Lib.hid hr
  rw [hnn] at hn ⊢
  clear hnn h hr
  go_enter Tryz.func94, Tryz.ntmps94
  go_wp2
  go_loopw [5, 8] (fun _ i wr => ∃ k : Nat, k ≤ n ∧ i = .int .i64 k ∧ Hid ((∀ j, j < k → decide (r < (cg l j).1) = false) ∧ Below w.heap.size w wr)) (fun _ i _ => n - (intOf i).toNat)
  case atStart => exact ⟨0, Nat.zero_le _, rfl, fun j hj => by omega, Below.refl _ _⟩
  case round =>
    obtain ⟨k, hk, rfl, HA⟩ := hrel
    by_cases hlt : k < n
    · obtain ⟨g, off, rfl, hb, hc⟩ := (HW.out.below HA.out.2) (by rw [HN.out]; omega)
      obtain ⟨c0, c1, c2⟩ := hc k (by rw [HN.out]; exact hlt)
      clear hc
      have HY : Hid (decide (r < (cg l k).1) = true → l.any (fun c => decide (r < c.1)) = true) := fun e => List.any_eq_true.2 ⟨_, cg_mem (by rw [HN.out]; exact hlt), e⟩
      have HS : Hid (decide (r < (cg l k).1) = false → ∀ j, j < k + 1 → decide (r < (cg l j).1) = false) := fun e j hj => by
        by_cases ej : j = k
        · rw [ej]; exact e
        · exact HA.out.1 j (by omega)
      have HO := Lib.hid (sz1_any (cg l k) (HR.out.later HA.out.2))
      simp only [vC] at HO
      generalize cg l k = y at c0 c1 c2 HY HS HO
      obtain ⟨o, ho⟩ : ∃ o, decide (r < y.1) = o := ⟨_, rfl⟩
      rw [ho] at HO HY HS
      clear ho
      go_wp2_with fail
      refine HO.out.mono ?_
      rintro e w2 ⟨rfl, hb2⟩
      have HB2 : Hid (Below w.heap.size w w2) := below_later HA.out.2 HA.out.2.size hb2
      clear hb2
      cases o
      · have HS2 := Lib.hid (HS.out rfl)
        clear HY HS
        go_wp2
        go_roundw
        case rel => exact ⟨k + 1, by omega, by go_num, HS2.out, HB2.out⟩
        case measure => simp [intOf]; omega
      · have HF := Lib.hid (HY.out rfl)
        clear HY HS
        go_wp2
        go_ret
        exact ⟨_, rfl, by rw [HF.out]; simp, HB2.out⟩
    · obtain rfl : k = n := by omega
      have HF : Hid (l.any (fun c => decide (r < c.1)) = false) := cany_no (fun j hj => HA.out.1 j (by rw [HN.out] at hj; exact hj))
      have HB := Lib.hid HA.out.2
      clear HA
      go_wp2
      go_ret
      exact ⟨_, rfl, by rw [HF.out]; simp, HB.out⟩
theorem ccont_any (ao : Option Addr) (c : Nat) (l : List Cl) (w : World) {b : Nat} {r : Int} {t : TypeId} (h : CAt w ao l) (hr : Cel w b t (.int .i64 r)) (hn : l.length ≤ 1000000000) :
    Calls Tryz.prog 62 #[.slice ao l.length c, .func (.func 63) #[] #[.pointer (some ⟨b, 0, none⟩)]] w fun e w' => e = .returned (.bool (l.any (fun c => decide (r < c.1)))) ∧ Below w.heap.size w w' := by
  have HI := Lib.hid (cindex_any ao c l w h hr hn)
  obtain ⟨A, hA⟩ : ∃ A, l.any (fun c => decide (r < c.1)) = A := ⟨_, rfl⟩
  have HA := Lib.hid hA
  rw [hA]
  clear h hr hA
  go_enter Tryz.func62, Tryz.ntmps62
  go_wp2_with fail
  refine HI.out.mono ?_
  rintro e w2 ⟨q, rfl, hq, hb⟩
  have HB := Lib.hid hb
  have HQ := Lib.hid hq
  clear hb hq
  go_wp2
  go_ret
  exact ⟨ret_bool (HQ.out.trans HA.out), HB.out⟩
/-- How many cells of a size words come to. -/
def sumS (r : Nat) : List Int → Nat
  | [] => 0
  | v :: l => 7 ^ (r - rW v.toNat) + sumS r l
theorem sumS_append (r : Nat) : ∀ (l m : List Int), sumS r (l ++ m) = sumS r l + sumS r m
  | [], m => by simp [sumS]
  | v :: l, m => by simp only [List.cons_append, sumS, sumS_append r l m]; omega
def szE (l : List Int) (r : Int) : Int :=
  if allW l = false then 5 else if l.any (fun v => decide (r < (rW v.toNat : Int))) = true then 8 else if r < 0 ∨ 12 < r then 1 else if 1099511627776 < sumS r.toNat l then 7 else 0
def szN (l : List Int) (r : Int) : Int := if szE l r = 0 then (sumS r.toNat l : Int) else 0
theorem any_cel (l : List Int) (r : Int) (ha : allW l = true) : (l.map celW).any (fun c => decide (r < c.1)) = l.any (fun v => decide (r < (rW v.toNat : Int))) := by
  have e : ∀ v ∈ l, (celW v).1 = (rW v.toNat : Int) := fun v hv => by
    unfold celW cvR
    rw [if_pos (List.all_eq_true.1 ha v hv)]
  rw [List.any_map, Bool.eq_iff_iff, List.any_eq_true, List.any_eq_true]
  constructor
  · rintro ⟨v, hv, h⟩
    exact ⟨v, hv, by rw [← e v hv]; exact h⟩
  · rintro ⟨v, hv, h⟩
    exact ⟨v, hv, by show decide (r < (celW v).1) = true; rw [e v hv]; exact h⟩
theorem cel_r {l : List Int} (ha : allW l = true) {k : Nat} (hk : k < l.length) : (cg (l.map celW) k).1 = (rW (l.getD k 0).toNat : Int) := by
  unfold cg
  rw [List.getD_eq_getElem?_getD, List.getElem?_map, List.getElem?_eq_getElem hk]
  show (celW l[k]).1 = _
  rw [List.getD_eq_getElem?_getD, List.getElem?_eq_getElem hk, Option.getD_some]
  unfold celW cvR
  rw [if_pos (List.all_eq_true.1 ha _ (List.getElem_mem hk))]
theorem sumS_le (r : Nat) : ∀ {l : List Int} (k : Nat), sumS r (l.take k) ≤ sumS r l := fun {l} k => by
  have h := sumS_append r (l.take k) (l.drop k)
  rw [List.take_append_drop] at h
  omega
theorem sumS_snoc (r : Nat) (l : List Int) {k : Nat} (hk : k < l.length) : sumS r (l.take (k + 1)) = sumS r (l.take k) + 7 ^ (r - rW (l.getD k 0).toNat) := by
  rw [take_w l hk, sumS_append]; rfl
set_option maxRecDepth 100000 in
set_option maxHeartbeats 4000000 in
theorem psize_any (ao : Option Addr) (c : Nat) (l : List Int) (r : Int) (w : World) (B : Nat) (h : WordsAt w B ao l) (hB : B ≤ w.heap.size) (hn : l.length ≤ 1000000) (h64 : In64 l) :
    Calls Tryz.prog 29 #[.slice ao l.length c, .int .i64 r] w fun e w' => e = .returned (.tuple #[.int .i64 (szN l r), .int .i64 (szE l r)]) ∧ Below w.heap.size w w' := by
  have hmf : ∀ (fn : Fn) (first cap : Array Value) (w : World), (Instr.makeFunc fn first cap).run Tryz.prog w = .ok (.func fn first cap) w := fun _ _ _ _ => rfl
  obtain ⟨n, hnn⟩ : ∃ n, l.length = n := ⟨_, rfl⟩
  have HN := Lib.hid hnn
  have HALL := Lib.hid (fun wx hb => all_any ao c l wx B (h.below (C := w.heap.size) hb hB) (Nat.le_trans hB (Below.size hb)) hn h64)
  rw [hnn] at HALL
  rw [hnn] at hn ⊢
  have C0 : Hid (Cel (w.alloc (.cells #[.int .i64 r] 3)) w.heap.size 3 (.int .i64 r)) := heap_new _ _ _ rfl
  have B0 : Hid (Below w.heap.size w (w.alloc (.cells #[.int .i64 r] 3))) := (Below.refl _ _).alloc (Nat.le_refl _) _
  clear h hnn h64
  cases haw : allW l with
  | false =>
    have hE : szE l r = 5 := by unfold szE; rw [if_pos haw]
    have hN : szN l r = 0 := by unfold szN; rw [hE, if_neg (by decide)]
    rw [hE, hN]
    have HAW := Lib.hid haw
    clear hE hN haw
    go_enter Tryz.func29, Tryz.ntmps29
    go_wp2_with fail
    refine (HALL.out _ B0.out).mono ?_
    rintro e w2 ⟨hb2, h2⟩
    rcases h2 with ⟨h2, -⟩ | ⟨-, rfl⟩
    · rw [HAW.out] at h2; cases h2
    · have HB2 := Lib.hid (B0.out.trans (hb2.mono B0.out.size))
      clear hb2
      go_wp2
      go_ret2
      exact ⟨rfl, HB2.out⟩
  | true =>
    have HAW := Lib.hid haw
    have HAN := Lib.hid (any_cel l r haw)
    have HCR := Lib.hid (fun k (hk : k < n) => cel_r haw (l := l) (k := k) (by rw [HN.out]; exact hk))
    have hcase : (l.any (fun v => decide (r < (rW v.toNat : Int))) = true ∧ szE l r = 8) ∨ (l.any (fun v => decide (r < (rW v.toNat : Int))) = false ∧ (r < 0 ∨ 12 < r) ∧ szE l r = 1) ∨ (l.any (fun v => decide (r < (rW v.toNat : Int))) = false ∧ 0 ≤ r ∧ r ≤ 12 ∧ szE l r = if 1099511627776 < sumS r.toNat l then 7 else 0) := by
      unfold szE
      rw [if_neg (by rw [haw]; decide)]
      by_cases h1 : l.any (fun v => decide (r < (rW v.toNat : Int))) = true
      · exact .inl ⟨h1, by rw [if_pos h1]⟩
      · have h1f : l.any (fun v => decide (r < (rW v.toNat : Int))) = false := by simpa using h1
        rw [if_neg h1]
        by_cases h2 : r < 0 ∨ 12 < r
        · exact .inr (.inl ⟨h1f, h2, by rw [if_pos h2]⟩)
        · exact .inr (.inr ⟨h1f, by omega, by omega, by rw [if_neg h2]⟩)
    clear haw
    rcases hcase with ⟨ha, hE⟩ | ⟨ha, hr, hE⟩ | ⟨ha, h0, h12, hE⟩
    · have hN : szN l r = 0 := by unfold szN; rw [hE, if_neg (by decide)]
      rw [hE, hN]
      have hac := HAN.out
      rw [ha] at hac
      have HAC := Lib.hid hac
      clear hE hN ha hac
      go_enter Tryz.func29, Tryz.ntmps29
      go_wp2_with fail
      refine (HALL.out _ B0.out).mono ?_
      rintro e w2 ⟨hb2, h2⟩
      rcases h2 with ⟨-, oo, oc, rfl, ho⟩ | ⟨h2, -⟩
      · rw [HN.out] at ho ⊢
        have HB2 := Lib.hid (B0.out.trans (hb2.mono B0.out.size))
        have hmn : ((l.map celW).length) = n := by rw [List.length_map, HN.out]
        have hcc := ccont_any oo oc (l.map celW) w2 (cAt_own hmn.symm ho) (C0.out.later hb2) (by rw [hmn]; omega)
        rw [hmn, HAC.out] at hcc
        have HCC := Lib.hid hcc
        clear hb2 ho hmn hcc
        go_wp2_with fail
        refine HCC.out.mono ?_
        rintro e w3 ⟨rfl, hb3⟩
        have HB3 := Lib.hid (HB2.out.trans (hb3.mono HB2.out.size))
        clear hb3
        go_wp2
        go_ret2
        exact ⟨rfl, HB3.out⟩
      · rw [HAW.out] at h2; cases h2
    · have hN : szN l r = 0 := by unfold szN; rw [hE, if_neg (by decide)]
      rw [hE, hN]
      have hac := HAN.out
      rw [ha] at hac
      have HAC := Lib.hid hac
      clear hE hN ha hac
      have hr' : (decide (r < 0) = true) ∨ (decide (r < 0) = false ∧ decide (12 < r) = true) := by
        by_cases h : r < 0
        · exact .inl (decide_eq_true h)
        · exact .inr ⟨decide_eq_false h, decide_eq_true (by omega)⟩
      clear hr
      rcases hr' with q1 | ⟨q1, q2⟩
      all_goals
        go_enter Tryz.func29, Tryz.ntmps29
        go_wp2_with fail
        refine (HALL.out _ B0.out).mono ?_
        rintro e w2 ⟨hb2, h2⟩
        rcases h2 with ⟨-, oo, oc, rfl, ho⟩ | ⟨h2, -⟩
        · rw [HN.out] at ho ⊢
          have HB2 := Lib.hid (B0.out.trans (hb2.mono B0.out.size))
          have hmn : ((l.map celW).length) = n := by rw [List.length_map, HN.out]
          have hcc := ccont_any oo oc (l.map celW) w2 (cAt_own hmn.symm ho) (C0.out.later hb2) (by rw [hmn]; omega)
          rw [hmn, HAC.out] at hcc
          have HCC := Lib.hid hcc
          have HC2 := Lib.hid (C0.out.later hb2)
          clear hb2 ho hmn hcc
          go_wp2_with fail
          refine HCC.out.mono ?_
          rintro e w3 ⟨rfl, hb3⟩
          have HB3 := Lib.hid (HB2.out.trans (hb3.mono HB2.out.size))
          have c3 := (HC2.out.later hb3).cell
          have l3 := (HC2.out.later hb3).lt
          clear hb3
          go_wp2
          go_ret2
          exact ⟨rfl, HB3.out⟩
        · rw [HAW.out] at h2; cases h2
    · obtain ⟨R, rfl⟩ : ∃ R : Nat, r = R := ⟨r.toNat, by omega⟩
      have hR : R ≤ 12 := by omega
      have hac := HAN.out
      rw [ha] at hac
      have HAC := Lib.hid hac
      rw [Int.toNat_natCast] at hE
      have HSN := Lib.hid (fun k (hk : k < n) => sumS_snoc R l (k := k) (by rw [HN.out]; exact hk))
      have HSL := Lib.hid (fun k => sumS_le R (l := l) k)
      have HSE : Hid (sumS R (l.take n) = sumS R l) := by show _ = _; rw [List.take_of_length_le (by rw [HN.out]; exact Nat.le_refl _)]
      have HRS : Hid (∀ k, k < n → (rW (l.getD k 0).toNat : Int) ≤ R) := fun k hk => by
        have h1 := List.any_eq_false.1 ha (l.getD k 0) (getD_mem (by rw [HN.out]; exact hk))
        simpa using h1
      have HNO : Hid (1099511627776 < sumS R l → szE l R = 7 ∧ szN l R = 0) := fun h => by
        have h1 : szE l R = 7 := by rw [hE, if_pos h]
        exact ⟨h1, by unfold szN; rw [h1, if_neg (by decide)]⟩
      have HYE : Hid (¬ 1099511627776 < sumS R l → szE l R = 0 ∧ szN l R = (sumS R l : Int)) := fun h => by
        have h1 : szE l R = 0 := by rw [hE, if_neg h]
        exact ⟨h1, by unfold szN; rw [h1, if_pos rfl, Int.toNat_natCast]⟩
      have HPW := Lib.hid (fun (k : Nat) (hk : k ≤ 12) => npow_seven (k := k) hk)
      have HP7 := Lib.hid (fun (k : Nat) (hk : k ≤ 12) => seven_le (k := k) hk)
      have q0 : decide ((R : Int) < 0) = false := decide_eq_false (by omega)
      have q12 : decide (12 < (R : Int)) = false := decide_eq_false (by omega)
      have q12n : decide (12 < R) = false := decide_eq_false (by omega)
      generalize szE l R = EE at *
      generalize szN l R = NN at *
      clear hE ha hac h0 h12
      go_enter Tryz.func29, Tryz.ntmps29
      go_wp2_with fail
      refine (HALL.out _ B0.out).mono ?_
      rintro e w2 ⟨hb2, h2⟩
      rcases h2 with ⟨-, oo, oc, rfl, ho⟩ | ⟨h2, -⟩
      · rw [HN.out] at ho ⊢
        have HB2 := Lib.hid (B0.out.trans (hb2.mono B0.out.size))
        have hmn : ((l.map celW).length) = n := by rw [List.length_map, HN.out]
        have HCA := Lib.hid (cAt_own hmn.symm ho)
        have hcc := ccont_any oo oc (l.map celW) w2 HCA.out (C0.out.later hb2) (by rw [hmn]; omega)
        rw [hmn, HAC.out] at hcc
        have HCC := Lib.hid hcc
        have HC2 := Lib.hid (C0.out.later hb2)
        have HMN := Lib.hid hmn
        clear hb2 ho hmn hcc
        go_wp2_with fail
        refine HCC.out.mono ?_
        rintro e w3 ⟨rfl, hb3⟩
        have HB3 := Lib.hid (HB2.out.trans (hb3.mono HB2.out.size))
        have HC3 := Lib.hid (HC2.out.later hb3)
        have HA3 := Lib.hid (HCA.out.below hb3)
        have c3 := HC3.out.cell
        have l3 := HC3.out.lt
        clear hb3 HCC HC2 HCA
        go_wp2
        go_loopw [8, 34] (fun sv i wr => ∃ (k s : Nat), k ≤ n ∧ i = .int .i64 k ∧ sv = .int .i64 s ∧ s ≤ 1099511627776 ∧ Hid (s = sumS R (l.take k)) ∧ Hid (Below w3.heap.size w3 wr ∧ True)) (fun _ i _ => n - (intOf i).toNat)
        case atStart => exact ⟨0, 0, by omega, rfl, rfl, by omega, rfl, Below.refl _ _, trivial⟩
        case round =>
          obtain ⟨k, s, hk, rfl, rfl, hs, HS, hbr, -⟩ := hrel
          have HBR := Lib.hid hbr
          have c4 := (HC3.out.later hbr).cell
          have l4 := (HC3.out.later hbr).lt
          clear hbr c3 l3
          by_cases hlt : k < n
          · obtain ⟨g, off, rfl, hg, hc⟩ := (HA3.out.below HBR.out) (by rw [HMN.out]; omega)
            obtain ⟨d0, d1, d2⟩ := hc k (by rw [HMN.out]; exact hlt)
            have hrk := HCR.out k hlt
            have hrs := HRS.out k hlt
            have hsn := HSN.out k hlt
            generalize cg (l.map celW) k = y at *
            generalize rW (l.getD k 0).toNat = rk at *
            obtain ⟨y1, y2⟩ := y
            simp only at hrk d0 d1 d2
            subst hrk
            obtain ⟨d, hd⟩ : ∃ d : Nat, R - rk = d := ⟨_, rfl⟩
            have hdI : IntKind.i64.wrap ((R : Int) - (rk : Int)) = (d : Int) := by rw [show (R : Int) - (rk : Int) = (d : Int) by omega]; exact wrap_in (by omega) (by omega)
            have hdI2 : (R : Int) - (rk : Int) = (d : Int) := by omega
            rw [hd] at hsn
            have hpw := HPW.out d (by omega)
            have hp7 := HP7.out d (by omega)
            generalize 7 ^ d = p at *
            have HPP := Lib.hid hpw
            have HSN2 := Lib.hid hsn
            have T4 : Hid (Tri (wr.alloc (.cells #[.int .i64 rk, .int .i64 y2.1, .int .i64 y2.2] 32)) wr.heap.size rk y2) := heap_new _ _ _ rfl
            have hal : Below wr.heap.size wr (wr.alloc (.cells #[.int .i64 rk, .int .i64 y2.1, .int .i64 y2.2] 32)) := (Below.refl _ _).alloc (Nat.le_refl _) _
            have HBA := Lib.hid (HBR.out.trans (hal.mono HBR.out.size))
            have HC4 := Lib.hid ((HC3.out.later HBR.out).later hal)
            clear hc hsn hpw hal hd hrs
            go_upto_region 12 with (fail)
            generalize wr.alloc (.cells #[.int .i64 rk, .int .i64 y2.1, .int .i64 y2.2] 32) = w5 at *
            obtain ⟨t0, t1, t2, t3, t4, t5, t6⟩ := T4.out.cells
            have c5 := HC4.out.cell
            have l5 := HC4.out.lt
            clear c4 l4 d0 d1 d2 T4 HC4
            by_cases hbig : 1099511627776 < s + p
            · obtain ⟨e1, e2⟩ := HNO.out (by have := HSL.out (k + 1); rw [HSN2.out, ← HS.out] at this; omega)
              have HEN := Lib.hid (And.intro e1 e2)
              have q7 : decide (1099511627776 < (s : Int) + p) = true := decide_eq_true (by omega)
              have q7n : decide (1099511627776 < s + p) = true := decide_eq_true hbig
              clear e1 e2 hbig
              go_wp2_with fail
              refine (HPP.out _).mono ?_
              rintro e w6 ⟨rfl, hb6⟩
              have HB6 := Lib.hid (HB3.out.trans ((HBA.out.trans (hb6.mono HBA.out.size)).mono HB3.out.size))
              clear hb6
              go_wp2
              go_ret2
              exact ⟨by rw [HEN.out.1, HEN.out.2]; rfl, HB6.out⟩
            · have q7 : decide (1099511627776 < (s : Int) + p) = false := decide_eq_false (by omega)
              have q7n : decide (1099511627776 < s + p) = false := decide_eq_false hbig
              have HS2 : Hid (s + p = sumS R (l.take (k + 1))) := by show _ = _; rw [HSN2.out, ← HS.out]
              have hs2 : s + p ≤ 1099511627776 := by omega
              clear hbig
              go_wp2_with fail
              refine (HPP.out _).mono ?_
              rintro e w6 ⟨rfl, hb6⟩
              have HB6 := Lib.hid (HBA.out.trans (hb6.mono HBA.out.size))
              clear hb6
              go_wp2
              go_roundw
              case rel => exact ⟨k + 1, s + p, by omega, by go_num, by go_num, hs2, HS2.out, HB6.out, trivial⟩
              case measure => simp [intOf]; omega
          · obtain rfl : k = n := by omega
            obtain ⟨e1, e2⟩ := HYE.out (by rw [← HSE.out, ← HS.out]; omega)
            have HEN : Hid (EE = 0 ∧ NN = s) := ⟨e1, by rw [e2, ← HSE.out, ← HS.out]⟩
            have HB6 := Lib.hid (HB3.out.trans (HBR.out.mono HB3.out.size))
            clear e1 e2
            go_wp2
            go_ret2
            exact ⟨by rw [HEN.out.1, HEN.out.2]; rfl, HB6.out⟩
      · rw [HAW.out] at h2; cases h2
end Go.Proofs.YtkjfdaleamonaaaGreat
/- Contracts of cells.told, side, Meet, Minus. -/
namespace Go.Proofs.YtkjfdaleamonaaaGreat
open Go.RowKit Go.Lib Go.Sort

/-- An answer that may be too long. -/
def toldF (l : List Int) : List Int := if 20000 < l.length then [] else l
def toldE (l : List Int) : Int := if 20000 < l.length then 7 else 0
def Told (w : World) (l : List Int) (e : Ending) (w' : World) : Prop :=
  ∃ ao c, e = .returned (.tuple #[.slice ao (toldF l).length c, .int .i64 (toldE l)]) ∧ WordsAt w' w'.heap.size ao (toldF l) ∧ Below w.heap.size w w' ∧ (ao = none → c = 0)
set_option maxHeartbeats 400000 in
theorem told_any (ao : Option Addr) (c : Nat) (l : List Int) (w : World) (h : WordsAt w w.heap.size ao l) (hn : l.length ≤ 1000000000) (zc : ao = none → c = 0) :
    Calls Tryz.prog 73 #[.slice ao l.length c] w (Told w l) := by
  by_cases h2 : 20000 < l.length
  · have HT : Hid (Told w l (.returned (.tuple #[.slice none 0 0, .int .i64 7])) w) := ⟨none, 0, by unfold toldF toldE; rw [if_pos h2, if_pos h2]; rfl, by unfold toldF; rw [if_pos h2]; exact fun h => by simp at h, Below.refl _ _, fun _ => rfl⟩
    clear zc
    go_enter Tryz.func73, Tryz.ntmps73
    go_wp2
    go_ret2
    exact HT.out
  · have HT : Hid (Told w l (.returned (.tuple #[.slice ao l.length c, .int .i64 0])) w) := ⟨ao, c, by unfold toldF toldE; rw [if_neg h2, if_neg h2], by unfold toldF; rw [if_neg h2]; exact h, Below.refl _ _, zc⟩
    clear zc
    go_enter Tryz.func73, Tryz.ntmps73
    go_wp2
    go_ret2
    exact HT.out

theorem uV_snoc (l : List Int) (x : Int) : uV (l ++ [x]) = uV l ++ [.int .u64 x] := by simp [uV]
theorem take_filter_succ (p : Int → Bool) (l : List Int) {k : Nat} (h : k < l.length) : (l.take (k + 1)).filter p = (l.take k).filter p ++ (if p (l.getD k 0) then [l.getD k 0] else []) := by
  rw [List.take_succ_eq_append_getElem h, List.filter_append]
  have : l.getD k 0 = l[k] := by rw [List.getD_eq_getElem?_getD, List.getElem?_eq_getElem h, Option.getD_some]
  rw [this]
  by_cases hp : p l[k] = true <;> simp [hp]
/-- What a side of two lists comes to. -/
def sideL (p : Int → Bool) (a b : List Int) : List Int := if 20000 < a.length ∨ 20000 < b.length then [] else (setF a).filter p
def sideE (a b : List Int) : Int := if 20000 < a.length ∨ 20000 < b.length then 7 else 0
def Side (w : World) (p : Int → Bool) (a b : List Int) (e : Ending) (w' : World) : Prop :=
  ∃ ao c, e = .returned (.tuple #[.slice ao (sideL p a b).length c, .int .i64 (sideE a b)]) ∧ WordsAt w' w'.heap.size ao (sideL p a b) ∧ Below w.heap.size w w' ∧ (ao = none → c = 0)
/-- A nil row of a call's own has no room. -/
theorem own_nil {w : World} {base n c size : Nat} {e : TypeId} {ao : Option Addr} {xs : List Value} (h : w.ownsRow base e size (.slice ao n c) n xs) : ao = none → c = 0 := fun h0 => by
  subst h0
  rcases h.2 with ⟨h1, _⟩ | ⟨g, cap, cur, hv, _⟩
  · cases h1; rfl
  · cases hv
theorem words_own {w : World} {base n c : Nat} {ao : Option Addr} {l : List Int} (hn : n = l.length) (h : w.ownsRow base 25 1 (.slice ao n c) n (uV l)) : WordsAt w w.heap.size ao l := fun h0 => by
  subst hn
  obtain ⟨ao', c', e, _, hh⟩ := own_form h
  cases e
  obtain ⟨g, rfl, _, hg, hc⟩ := hh h0
  exact ⟨g, 0, rfl, hg, fun i hi => by rw [hc (0 + i) _ (by rw [Nat.zero_add]; exact uV_get l i hi)]⟩

end Go.Proofs.YtkjfdaleamonaaaGreat
/- A row of words behind a pointer (pack.row): what lies in memory; contracts of Len, Less, Swap. -/
namespace Go.Proofs.YtkjfdaleamonaaaGreat
open Go.RowKit Go.Lib

def gw (L : List Int) (i : Nat) : Int := L.getD i 0
/-- Block g holds L, with room for c. -/
def RowU (w : World) (g c : Nat) (L : List Int) : Prop :=
  g < w.heap.size ∧ (∀ i, i < L.length → w.cell? ⟨g, i, none⟩ = some (.int .u64 (gw L i))) ∧ ∀ j, j < c → (w.cell? ⟨g, j, none⟩).isSome = true ∧ w.frozen? ⟨g, j, none⟩ = false
/-- In w, block r is a row: its slice has address vo and room c; it holds L. -/
def RowAt (w : World) (r : Nat) (vo : Option Addr) (c : Nat) (L : List Int) : Prop :=
  w.cell? ⟨r, 0, none⟩ = some (.slice vo L.length c) ∧ (∀ j, w.frozen? ⟨r, j, none⟩ = false) ∧ L.length ≤ c ∧ (vo = none → c = 0) ∧ (0 < c → ∃ g, vo = some ⟨g, 0, none⟩ ∧ g ≠ r ∧ RowU w g c L) ∧ In64 L ∧ L.length ≤ 1000000
theorem RowAt.lt {w : World} {r c : Nat} {vo : Option Addr} {L : List Int} (h : RowAt w r vo c L) : r < w.heap.size := World.block_lt_of_cell? w _ h.1
/-- What a row's slice leads to. -/
theorem RowAt.cells {w : World} {r c : Nat} {vo : Option Addr} {L : List Int} (h : RowAt w r vo c L) (h0 : 0 < L.length) :
    ∃ g, vo = some ⟨g, 0, none⟩ ∧ g < w.heap.size ∧ g ≠ r ∧ (∀ i, i < L.length → w.cell? ⟨g, i, none⟩ = some (.int .u64 (gw L i))) ∧ ∀ i, i < L.length → w.frozen? ⟨g, i, none⟩ = false := by
  obtain ⟨g, e, hgr, hg, h1, h2⟩ := h.2.2.2.2.1 (by have := h.2.2.1; omega)
  exact ⟨g, e, hg, hgr, h1, fun i hi => (h2 i (by have := h.2.2.1; omega)).2⟩
/-- Greatest first. -/
def lessW (a b : Int) : Bool := decide (b < a)
theorem plen_any (vo : Option Addr) (n c : Nat) (w : World) : Calls Tryz.prog 56 #[.slice vo n c] w fun e w' => e = .returned (.int .i64 n) ∧ w = w' := by
  go_enter Tryz.func56, Tryz.ntmps56
  go_wp2
  go_ret
  exact ⟨rfl, rfl⟩
set_option maxRecDepth 100000 in
set_option maxHeartbeats 1000000 in
theorem pless_any {w : World} {g c n i k : Nat} {a b : Int} (hi : i < n) (hk : k < n) (ha : w.cell? ⟨g, i, none⟩ = some (.int .u64 a)) (hb : w.cell? ⟨g, k, none⟩ = some (.int .u64 b)) :
    Calls Tryz.prog 169 #[.slice (some ⟨g, 0, none⟩) n c, .int .i64 i, .int .i64 k] w fun e w' => e = .returned (.bool (lessW a b)) ∧ Below w.heap.size w w' := by
  have HL : Hid (lessW a b = decide (b < a)) := rfl
  go_enter Tryz.func169, Tryz.ntmps169
  go_wp2_with (first | (with_reducible refine wp_region_lex (by kernel_rfl) (by kernel_rfl) ?_) | (with_reducible refine OnlyG.intro (by kernel_rfl) ?_))
  go_ret
  exact ⟨by rw [HL.out]; rfl, (Below.refl _ w).drew⟩
def swapL (L : List Int) (i k : Nat) : List Int := (L.set i (gw L k)).set k (gw L i)
theorem cell_put {w : World} {g i k : Nat} {u v : Value} (h : w.cell? ⟨g, k, none⟩ = some v) : (w.setCell ⟨g, i, none⟩ u).cell? ⟨g, k, none⟩ = some (if k = i then u else v) := by
  by_cases e : k = i
  · subst e; rw [if_pos rfl]; exact World.cell?_setCell_same _ _ _ h
  · rw [if_neg e, World.cell?_setCell_other _ _ _ _ (fun h2 => e (by cases h2; rfl))]; exact h
set_option maxRecDepth 100000 in
set_option maxHeartbeats 1000000 in
theorem pswap_any {w : World} {g c n i k : Nat} {a b : Int} (hi : i < n) (hk : k < n) (ha : w.cell? ⟨g, i, none⟩ = some (.int .u64 a)) (hb : w.cell? ⟨g, k, none⟩ = some (.int .u64 b)) (fa : w.frozen? ⟨g, i, none⟩ = false) (fb : w.frozen? ⟨g, k, none⟩ = false) :
    Calls Tryz.prog 170 #[.slice (some ⟨g, 0, none⟩) n c, .int .i64 i, .int .i64 k] w fun e w' => e = .returned (.tuple #[]) ∧ w' = ((w.setCell ⟨g, i, none⟩ (.int .u64 b)).setCell ⟨g, k, none⟩ (.int .u64 a)).drew := by
  obtain ⟨x, hx⟩ : ∃ x, (w.setCell ⟨g, i, none⟩ (.int .u64 b)).cell? ⟨g, k, none⟩ = some x := ⟨_, cell_put hb⟩
  go_enter Tryz.func170, Tryz.ntmps170
  go_wp2_with fail
  go_region
  all_goals
    go_end0
    exact ⟨rfl, rfl⟩
end Go.Proofs.YtkjfdaleamonaaaGreat
/- A row of words behind a pointer: its methods through an interface; contracts in terms of what the row holds. -/
namespace Go.Proofs.YtkjfdaleamonaaaGreat
open Go.RowKit Go.Lib

theorem wrap_chk {P : Program} {w : World} (xt : TypeId) (a : Addr) (s1 s2 : ByteArray) : (Builtin.ssaWrapNilChk_ #[xt] xt #[.pointer (some a), .string s1, .string s2]).run P w = .ok (.pointer (some a)) w := rfl
/-- A method of a value, called through a pointer in an interface: the value is loaded. -/
theorem method_deref {P : Program} {w : World} {fuel t row f : Nat} {name : String} {v : Value} {e : TypeId} {a : Addr} (hh : ((P.info? t).bind fun i => (i.methods.find? (·.name == name)).map fun m => (m.path.size, m.func)) = some (0, some (f, false)))
    (hu : P.underlying t = some (.pointer row)) (hr : P.underlying row = some (.slice e)) (hc : w.cell? a = some v) : (method (fuel + 1) t (.pointer (some a)) name).run P w = .ok (f, v) w := by
  obtain ⟨i, hi, hh⟩ := Option.bind_eq_some_iff.1 hh
  obtain ⟨m, hm, hh⟩ := Option.map_eq_some_iff.1 hh
  have hp : m.path = #[] := Array.eq_empty_of_size_eq_zero (congrArg Prod.fst hh)
  have hf : m.func = some (f, false) := congrArg Prod.snd hh
  unfold method
  simp only [Sem.run_bind, run_typeInfo w hi, Result.andThen_ok, hm, hp, hf, follow, List.toList_toArray, Sem.run_pure, receiverAt, run_underlying hu, Place.get, strVal, Array.isEmpty_empty, if_true, wrap_chk]
  simp [go_sem, asAddr, loadVar, isAgg, run_underlying hr, hc]
theorem meth_len {w : World} {r n c : Nat} {vo : Option Addr} (h : w.cell? ⟨r, 0, none⟩ = some (.slice vo n c)) : (method 304 90 (.pointer (some ⟨r, 0, none⟩)) "Len").run Tryz.prog w = .ok (56, .slice vo n c) w :=
  method_deref (by kernel_rfl) Tryz.underlying90 Tryz.underlying87 h
theorem meth_less {w : World} {r n c : Nat} {vo : Option Addr} (h : w.cell? ⟨r, 0, none⟩ = some (.slice vo n c)) : (method 304 90 (.pointer (some ⟨r, 0, none⟩)) "Less").run Tryz.prog w = .ok (169, .slice vo n c) w :=
  method_deref (by kernel_rfl) Tryz.underlying90 Tryz.underlying87 h
theorem meth_swap {w : World} {r n c : Nat} {vo : Option Addr} (h : w.cell? ⟨r, 0, none⟩ = some (.slice vo n c)) : (method 304 90 (.pointer (some ⟨r, 0, none⟩)) "Swap").run Tryz.prog w = .ok (170, .slice vo n c) w :=
  method_deref (by kernel_rfl) Tryz.underlying90 Tryz.underlying87 h

/-- What a row's calls may write: its own block, its slice's row. -/
def Foot (r : Nat) (vo : Option Addr) : Nat → Prop := fun k => k = r ∨ ∃ o s, vo = some ⟨k, o, s⟩
theorem RowU.kept {S : Nat → Prop} {w w' : World} {g c : Nat} {L : List Int} (h : RowU w g c L) (ht : Turn S w w') (hS : ¬ S g) : RowU w' g c L :=
  have e : w'.heap[g]? = w.heap[g]? := ht.2.2.2.2 g h.1 hS
  ⟨Nat.lt_of_lt_of_le h.1 ht.2.2.2.1, fun i hi => (World.cell?_of_block (a := ⟨g, i, none⟩) e).trans (h.2.1 i hi), fun j hj => ⟨by rw [World.cell?_of_block (a := ⟨g, j, none⟩) e]; exact (h.2.2 j hj).1, (World.frozen?_of_block (a := ⟨g, j, none⟩) e).trans (h.2.2 j hj).2⟩⟩
theorem RowAt.kept {S : Nat → Prop} {w w' : World} {r c : Nat} {vo : Option Addr} {L : List Int} (h : RowAt w r vo c L) (ht : Turn S w w') (hS : ∀ k, Foot r vo k → ¬ S k) : RowAt w' r vo c L := by
  have hr := h.lt
  obtain ⟨h0, h2, h3, h4, h5, h6⟩ := h
  have e : w'.heap[r]? = w.heap[r]? := ht.2.2.2.2 r hr (hS r (.inl rfl))
  refine ⟨(World.cell?_of_block e).trans h0, fun j => (World.frozen?_of_block (a := ⟨r, j, none⟩) e).trans (h2 j), h3, h4, fun hc => ?_, h6⟩
  obtain ⟨g, e1, e2, e3⟩ := h5 hc
  exact ⟨g, e1, e2, e3.kept ht (hS g (.inr ⟨0, none, e1⟩))⟩
theorem RowAt.below {w w' : World} {r c : Nat} {vo : Option Addr} {L : List Int} (h : RowAt w r vo c L) (hb : Below w.heap.size w w') : RowAt w' r vo c L := h.kept (S := fun _ => False) (Turn.of_below hb) fun _ _ h => h
theorem gw_set {L : List Int} {i : Nat} (hi : i < L.length) (p : Int) (j : Nat) : gw (L.set i p) j = if j = i then p else gw L j := by
  unfold gw
  rw [List.getD_eq_getElem?_getD, List.getElem?_set, List.getD_eq_getElem?_getD]
  by_cases e : i = j
  · subst e; simp [hi]
  · rw [if_neg e, if_neg (fun h => e h.symm)]
theorem swapL_length (L : List Int) (i k : Nat) : (swapL L i k).length = L.length := by simp [swapL]
theorem gw_swap {L : List Int} {i k : Nat} (hi : i < L.length) (hk : k < L.length) (j : Nat) : gw (swapL L i k) j = if j = k then gw L i else if j = i then gw L k else gw L j := by
  unfold swapL
  rw [gw_set (by simpa using hk), gw_set hi]
theorem gw_mem {L : List Int} {i : Nat} (hi : i < L.length) : gw L i ∈ L := by
  unfold gw; rw [List.getD_eq_getElem?_getD, List.getElem?_eq_getElem hi, Option.getD_some]; exact List.getElem_mem hi
theorem mem_gw {L : List Int} {p : Int} (h : p ∈ L) : ∃ i, i < L.length ∧ gw L i = p := by
  obtain ⟨i, hi, rfl⟩ := List.getElem_of_mem h
  exact ⟨i, hi, by unfold gw; rw [List.getD_eq_getElem?_getD, List.getElem?_eq_getElem hi, Option.getD_some]⟩
theorem swap_mem {L : List Int} {i k : Nat} (hi : i < L.length) (hk : k < L.length) {v : Int} (h : v ∈ swapL L i k) : v ∈ L := by
  obtain ⟨j, hj, rfl⟩ := mem_gw h
  rw [swapL_length] at hj
  rw [gw_swap hi hk]
  split
  · exact gw_mem hi
  · split
    · exact gw_mem hk
    · exact gw_mem hj
/-- The row's slice, at its length's name. -/
theorem RowAt.head {w : World} {r c n : Nat} {vo : Option Addr} {L : List Int} (h : RowAt w r vo c L) (hn : L.length = n) : w.cell? ⟨r, 0, none⟩ = some (.slice vo n c) := by rw [← hn]; exact h.1
theorem rless_any {w : World} {r c n : Nat} {vo : Option Addr} {L : List Int} (h : RowAt w r vo c L) (hn : L.length = n) {i k : Nat} (hi : i < n) (hk : k < n) :
    Calls Tryz.prog 169 #[.slice vo n c, .int .i64 i, .int .i64 k] w fun e w' => e = .returned (.bool (lessW (gw L i) (gw L k))) ∧ Below w.heap.size w w' := by
  subst hn
  obtain ⟨g, rfl, hg, hgr, hc, hf⟩ := h.cells (by omega)
  exact pless_any hi hk (hc i hi) (hc k hk)
theorem rswap_any {w : World} {r c n : Nat} {vo : Option Addr} {L : List Int} (h : RowAt w r vo c L) (hn : L.length = n) {i k : Nat} (hi : i < n) (hk : k < n) :
    Calls Tryz.prog 170 #[.slice vo n c, .int .i64 i, .int .i64 k] w fun e w' => e = .returned (.tuple #[]) ∧ RowAt w' r vo c (swapL L i k) ∧ Turn (Foot r vo) w w' := by
  subst hn
  obtain ⟨g, rfl, hg, hgr, hc, hf⟩ := h.cells (by omega)
  refine (pswap_any hi hk (hc i hi) (hc k hk) (hf i hi) (hf k hk)).mono ?_
  rintro e w' ⟨rfl, rfl⟩
  obtain ⟨h0, h2, h3, h4, h5, h6, h7⟩ := h
  have hT : Turn (Foot r (some ⟨g, 0, none⟩)) w ((w.setCell ⟨g, i, none⟩ (.int .u64 (gw L k))).setCell ⟨g, k, none⟩ (.int .u64 (gw L i))).drew := (((Turn.refl _ w).setCell (.inr ⟨0, none, rfl⟩) _).setCell (.inr ⟨0, none, rfl⟩) _).drew
  have er : ∀ p : Addr, p.block ≠ g → (((w.setCell ⟨g, i, none⟩ (.int .u64 (gw L k))).setCell ⟨g, k, none⟩ (.int .u64 (gw L i))).drew).heap[p.block]? = w.heap[p.block]? := fun p hp =>
    (Below.heap_setCell _ _ _ _ hp).trans (Below.heap_setCell _ _ _ _ hp)
  refine ⟨rfl, ⟨?_, fun j => (World.frozen?_of_block (a := ⟨r, j, none⟩) (er ⟨r, j, none⟩ (fun e => hgr e.symm))).trans (h2 j), by rw [swapL_length]; exact h3, h4, fun hc0 => ⟨g, rfl, hgr, Nat.lt_of_lt_of_le hg hT.2.2.2.1, fun j hj => ?_, fun j hj => ?_⟩, fun v hv => h6 v (swap_mem hi hk hv), by rw [swapL_length]; exact h7⟩, hT⟩
  · rw [swapL_length]; exact (World.cell?_of_block (a := ⟨r, 0, none⟩) (er ⟨r, 0, none⟩ (fun e => hgr e.symm))).trans h0
  · rw [swapL_length] at hj
    show ((w.setCell ⟨g, i, none⟩ (.int .u64 (gw L k))).setCell ⟨g, k, none⟩ (.int .u64 (gw L i))).cell? ⟨g, j, none⟩ = _
    rw [cell_put (cell_put (hc j hj)), gw_swap hi hk]
    split
    · rfl
    · split <;> rfl
  · obtain ⟨g', e1, -, h8⟩ := h5 hc0
    cases e1
    obtain ⟨s1, s2⟩ := h8.2.2 j hj
    obtain ⟨x, hx⟩ := Option.isSome_iff_exists.1 s1
    refine ⟨?_, ?_⟩
    · show (((w.setCell ⟨g, i, none⟩ (.int .u64 (gw L k))).setCell ⟨g, k, none⟩ (.int .u64 (gw L i))).cell? ⟨g, j, none⟩).isSome = true
      rw [cell_put (cell_put hx)]; rfl
    · show ((w.setCell ⟨g, i, none⟩ (.int .u64 (gw L k))).setCell ⟨g, k, none⟩ (.int .u64 (gw L i))).frozen? ⟨g, j, none⟩ = false
      rw [World.frozen?_setCell, World.frozen?_setCell]; exact s2
end Go.Proofs.YtkjfdaleamonaaaGreat
/- A row of words behind a pointer: contracts of Push and Pop. -/
namespace Go.Proofs.YtkjfdaleamonaaaGreat
open Go.RowKit Go.Lib

theorem rowU_own {w : World} {B g n cap : Nat} {L : List Int} (hn : L.length = n) (h : w.ownsRow B 25 1 (.slice (some ⟨g, 0, none⟩) n cap) n (uV L)) : RowU w g cap L ∧ n ≤ cap := by
  obtain ⟨cur, hh, hb, h1, h2, h3, h4⟩ := own_block h
  refine ⟨⟨(Array.getElem?_eq_some_iff.1 hh).1, fun i hi => ?_, fun j hj => ⟨?_, by simp [World.frozen?, hh]⟩⟩, h1⟩
  · rw [h.cellAt i (by omega)]; exact uV_get L i hi
  · rw [cell_of_row w g j cur _ _ hh]
    simp [show j < cur.size by omega]
def Grows (w : World) (r : Nat) (vo vo' : Option Addr) : Prop := ∀ g o s, vo' = some ⟨g, o, s⟩ → g < w.heap.size → Foot r vo g
/-- Behind a push: a word more. -/
def Pushed1 (w : World) (r : Nat) (vo : Option Addr) (L : List Int) (x : Int) (w' : World) : Prop := (∃ vo' c', RowAt w' r vo' c' (L ++ [x]) ∧ Grows w r vo vo') ∧ Turn (Foot r vo) w w'
theorem push_end {w w3 : World} {r c g cap : Nat} {vo : Option Addr} {L : List Int} {x : Int} {z : Value} (h : RowAt w r vo c L) (hx : 0 ≤ x ∧ x < 18446744073709551616) (hlen : L.length < 1000000) (hT : Turn (Foot r vo) w w3) (hc : w3.cell? ⟨r, 0, none⟩ = some z)
    (hf : ∀ j, w3.frozen? ⟨r, j, none⟩ = false) (hU : RowU w3 g cap (L ++ [x])) (hgr : g ≠ r) (hcap : L.length + 1 ≤ cap) (hG : g < w.heap.size → Foot r vo g) : Pushed1 w r vo L x (w3.setCell ⟨r, 0, none⟩ (.slice (some ⟨g, 0, none⟩) (L.length + 1) cap)) := by
  have hl : (L ++ [x]).length = L.length + 1 := by simp
  refine ⟨⟨some ⟨g, 0, none⟩, cap, ⟨?_, fun j => by rw [World.frozen?_setCell]; exact hf j, by omega, fun e => (by cases e), fun _ => ⟨g, rfl, hgr, hU.kept (S := fun k => k = r) (Turn.setCell (S := fun k => k = r) (a := ⟨r, 0, none⟩) (Turn.refl _ _) rfl _) hgr⟩, fun v hv => ?_, by omega⟩, fun g' o s e hlt => ?_⟩, hT.setCell (.inl rfl) _⟩
  · rw [hl]; exact World.cell?_setCell_same _ _ _ hc
  · rcases List.mem_append.1 hv with h1 | h1
    · exact h.2.2.2.2.2.1 v h1
    · rw [List.mem_singleton.1 h1]; exact hx
  · cases e; exact hG hlt
theorem setCells_one (w : World) (g o : Nat) (v : Value) : w.setCells g o [v] = w.setCell ⟨g, o, none⟩ v := rfl
set_option maxRecDepth 100000 in
set_option maxHeartbeats 1000000 in
theorem rpush_any {w : World} {r c : Nat} {vo : Option Addr} {L : List Int} (h : RowAt w r vo c L) (x : Int) (hx : 0 ≤ x ∧ x < 18446744073709551616) (hlen : L.length < 1000000) :
    Calls Tryz.prog 172 #[.pointer (some ⟨r, 0, none⟩), .iface 25 (.int .u64 x)] w fun e w' => e = .returned (.tuple #[]) ∧ Pushed1 w r vo L x w' := by
  obtain ⟨i0, hi, hz0, hz1, hz2⟩ := info_parts info_u
  have hta : ∀ (x : Int) (w : World), (Instr.typeAssert (.iface 25 (.int .u64 x)) 20 25 true).run Tryz.prog w = .ok (.tuple #[.int .u64 x, .bool true]) w := fun _ _ => by kernel_rfl
  have hr := h.lt
  have c0 := h.1
  have f0 := h.2.1 0
  have HR := Lib.hid h
  have hal : Below w.heap.size w (w.alloc (.cells #[.int .u64 x] 25)) := (Below.refl _ _).alloc (Nat.le_refl _) _
  have hT0 : Turn (Foot r vo) w (w.alloc (.cells #[.int .u64 x] 25)) := Turn.of_below hal
  have hsz : (w.alloc (.cells #[.int .u64 x] 25)).heap.size = w.heap.size + 1 := World.size_alloc _ _
  have era : (w.alloc (.cells #[.int .u64 x] 25)).heap[r]? = w.heap[r]? := hal.block r hr
  -- what a grown row comes to
  have HG : Hid (∀ v' w3, w3.ownsRow (w.alloc (.cells #[.int .u64 x] 25)).heap.size 25 1 v' (L.length + 1) (uV L ++ [.int .u64 x]) → (w.alloc (.cells #[.int .u64 x] 25)).grownBy w3 none →
      w3.cell? ⟨r, 0, none⟩ = some (.slice vo L.length c) ∧ w3.frozen? ⟨r, 0, none⟩ = false ∧ r < w3.heap.size ∧ Pushed1 w r vo L x (w3.setCell ⟨r, 0, none⟩ v')) := fun v' w3 hown hgrow => by
    obtain ⟨ao, cap, rfl, h1, h2⟩ := own_form hown
    obtain ⟨g, rfl, h3, -, -⟩ := h2 (by omega)
    rw [← uV_snoc] at hown
    obtain ⟨hU, hcap⟩ := rowU_own (by simp) hown
    have er3 : w3.heap[r]? = w.heap[r]? := by rw [hgrow.block r (by omega) (by simp)]; exact era
    have c3 : w3.cell? ⟨r, 0, none⟩ = some (.slice vo L.length c) := (World.cell?_of_block (a := ⟨r, 0, none⟩) er3).trans HR.out.1
    have f3 : ∀ j, w3.frozen? ⟨r, j, none⟩ = false := fun j => (World.frozen?_of_block (a := ⟨r, j, none⟩) er3).trans (HR.out.2.1 j)
    exact ⟨c3, f3 0, World.block_lt_of_cell? _ _ c3, push_end HR.out hx hlen (hT0.trans (T := fun _ => False) (Turn.of_below (below_grown0 hgrow)) fun _ _ h => h.elim) c3 f3 hU (by omega) hcap fun hlt => by omega⟩
  by_cases hc0 : c = 0
  · subst hc0
    obtain rfl : L = [] := List.eq_nil_of_length_eq_zero (by have := h.2.2.1; omega)
    simp only [List.length_nil] at *
    clear h hal hT0 hsz era
    go_enter Tryz.func172, Tryz.ntmps172
    go_wp2_with (at_builtin; refine wpList_append_grows _ rfl (.tmp 15) (.tmp 17) 87 rfl 25 i0 (.int .u64 0) 1 8 Tryz.underlying87 hi hz0 hz1 hz2 rfl (by decide) vo 0 0 [] rfl (fun _ => ⟨rfl, rfl⟩) rfl (fun _ _ j u h => by simp at h) ⟨w.heap.size, 0, none⟩ 1 1 [.int .u64 x] rfl rfl (cells_new _ _ _ _ rfl) (by simp [Value.oneCell']) (by decide) (by unfold maxLen; omega) (by omega) ?_; intro v' w3 hown hgrow; obtain ⟨c3, f3, r3, hP⟩ := HG.out v' w3 hown hgrow; have HP := Lib.hid hP; obtain ⟨vo3, vc3, rfl, -⟩ := own_form hown; clear hP hown hgrow)
    go_end0
    exact ⟨rfl, HP.out⟩
  · obtain ⟨g, rfl, hgr, hU⟩ := h.2.2.2.2.1 (by omega)
    obtain ⟨n, hn⟩ : ∃ n, L.length = n := ⟨_, rfl⟩
    have hnc : n ≤ c := by have := h.2.2.1; omega
    have HU := Lib.hid hU
    have hgs := hU.1
    have ega : (w.alloc (.cells #[.int .u64 x] 25)).heap[g]? = w.heap[g]? := hal.block g hU.1
    have HO : Hid (∀ j u, (uV L)[j]? = some u → (w.alloc (.cells #[.int .u64 x] 25)).cell? ⟨g, 0 + j, none⟩ = some u) := fun j u hj => by
      have hjl : j < L.length := by have := (List.getElem?_eq_some_iff.1 hj).1; rwa [uV_len] at this
      rw [Nat.zero_add, World.cell?_of_block (a := ⟨g, j, none⟩) ega, HU.out.2.1 j hjl, ← hj, uV_get L j hjl]; rfl
    have HS : Hid (n + 1 ≤ c → ∀ j, j < [Value.int .u64 x].length → ((w.alloc (.cells #[.int .u64 x] 25)).cell? ⟨g, 0 + n * 1 + j, none⟩).isSome = true ∧ (w.alloc (.cells #[.int .u64 x] 25)).frozen? ⟨g, 0 + n * 1 + j, none⟩ = false) := fun hroom j hj => by
      have hj0 : j = 0 := by simpa using hj
      subst hj0
      rw [World.cell?_of_block (a := ⟨g, _, none⟩) ega, World.frozen?_of_block (a := ⟨g, _, none⟩) ega]
      exact HU.out.2.2 _ (by omega)
    -- what a row with room comes to
    have HM : Hid (n + 1 ≤ c → ∀ w3, w3 = (w.alloc (.cells #[.int .u64 x] 25)).setCells g (0 + n * 1) [.int .u64 x] →
        w3.cell? ⟨r, 0, none⟩ = some (.slice (some ⟨g, 0, none⟩) n c) ∧ w3.frozen? ⟨r, 0, none⟩ = false ∧ r < w3.heap.size ∧ Pushed1 w r (some ⟨g, 0, none⟩) L x (w3.setCell ⟨r, 0, none⟩ (.slice (some ⟨g, 0, none⟩) (n + 1) c))) := fun hroom w3 hw3 => by
      rw [setCells_one, Nat.zero_add, Nat.mul_one] at hw3
      subst hw3
      have er3 : ((w.alloc (.cells #[.int .u64 x] 25)).setCell ⟨g, n, none⟩ (.int .u64 x)).heap[r]? = w.heap[r]? := (Below.heap_setCell _ _ _ _ (fun e => hgr e.symm)).trans era
      have c3 := (World.cell?_of_block (a := ⟨r, 0, none⟩) er3).trans HR.out.1
      have f3 : ∀ j, ((w.alloc (.cells #[.int .u64 x] 25)).setCell ⟨g, n, none⟩ (.int .u64 x)).frozen? ⟨r, j, none⟩ = false := fun j => (World.frozen?_of_block (a := ⟨r, j, none⟩) er3).trans (HR.out.2.1 j)
      have hT3 : Turn (Foot r (some ⟨g, 0, none⟩)) w ((w.alloc (.cells #[.int .u64 x] 25)).setCell ⟨g, n, none⟩ (.int .u64 x)) := hT0.setCell (.inr ⟨0, none, rfl⟩) _
      have hU3 : RowU ((w.alloc (.cells #[.int .u64 x] 25)).setCell ⟨g, n, none⟩ (.int .u64 x)) g c (L ++ [x]) := by
        refine ⟨Nat.lt_of_lt_of_le hgs hT3.2.2.2.1, fun i hi => ?_, fun j hj => ?_⟩
        · rw [List.length_append] at hi
          simp only [List.length_cons, List.length_nil] at hi
          by_cases e : i = n
          · subst e
            obtain ⟨y, hy⟩ := Option.isSome_iff_exists.1 (HU.out.2.2 i (by omega)).1
            rw [cell_put ((World.cell?_of_block (a := ⟨g, i, none⟩) ega).trans hy), if_pos rfl]
            unfold gw
            rw [List.getD_eq_getElem?_getD, List.getElem?_append_right (by omega), hn, Nat.sub_self]; rfl
          · rw [cell_put ((World.cell?_of_block (a := ⟨g, i, none⟩) ega).trans (HU.out.2.1 i (by omega))), if_neg e]
            unfold gw
            rw [List.getD_eq_getElem?_getD, List.getD_eq_getElem?_getD, List.getElem?_append_left (by omega)]
        · obtain ⟨s1, s2⟩ := HU.out.2.2 j hj
          obtain ⟨y, hy⟩ := Option.isSome_iff_exists.1 s1
          rw [cell_put ((World.cell?_of_block (a := ⟨g, j, none⟩) ega).trans hy), World.frozen?_setCell, World.frozen?_of_block (a := ⟨g, j, none⟩) ega]
          exact ⟨rfl, s2⟩
      rw [hn] at c3
      refine ⟨c3, f3 0, World.block_lt_of_cell? _ _ c3, ?_⟩
      have := push_end HR.out hx hlen hT3 c3 f3 hU3 hgr (by omega) fun _ => .inr ⟨0, none, rfl⟩
      rw [hn] at this
      exact this
    have HN := Lib.hid hn
    rw [hn] at HG c0 hlen
    have hul : (uV L).length = n * 1 := by rw [uV_len, hn, Nat.mul_one]
    have HUL := Lib.hid hul
    clear h hal hT0 hsz era ega hU hn hul
    by_cases hroom : n + 1 ≤ c
    · have hnr : ¬ c < n + 1 := by omega
      go_enter Tryz.func172, Tryz.ntmps172
      go_wp2_with (at_builtin; refine wpList_append_arg _ rfl (.tmp 15) (.tmp 17) 87 rfl 25 i0 (.int .u64 0) 1 8 Tryz.underlying87 hi hz0 hz1 hz2 rfl (by decide) g 0 n c (uV L) rfl HUL.out HO.out ⟨w.heap.size, 0, none⟩ 1 1 [.int .u64 x] rfl rfl (cells_new _ _ _ _ rfl) (by simp [Value.oneCell']) HS.out (by unfold maxLen; omega) (by omega) ?_ (fun hgg => absurd hgg hnr); intro hrr; obtain ⟨w3, hw3⟩ : ∃ w3, w3 = (w.alloc (.cells #[.int .u64 x] 25)).setCells g (0 + n * 1) [.int .u64 x] := ⟨_, rfl⟩; obtain ⟨c3, f3, r3, hP⟩ := HM.out hroom w3 hw3; have HP := Lib.hid hP; rw [← hw3]; clear hP hw3)
      go_end0
      exact ⟨rfl, HP.out⟩
    · go_enter Tryz.func172, Tryz.ntmps172
      go_wp2_with (at_builtin; refine wpList_append_arg _ rfl (.tmp 15) (.tmp 17) 87 rfl 25 i0 (.int .u64 0) 1 8 Tryz.underlying87 hi hz0 hz1 hz2 rfl (by decide) g 0 n c (uV L) rfl HUL.out HO.out ⟨w.heap.size, 0, none⟩ 1 1 [.int .u64 x] rfl rfl (cells_new _ _ _ _ rfl) (by simp [Value.oneCell']) HS.out (by unfold maxLen; omega) (by omega) (fun hgg => absurd hgg hroom) ?_; intro hrr v' w3 hown hgrow; obtain ⟨c3, f3, r3, hP⟩ := HG.out v' w3 hown hgrow; have HP := Lib.hid hP; obtain ⟨vo3, vc3, rfl, -⟩ := own_form hown; clear hP hown hgrow)
      go_end0
      exact ⟨rfl, HP.out⟩
set_option maxRecDepth 100000 in
set_option maxHeartbeats 1000000 in
theorem rpop_any {w : World} {r c : Nat} {vo : Option Addr} {L : List Int} {x : Int} (h : RowAt w r vo c (L ++ [x])) :
    Calls Tryz.prog 171 #[.pointer (some ⟨r, 0, none⟩)] w fun e w' => e = .returned (.iface 25 (.int .u64 x)) ∧ RowAt w' r vo c L ∧ Turn (Foot r vo) w w' := by
  have hl : (L ++ [x]).length = L.length + 1 := by simp
  have hr := h.lt
  have c0 := h.1
  have f0 := h.2.1 0
  have hcap := h.2.2.1
  have hlen := h.2.2.2.2.2.2
  rw [hl] at c0 hcap hlen
  obtain ⟨g, rfl, hgr, hU⟩ := h.2.2.2.2.1 (by omega)
  have cx := hU.2.1 L.length (by omega)
  have hgx : gw (L ++ [x]) L.length = x := by
    unfold gw; rw [List.getD_eq_getElem?_getD, List.getElem?_append_right (Nat.le_refl _)]; simp
  rw [hgx] at cx
  have hgs := hU.1
  have HF : Hid (RowAt (w.setCell ⟨r, 0, none⟩ (.slice (some ⟨g, 0, none⟩) L.length c)) r (some ⟨g, 0, none⟩) c L ∧ Turn (Foot r (some ⟨g, 0, none⟩)) w (w.setCell ⟨r, 0, none⟩ (.slice (some ⟨g, 0, none⟩) L.length c))) := by
    refine ⟨⟨World.cell?_setCell_same _ _ _ c0, fun j => by rw [World.frozen?_setCell]; exact h.2.1 j, by omega, fun e => (by cases e), fun _ => ⟨g, rfl, hgr, ?_⟩, fun v hv => h.2.2.2.2.2.1 v (List.mem_append_left _ hv), by omega⟩, (Turn.refl _ _).setCell (.inl rfl) _⟩
    have hk := hU.kept (S := fun k => k = r) (Turn.setCell (S := fun k => k = r) (a := ⟨r, 0, none⟩) (Turn.refl _ _) rfl (.slice (some ⟨g, 0, none⟩) L.length c)) hgr
    refine ⟨hk.1, fun i hi => ?_, hk.2.2⟩
    rw [hk.2.1 i (by omega)]
    unfold gw
    rw [List.getD_eq_getElem?_getD, List.getElem?_append_left hi, List.getD_eq_getElem?_getD]
  have hw1 : IntKind.i64.wrap ((L.length : Int) + 1 - 1) = (L.length : Int) := by rw [Int.add_sub_cancel]; exact IntWalk.i64_in _ (by omega)
  obtain ⟨n, hn⟩ : ∃ n, L.length = n := ⟨_, rfl⟩
  rw [hn] at c0 hcap hlen cx HF hw1
  clear h hU hl hgx hn
  go_enter Tryz.func171, Tryz.ntmps171
  go_wp2
  go_ret
  exact ⟨rfl, HF.out⟩
end Go.Proofs.YtkjfdaleamonaaaGreat
/- Contracts of container/heap's up and down at a row of words. -/
namespace Go.Proofs.YtkjfdaleamonaaaGreat
open Go.RowKit Go.Lib

def ifc (r : Nat) : Value := .iface 90 (.pointer (some ⟨r, 0, none⟩))
def upF (L : List Int) (j : Nat) : List Int :=
  if j = 0 then L else if lessW (gw L j) (gw L ((j - 1) / 2)) then upF (swapL L ((j - 1) / 2) j) ((j - 1) / 2) else L
termination_by j
decreasing_by omega
theorem upF_zero (L : List Int) : upF L 0 = L := by rw [upF, if_pos rfl]
theorem upF_step {L : List Int} {j i : Nat} (hj : 0 < j) (hi : (j - 1) / 2 = i) (h : lessW (gw L j) (gw L i) = true) : upF L j = upF (swapL L i j) i := by
  rw [upF, if_neg (by omega), hi, h, if_pos rfl]
theorem upF_stop {L : List Int} {j i : Nat} (hi : (j - 1) / 2 = i) (h : lessW (gw L j) (gw L i) = false) : upF L j = L := by
  rw [upF]
  split
  · rfl
  · rw [hi, h]; rfl
set_option maxRecDepth 100000 in
set_option maxHeartbeats 1000000 in
theorem up_any {w : World} {r c : Nat} {vo : Option Addr} {L : List Int} (h : RowAt w r vo c L) {j0 : Nat} (hj0 : j0 < L.length) :
    Calls Tryz.prog 90 #[ifc r, .int .i64 j0] w fun e w' => e = .returned (.tuple #[]) ∧ RowAt w' r vo c (upF L j0) ∧ Turn (Foot r vo) w w' := by
  have hlen := h.2.2.2.2.2.2
  have HR := Lib.hid h
  obtain ⟨n, hn⟩ : ∃ n, L.length = n := ⟨_, rfl⟩
  have HN := Lib.hid hn
  rw [hn] at hj0 hlen
  clear h hn
  unfold ifc
  go_enter Tryz.func90, Tryz.ntmps90
  go_wp2
  go_loopw [1] (fun jv wr => ∃ (j : Nat) (M : List Int), j < n ∧ jv = .int .i64 j ∧ Hid (M.length = n ∧ upF M j = upF L j0 ∧ RowAt wr r vo c M ∧ Turn (Foot r vo) w wr)) (fun jv _ => (intOf jv).toNat)
  case atStart => exact ⟨j0, L, hj0, rfl, HN.out, rfl, HR.out, Turn.refl _ _⟩
  case round =>
    obtain ⟨j, M, hj, rfl, HM⟩ := hrel
    by_cases hz : j = 0
    · subst hz
      have HT : Hid (RowAt wr r vo c (upF L j0) ∧ Turn (Foot r vo) w wr) := ⟨by rw [← HM.out.2.1, upF_zero]; exact HM.out.2.2.1, HM.out.2.2.2⟩
      clear HM
      go_wp2_with fail
      go_end0
      exact ⟨rfl, HT.out⟩
    · obtain ⟨i, hi⟩ : ∃ i, (j - 1) / 2 = i := ⟨_, rfl⟩
      have hij : i < j := by omega
      have hiI : ((j : Int) - 1).tdiv 2 = (i : Int) := by rw [Int.tdiv_eq_ediv_of_nonneg (by omega)]; omega
      have HL := Lib.hid (rless_any HM.out.2.2.1 HM.out.1 (i := j) (k := i) (by omega) (by omega))
      have mth1 := meth_less (HM.out.2.2.1.head HM.out.1)
      obtain ⟨o, ho⟩ : ∃ o, lessW (gw M j) (gw M i) = o := ⟨_, rfl⟩
      rw [ho] at HL
      have HO := Lib.hid ho
      have HI := Lib.hid hi
      have qij : ((i : Int) == (j : Int)) = false := by simp; omega
      clear ho hi
      go_wp2_with fail
      refine HL.out.mono ?_
      rintro e w1 ⟨rfl, hb⟩
      have HR1 : Hid (RowAt w1 r vo c M ∧ Turn (Foot r vo) w w1) := ⟨HM.out.2.2.1.below hb, HM.out.2.2.2.trans (T := fun _ => False) (Turn.of_below hb) fun _ _ h => h.elim⟩
      clear hb
      cases o with
      | false =>
        have HT : Hid (RowAt w1 r vo c (upF L j0) ∧ Turn (Foot r vo) w w1) := ⟨by rw [← HM.out.2.1, upF_stop HI.out HO.out]; exact HR1.out.1, HR1.out.2⟩
        clear HM HR1
        go_wp2_with fail
        go_end0
        exact ⟨rfl, HT.out⟩
      | true =>
        have HS := Lib.hid (rswap_any HR1.out.1 HM.out.1 (i := i) (k := j) (by omega) (by omega))
        have mth2 := meth_swap (HR1.out.1.head HM.out.1)
        go_wp2_with fail
        refine HS.out.mono ?_
        rintro e w2 ⟨rfl, hr2, ht2⟩
        have HN2 : Hid ((swapL M i j).length = n ∧ upF (swapL M i j) i = upF L j0 ∧ RowAt w2 r vo c (swapL M i j) ∧ Turn (Foot r vo) w w2) :=
          ⟨by rw [swapL_length]; exact HM.out.1, by rw [← HM.out.2.1, upF_step (by omega) HI.out HO.out], hr2, HR1.out.2.trans ht2 fun _ _ h => h⟩
        clear hr2 ht2 HS HM HR1
        go_wp2
        go_roundw
        case rel => exact ⟨i, swapL M i j, by omega, rfl, HN2.out⟩
        case measure => simp [intOf]; omega
def childF (L : List Int) (i n : Nat) : Nat := if 2 * i + 2 < n ∧ lessW (gw L (2 * i + 2)) (gw L (2 * i + 1)) = true then 2 * i + 2 else 2 * i + 1
theorem childF_gt (L : List Int) (i n : Nat) : i < childF L i n := by unfold childF; split <;> omega
theorem childF_lt {L : List Int} {i n : Nat} (h : 2 * i + 1 < n) : childF L i n < n := by
  unfold childF
  split
  · rename_i h2; exact h2.1
  · exact h
def downF (L : List Int) (i n : Nat) : List Int × Nat :=
  if n ≤ 2 * i + 1 then (L, i) else if lessW (gw L (childF L i n)) (gw L i) then downF (swapL L i (childF L i n)) (childF L i n) n else (L, i)
termination_by n - i
decreasing_by have := childF_gt L i n; omega
theorem downF_end {L : List Int} {i n : Nat} (h : n ≤ 2 * i + 1) : downF L i n = (L, i) := by rw [downF, if_pos h]
theorem downF_step {L : List Int} {i n j : Nat} (h : ¬ n ≤ 2 * i + 1) (hj : childF L i n = j) (hl : lessW (gw L j) (gw L i) = true) : downF L i n = downF (swapL L i j) j n := by
  rw [downF, if_neg h, hj, hl, if_pos rfl]
theorem downF_stop {L : List Int} {i n j : Nat} (hj : childF L i n = j) (hl : lessW (gw L j) (gw L i) = false) : downF L i n = (L, i) := by
  rw [downF]
  split
  · rfl
  · rw [hj, hl]; rfl
set_option maxRecDepth 100000 in
set_option maxHeartbeats 2000000 in
theorem down_any {w : World} {r c : Nat} {vo : Option Addr} {L : List Int} (h : RowAt w r vo c L) {i0 n : Nat} (hi0 : i0 < L.length) (hn : n ≤ L.length) :
    Calls Tryz.prog 89 #[ifc r, .int .i64 i0, .int .i64 n] w fun e w' => e = .returned (.bool (decide (i0 < (downF L i0 n).2))) ∧ RowAt w' r vo c (downF L i0 n).1 ∧ Turn (Foot r vo) w w' := by
  have hlen := h.2.2.2.2.2.2
  have HR := Lib.hid h
  obtain ⟨N, hN⟩ : ∃ n, L.length = n := ⟨_, rfl⟩
  have HN := Lib.hid hN
  rw [hN] at hi0 hlen hn
  obtain ⟨D, hD⟩ : ∃ D, downF L i0 n = D := ⟨_, rfl⟩
  rw [hD]
  have HD := Lib.hid hD
  clear h hN hD
  unfold ifc
  go_enter Tryz.func89, Tryz.ntmps89
  go_wp2
  go_loopw [7] (fun iv wr => ∃ (i : Nat) (M : List Int), i < N ∧ iv = .int .i64 i ∧ Hid (M.length = N ∧ downF M i n = D ∧ RowAt wr r vo c M ∧ Turn (Foot r vo) w wr)) (fun iv _ => N - (intOf iv).toNat)
  case atStart => exact ⟨i0, L, hi0, rfl, HN.out, HD.out, HR.out, Turn.refl _ _⟩
  case round =>
    obtain ⟨i, M, hi, rfl, HM⟩ := hrel
    obtain ⟨j1, hj1, hj1n⟩ : ∃ j1 : Nat, 2 * (i : Int) + 1 = (j1 : Int) ∧ 2 * i + 1 = j1 := ⟨2 * i + 1, by omega, rfl⟩
    by_cases hz : n ≤ j1
    · have HT : Hid (D.2 = i ∧ RowAt wr r vo c D.1 ∧ Turn (Foot r vo) w wr) := by
        have e : D = (M, i) := by rw [← HM.out.2.1, downF_end (by omega)]
        exact ⟨by rw [e], by rw [e]; exact HM.out.2.2.1, HM.out.2.2.2⟩
      have q1 : decide (n ≤ j1) = true := by simpa using hz
      clear HM
      go_wp2_with fail
      go_ret
      exact ⟨by rw [HT.out.1]; rfl, HT.out.2⟩
    · have q1 : decide (n ≤ j1) = false := by simpa using hz
      have q2 : decide ((j1 : Int) < 0) = false := by simp
      obtain ⟨j2, hj2, hj2n⟩ : ∃ j2 : Nat, (j1 : Int) + 1 = (j2 : Int) ∧ j1 + 1 = j2 := ⟨j1 + 1, by omega, rfl⟩
      have HJ1 := Lib.hid hj1n
      have HJ2 := Lib.hid hj2n
      have hij1 : i < j1 := by omega
      have hj12 : j1 < j2 := by omega
      have hj1N : j1 < N := by omega
      -- which child goes
      have key : (decide (j2 < n) = false ∧ Hid (childF M i n = j1)) ∨ (j2 < n ∧ decide (j2 < n) = true ∧ ∃ o : Bool, Hid (childF M i n = if o then j2 else j1) ∧ Hid (∀ wx, RowAt wx r vo c M → Calls Tryz.prog 169 #[.slice vo N c, .int .i64 j2, .int .i64 j1] wx fun e w' => e = .returned (.bool o) ∧ Below wx.heap.size wx w')) := by
        by_cases e : j2 < n
        · refine .inr ⟨e, by simpa using e, lessW (gw M j2) (gw M j1), ?_, fun wx hx => rless_any hx HM.out.1 (by omega) (by omega)⟩
          show _ = _
          unfold childF
          rw [show 2 * i + 2 = j2 by omega, hj1n]
          by_cases e2 : lessW (gw M j2) (gw M j1) = true
          · rw [if_pos ⟨e, e2⟩, if_pos e2]
          · rw [if_neg (fun h => e2 h.2), if_neg e2]
        · refine .inl ⟨by simpa using e, ?_⟩
          show _ = _
          unfold childF
          rw [if_neg (by omega), hj1n]
      clear hj1n hj2n
      rcases key with ⟨q3, HC⟩ | ⟨hj2N, q3, o, HC, HLL⟩
      · -- one child alone
        have HL := Lib.hid (rless_any HM.out.2.2.1 HM.out.1 (i := j1) (k := i) (by omega) (by omega))
        have mth3 := meth_less (HM.out.2.2.1.head HM.out.1)
        obtain ⟨p, hp⟩ : ∃ o, lessW (gw M j1) (gw M i) = o := ⟨_, rfl⟩
        rw [hp] at HL
        have HP := Lib.hid hp
        clear hp
        go_wp2_with fail
        refine HL.out.mono ?_
        rintro e w1 ⟨rfl, hb⟩
        have HR1 : Hid (RowAt w1 r vo c M ∧ Turn (Foot r vo) w w1) := ⟨HM.out.2.2.1.below hb, HM.out.2.2.2.trans (T := fun _ => False) (Turn.of_below hb) fun _ _ h => h.elim⟩
        clear hb
        cases p with
        | false =>
          have HT : Hid (D.2 = i ∧ RowAt w1 r vo c D.1 ∧ Turn (Foot r vo) w w1) := by
            have e : D = (M, i) := by rw [← HM.out.2.1, downF_stop HC.out HP.out]
            exact ⟨by rw [e], by rw [e]; exact HR1.out.1, HR1.out.2⟩
          clear HM HR1
          go_wp2_with fail
          go_ret
          exact ⟨by rw [HT.out.1]; rfl, HT.out.2⟩
        | true =>
          have HS := Lib.hid (rswap_any HR1.out.1 HM.out.1 (i := i) (k := j1) (by omega) (by omega))
          have mth4 := meth_swap (HR1.out.1.head HM.out.1)
          go_wp2_with fail
          refine HS.out.mono ?_
          rintro e w2 ⟨rfl, hr2, ht2⟩
          have HN2 : Hid ((swapL M i j1).length = N ∧ downF (swapL M i j1) j1 n = D ∧ RowAt w2 r vo c (swapL M i j1) ∧ Turn (Foot r vo) w w2) :=
            ⟨by rw [swapL_length]; exact HM.out.1, by rw [← HM.out.2.1, downF_step (by rw [HJ1.out]; exact hz) HC.out HP.out], hr2, HR1.out.2.trans ht2 fun _ _ h => h⟩
          clear hr2 ht2 HS HM HR1 hj1 hj2
          go_wp2
          go_roundw
          case rel => exact ⟨j1, swapL M i j1, hj1N, rfl, HN2.out⟩
          case measure => simp [intOf]; omega
      · cases o
        all_goals
          simp only [Bool.false_eq_true, if_true, if_false] at HC
          have mth5 := meth_less (HM.out.2.2.1.head HM.out.1)
          go_wp2_with fail
          refine (HLL.out _ HM.out.2.2.1).mono ?_
          rintro e w0 ⟨rfl, hb⟩
          have HR0 : Hid (RowAt w0 r vo c M ∧ Turn (Foot r vo) w w0) := ⟨HM.out.2.2.1.below hb, HM.out.2.2.2.trans (T := fun _ => False) (Turn.of_below hb) fun _ _ h => h.elim⟩
          clear hb HLL
        · have HL := Lib.hid (rless_any HR0.out.1 HM.out.1 (i := j1) (k := i) (by omega) (by omega))
          have mth6 := meth_less (HR0.out.1.head HM.out.1)
          obtain ⟨p, hp⟩ : ∃ o, lessW (gw M j1) (gw M i) = o := ⟨_, rfl⟩
          rw [hp] at HL
          have HP := Lib.hid hp
          clear hp
          go_wp2_with fail
          refine HL.out.mono ?_
          rintro e w1 ⟨rfl, hb⟩
          have HR1 : Hid (RowAt w1 r vo c M ∧ Turn (Foot r vo) w w1) := ⟨HR0.out.1.below hb, HR0.out.2.trans (T := fun _ => False) (Turn.of_below hb) fun _ _ h => h.elim⟩
          clear hb
          cases p with
          | false =>
            have HT : Hid (D.2 = i ∧ RowAt w1 r vo c D.1 ∧ Turn (Foot r vo) w w1) := by
              have e : D = (M, i) := by rw [← HM.out.2.1, downF_stop HC.out HP.out]
              exact ⟨by rw [e], by rw [e]; exact HR1.out.1, HR1.out.2⟩
            clear HM HR1
            go_wp2_with fail
            go_ret
            exact ⟨by rw [HT.out.1]; rfl, HT.out.2⟩
          | true =>
            have HS := Lib.hid (rswap_any HR1.out.1 HM.out.1 (i := i) (k := j1) (by omega) (by omega))
            have mth7 := meth_swap (HR1.out.1.head HM.out.1)
            go_wp2_with fail
            refine HS.out.mono ?_
            rintro e w2 ⟨rfl, hr2, ht2⟩
            have HN2 : Hid ((swapL M i j1).length = N ∧ downF (swapL M i j1) j1 n = D ∧ RowAt w2 r vo c (swapL M i j1) ∧ Turn (Foot r vo) w w2) :=
              ⟨by rw [swapL_length]; exact HM.out.1, by rw [← HM.out.2.1, downF_step (by rw [HJ1.out]; exact hz) HC.out HP.out], hr2, HR1.out.2.trans ht2 fun _ _ h => h⟩
            clear hr2 ht2 HS HM HR1 HR0 hj1 hj2
            go_wp2
            go_roundw
            case rel => exact ⟨j1, swapL M i j1, hj1N, rfl, HN2.out⟩
            case measure => simp [intOf]; omega
        · have HL := Lib.hid (rless_any HR0.out.1 HM.out.1 (i := j2) (k := i) (by omega) (by omega))
          have mth8 := meth_less (HR0.out.1.head HM.out.1)
          obtain ⟨p, hp⟩ : ∃ o, lessW (gw M j2) (gw M i) = o := ⟨_, rfl⟩
          rw [hp] at HL
          have HP := Lib.hid hp
          clear hp
          go_wp2_with fail
          refine HL.out.mono ?_
          rintro e w1 ⟨rfl, hb⟩
          have HR1 : Hid (RowAt w1 r vo c M ∧ Turn (Foot r vo) w w1) := ⟨HR0.out.1.below hb, HR0.out.2.trans (T := fun _ => False) (Turn.of_below hb) fun _ _ h => h.elim⟩
          clear hb
          cases p with
          | false =>
            have HT : Hid (D.2 = i ∧ RowAt w1 r vo c D.1 ∧ Turn (Foot r vo) w w1) := by
              have e : D = (M, i) := by rw [← HM.out.2.1, downF_stop HC.out HP.out]
              exact ⟨by rw [e], by rw [e]; exact HR1.out.1, HR1.out.2⟩
            clear HM HR1
            go_wp2_with fail
            go_ret
            exact ⟨by rw [HT.out.1]; rfl, HT.out.2⟩
          | true =>
            have HS := Lib.hid (rswap_any HR1.out.1 HM.out.1 (i := i) (k := j2) (by omega) (by omega))
            have mth9 := meth_swap (HR1.out.1.head HM.out.1)
            have hj2N2 : j2 < N := by omega
            go_wp2_with fail
            refine HS.out.mono ?_
            rintro e w2 ⟨rfl, hr2, ht2⟩
            have HN2 : Hid ((swapL M i j2).length = N ∧ downF (swapL M i j2) j2 n = D ∧ RowAt w2 r vo c (swapL M i j2) ∧ Turn (Foot r vo) w w2) :=
              ⟨by rw [swapL_length]; exact HM.out.1, by rw [← HM.out.2.1, downF_step (by rw [HJ1.out]; exact hz) HC.out HP.out], hr2, HR1.out.2.trans ht2 fun _ _ h => h⟩
            clear hr2 ht2 HS HM HR1 HR0 hj1 hj2
            go_wp2
            go_roundw
            case rel => exact ⟨j2, swapL M i j2, hj2N2, rfl, HN2.out⟩
            case measure => simp [intOf]; omega
end Go.Proofs.YtkjfdaleamonaaaGreat
/- Plain laws on heaps of words. -/
namespace Go.Proofs.YtkjfdaleamonaaaGreat

theorem less_iff {a b : Int} : lessW a b = true ↔ b < a := by unfold lessW; simp
theorem less_not {a b : Int} : lessW a b = false ↔ a ≤ b := by unfold lessW; simp
theorem less_asymm {a b : Int} (h : lessW a b = true) : lessW b a = false := by rw [less_iff] at h; rw [less_not]; omega
theorem less_trans {a b c : Int} (h : lessW a b = true) (h2 : lessW b c = true) : lessW a c = true := by rw [less_iff] at *; omega
theorem less_ntrans {a b c : Int} (h : lessW a b = false) (h2 : lessW b c = false) : lessW a c = false := by rw [less_not] at *; omega
theorem less_irrefl (a : Int) : lessW a a = false := by rw [less_not]; omega

def par (j : Nat) : Nat := (j - 1) / 2
def Heap (n : Nat) (L : List Int) : Prop := ∀ j, 0 < j → j < n → lessW (gw L j) (gw L (par j)) = false
theorem heap_min {n : Nat} {L : List Int} (h : Heap n L) : ∀ j, j < n → lessW (gw L j) (gw L 0) = false := by
  intro j
  induction j using Nat.strongRecOn with
  | _ j ih =>
    intro hj
    by_cases e : j = 0
    · subst e; exact less_irrefl _
    · have hp : par j < j := by unfold par; omega
      exact less_ntrans (h j (by omega) hj) (ih (par j) hp (by omega))
def UpOk (n : Nat) (L : List Int) (k : Nat) : Prop := (∀ j, 0 < j → j < n → j ≠ k → lessW (gw L j) (gw L (par j)) = false) ∧ ∀ j, 0 < j → j < n → par j = k → 0 < k → lessW (gw L j) (gw L (par k)) = false
theorem up_heap {n : Nat} : ∀ (k : Nat) (L : List Int), k < n → n ≤ L.length → UpOk n L k → Heap n (upF L k) := by
  intro k
  induction k using Nat.strongRecOn with
  | _ k ih =>
    intro L hk hn h
    by_cases e : k = 0
    · subst e
      rw [upF_zero]
      exact fun j h1 h2 => h.1 j h1 h2 (by omega)
    · cases hl : lessW (gw L k) (gw L (par k)) with
      | false =>
        rw [upF_stop rfl hl]
        intro j h1 h2
        by_cases e2 : j = k
        · subst e2; exact hl
        · exact h.1 j h1 h2 e2
      | true =>
        obtain ⟨i, hi⟩ : ∃ i, par k = i := ⟨_, rfl⟩
        rw [hi] at hl
        have hik : i < k := by unfold par at hi; omega
        rw [upF_step (by omega) hi hl]
        refine ih i hik _ (by omega) (by rw [swapL_length]; exact hn) ⟨fun j h1 h2 h3 => ?_, fun j h1 h2 h3 h4 => ?_⟩
        · rw [gw_swap (by omega) (by omega), gw_swap (by omega) (by omega)]
          by_cases e1 : j = k
          · subst e1
            rw [if_pos rfl, hi, if_neg (by omega), if_pos rfl]
            exact less_asymm hl
          · rw [if_neg e1, if_neg h3]
            by_cases e2 : par j = k
            · rw [if_pos e2]
              have := h.2 j h1 h2 e2 (by omega)
              rwa [hi] at this
            · rw [if_neg e2]
              by_cases e3 : par j = i
              · rw [if_pos e3]
                have hj := h.1 j h1 h2 e1
                rw [e3] at hj
                cases hc : lessW (gw L j) (gw L k) with
                | false => rfl
                | true => rw [less_trans hc hl] at hj; cases hj
              · rw [if_neg e3]
                exact h.1 j h1 h2 e1
        · have hq : par i < i := by unfold par; omega
          rw [gw_swap (by omega) (by omega), gw_swap (by omega) (by omega), if_neg (show ¬ par i = k by omega), if_neg (show ¬ par i = i by omega)]
          have hii := h.1 i h4 (by omega) (by omega)
          by_cases e1 : j = k
          · rw [if_pos e1]; exact hii
          · have hji : ¬ j = i := by unfold par at h3; omega
            rw [if_neg e1, if_neg hji]
            have hj := h.1 j h1 h2 e1
            rw [h3] at hj
            exact less_ntrans hj hii

def Off (n : Nat) (L : List Int) (i : Nat) : Prop := (∀ j, 0 < j → j < n → j ≠ i → par j ≠ i → lessW (gw L j) (gw L (par j)) = false) ∧ ∀ j, 0 < j → j < n → par j = i → 0 < i → lessW (gw L j) (gw L (par i)) = false
theorem child_par {L : List Int} {i n : Nat} : par (childF L i n) = i := by unfold childF par; split <;> omega
theorem child_pos {L : List Int} {i n : Nat} : 0 < childF L i n := by have := childF_gt L i n; omega
theorem child_least {L : List Int} {i n j : Nat} (h0 : 0 < j) (hj : j < n) (hp : par j = i) (hne : j ≠ childF L i n) : lessW (gw L j) (gw L (childF L i n)) = false := by
  have hjj : j = 2 * i + 1 ∨ j = 2 * i + 2 := by unfold par at hp; omega
  unfold childF at hne ⊢
  split
  · rename_i h
    rw [if_pos h] at hne
    have : j = 2 * i + 1 := by omega
    subst this
    exact less_asymm h.2
  · rename_i h
    rw [if_neg h] at hne
    have : j = 2 * i + 2 := by omega
    subst this
    cases hc : lessW (gw L (2 * i + 2)) (gw L (2 * i + 1)) with
    | false => rfl
    | true => exact absurd ⟨hj, hc⟩ h
theorem off_step {n : Nat} {L : List Int} {i c : Nat} (hn : n ≤ L.length) (h : Off n L i) (hlt : 2 * i + 1 < n) (hc : childF L i n = c) (hl : lessW (gw L c) (gw L i) = true) :
    (∀ j, 0 < j → j < n → par j ≠ c → lessW (gw (swapL L i c) j) (gw (swapL L i c) (par j)) = false) ∧ ∀ j, 0 < j → j < n → par j = c → 0 < c → lessW (gw (swapL L i c) j) (gw (swapL L i c) (par c)) = false := by
  have hcp : par c = i := by rw [← hc]; exact child_par
  have hcn : c < n := by rw [← hc]; exact childF_lt hlt
  have hic : i < c := by rw [← hc]; exact childF_gt L i n
  refine ⟨fun j h1 h2 h3 => ?_, fun j h1 h2 h3 _ => ?_⟩
  · rw [gw_swap (by omega) (by omega), gw_swap (by omega) (by omega), if_neg h3]
    by_cases e1 : j = c
    · subst e1
      rw [if_pos rfl, if_pos hcp]
      exact less_asymm hl
    · rw [if_neg e1]
      by_cases e2 : j = i
      · subst e2
        have hpj : ¬ par j = j := by unfold par; omega
        rw [if_pos rfl, if_neg hpj]
        exact h.2 c (by omega) hcn hcp h1
      · rw [if_neg e2]
        by_cases e3 : par j = i
        · rw [if_pos e3, ← hc]
          exact child_least h1 h2 e3 (by rw [hc]; exact e1)
        · rw [if_neg e3]
          exact h.1 j h1 h2 e2 e3
  · have hji : ¬ j = i := by unfold par at h3; omega
    have hjc : ¬ j = c := by unfold par at h3; omega
    rw [gw_swap (by omega) (by omega), gw_swap (by omega) (by omega), hcp, if_neg hjc, if_neg hji, if_neg (show ¬ i = c by omega), if_pos rfl]
    have := h.1 j h1 h2 hji (by rw [h3]; omega)
    rwa [h3] at this
theorem down_heap {n : Nat} : ∀ (m i : Nat) (L : List Int), n - i ≤ m → n ≤ L.length → (∀ j, 0 < j → j < n → par j ≠ i → lessW (gw L j) (gw L (par j)) = false) → (∀ j, 0 < j → j < n → par j = i → 0 < i → lessW (gw L j) (gw L (par i)) = false) → Heap n (downF L i n).1 := by
  intro m
  induction m with
  | zero =>
    intro i L hm hn h1 h2
    rw [downF_end (by omega)]
    exact fun j h3 h4 => h1 j h3 h4 (by unfold par; omega)
  | succ m ih =>
    intro i L hm hn h1 h2
    by_cases he : n ≤ 2 * i + 1
    · rw [downF_end he]
      exact fun j h3 h4 => h1 j h3 h4 (by unfold par; omega)
    · obtain ⟨c, hc⟩ : ∃ c, childF L i n = c := ⟨_, rfl⟩
      have hic : i < c := by rw [← hc]; exact childF_gt L i n
      cases hl : lessW (gw L c) (gw L i) with
      | false =>
        rw [downF_stop hc hl]
        intro j h3 h4
        by_cases e : par j = i
        · rw [e]
          by_cases e2 : j = c
          · rw [e2]; exact hl
          · have := child_least (L := L) h3 h4 e (by rw [hc]; exact e2)
            rw [hc] at this
            exact less_ntrans this hl
        · exact h1 j h3 h4 e
      | true =>
        rw [downF_step he hc hl]
        have hs := off_step hn ⟨fun j h3 h4 _ h5 => h1 j h3 h4 h5, h2⟩ (by omega) hc hl
        exact ih c _ (by omega) (by rw [swapL_length]; exact hn) hs.1 hs.2
theorem off_down {n : Nat} {L : List Int} {i : Nat} (hn : n ≤ L.length) (h : Off n L i) :
    (i < (downF L i n).2 → Heap n (downF L i n).1) ∧ (¬ i < (downF L i n).2 → (downF L i n).1 = L ∧ UpOk n L i) := by
  by_cases he : n ≤ 2 * i + 1
  · rw [downF_end he]
    refine ⟨fun h => absurd h (Nat.lt_irrefl _), fun _ => ⟨rfl, fun j h1 h2 h3 => h.1 j h1 h2 h3 (by unfold par; omega), h.2⟩⟩
  · obtain ⟨c, hc⟩ : ∃ c, childF L i n = c := ⟨_, rfl⟩
    have hic : i < c := by rw [← hc]; exact childF_gt L i n
    cases hl : lessW (gw L c) (gw L i) with
    | false =>
      rw [downF_stop hc hl]
      refine ⟨fun h => absurd h (Nat.lt_irrefl _), fun _ => ⟨rfl, fun j h1 h2 h3 => ?_, h.2⟩⟩
      by_cases e : par j = i
      · rw [e]
        by_cases e2 : j = c
        · rw [e2]; exact hl
        · have := child_least (L := L) h1 h2 e (by rw [hc]; exact e2)
          rw [hc] at this
          exact less_ntrans this hl
      · exact h.1 j h1 h2 h3 e
    | true =>
      rw [downF_step he hc hl]
      have hs := off_step hn h (by omega) hc hl
      refine ⟨fun _ => down_heap _ c _ (Nat.le_refl _) (by rw [swapL_length]; exact hn) hs.1 hs.2, fun h9 => absurd ?_ h9⟩
      have : ∀ (m k : Nat) (M : List Int), n - k ≤ m → k ≤ (downF M k n).2 := by
        intro m
        induction m with
        | zero => intro k M hm; rw [downF_end (by omega)]; exact Nat.le_refl _
        | succ m ih =>
          intro k M hm
          by_cases he : n ≤ 2 * k + 1
          · rw [downF_end he]; exact Nat.le_refl _
          · have hkc := childF_gt M k n
            cases hl : lessW (gw M (childF M k n)) (gw M k) with
            | false => rw [downF_stop rfl hl]; exact Nat.le_refl _
            | true =>
              rw [downF_step he rfl hl]
              have := ih (childF M k n) (swapL M k (childF M k n)) (by omega)
              omega
      have := this _ c (swapL L i c) (Nat.le_refl _)
      omega

theorem set_perm {L : List Int} {i k : Nat} (hi : i < L.length) (hk : k < L.length) : (swapL L i k).Perm L := by
  refine List.perm_iff_count.2 fun a => ?_
  have e1 : gw L i = L[i] := by unfold gw; rw [List.getD_eq_getElem?_getD, List.getElem?_eq_getElem hi, Option.getD_some]
  have e2 : gw L k = L[k] := by unfold gw; rw [List.getD_eq_getElem?_getD, List.getElem?_eq_getElem hk, Option.getD_some]
  unfold swapL
  rw [List.count_set (by simpa using hk), List.count_set hi, e1, e2]
  have p1 : (if L[i] == a then 1 else 0) ≤ L.count a := by
    split
    · rename_i h
      have h := eq_of_beq h
      rw [← h]
      exact List.count_pos_iff.2 (List.getElem_mem hi)
    · omega
  rw [List.getElem_set]
  by_cases e : i = k
  · subst e
    rw [if_pos rfl]
    omega
  · rw [if_neg e]
    by_cases h1 : (L[i] == a) = true <;> by_cases h2 : (L[k] == a) = true <;> simp only [h1, h2, if_true, if_false, Bool.false_eq_true] at p1 ⊢ <;> omega
theorem up_perm : ∀ (k : Nat) (L : List Int), k < L.length → (upF L k).Perm L := by
  intro k
  induction k using Nat.strongRecOn with
  | _ k ih =>
    intro L hk
    by_cases e : k = 0
    · subst e; rw [upF_zero]
    · cases hl : lessW (gw L k) (gw L ((k - 1) / 2)) with
      | false => rw [upF_stop rfl hl]
      | true =>
        rw [upF_step (by omega) rfl hl]
        exact (ih _ (by omega) _ (by rw [swapL_length]; omega)).trans (set_perm (by omega) hk)
theorem down_perm {n : Nat} : ∀ (m i : Nat) (L : List Int), n - i ≤ m → n ≤ L.length → (downF L i n).1.Perm L ∧ ∀ j, n ≤ j → gw (downF L i n).1 j = gw L j := by
  intro m
  induction m with
  | zero => intro i L hm hn; rw [downF_end (by omega)]; exact ⟨List.Perm.refl _, fun _ _ => rfl⟩
  | succ m ih =>
    intro i L hm hn
    by_cases he : n ≤ 2 * i + 1
    · rw [downF_end he]; exact ⟨List.Perm.refl _, fun _ _ => rfl⟩
    · have hic := childF_gt L i n
      have hcn := childF_lt (L := L) (i := i) (n := n) (by omega)
      cases hl : lessW (gw L (childF L i n)) (gw L i) with
      | false => rw [downF_stop rfl hl]; exact ⟨List.Perm.refl _, fun _ _ => rfl⟩
      | true =>
        rw [downF_step he rfl hl]
        obtain ⟨h1, h2⟩ := ih (childF L i n) (swapL L i (childF L i n)) (by omega) (by rw [swapL_length]; exact hn)
        refine ⟨h1.trans (set_perm (by omega) (by omega)), fun j hj => ?_⟩
        rw [h2 j hj, gw_swap (by omega) (by omega), if_neg (by omega), if_neg (by omega)]
end Go.Proofs.YtkjfdaleamonaaaGreat
