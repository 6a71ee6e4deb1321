/- Contracts of apiaryref1: Beta, Pow (of 7), Seven, conj, World; apiarylaw3.Point is left to NfH. -/
import Derived.Test.YtkjfdaleamonaaaNfB
import Derived.Test.YtkjfdaleamonaaaWdN
import Derived.Test.YtkjfdaleamonaaaWdI
namespace Go.Proofs.Ytkjfdaleamonaaa
open Go.RowKit Go.Lib Wd

theorem bE_sm {k : Nat} (hk : k ≤ 12) : Sm 1048576 (bE k) := by
  obtain ⟨q0, q1, q2, q3, q4, q5, q6, q7, q8, q9, q10, q11, q12⟩ := bE_tab
  unfold Sm
  rcases upto12 hk with rfl | rfl | rfl | rfl | rfl | rfl | rfl | rfl | rfl | rfl | rfl | rfl | rfl <;> decide
theorem pow7_in {k : Nat} (hk : k ≤ 12) : 1 ≤ (7 : Int) ^ k ∧ (7 : Int) ^ k ≤ 13841287201 := by
  rcases upto12 hk with rfl | rfl | rfl | rfl | rfl | rfl | rfl | rfl | rfl | rfl | rfl | rfl | rfl <;> decide
set_option maxRecDepth 100000 in
set_option maxHeartbeats 4000000 in
theorem rbeta_in (n : Nat) (hn : n ≤ 12) (w : World) :
    Calls Try.prog 72 #[.int .i64 n] w fun e w' => e = .returned (.tuple #[vE (bE n), .bool true]) ∧ Below w.heap.size w w' := by
  have q1 : decide ((n : Int) < 0) = false := decide_eq_false (by omega)
  have q2 : decide (20 < (n : Int)) = false := decide_eq_false (by omega)
  go_enter Try.func72, Try.ntmps72
  go_wp2
  have T0 : Hid (Two2 ((w.alloc (.cells #[.int .i64 0, .int .i64 0] 27)).alloc (.cells #[.int .i64 1, .int .i64 0] 27)) w.heap.size (.int .i64 0) (.int .i64 0)) := Two2.of_row (t := 27) (by rw [Below.heap_alloc _ _ _ (by simp)]; exact heap_new _ _ _ rfl)
  have C0 : Hid (Two2 ((w.alloc (.cells #[.int .i64 0, .int .i64 0] 27)).alloc (.cells #[.int .i64 1, .int .i64 0] 27)) (w.heap.size + 1) (.int .i64 1) (.int .i64 0)) := Two2.of_row (t := 27) (heap_new _ _ _ (by simp))
  have HB0 : Hid (Below w.heap.size w ((w.alloc (.cells #[.int .i64 0, .int .i64 0] 27)).alloc (.cells #[.int .i64 1, .int .i64 0] 27))) := ((Below.refl _ _).alloc (Nat.le_refl _) _).alloc (by simp) _
  have k2 : ((w.alloc (.cells #[.int .i64 0, .int .i64 0] 27)).alloc (.cells #[.int .i64 1, .int .i64 0] 27)).heap.size = w.heap.size + 2 := by simp
  generalize (w.alloc (.cells #[.int .i64 0, .int .i64 0] 27)).alloc (.cells #[.int .i64 1, .int .i64 0] 27) = w2 at *
  clear q1 q2
  go_loopw [5] (fun i wr => ∃ k : Nat, k ≤ n ∧ i = .int .i64 k ∧ Hid (Two2 wr (w.heap.size + 1) (.int .i64 (bE k).1) (.int .i64 (bE k).2) ∧ Turn (fun q => q = w.heap.size + 1) w2 wr)) (fun i _ => n - (intOf i).toNat)
  case atStart => exact ⟨0, by omega, rfl, C0.out, Turn.refl _ _⟩
  case round =>
    obtain ⟨k, hk, rfl, HI⟩ := hrel
    have hTri := HI.out.1
    have hturn := HI.out.2
    have hsz := hturn.2.2.2.1
    have HT := Lib.hid (T0.out.turn hturn (by omega) (by omega))
    have HBR : Hid (Below w.heap.size w wr) := HB0.out.trans (hturn.below (by omega) fun q hq e => by omega)
    have HTU := Lib.hid hturn
    have HTR := Lib.hid hTri
    clear hTri hturn HI
    by_cases hkn : k < n
    · have q1 : decide ((k : Int) < (n : Int)) = true := decide_eq_true (by omega)
      have hb1 := bE_sm (show k ≤ 12 by omega)
      have HMU := Lib.hid (rmul_in (bE k) (2, 1) (hb1.mono (by decide)) (by unfold Sm; simp) (by unfold Sm at hb1; unfold Sm mulE; simp only; omega))
      have HDN : Hid (bE (k + 1) = mulE (bE k) (2, 1)) := rfl
      obtain ⟨x, hx⟩ : ∃ x, bE k = x := ⟨_, rfl⟩
      rw [hx] at HMU HTR HDN
      generalize mulE x (2, 1) = m at *
      simp only [vE] at HMU
      obtain ⟨⟨c0, c1⟩, c2, c3⟩ := HTR.out
      clear hb1 hx
      go_wp2_with fail
      refine (HMU.out _).mono ?_
      rintro e w5 ⟨rfl, hb5⟩
      have hz5 := hb5.size
      have h5 := HTR.out.later (by omega) hb5
      have HP := Lib.hid (h5.put (.int .i64 m.1) (.int .i64 m.2))
      have HFI : Hid (Two2 ((w5.setCell ⟨w.heap.size + 1, 0, none⟩ (.int .i64 m.1)).setCell ⟨w.heap.size + 1, 1, none⟩ (.int .i64 m.2)) (w.heap.size + 1) (.int .i64 (bE (k + 1)).1) (.int .i64 (bE (k + 1)).2) ∧ Turn (fun q => q = w.heap.size + 1) w2 ((w5.setCell ⟨w.heap.size + 1, 0, none⟩ (.int .i64 m.1)).setCell ⟨w.heap.size + 1, 1, none⟩ (.int .i64 m.2))) := ⟨by rw [HDN.out]; exact HP.out.1, (HTU.out.trans (Turn.of_below hb5) fun _ _ h => h).trans HP.out.2 fun _ _ h => h⟩
      obtain ⟨⟨e0, e1⟩, e2, e3⟩ := h5
      clear hb5 c0 c1 c2 c3 HTR HT HTU HMU HBR HP HDN
      go_wp2
      go_roundw
      case rel => exact ⟨k + 1, by omega, by go_num, HFI.out⟩
      case measure => simp [intOf]; omega
    · obtain rfl : k = n := by omega
      have q1 : decide ((k : Int) < (k : Int)) = false := decide_eq_false (by omega)
      obtain ⟨x, hx⟩ : ∃ x, bE k = x := ⟨_, rfl⟩
      rw [hx] at HTR
      obtain ⟨⟨c0, c1⟩, c2, c3⟩ := HTR.out
      obtain ⟨⟨t0, t1⟩, t2, t3⟩ := HT.out
      have HX := Lib.hid hx
      clear HTR HT hx
      go_wp2
      exact bodyPost_ret (v := .tuple #[.agg #[.int .i64 x.1, .int .i64 x.2], .bool true]) (by simp [results, Try.results72, go_sem, *]) rfl ⟨by rw [HX.out], (HBR.out.setCell (p := ⟨w.heap.size, 0, none⟩) (Nat.le_refl _) _).setCell (p := ⟨w.heap.size, 1, none⟩) (Nat.le_refl _) _⟩
set_option maxRecDepth 100000 in
set_option maxHeartbeats 4000000 in
theorem rpow_in (n : Nat) (hn : n ≤ 12) (w : World) :
    Calls Try.prog 73 #[.int .i64 7, .int .i64 n] w fun e w' => e = .returned (.tuple #[.int .i64 (7 ^ n), .bool true]) ∧ Below w.heap.size w w' := by
  have q1 : decide ((n : Int) < 0) = false := decide_eq_false (by omega)
  go_enter Try.func73, Try.ntmps73
  go_wp2
  clear q1
  go_loopw [6, 7] (fun x i wr => ∃ k : Nat, k ≤ n ∧ i = .int .i64 k ∧ x = .int .i64 (7 ^ k) ∧ Below w.heap.size w wr) (fun _ i _ => n - (intOf i).toNat)
  case atStart => exact ⟨0, by omega, rfl, rfl, Below.refl _ _⟩
  case round =>
    obtain ⟨k, hk, rfl, rfl, hbr⟩ := hrel
    have HBR := Lib.hid hbr
    clear hbr
    by_cases hkn : k < n
    · have q1 : decide ((k : Int) < (n : Int)) = true := decide_eq_true (by omega)
      obtain ⟨hp1, hp2⟩ := pow7_in (show k ≤ 12 by omega)
      obtain ⟨hp3, hp4⟩ := pow7_in (show k + 1 ≤ 12 by omega)
      have HDN : Hid ((7 : Int) ^ (k + 1) = 7 ^ k * 7) := Int.pow_succ _ _
      rw [HDN.out] at hp3 hp4
      have HTI := Lib.hid (times_x (7 ^ k) 7 (by omega) (by omega))
      have HSM := Lib.hid (small_x (7 ^ k * 7) (by omega))
      obtain ⟨x, hx⟩ : ∃ x, (7 : Int) ^ k = x := ⟨_, rfl⟩
      rw [hx] at hp1 hp3 hp4 HDN HTI HSM ⊢
      obtain ⟨y, hy⟩ : ∃ y, x * 7 = y := ⟨_, rfl⟩
      rw [hy] at hp3 hp4 HDN HTI HSM
      have q2 : (x == 0) = false := by simp; omega
      simp only [vU] at HTI HSM
      clear hx hy
      obtain ⟨b, hb⟩ : ∃ b, (x == 1) = b := ⟨_, rfl⟩
      cases b
      all_goals
        go_wp2_with fail
        refine (HTI.out _).mono ?_
        rintro e w5 ⟨rfl, hb5⟩
        have HB5 : Hid (Below w.heap.size w w5) := HBR.out.trans (hb5.mono HBR.out.size)
        clear hb5
        go_wp2_with fail
        refine (HSM.out _).mono ?_
        rintro e w6 ⟨rfl, hb6⟩
        have HB6 : Hid (Below w.heap.size w w6) := HB5.out.trans (hb6.mono HB5.out.size)
        clear hb6
        go_wp2
        go_roundw
        case rel => exact ⟨k + 1, by omega, by go_num, by rw [HDN.out], HB6.out⟩
        case measure => simp [intOf]; omega
    · obtain rfl : k = n := by omega
      have q1 : decide ((k : Int) < (k : Int)) = false := decide_eq_false (by omega)
      obtain ⟨x, hx⟩ : ∃ x, (7 : Int) ^ k = x := ⟨_, rfl⟩
      have HX := Lib.hid hx
      rw [hx]
      clear hx
      go_wp2
      exact bodyPost_ret (v := .tuple #[.int .i64 x, .bool true]) (by simp [results, Try.results73, go_sem, *]) rfl ⟨by rw [HX.out], HBR.out⟩
theorem rseven_in (n : Nat) (hn : n ≤ 12) (w : World) :
    Calls Try.prog 45 #[.int .i64 n] w fun e w' => e = .returned (.int .i64 (7 ^ n)) ∧ Below w.heap.size w w' := by
  have HP := Lib.hid (rpow_in n hn)
  generalize (7 : Int) ^ n = x at *
  go_enter Try.func45, Try.ntmps45
  go_wp2_with fail
  refine (HP.out _).mono ?_
  rintro e w1 ⟨rfl, hb1⟩
  go_wp2
  exact bodyPost_ret (v := .int .i64 x) (by simp [results, Try.results45, go_sem]) rfl ⟨rfl, hb1⟩
set_option maxHeartbeats 1000000 in
theorem rconj_in (n : Nat) (hn : n ≤ 12) (w : World) :
    Calls Try.prog 44 #[.int .i64 n] w fun e w' => e = .returned (vE (conjE (bE n))) ∧ Below w.heap.size w w' := by
  have HP := Lib.hid (rbeta_in n hn)
  have hs := bE_sm hn
  unfold conjE
  unfold Sm at hs
  simp only [vE] at *
  generalize bE n = x at *
  obtain ⟨hs1, hs2, hs3, hs4⟩ := hs
  go_enter Try.func44, Try.ntmps44
  go_wp2_with fail
  refine (HP.out _).mono ?_
  rintro e w1 ⟨rfl, hb1⟩
  have hz := hb1.size
  simp at hz
  have H2 : Two2 w1 w.heap.size (.int .i64 0) (.int .i64 0) := (Two2.of_row (t := 27) (heap_new _ _ _ rfl)).later (by simp) hb1
  have HQ : Hid (Below w.heap.size w w1) := ((Below.refl _ _).alloc (Nat.le_refl _) _).trans (hb1.mono (by simp))
  have hT : Two (w1.alloc (.cells #[.int .i64 x.1, .int .i64 x.2] 27)) w1.heap.size (.int .i64 x.1) (.int .i64 x.2) := Two.of_row (t := 27) (f := _) (heap_new _ _ _ rfl)
  have H2 := H2.alloc (by omega) (.cells #[.int .i64 x.1, .int .i64 x.2] 27)
  have HQ : Hid (Below w.heap.size w (w1.alloc (.cells #[.int .i64 x.1, .int .i64 x.2] 27))) := HQ.out.alloc (by omega) _
  have hs : w1.heap.size < (w1.alloc (.cells #[.int .i64 x.1, .int .i64 x.2] 27)).heap.size := by simp
  clear hb1
  go_upto_region 2 with (fail)
  generalize w1.alloc (.cells #[.int .i64 x.1, .int .i64 x.2] 27) = w2 at *
  obtain ⟨c0, c1⟩ := hT
  obtain ⟨⟨t0, t1⟩, t2, t3⟩ := H2
  go_wp2
  exact bodyPost_ret (v := .agg #[.int .i64 (x.1 + x.2), .int .i64 (-x.2)]) (by simp [results, Try.results44, go_sem, *]) rfl ⟨rfl, (HQ.out.setCell (p := ⟨w.heap.size, 0, none⟩) (Nat.le_refl _) _).setCell (p := ⟨w.heap.size, 1, none⟩) (Nat.le_refl _) _⟩
theorem rworld_in (x y : Int) (hx : 0 ≤ x ∧ x < 1073741824) (hy : 0 ≤ y ∧ y < 1073741824) (w : World) : Calls Try.prog 43 #[.int .i64 x, .int .i64 y] w fun e w' => e = .returned (.bool true) ∧ w' = w := by
  have q1 : decide (0 ≤ x) = true := decide_eq_true (by omega)
  have q2 : decide (x < 1073741824) = true := decide_eq_true (by omega)
  have q3 : decide (0 ≤ y) = true := decide_eq_true (by omega)
  have q4 : decide (y < 1073741824) = true := decide_eq_true (by omega)
  clear hx hy
  go_enter Try.func43, Try.ntmps43
  go_wp2
  go_ret
  exact ⟨rfl, rfl⟩
end Go.Proofs.Ytkjfdaleamonaaa
