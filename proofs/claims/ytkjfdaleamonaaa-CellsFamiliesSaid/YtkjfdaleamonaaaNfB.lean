/- Contracts of apiaryref1: Floor, size, holds, Round. -/
import Derived.Test.YtkjfdaleamonaaaNfA
import Derived.Test.YtkjfdaleamonaaaWdE
namespace Go.Proofs.Ytkjfdaleamonaaa
open Go.RowKit Go.Lib Wd

theorem rfloor_any (a d : Int) (hd : 0 < d) (hd2 : d ≤ 4611686018427387903) (h1 : -4611686018427387904 ≤ a) (h2 : a ≤ 4611686018427387903) (w : World) :
    Calls Try.prog 49 #[.int .i64 a, .int .i64 d] w fun e w' => e = .returned (.tuple #[.int .i64 (a / d), .int .i64 (a % d), .bool true]) ∧ Below w.heap.size w w' := by
  have hb1 := Int.ediv_mul_le a (show d ≠ 0 by omega)
  have q0 : d ≠ 0 := by omega
  have q9 : d ≠ -1 := by omega
  have hq : -4611686018427387905 ≤ a.tdiv d ∧ a.tdiv d ≤ 4611686018427387905 := by
    have := Int.natAbs_tdiv_le_natAbs a d
    omega
  obtain ⟨hq1, hq2⟩ := hq
  rcases floor_nums (a := a) hd with ⟨k1, k2, k3, k4, k5⟩ | ⟨k1, k2, k3⟩
  · rw [← k2, ← k3]
    clear k2 k3 hb1
    generalize hx : a.tdiv d = x at *
    generalize hy : a.tmod d = y at *
    go_enter Try.func49, Try.ntmps49
    go_upto_region 3 with (fail)
    go_quiet (fail)
    go_wp2
    go_ret3
    exact ⟨rfl, below_drewN (Below.refl _ _) _⟩
  · rw [← k2, ← k3]
    clear k2 k3 hb1
    generalize hx : a.tdiv d = x at *
    generalize hy : a.tmod d = y at *
    go_enter Try.func49, Try.ntmps49
    go_upto_region 3 with (fail)
    go_quiet (fail)
    go_wp2
    go_ret3
    exact ⟨rfl, below_drewN (Below.refl _ _) _⟩
theorem size_any (n : Int) (h1 : -4611686018427387904 ≤ n) (h2 : n ≤ 4611686018427387904) (w : World) : Calls Try.prog 75 #[.int .i64 n] w fun e w' => e = .returned (.int .i64 (n.natAbs : Int)) ∧ w' = w := by
  by_cases h : n < 0
  · have e : (n.natAbs : Int) = -n := by omega
    rw [e]
    have q : decide (n < 0) = true := decide_eq_true h
    go_enter Try.func75, Try.ntmps75
    go_wp2
    go_ret
    exact ⟨rfl, rfl⟩
  · have e : (n.natAbs : Int) = n := by omega
    rw [e]
    have q : decide (n < 0) = false := decide_eq_false h
    go_enter Try.func75, Try.ntmps75
    go_wp2
    go_ret
    exact ⟨rfl, rfl⟩
theorem near_abs (s t d : Int) : nearB s t d = (decide (((2 * s + t).natAbs : Int) ≤ d) && decide (((s + 2 * t).natAbs : Int) ≤ d) && decide (((s - t).natAbs : Int) ≤ d)) := by
  unfold nearB
  rw [Bool.eq_iff_iff]
  simp only [Bool.and_eq_true, decide_eq_true_eq]
  omega
theorem holds_any (s t d : Int) (hs : -9007199254740992 ≤ s ∧ s ≤ 9007199254740992) (ht : -9007199254740992 ≤ t ∧ t ≤ 9007199254740992) (w : World) :
    Calls Try.prog 50 #[.int .i64 s, .int .i64 t, .int .i64 d] w fun e w' => e = .returned (.bool (nearB s t d)) ∧ w' = w := by
  have S1 := Lib.hid (size_any (2 * s + t) (by omega) (by omega))
  have S2 := Lib.hid (size_any (s + 2 * t) (by omega) (by omega))
  have S3 := Lib.hid (size_any (s - t) (by omega) (by omega))
  rw [near_abs]
  generalize ((2 * s + t).natAbs : Int) = x1 at *
  generalize ((s + 2 * t).natAbs : Int) = x2 at *
  generalize ((s - t).natAbs : Int) = x3 at *
  obtain ⟨b1, hb1⟩ : ∃ b, decide (x1 ≤ d) = b := ⟨_, rfl⟩
  obtain ⟨b2, hb2⟩ : ∃ b, decide (x2 ≤ d) = b := ⟨_, rfl⟩
  obtain ⟨b3, hb3⟩ : ∃ b, decide (x3 ≤ d) = b := ⟨_, rfl⟩
  rw [hb1, hb2, hb3]
  cases b1
  · rw [Bool.false_and, Bool.false_and]
    go_enter Try.func50, Try.ntmps50
    go_wp2_with fail
    refine (S1.out _).mono ?_
    rintro e w1 ⟨rfl, rfl⟩
    go_wp2_with fail
    go_ret
    exact ⟨rfl, rfl⟩
  · rw [Bool.true_and]
    cases b2
    · rw [Bool.false_and]
      go_enter Try.func50, Try.ntmps50
      go_wp2_with fail
      refine (S1.out _).mono ?_
      rintro e w1 ⟨rfl, rfl⟩
      go_wp2_with fail
      refine (S2.out _).mono ?_
      rintro e w1 ⟨rfl, rfl⟩
      go_wp2_with fail
      go_ret
      exact ⟨rfl, rfl⟩
    · rw [Bool.true_and]
      go_enter Try.func50, Try.ntmps50
      go_wp2_with fail
      refine (S1.out _).mono ?_
      rintro e w1 ⟨rfl, rfl⟩
      go_wp2_with fail
      refine (S2.out _).mono ?_
      rintro e w1 ⟨rfl, rfl⟩
      go_wp2_with fail
      refine (S3.out _).mono ?_
      rintro e w1 ⟨rfl, rfl⟩
      go_wp2_with fail
      go_ret
      exact ⟨rfl, rfl⟩
theorem corner_in (s t d : Int) : 0 ≤ (cornerE s t d).1 ∧ (cornerE s t d).1 ≤ 1 ∧ 0 ≤ (cornerE s t d).2 ∧ (cornerE s t d).2 ≤ 1 := by
  unfold cornerE
  (repeat' split) <;> simp
theorem times_small {i d : Int} (hd : 0 < d) (h1 : -1 ≤ i) (h2 : i ≤ 2) : -d ≤ i * d ∧ i * d ≤ 2 * d := by
  rcases (show i = -1 ∨ i = 0 ∨ i = 1 ∨ i = 2 by omega) with rfl | rfl | rfl | rfl <;> omega
theorem quot_in {a d : Int} (hd : 1 ≤ d) (hd2 : d ≤ 1125899906842624) (h1 : -1152921504606846976 ≤ a) (h2 : a ≤ 1152921504606846976) : -1154047404513689600 ≤ a / d ∧ a / d ≤ 1152921504606846976 := by
  have h1 := Int.mul_ediv_add_emod a d
  have h3 := Int.emod_nonneg a (show d ≠ 0 by omega)
  have h4 := Int.emod_lt_of_pos a (show 0 < d by omega)
  constructor
  · rcases Int.lt_or_le (a / d) 0 with h | h
    · have := Int.mul_le_mul_of_nonpos_right (show (1 : Int) ≤ d by omega) (show a / d ≤ 0 by omega)
      omega
    · omega
  · rcases Int.lt_or_le (a / d) 0 with h | h
    · omega
    · have := Int.mul_le_mul_of_nonneg_right (show (1 : Int) ≤ d by omega) h
      omega
set_option maxRecDepth 100000 in
set_option maxHeartbeats 4000000 in
theorem rround_in (u : E2) (d : Int) (hd : 1 ≤ d) (hd2 : d ≤ 1125899906842624) (hu : Sm 1152921504606846976 u) (w : World) :
    Calls Try.prog 34 #[vE u, .int .i64 d] w fun e w' => e = .returned (.tuple #[vE (roundE u d), .bool true]) ∧ Below w.heap.size w w' := by
  obtain ⟨a, b⟩ := u
  unfold Sm at hu
  simp only at hu
  obtain ⟨hu1, hu2, hu3, hu4⟩ := hu
  have F1 := Lib.hid (rfloor_any a d (by omega) (by omega) (by omega) (by omega))
  have F2 := Lib.hid (rfloor_any b d (by omega) (by omega) (by omega) (by omega))
  have HR : Hid (roundE (a, b) d = (a / d + (cornerE (a % d) (b % d) d).1, b / d + (cornerE (a % d) (b % d) d).2)) := rfl
  have hs0 := Int.emod_nonneg a (show d ≠ 0 by omega)
  have hs1 := Int.emod_lt_of_pos a (show 0 < d by omega)
  have ht0 := Int.emod_nonneg b (show d ≠ 0 by omega)
  have ht1 := Int.emod_lt_of_pos b (show 0 < d by omega)
  obtain ⟨hq1a, hq1b⟩ := quot_in hd hd2 hu1 hu2
  obtain ⟨hq2a, hq2b⟩ := quot_in hd hd2 hu3 hu4
  show Calls Try.prog 34 #[.agg #[.int .i64 a, .int .i64 b], .int .i64 d] w _
  generalize roundE (a, b) d = z at *
  generalize a / d = qa at *
  generalize b / d = qb at *
  generalize a % d = s at *
  generalize b % d = t at *
  have HNF := Lib.hid (fun i k hi hi2 hk hk2 => near_first (d := d) hs0 hs1 ht0 ht1 i k hi hi2 hk hk2)
  obtain ⟨ci1, ci2, ci3, ci4⟩ := corner_in s t d
  have q0 : decide (d < 1) = false := decide_eq_false (by omega)
  have q1 : decide (1125899906842624 < d) = false := decide_eq_false (by omega)
  have q2 : decide (a < -1152921504606846976) = false := decide_eq_false (by omega)
  have q3 : decide (1152921504606846976 < a) = false := decide_eq_false (by omega)
  have q4 : decide (b < -1152921504606846976) = false := decide_eq_false (by omega)
  have q5 : decide (1152921504606846976 < b) = false := decide_eq_false (by omega)
  go_enter Try.func34, Try.ntmps34
  go_wp2_with fail
  refine (F1.out _).mono ?_
  rintro e w1 ⟨rfl, hb1⟩
  have h2 : Two w1 w.heap.size (.int .i64 a) (.int .i64 b) := (Two.of_row (t := 27) (f := _) (by rw [Below.heap_alloc _ _ _ (by simp)]; exact heap_new _ _ _ rfl)).later (by simp; omega) hb1
  have H5 : Hid (Two2 w1 (w.heap.size + 1) (.int .i64 0) (.int .i64 0)) := (Two2.of_row (t := 27) (heap_new _ _ _ (by simp))).later (by simp) hb1
  have hz := hb1.size
  simp at hz
  have hq : Hid (Below w.heap.size w w1) := ((Below.refl _ _).alloc (Nat.le_refl _) _).alloc (by simp) _ |>.trans (hb1.mono (by simp; omega))
  obtain ⟨c0, c1⟩ := h2
  clear hb1
  go_wp2_with fail
  refine (F2.out _).mono ?_
  rintro e w2 ⟨rfl, hb2⟩
  have HT := Lib.hid (H5.out.later (by omega) hb2)
  have HB := Lib.hid (hq.out.trans (hb2.mono hq.out.size))
  have hsz : w.heap.size + 1 < w2.heap.size := by have := hb2.size; omega
  clear hq H5 c0 c1 hb2 F1 F2 q0 q1 q2 q3 q4 q5 hz
  obtain ⟨i0, hi0⟩ : ∃ x, (cornerE s t d).1 = x := ⟨_, rfl⟩
  obtain ⟨k0, hk0⟩ : ∃ x, (cornerE s t d).2 = x := ⟨_, rfl⟩
  have HCE : Hid (cornerE s t d = (i0, k0)) := Prod.ext hi0 hk0
  rw [hi0] at ci1 ci2
  rw [hk0] at ci3 ci4
  have HZ : Hid (z = (qa + i0, qb + k0)) := by show _ = _; rw [HR.out, hi0, hk0]
  have HNO : Hid (∀ i k : Int, -1 ≤ i → i ≤ 2 → -1 ≤ k → k ≤ 2 → (i < i0 ∨ (i = i0 ∧ k < k0)) → nearB (s - i * d) (t - k * d) d = false) := fun i k h1 h2 h3 h4 h5 => (HNF.out i k h1 h2 h3 h4).1 (by rw [hi0, hk0]; exact h5)
  have HYES : Hid (nearB (s - i0 * d) (t - k0 * d) d = true) := (HNF.out i0 k0 (by omega) (by omega) (by omega) (by omega)).2 HCE.out.symm
  clear HNF hi0 hk0 HR HCE
  go_wp2
  go_loopw [12] (fun iv wr => ∃ i : Int, iv = .int .i64 i ∧ -1 ≤ i ∧ i ≤ i0 ∧ wr = w2) (fun iv _ => (3 - intOf iv).toNat)
  case atStart => exact ⟨-1, rfl, by omega, by omega, rfl⟩
  case round =>
    obtain ⟨i, rfl, hi1, hi2, rfl⟩ := hrel
    have q6 : decide (i ≤ 2) = true := decide_eq_true (by omega)
    obtain ⟨P, hP⟩ : ∃ P, i * d = P := ⟨_, rfl⟩
    have hPb := times_small (i := i) (d := d) (by omega) hi1 (by omega)
    rw [hP] at hPb
    obtain ⟨hP1, hP2⟩ := hPb
    have HNO2 : Hid (∀ k : Int, -1 ≤ k → k ≤ 2 → (i < i0 ∨ (i = i0 ∧ k < k0)) → nearB (s - P) (t - k * d) d = false) := fun k h3 h4 h5 => by rw [← hP]; exact HNO.out i k hi1 (by omega) h3 h4 h5
    have HY2 : Hid (i = i0 → nearB (s - P) (t - k0 * d) d = true) := fun e => by rw [← hP, e]; exact HYES.out
    clear HNO HYES
    go_wp2
    go_loopw [13] (fun kv wx => ∃ k : Int, kv = .int .i64 k ∧ -1 ≤ k ∧ k ≤ 3 ∧ (i = i0 → k ≤ k0) ∧ wx = wr) (fun kv _ => (4 - intOf kv).toNat)
    case atStart => exact ⟨-1, rfl, by omega, by omega, by omega, rfl⟩
    case round =>
      obtain ⟨k, rfl, hk1, hk2, hk3, rfl⟩ := hrel
      by_cases hk : k ≤ 2
      · have q7 : decide (k ≤ 2) = true := decide_eq_true hk
        obtain ⟨Q, hQ⟩ : ∃ P, k * d = P := ⟨_, rfl⟩
        have hQb := times_small (i := k) (d := d) (by omega) hk1 hk
        rw [hQ] at hQb
        obtain ⟨hQ1, hQ2⟩ := hQb
        have HH := Lib.hid (holds_any (s - P) (t - Q) d (by omega) (by omega))
        by_cases hat : i = i0 ∧ k = k0
        · obtain ⟨rfl, rfl⟩ := hat
          have hy := HY2.out rfl
          rw [hQ] at hy
          rw [hy] at HH
          clear hy HNO2 HY2
          obtain ⟨⟨z0, z1⟩, z2, z3⟩ := HT.out
          go_wp2_with fail
          refine (HH.out _).mono ?_
          rintro e w5 ⟨rfl, rfl⟩
          go_wp2
          exact bodyPost_ret (v := .tuple #[.agg #[.int .i64 (qa + i), .int .i64 (qb + k)], .bool true]) (by simp [results, Try.results34, go_sem, *]) rfl ⟨by rw [HZ.out], (HB.out.setCell (p := ⟨w.heap.size + 1, 0, none⟩) (by simp) _).setCell (p := ⟨w.heap.size + 1, 1, none⟩) (by simp) _⟩
        · have hn := HNO2.out k hk1 hk (by omega)
          rw [hQ] at hn
          rw [hn] at HH
          have hk4 : i = i0 → k + 1 ≤ k0 := fun e => by have := hk3 e; omega
          clear hn hat HNO2 HY2 hk3
          go_wp2_with fail
          refine (HH.out _).mono ?_
          rintro e w5 ⟨rfl, rfl⟩
          go_wp2
          go_roundw
          case rel => exact ⟨k + 1, rfl, by omega, by omega, hk4, by first | rfl | trivial⟩
          case measure => simp [intOf]; omega
      · have q7 : decide (k ≤ 2) = false := decide_eq_false hk
        have hlt : i + 1 ≤ i0 := by
          rcases Int.lt_or_le i i0 with h | h
          · omega
          · have := hk3 (by omega); omega
        clear HNO2 HY2 hk3
        go_wp2
        go_roundw
        case rel => exact ⟨i + 1, rfl, by omega, hlt, by first | rfl | trivial⟩
        case measure => simp [intOf]; omega
end Go.Proofs.Ytkjfdaleamonaaa
