/- Contracts of package num where nothing wraps: Add, Sub, Neg, Within, Floor. -/
import Derived.Test.YtkjfdaleamonaaaWdP
import Derived.Test.YtkjfdaleamonaaaLex6
import Derived.Test.YtkjfdaleamonaaaProg
import Derived.Deep.CutRange
import Derived.Deep.CutBlock
import Derived.Deep.RegionWith
import Derived.BigRegion
namespace Go.Proofs.Ytkjfdaleamonaaa
open Go.RowKit Go.Lib Wd

theorem nadd_in (a b : Int) (h1 : -4611686018427387904 ≤ a) (h2 : a ≤ 4611686018427387903) (h3 : -4611686018427387904 ≤ b) (h4 : b ≤ 4611686018427387903) (w : World) :
    Calls Try.prog 88 #[.int .i64 a, .int .i64 b] w fun e w' => e = .returned (.tuple #[.int .i64 (a + b), .bool true]) ∧ w' = w := by
  rcases (show b < 0 ∨ b = 0 ∨ 0 < b by omega) with hb | hb | hb
  · have q1 : decide (a < a + b) = false := decide_eq_false (by omega)
    have q2 : decide (0 < b) = false := decide_eq_false (by omega)
    go_enter Try.func88, Try.ntmps88
    go_wp2
    go_ret2
    exact ⟨rfl, rfl⟩
  · subst hb
    go_enter Try.func88, Try.ntmps88
    go_wp2
    go_ret2
    exact ⟨by simp, rfl⟩
  · have q1 : decide (a < a + b) = true := decide_eq_true (by omega)
    have q2 : decide (0 < b) = true := decide_eq_true (by omega)
    go_enter Try.func88, Try.ntmps88
    go_wp2
    go_ret2
    exact ⟨rfl, rfl⟩
theorem nsub_in (a b : Int) (h1 : -4611686018427387904 ≤ a) (h2 : a ≤ 4611686018427387903) (h3 : -4611686018427387904 ≤ b) (h4 : b ≤ 4611686018427387903) (w : World) :
    Calls Try.prog 101 #[.int .i64 a, .int .i64 b] w fun e w' => e = .returned (.tuple #[.int .i64 (a - b), .bool true]) ∧ w' = w := by
  rcases (show b < 0 ∨ b = 0 ∨ 0 < b by omega) with hb | hb | hb
  · have q1 : decide (a - b < a) = false := decide_eq_false (by omega)
    have q2 : decide (0 < b) = false := decide_eq_false (by omega)
    go_enter Try.func101, Try.ntmps101
    go_wp2
    go_ret2
    exact ⟨rfl, rfl⟩
  · subst hb
    go_enter Try.func101, Try.ntmps101
    go_wp2
    go_ret2
    exact ⟨by simp, rfl⟩
  · have q1 : decide (a - b < a) = true := decide_eq_true (by omega)
    have q2 : decide (0 < b) = true := decide_eq_true (by omega)
    go_enter Try.func101, Try.ntmps101
    go_wp2
    go_ret2
    exact ⟨rfl, rfl⟩
theorem within_any (a m : Int) (h1 : 0 ≤ m) (h2 : m ≤ 4611686018427387903) (w : World) :
    Calls Try.prog 98 #[.int .i64 a, .int .i64 m] w fun e w' => e = .returned (.bool (decide (-m ≤ a) && decide (a ≤ m))) ∧ w' = w := by
  have HF : Hid ((decide (-m ≤ a) && decide (a ≤ m)) = (decide (-m ≤ a) && decide (a ≤ m))) := rfl
  rcases (show a < -m ∨ (-m ≤ a ∧ m < a) ∨ (-m ≤ a ∧ a ≤ m) by omega) with h | ⟨h, h3⟩ | ⟨h, h3⟩
  · have hr : (decide (-m ≤ a) && decide (a ≤ m)) = false := by simp; omega
    have HR := Lib.hid hr
    rw [hr]
    clear hr HF
    go_enter Try.func98, Try.ntmps98
    go_wp2
    go_ret
    exact ⟨rfl, rfl⟩
  · have hr : (decide (-m ≤ a) && decide (a ≤ m)) = false := by simp; omega
    rw [hr]
    clear hr HF
    go_enter Try.func98, Try.ntmps98
    go_wp2
    go_ret
    exact ⟨rfl, rfl⟩
  · have hr : (decide (-m ≤ a) && decide (a ≤ m)) = true := by simp; omega
    have q1 : (a != -9223372036854775808) = true := by simp; omega
    rw [hr]
    clear hr HF
    go_enter Try.func98, Try.ntmps98
    go_wp2
    go_ret
    exact ⟨rfl, rfl⟩
theorem floor_nums {a d : Int} (hd : 0 < d) : (a.tmod d < 0 ∧ a.tdiv d - 1 = a / d ∧ a.tmod d + d = a % d ∧ 0 ≤ a.tmod d + d ∧ a.tmod d + d < d) ∨ (0 ≤ a.tmod d ∧ a.tdiv d = a / d ∧ a.tmod d = a % d) := by
  have h1 := Int.mul_tdiv_add_tmod a d
  have h2 := Int.tmod_lt_of_pos a hd
  have h3 := Int.lt_tmod_of_pos a hd
  rcases Int.lt_or_le (a.tmod d) 0 with h | h
  · left
    have := (Int.ediv_emod_unique (a := a) (b := d) (r := a.tmod d + d) (q := a.tdiv d - 1) hd).2 ⟨by rw [Int.mul_sub]; omega, by omega, by omega⟩
    exact ⟨h, this.1.symm, this.2.symm, by omega, by omega⟩
  · right
    have := (Int.ediv_emod_unique (a := a) (b := d) (r := a.tmod d) (q := a.tdiv d) hd).2 ⟨by omega, by omega, by omega⟩
    exact ⟨h, this.1.symm, this.2.symm⟩
theorem floor_any (a d : Int) (hd : 0 < d) (hd2 : d ≤ 4611686018427387903) (h1 : -4611686018427387904 ≤ a) (h2 : a ≤ 4611686018427387903) (w : World) :
    Calls Try.prog 100 #[.int .i64 a, .int .i64 d] w fun e w' => e = .returned (.tuple #[.int .i64 (a / d), .int .i64 (a % d), .bool true]) ∧ ∃ n, w' = w.drewN n := by
  have hb1 := Int.ediv_mul_le a (show d ≠ 0 by omega)
  have q0 : d ≠ 0 := by omega
  have q9 : d ≠ -1 := by omega
  have hq : -4611686018427387905 ≤ a.tdiv d ∧ a.tdiv d ≤ 4611686018427387905 := by
    have := Int.natAbs_tdiv_le_natAbs a d
    omega
  obtain ⟨hq1, hq2⟩ := hq
  rcases floor_nums (a := a) hd with ⟨k1, k2, k3, k4, k5⟩ | ⟨k1, k2, k3⟩
  · rw [← k2, ← k3]
    clear k2 k3 hb1
    generalize hx : a.tdiv d = x at *
    generalize hy : a.tmod d = y at *
    go_enter Try.func100, Try.ntmps100
    go_upto_region 3 with (fail)
    go_quiet (fail)
    go_wp2
    go_ret3
    exact ⟨rfl, _, rfl⟩
  · rw [← k2, ← k3]
    clear k2 k3 hb1
    generalize hx : a.tdiv d = x at *
    generalize hy : a.tmod d = y at *
    go_enter Try.func100, Try.ntmps100
    go_upto_region 3 with (fail)
    go_quiet (fail)
    go_wp2
    go_ret3
    exact ⟨rfl, _, rfl⟩
end Go.Proofs.Ytkjfdaleamonaaa
