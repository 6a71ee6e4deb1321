/- Contracts of the small functions of package poly: on which side of an edge a point lies, whether it lies on it, whether the edge crosses its row. -/
import Derived.Test.YtnnfkdajbaicoaaProg
import Derived.Test.YtnnfkdajbaicoaaKit
namespace Go.Proofs.Ytnnfkdajbaicoaa
open Go.RowKit

def side (a b c d x y : Int) : Int :=
  if wrap64 (wrap64 (x - a) * wrap64 (d - b)) < wrap64 (wrap64 (c - a) * wrap64 (y - b)) then 1
  else if wrap64 (wrap64 (c - a) * wrap64 (y - b)) < wrap64 (wrap64 (x - a) * wrap64 (d - b)) then -1 else 0
def btw (a b n : Int) : Bool := decide (min a b ≤ n) && decide (n ≤ max a b)
def onE (a b c d x y : Int) : Bool := btw a c x && btw b d y && side a b c d x y == 0
def crE (a b c d x y : Int) : Bool := if b ≤ y ∧ y < d then decide (0 < side a b c d x y) else if d ≤ y ∧ y < b then decide (side a b c d x y < 0) else false

set_option maxHeartbeats 400000 in
theorem side_any (a b c d x y : Int) (w : World) :
    Calls Try.prog 30 #[.agg #[.int .i64 a, .int .i64 b, .int .i64 c, .int .i64 d], .int .i64 x, .int .i64 y] w fun e w' => e = .returned (.int .i64 (side a b c d x y)) ∧ Below w.heap.size w w' := by
  go_enter Try.func30, Try.ntmps30
  go_wp2
  go_quiet (fail)
  go_wp2
  · go_ret
    exact ⟨ret_int (by unfold side; rw [if_pos (by assumption)]), below_drewN ((Below.refl _ _).alloc (Nat.le_refl _) _) _⟩
  · go_ret
    exact ⟨ret_int (by unfold side; rw [if_neg (by omega), if_pos (by assumption)]), below_drewN ((Below.refl _ _).alloc (Nat.le_refl _) _) _⟩
  · go_ret
    exact ⟨ret_int (by unfold side; rw [if_neg (by omega), if_neg (by omega)]), below_drewN ((Below.refl _ _).alloc (Nat.le_refl _) _) _⟩

theorem btw_any (a b n : Int) (w : World) :
    Calls Try.prog 29 #[.int .i64 a, .int .i64 b, .int .i64 n] w fun e w' => e = .returned (.bool (btw a b n)) ∧ w = w' := by
  by_cases h : a ≤ b
  · go_enter Try.func29, Try.ntmps29
    go_wp2
    all_goals
      go_ret
      exact ⟨ret_bool (by unfold btw; rw [Bool.eq_iff_iff]; simp; omega), rfl⟩
  · go_enter Try.func29, Try.ntmps29
    go_wp2
    all_goals
      go_ret
      exact ⟨ret_bool (by unfold btw; rw [Bool.eq_iff_iff]; simp; omega), rfl⟩

set_option maxHeartbeats 400000 in
theorem on_any (a b c d x y : Int) (w : World) :
    Calls Try.prog 24 #[.agg #[.int .i64 a, .int .i64 b, .int .i64 c, .int .i64 d], .int .i64 x, .int .i64 y] w fun e w' => e = .returned (.bool (onE a b c d x y)) ∧ Below w.heap.size w w' := by
  by_cases h : btw a c x = true
  · by_cases h2 : btw b d y = true
    · go_enter Try.func24, Try.ntmps24
      go_wp2_with (first | (go_at_call 29; refine (btw_any _ _ _ _).mono ?_; rintro e w' ⟨rfl, rfl⟩) | (go_at_call 30; refine (side_any _ _ _ _ _ _ _).mono ?_; rintro e w' ⟨rfl, hb⟩))
      go_ret
      exact ⟨ret_bool (by simp [onE, h, h2]), below_alloc hb⟩
    · simp only [Bool.not_eq_true] at h2
      go_enter Try.func24, Try.ntmps24
      go_wp2_with (first | (go_at_call 29; refine (btw_any _ _ _ _).mono ?_; rintro e w' ⟨rfl, rfl⟩))
      go_ret
      exact ⟨ret_bool (by simp [onE, h2]), (Below.refl _ _).alloc (Nat.le_refl _) _⟩
  · simp only [Bool.not_eq_true] at h
    go_enter Try.func24, Try.ntmps24
    go_wp2_with (first | (go_at_call 29; refine (btw_any _ _ _ _).mono ?_; rintro e w' ⟨rfl, rfl⟩))
    go_ret
    exact ⟨ret_bool (by simp [onE, h]), (Below.refl _ _).alloc (Nat.le_refl _) _⟩

set_option maxHeartbeats 400000 in
theorem cr_any (a b c d x y : Int) (w : World) :
    Calls Try.prog 25 #[.agg #[.int .i64 a, .int .i64 b, .int .i64 c, .int .i64 d], .int .i64 x, .int .i64 y] w fun e w' => e = .returned (.bool (crE a b c d x y)) ∧ Below w.heap.size w w' := by
  by_cases h : b ≤ y
  · by_cases h2 : y < d
    · go_enter Try.func25, Try.ntmps25
      go_wp2_with (first | (go_at_call 30; refine (side_any _ _ _ _ _ _ _).mono ?_; rintro e w' ⟨rfl, hb⟩))
      go_ret
      exact ⟨ret_bool (by unfold crE; rw [if_pos ⟨h, h2⟩]), below_alloc hb⟩
    · go_enter Try.func25, Try.ntmps25
      go_wp2
      go_ret
      exact ⟨ret_bool (by unfold crE; rw [if_neg (by omega), if_neg (by omega)]), (Below.refl _ _).alloc (Nat.le_refl _) _⟩
  · by_cases h2 : d ≤ y
    · go_enter Try.func25, Try.ntmps25
      go_wp2_with (first | (go_at_call 30; refine (side_any _ _ _ _ _ _ _).mono ?_; rintro e w' ⟨rfl, hb⟩))
      go_ret
      exact ⟨ret_bool (by unfold crE; rw [if_neg (by omega), if_pos (by omega)]), below_alloc hb⟩
    · go_enter Try.func25, Try.ntmps25
      go_wp2
      go_ret
      exact ⟨ret_bool (by unfold crE; rw [if_neg (by omega), if_neg (by omega)]), (Below.refl _ _).alloc (Nat.le_refl _) _⟩
end Go.Proofs.Ytnnfkdajbaicoaa
