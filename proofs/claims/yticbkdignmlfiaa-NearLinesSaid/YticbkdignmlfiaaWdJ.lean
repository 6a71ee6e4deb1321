/- The contract of eisen.Steps. -/
import Derived.Test.YticbkdignmlfiaaWdF
import Derived.Test.YticbkdignmlfiaaWdL
import Derived.Lib.MinMax
namespace Go.Proofs.Yticbkdignmlfiaa
open Go.RowKit Go.Lib Wd

/-- The three that are looked at, and the greatest so far. -/
def triN (a b c : Int) (k : Nat) : Int := if k = 0 then a else if k = 1 then b else c
def mostN (a b c : Int) : Nat → Int
  | 0 => 0
  | k + 1 => max (mostN a b c k) ((triN a b c k).natAbs : Int)
theorem most_steps (a b : Int) : mostN a b (a + b) 3 = stepsN (a, b) := by
  unfold stepsN
  show max (max (max 0 ((triN a b (a + b) 0).natAbs : Int)) ((triN a b (a + b) 1).natAbs : Int)) ((triN a b (a + b) 2).natAbs : Int) = _
  unfold triN
  simp only [if_true, if_neg (show ¬ (1 : Nat) = 0 by decide), if_neg (show ¬ (2 : Nat) = 0 by decide), if_neg (show ¬ (2 : Nat) = 1 by decide)]
  omega
set_option maxRecDepth 100000 in
set_option maxHeartbeats 2000000 in
theorem steps_in (z : E2) (hz : Sm 1152921504606846976 z) (w : World) :
    Calls Try.prog 54 #[vE z] w fun e w' => e = .returned (.tuple #[.int .i64 (stepsN z), .bool true]) ∧ Below w.heap.size w w' := by
  obtain ⟨a, b⟩ := z
  unfold Sm at hz
  simp only at hz
  obtain ⟨h1, h2, h3, h4⟩ := hz
  have HA := Lib.hid (nadd_in a b (by omega) (by omega) (by omega) (by omega))
  have HS : Hid (mostN a b (a + b) 3 = stepsN (a, b)) := most_steps a b
  simp only [vE]
  generalize stepsN (a, b) = r at *
  go_enter Try.func54, Try.ntmps54
  go_wp2_with fail
  refine (HA.out _).mono ?_
  rintro e w1 ⟨rfl, rfl⟩
  go_wp2
  have hz := World.size_alloc w (.cells #[.int .i64 a, .int .i64 b] 23)
  have HR : Hid (((w.alloc (.cells #[.int .i64 a, .int .i64 b] 23)).alloc (.cells #[.int .i64 a, .int .i64 b, .int .i64 (a + b)] 2)).heap[w.heap.size + 1]? = some (.cells #[.int .i64 a, .int .i64 b, .int .i64 (a + b)] 2 (0, 0))) := heap_new _ _ _ (by simp)
  have HB : Hid (Below w.heap.size w ((w.alloc (.cells #[.int .i64 a, .int .i64 b] 23)).alloc (.cells #[.int .i64 a, .int .i64 b, .int .i64 (a + b)] 2))) := ((Below.refl _ _).alloc (Nat.le_refl _) _).alloc (by simp) _
  have hs2 : w.heap.size + 1 < ((w.alloc (.cells #[.int .i64 a, .int .i64 b] 23)).alloc (.cells #[.int .i64 a, .int .i64 b, .int .i64 (a + b)] 2)).heap.size := by simp
  generalize (w.alloc (.cells #[.int .i64 a, .int .i64 b] 23)).alloc (.cells #[.int .i64 a, .int .i64 b, .int .i64 (a + b)] 2) = w2 at *
  obtain ⟨c, hc⟩ : ∃ c, a + b = c := ⟨_, rfl⟩
  rw [hc] at HR HS
  have HX : Hid (∀ k, k < 3 → w2.cell? ⟨w.heap.size + 1, k, none⟩ = some (.int .i64 (triN a b c k)) ∧ -2305843009213693952 ≤ triN a b c k ∧ triN a b c k ≤ 2305843009213693952) := by
    intro k hk
    have h := HR.out
    rcases (show k = 0 ∨ k = 1 ∨ k = 2 by omega) with rfl | rfl | rfl
    · exact ⟨by simp [World.cell?, h, triN], by simp [triN]; omega, by simp [triN]; omega⟩
    · exact ⟨by simp [World.cell?, h, triN], by simp [triN]; omega, by simp [triN]; omega⟩
    · exact ⟨by simp [World.cell?, h, triN], by simp [triN]; omega, by simp [triN]; omega⟩
  clear hc HR h1 h2 h3 h4 HA
  go_loopw [5, 6, 8, 26] (fun ok mx _ i wr => ∃ (k : Nat) (M : Int), k ≤ 3 ∧ i = .int .i64 k ∧ ok = .bool true ∧ mx = .int .i64 M ∧ Hid (M = mostN a b c k) ∧ wr = w2) (fun _ _ _ i _ => 3 - (intOf i).toNat)
  case atStart => exact ⟨0, 0, by omega, rfl, rfl, rfl, rfl, rfl⟩
  case round =>
    obtain ⟨k, M, hk, rfl, rfl, rfl, HM, rfl⟩ := hrel
    by_cases hk3 : k < 3
    · obtain ⟨c0, x1, x2⟩ := HX.out k hk3
      have HN : Hid (mostN a b c (k + 1) = max M ((triN a b c k).natAbs : Int)) := by rw [HM.out]; rfl
      generalize triN a b c k = x at *
      by_cases hx : x < 0
      · have q1 : decide (x < 0) = true := decide_eq_true hx
        have HG := Lib.hid (neg_in x (by omega) (by omega))
        go_wp2_with fail
        refine (HG.out _).mono ?_
        rintro e w5 ⟨rfl, rfl⟩
        go_wp2
        go_roundw
        case rel => exact ⟨k + 1, max M (-x), by omega, by go_num, rfl, rfl, by show _ = _; rw [HN.out]; omega, trivial⟩
        case measure => simp [intOf]; omega
      · have q1 : decide (x < 0) = false := decide_eq_false hx
        go_wp2
        go_roundw
        case rel => exact ⟨k + 1, max M x, by omega, by go_num, rfl, rfl, by show _ = _; rw [HN.out]; omega, trivial⟩
        case measure => simp [intOf]; omega
    · obtain rfl : k = 3 := by omega
      have e3 : M = r := by rw [HM.out, HS.out]
      subst e3
      go_wp2
      go_ret2
      exact ⟨rfl, HB.out⟩
end Go.Proofs.Yticbkdignmlfiaa
