/- Contracts of package eisen's numbers of 128 bits, where nothing is lost: times, plus, minus, short. -/
import Derived.Test.YtkjfdaleamonaaaWdM
import Derived.Test.YtkjfdaleamonaaaWdA
import Derived.Deep.CutRange
import Derived.Deep.CutBlock
import Derived.Shelf.Spec.BitsCarry
namespace Go.Proofs.Ytkjfdaleamonaaa
open Go.RowKit Go.Lib Wd

/-- The halves of a number. -/
def hW (A : Int) : Int := A / 18446744073709551616
def lW (A : Int) : Int := A % 18446744073709551616
theorem times_in (a b : Int) (ha : -2305843009213693952 ≤ a ∧ a ≤ 2305843009213693952) (hb : -2305843009213693952 ≤ b ∧ b ≤ 2305843009213693952) (w : World) :
    Calls Try.prog 83 #[.int .i64 a, .int .i64 b] w fun e w' => e = .returned (.agg #[.int .i64 (hW (a * b)), .int .u64 (lW (a * b))]) ∧ Below w.heap.size w w' := by
  obtain ⟨x, hx⟩ : ∃ x : Nat, (a % 18446744073709551616).toNat = x := ⟨_, rfl⟩
  obtain ⟨y, hy⟩ : ∃ x : Nat, (b % 18446744073709551616).toNat = x := ⟨_, rfl⟩
  have hx1 : (x : Int) = a % 18446744073709551616 := by omega
  have hy1 : (y : Int) = b % 18446744073709551616 := by omega
  have HM : Hid (∀ w : World, _) := fun w => mul64_any x y (by omega) (by omega) w
  have ea : IntKind.u64.wrap a = (x : Int) := by rw [IntKind.wrap_u64, hx1]
  have eb : IntKind.u64.wrap b = (y : Int) := by rw [IntKind.wrap_u64, hy1]
  have hp : -5316911983139663491615228241121378304 ≤ a * b ∧ a * b ≤ 5316911983139663491615228241121378304 := by
    have h1 : (a * b).natAbs ≤ 2305843009213693952 * 2305843009213693952 := by rw [Int.natAbs_mul]; exact Nat.mul_le_mul (by omega) (by omega)
    omega
  obtain ⟨n, hn⟩ : ∃ n : Nat, x * y = n := ⟨_, rfl⟩
  have hn1 : (n : Int) = (a % 18446744073709551616) * (b % 18446744073709551616) := by rw [← hn, Int.natCast_mul, hx1, hy1]
  rw [hn] at HM
  obtain ⟨P, hP⟩ : ∃ P : Int, a * b = P := ⟨_, rfl⟩
  rw [hP] at hp ⊢
  have key : ∀ H L : Int, H = hW P → L = lW P → Hid (H = hW P ∧ L = lW P) := fun _ _ h1 h2 => ⟨h1, h2⟩
  by_cases h1 : a < 0 <;> by_cases h2 : b < 0
  · have q1 : a % 18446744073709551616 = a + 18446744073709551616 := by omega
    have q2 : b % 18446744073709551616 = b + 18446744073709551616 := by omega
    have hn2 : (n : Int) = P + 18446744073709551616 * (a + b) + 340282366920938463463374607431768211456 := by rw [hn1, q1, q2, ← hP, Int.add_mul, Int.mul_add, Int.mul_add]; omega
    obtain ⟨H, hH⟩ : ∃ H : Nat, n / 18446744073709551616 = H := ⟨_, rfl⟩
    obtain ⟨L, hL⟩ : ∃ H : Nat, n % 18446744073709551616 = H := ⟨_, rfl⟩
    rw [hH, hL] at HM
    have e0 : IntKind.i64.wrap (H : Int) = hW P + a + b := by rw [IntKind.wrap_i64]; unfold hW; omega
    have e1 : IntKind.i64.wrap (hW P + a + b - b) = hW P + a := by rw [IntKind.wrap_i64]; unfold hW; omega
    have e2 : IntKind.i64.wrap (hW P + a - a) = hW P := by rw [IntKind.wrap_i64]; unfold hW; omega
    have HE : Hid ((L : Int) = lW P) := by show _ = _; unfold lW; omega
    clear hn hn1 hn2 q1 q2 hx hy hx1 hy1 hp hP ha hb hH hL key
    generalize hW P + a + b = A0 at *
    generalize hW P + a = A1 at *
    generalize hW P = A2 at *
    go_enter Try.func83, Try.ntmps83
    go_wp2_with (go_at_call 46; refine (HM.out _).mono ?_; rintro e w' ⟨rfl, rfl⟩)
    exact bodyPost_ret (v := .agg #[.int .i64 A2, .int .u64 L]) (by simp [results, Try.results83, go_sem]) rfl ⟨by rw [HE.out], (Below.refl _ _).alloc (Nat.le_refl _) _⟩
  · have q1 : a % 18446744073709551616 = a + 18446744073709551616 := by omega
    have q2 : b % 18446744073709551616 = b := by omega
    have hn2 : (n : Int) = P + 18446744073709551616 * b := by rw [hn1, q1, q2, ← hP, Int.add_mul]
    have qb : decide (b < 0) = false := by simpa using h2
    obtain ⟨H, hH⟩ : ∃ H : Nat, n / 18446744073709551616 = H := ⟨_, rfl⟩
    obtain ⟨L, hL⟩ : ∃ H : Nat, n % 18446744073709551616 = H := ⟨_, rfl⟩
    rw [hH, hL] at HM
    have e0 : IntKind.i64.wrap (H : Int) = hW P + b := by rw [IntKind.wrap_i64]; unfold hW; omega
    have e1 : IntKind.i64.wrap (hW P + b - b) = hW P := by rw [IntKind.wrap_i64]; unfold hW; omega
    have HE : Hid ((L : Int) = lW P) := by show _ = _; unfold lW; omega
    clear hn hn1 hn2 q1 q2 hx hy hx1 hy1 hp hP ha hb hH hL key
    generalize hW P + b = A1 at *
    generalize hW P = A2 at *
    go_enter Try.func83, Try.ntmps83
    go_wp2_with (go_at_call 46; refine (HM.out _).mono ?_; rintro e w' ⟨rfl, rfl⟩)
    exact bodyPost_ret (v := .agg #[.int .i64 A2, .int .u64 L]) (by simp [results, Try.results83, go_sem]) rfl ⟨by rw [HE.out], (Below.refl _ _).alloc (Nat.le_refl _) _⟩
  · have q1 : a % 18446744073709551616 = a := by omega
    have q2 : b % 18446744073709551616 = b + 18446744073709551616 := by omega
    have hn2 : (n : Int) = P + 18446744073709551616 * a := by rw [hn1, q1, q2, ← hP, Int.mul_add, Int.mul_comm a 18446744073709551616]
    have qa : decide (a < 0) = false := by simpa using h1
    obtain ⟨H, hH⟩ : ∃ H : Nat, n / 18446744073709551616 = H := ⟨_, rfl⟩
    obtain ⟨L, hL⟩ : ∃ H : Nat, n % 18446744073709551616 = H := ⟨_, rfl⟩
    rw [hH, hL] at HM
    have e0 : IntKind.i64.wrap (H : Int) = hW P + a := by rw [IntKind.wrap_i64]; unfold hW; omega
    have e1 : IntKind.i64.wrap (hW P + a - a) = hW P := by rw [IntKind.wrap_i64]; unfold hW; omega
    have HE : Hid ((L : Int) = lW P) := by show _ = _; unfold lW; omega
    clear hn hn1 hn2 q1 q2 hx hy hx1 hy1 hp hP ha hb hH hL key
    generalize hW P + a = A1 at *
    generalize hW P = A2 at *
    go_enter Try.func83, Try.ntmps83
    go_wp2_with (go_at_call 46; refine (HM.out _).mono ?_; rintro e w' ⟨rfl, rfl⟩)
    exact bodyPost_ret (v := .agg #[.int .i64 A2, .int .u64 L]) (by simp [results, Try.results83, go_sem]) rfl ⟨by rw [HE.out], (Below.refl _ _).alloc (Nat.le_refl _) _⟩
  · have q1 : a % 18446744073709551616 = a := by omega
    have q2 : b % 18446744073709551616 = b := by omega
    have hn2 : (n : Int) = P := by rw [hn1, q1, q2, hP]
    have qa : decide (a < 0) = false := by simpa using h1
    have qb : decide (b < 0) = false := by simpa using h2
    obtain ⟨H, hH⟩ : ∃ H : Nat, n / 18446744073709551616 = H := ⟨_, rfl⟩
    obtain ⟨L, hL⟩ : ∃ H : Nat, n % 18446744073709551616 = H := ⟨_, rfl⟩
    rw [hH, hL] at HM
    have e0 : IntKind.i64.wrap (H : Int) = hW P := by rw [IntKind.wrap_i64]; unfold hW; omega
    have HE : Hid ((L : Int) = lW P) := by show _ = _; unfold lW; omega
    clear hn hn1 hn2 q1 q2 hx hy hx1 hy1 hp hP ha hb hH hL key
    generalize hW P = A2 at *
    go_enter Try.func83, Try.ntmps83
    go_wp2_with (go_at_call 46; refine (HM.out _).mono ?_; rintro e w' ⟨rfl, rfl⟩)
    exact bodyPost_ret (v := .agg #[.int .i64 A2, .int .u64 L]) (by simp [results, Try.results83, go_sem]) rfl ⟨by rw [HE.out], (Below.refl _ _).alloc (Nat.le_refl _) _⟩
theorem sub64_run (x y c : Nat) (hc : c ≤ 1) (w : World) :
    (callFunc 94 #[.int .u64 x, .int .u64 y, .int .u64 c]).run Try.prog w =
      .ok (.value (.tuple #[.int .u64 (((x + 18446744073709551616 - y - c) % 18446744073709551616 : Nat) : Int), .int .u64 ((if x < y + c then 1 else 0 : Nat) : Int)])) w := by
  rw [run_callFunc_extern Try.func94 (by kernel_rfl) (by kernel_rfl) (by kernel_rfl) (e := sub64Entry) (by kernel_rfl), run_sub64 x y c hc]
  rfl
theorem wplus_in (A B : Int) (ha : -10633823966279326983230456482242756608 ≤ A ∧ A ≤ 10633823966279326983230456482242756608) (hb : -10633823966279326983230456482242756608 ≤ B ∧ B ≤ 10633823966279326983230456482242756608) (w : World) :
    Calls Try.prog 82 #[.agg #[.int .i64 (hW A), .int .u64 (lW A)], .agg #[.int .i64 (hW B), .int .u64 (lW B)]] w fun e w' => e = .returned (.agg #[.int .i64 (hW (A + B)), .int .u64 (lW (A + B))]) ∧ Below w.heap.size w w' := by
  obtain ⟨x, hx⟩ : ∃ x : Nat, (lW A).toNat = x := ⟨_, rfl⟩
  obtain ⟨y, hy⟩ : ∃ x : Nat, (lW B).toNat = x := ⟨_, rfl⟩
  have hx1 : lW A = (x : Int) := by unfold lW at *; omega
  have hy1 : lW B = (y : Int) := by unfold lW at *; omega
  rw [hx1, hy1]
  obtain ⟨c, hc⟩ : ∃ c, (x + y + 0) / 18446744073709551616 = c := ⟨_, rfl⟩
  obtain ⟨l, hl⟩ : ∃ c, (x + y + 0) % 18446744073709551616 = c := ⟨_, rfl⟩
  have A1 : ∀ w, (callFunc 48 #[.int .u64 x, .int .u64 y, .int .u64 0]).run Try.prog w = .ok (.value (.tuple #[.int .u64 (l : Nat), .int .u64 (c : Nat)])) w := fun w => by
    have := add64_run x y 0 (by omega) w
    rw [hc, hl] at this
    exact this
  have e0 : IntKind.i64.wrap (hW A + hW B) = hW A + hW B := by rw [IntKind.wrap_i64]; unfold hW; omega
  have e1 : IntKind.i64.wrap (c : Int) = c := by rw [IntKind.wrap_i64]; unfold lW at hx1 hy1; omega
  have e2 : IntKind.i64.wrap (hW A + hW B + c) = hW (A + B) := by rw [IntKind.wrap_i64]; unfold hW; unfold lW at hx1 hy1; omega
  have HL : Hid (lW (A + B) = (l : Int)) := by show _ = _; unfold lW at *; omega
  clear hx hy hx1 hy1 hc hl ha hb
  generalize hW (A + B) = h3 at *
  generalize hW A = h1 at *
  generalize hW B = h2 at *
  generalize lW (A + B) = l3 at *
  go_enter Try.func82, Try.ntmps82
  go_wp2
  exact bodyPost_ret (v := .agg #[.int .i64 h3, .int .u64 l]) (by simp [results, Try.results82, go_sem]) rfl ⟨by rw [HL.out], (((Below.refl _ _).alloc (Nat.le_refl _) _).alloc (by simp) _).alloc (by simp; omega) _⟩
theorem wminus_in (A B : Int) (ha : -10633823966279326983230456482242756608 ≤ A ∧ A ≤ 10633823966279326983230456482242756608) (hb : -10633823966279326983230456482242756608 ≤ B ∧ B ≤ 10633823966279326983230456482242756608) (w : World) :
    Calls Try.prog 84 #[.agg #[.int .i64 (hW A), .int .u64 (lW A)], .agg #[.int .i64 (hW B), .int .u64 (lW B)]] w fun e w' => e = .returned (.agg #[.int .i64 (hW (A - B)), .int .u64 (lW (A - B))]) ∧ Below w.heap.size w w' := by
  obtain ⟨x, hx⟩ : ∃ x : Nat, (lW A).toNat = x := ⟨_, rfl⟩
  obtain ⟨y, hy⟩ : ∃ x : Nat, (lW B).toNat = x := ⟨_, rfl⟩
  have hx1 : lW A = (x : Int) := by unfold lW at *; omega
  have hy1 : lW B = (y : Int) := by unfold lW at *; omega
  rw [hx1, hy1]
  obtain ⟨c, hc⟩ : ∃ c : Nat, (if x < y + 0 then 1 else 0) = c := ⟨_, rfl⟩
  obtain ⟨l, hl⟩ : ∃ c, (x + 18446744073709551616 - y - 0) % 18446744073709551616 = c := ⟨_, rfl⟩
  have A1 : ∀ w, (callFunc 94 #[.int .u64 x, .int .u64 y, .int .u64 0]).run Try.prog w = .ok (.value (.tuple #[.int .u64 (l : Nat), .int .u64 (c : Nat)])) w := fun w => by
    have := sub64_run x y 0 (by omega) w
    rw [hc, hl] at this
    exact this
  have hc2 : (x < y ∧ c = 1) ∨ (y ≤ x ∧ c = 0) := by split at hc <;> omega
  have e0 : IntKind.i64.wrap (hW A - hW B) = hW A - hW B := by rw [IntKind.wrap_i64]; unfold hW; omega
  have e1 : IntKind.i64.wrap (c : Int) = c := by rw [IntKind.wrap_i64]; omega
  have e2 : IntKind.i64.wrap (hW A - hW B - c) = hW (A - B) := by rw [IntKind.wrap_i64]; unfold hW; unfold lW at hx1 hy1; omega
  have HL : Hid (lW (A - B) = (l : Int)) := by show _ = _; unfold lW at *; omega
  clear hx hy hx1 hy1 hc hl ha hb hc2
  generalize hW (A - B) = h3 at *
  generalize hW A = h1 at *
  generalize hW B = h2 at *
  generalize lW (A - B) = l3 at *
  go_enter Try.func84, Try.ntmps84
  go_wp2
  exact bodyPost_ret (v := .agg #[.int .i64 h3, .int .u64 l]) (by simp [results, Try.results84, go_sem]) rfl ⟨by rw [HL.out], (((Below.refl _ _).alloc (Nat.le_refl _) _).alloc (by simp) _).alloc (by simp; omega) _⟩
theorem wshort_in (A : Int) (ha : -4611686018427387904 ≤ A ∧ A ≤ 4611686018427387904) (w : World) :
    Calls Try.prog 85 #[.agg #[.int .i64 (hW A), .int .u64 (lW A)]] w fun e w' => e = .returned (.tuple #[.int .i64 A, .bool true]) ∧ Below w.heap.size w w' := by
  have e1 : IntKind.i64.wrap (lW A) = A := by rw [IntKind.wrap_i64]; unfold lW; omega
  rcases (show A < 0 ∨ 0 ≤ A by omega) with h | h
  · have e2 : hW A = -1 := by unfold hW; omega
    rw [e2]
    have q1 : decide (A < 0) = true := by simpa using h
    clear ha e2
    generalize lW A = l at *
    go_enter Try.func85, Try.ntmps85
    go_wp2
    go_ret2
    exact ⟨rfl, (Below.refl _ _).alloc (Nat.le_refl _) _⟩
  · have e2 : hW A = 0 := by unfold hW; omega
    rw [e2]
    have q1 : decide (A < 0) = false := by simp; omega
    have q2 : decide (0 ≤ A) = true := by simpa using h
    clear ha e2
    generalize lW A = l at *
    go_enter Try.func85, Try.ntmps85
    go_wp2
    go_ret2
    exact ⟨rfl, (Below.refl _ _).alloc (Nat.le_refl _) _⟩
end Go.Proofs.Ytkjfdaleamonaaa
