/- Contracts of apiaryref1.size, Steps, Distance. -/
import Derived.Test.YticbkdignmlfiaaNfE
import Derived.Test.YticbkdignmlfiaaWdK
namespace Go.Proofs.Yticbkdignmlfiaa
open Go.RowKit Go.Lib Wd

theorem rsize_in (n : Int) (h1 : -4611686018427387904 ≤ n) (h2 : n ≤ 4611686018427387904) (w : World) :
    Calls Try.prog 58 #[.int .i64 n] w fun e w' => e = .returned (.int .i64 (n.natAbs : Int)) ∧ w' = w := by
  rcases Int.lt_or_le n 0 with h | h
  · have q : decide (n < 0) = true := decide_eq_true h
    obtain ⟨m, hm⟩ : ∃ m, (n.natAbs : Int) = m := ⟨_, rfl⟩
    have e : -n = m := by omega
    rw [hm]
    go_enter Try.func58, Try.ntmps58
    go_wp2
    go_ret
    exact ⟨by first | rfl | rw [e], rfl⟩
  · have q : decide (n < 0) = false := decide_eq_false (by omega)
    obtain ⟨m, hm⟩ : ∃ m, (n.natAbs : Int) = m := ⟨_, rfl⟩
    obtain rfl : n = m := by omega
    rw [hm]
    clear hm
    go_enter Try.func58, Try.ntmps58
    go_wp2
    go_ret
    exact ⟨rfl, rfl⟩
@[go_sem high] theorem run_max_three {P : Program} (w : World) (ts : Array TypeId) (t : TypeId) (k k' k'' : IntKind) (x y z : Int) :
    (Builtin.max_ ts t #[.int k x, .int k' y, .int k'' z]).run P w = .ok (.int k (max (max x y) z)) w := by
  have e : ∀ x y : Int, (if y > x then y else x) = max x y := fun x y => by
    rw [Int.max_def]
    split <;> split <;> omega
  simp [Builtin.max_, Builtin.max2, e]
set_option maxRecDepth 100000 in
set_option maxHeartbeats 2000000 in
theorem rsteps_in (z : E2) (hz : Sm 1152921504606846976 z) (w : World) :
    Calls Try.prog 38 #[vE z] w fun e w' => e = .returned (.tuple #[.int .i64 (stepsN z), .bool true]) ∧ Below w.heap.size w w' := by
  obtain ⟨a, b⟩ := z
  unfold Sm at hz
  simp only at hz
  obtain ⟨h1, h2, h3, h4⟩ := hz
  have WA := Lib.hid (w_x a (by omega) (by omega))
  have WB := Lib.hid (w_x b (by omega) (by omega))
  have PL := Lib.hid (plus_x a b)
  have SM := Lib.hid (small_x (a + b) (by omega))
  have SA := Lib.hid (rsize_in a (by omega) (by omega))
  have SB := Lib.hid (rsize_in b (by omega) (by omega))
  have SC := Lib.hid (rsize_in (a + b) (by omega) (by omega))
  have HS : Hid (stepsN (a, b) = max (max (a.natAbs : Int) (b.natAbs : Int)) ((a + b).natAbs : Int)) := rfl
  have q1 : (a == -9223372036854775808) = false := by simp; omega
  have q2 : (b == -9223372036854775808) = false := by simp; omega
  have q3 : (a + b == -9223372036854775808) = false := by simp; omega
  simp only [vE, vU] at *
  generalize stepsN (a, b) = r at *
  generalize (a.natAbs : Int) = A at *
  generalize (b.natAbs : Int) = B at *
  generalize ((a + b).natAbs : Int) = C at *
  generalize a + b = c at *
  clear h1 h2 h3 h4
  go_enter Try.func38, Try.ntmps38
  go_upto_region 1 with (fail)
  have HT : Hid (Two (w.alloc (.cells #[.int .i64 a, .int .i64 b] 23)) w.heap.size (.int .i64 a) (.int .i64 b)) := Two.of_row (t := 23) (f := _) (heap_new _ _ _ rfl)
  have HB : Hid (Below w.heap.size w (w.alloc (.cells #[.int .i64 a, .int .i64 b] 23))) := (Below.refl _ _).alloc (Nat.le_refl _) _
  have hs : w.heap.size < (w.alloc (.cells #[.int .i64 a, .int .i64 b] 23)).heap.size := by simp
  generalize w.alloc (.cells #[.int .i64 a, .int .i64 b] 23) = w1 at *
  have HC : Hid (∀ wx, Below w1.heap.size w1 wx → Two wx w.heap.size (.int .i64 a) (.int .i64 b)) := fun wx hx => HT.out.later (by omega) hx
  refine wp_region_inv (fun w w' => Below w.heap.size w w') (fun qi_ qv_ _ => qv_ = ([.pointer (some ⟨w.heap.size, 0, none⟩), .int .i64 a, .agg #[.int .u64 (uH a), .int .u64 (uL a)], .pointer (some ⟨w.heap.size, 1, none⟩), .int .i64 b, .agg #[.int .u64 (uH b), .int .u64 (uL b)], .agg #[.int .u64 (uH c), .int .u64 (uL c)], .tuple #[.int .i64 c, .bool true], .tuple #[.int .i64 c, .bool true], .int .i64 c, .bool true, .int .i64 c, .bool true] : List Value).getD qi_ undef) (by kernel_rfl) (by kernel_rfl) (fun _ => Below.refl _ _) (fun _ _ _ h1 h2 => below_later h1 h1.size h2) (fun _ _ _ _ _ _ h => h) ?_
  refine inv_cons (fun wx hg hd => ?_) (fun v0 => ?_)
  · have hx := ((Below.refl w1.heap.size w1).drew).trans hg
    clear hd hg
    go_wp2
    exact ⟨_, rfl, Below.refl _ _, rfl⟩
  (try simp only [List.nil_append, Act.put, List.setIfInBounds_toArray, List.set_cons_zero, List.set_cons_succ])
  refine inv_cons (fun wx hg hd => ?_) (fun v1 => ?_)
  · have hx := ((Below.refl w1.heap.size w1).drew).trans hg
    (try (have ee : v0 = (.pointer (some ⟨w.heap.size, 0, none⟩) : Value) := hd 0 (by simp) (by decide); subst ee))
    clear hd hg
    obtain ⟨k1, k2⟩ := HC.out _ hx
    go_wp2
    exact ⟨_, rfl, Below.refl _ _, rfl⟩
  (try simp only [List.cons_append, List.nil_append, Act.put, List.setIfInBounds_toArray, List.set_cons_zero, List.set_cons_succ])
  refine inv_cons (fun wx hg hd => ?_) (fun v2 => ?_)
  · have hx := ((Below.refl w1.heap.size w1).drew).trans hg
    (try (have ee : v1 = (.int .i64 a : Value) := hd 1 (by simp) (by decide); subst ee))
    clear hd hg
    go_wp2_with fail
    refine (WA.out _).mono ?_
    rintro e w' ⟨rfl, hb⟩
    go_wp2
    exact ⟨_, rfl, hb, rfl⟩
  (try simp only [List.cons_append, List.nil_append, Act.put, List.setIfInBounds_toArray, List.set_cons_zero, List.set_cons_succ])
  refine inv_cons (fun wx hg hd => ?_) (fun v3 => ?_)
  · have hx := ((Below.refl w1.heap.size w1).drew).trans hg
    clear hd hg
    go_wp2
    exact ⟨_, rfl, Below.refl _ _, rfl⟩
  (try simp only [List.cons_append, List.nil_append, Act.put, List.setIfInBounds_toArray, List.set_cons_zero, List.set_cons_succ])
  refine inv_cons (fun wx hg hd => ?_) (fun v4 => ?_)
  · have hx := ((Below.refl w1.heap.size w1).drew).trans hg
    (try (have ee : v3 = (.pointer (some ⟨w.heap.size, 1, none⟩) : Value) := hd 3 (by simp) (by decide); subst ee))
    clear hd hg
    obtain ⟨k1, k2⟩ := HC.out _ hx
    go_wp2
    exact ⟨_, rfl, Below.refl _ _, rfl⟩
  (try simp only [List.cons_append, List.nil_append, Act.put, List.setIfInBounds_toArray, List.set_cons_zero, List.set_cons_succ])
  refine inv_cons (fun wx hg hd => ?_) (fun v5 => ?_)
  · have hx := ((Below.refl w1.heap.size w1).drew).trans hg
    (try (have ee : v4 = (.int .i64 b : Value) := hd 4 (by simp) (by decide); subst ee))
    clear hd hg
    go_wp2_with fail
    refine (WB.out _).mono ?_
    rintro e w' ⟨rfl, hb⟩
    go_wp2
    exact ⟨_, rfl, hb, rfl⟩
  (try simp only [List.cons_append, List.nil_append, Act.put, List.setIfInBounds_toArray, List.set_cons_zero, List.set_cons_succ])
  refine inv_cons (fun wx hg hd => ?_) (fun v6 => ?_)
  · have hx := ((Below.refl w1.heap.size w1).drew).trans hg
    (try (have ee : v2 = (.agg #[.int .u64 (uH a), .int .u64 (uL a)] : Value) := hd 2 (by simp) (by decide); subst ee))
    (try (have ee : v5 = (.agg #[.int .u64 (uH b), .int .u64 (uL b)] : Value) := hd 5 (by simp) (by decide); subst ee))
    clear hd hg
    go_wp2_with fail
    refine (PL.out _).mono ?_
    rintro e w' ⟨rfl, hb⟩
    go_wp2
    exact ⟨_, rfl, hb, rfl⟩
  (try simp only [List.cons_append, List.nil_append, Act.put, List.setIfInBounds_toArray, List.set_cons_zero, List.set_cons_succ])
  refine inv_cons (fun wx hg hd => ?_) (fun v7 => ?_)
  · have hx := ((Below.refl w1.heap.size w1).drew).trans hg
    (try (have ee : v6 = (.agg #[.int .u64 (uH c), .int .u64 (uL c)] : Value) := hd 6 (by simp) (by decide); subst ee))
    clear hd hg
    go_wp2_with fail
    refine (SM.out _).mono ?_
    rintro e w' ⟨rfl, hb⟩
    go_wp2
    exact ⟨_, rfl, hb, rfl⟩
  (try simp only [List.cons_append, List.nil_append, Act.put, List.setIfInBounds_toArray, List.set_cons_zero, List.set_cons_succ])
  refine inv_cons (fun wx hg hd => ?_) (fun v8 => ?_)
  · have hx := ((Below.refl w1.heap.size w1).drew).trans hg
    (try (have ee : v7 = (.tuple #[.int .i64 c, .bool true] : Value) := hd 7 (by simp) (by decide); subst ee))
    clear hd hg
    go_wp2
    exact ⟨_, rfl, Below.refl _ _, rfl⟩
  (try simp only [List.cons_append, List.nil_append, Act.put, List.setIfInBounds_toArray, List.set_cons_zero, List.set_cons_succ])
  refine inv_cons (fun wx hg hd => ?_) (fun v9 => ?_)
  · have hx := ((Below.refl w1.heap.size w1).drew).trans hg
    (try (have ee : v8 = (.tuple #[.int .i64 c, .bool true] : Value) := hd 8 (by simp) (by decide); subst ee))
    clear hd hg
    go_wp2
    exact ⟨_, rfl, Below.refl _ _, rfl⟩
  (try simp only [List.cons_append, List.nil_append, Act.put, List.setIfInBounds_toArray, List.set_cons_zero, List.set_cons_succ])
  refine inv_cons (fun wx hg hd => ?_) (fun v10 => ?_)
  · have hx := ((Below.refl w1.heap.size w1).drew).trans hg
    (try (have ee : v8 = (.tuple #[.int .i64 c, .bool true] : Value) := hd 8 (by simp) (by decide); subst ee))
    clear hd hg
    go_wp2
    exact ⟨_, rfl, Below.refl _ _, rfl⟩
  (try simp only [List.cons_append, List.nil_append, Act.put, List.setIfInBounds_toArray, List.set_cons_zero, List.set_cons_succ])
  refine inv_cons (fun wx hg hd => ?_) (fun v11 => ?_)
  · have hx := ((Below.refl w1.heap.size w1).drew).trans hg
    (try (have ee : v9 = (.int .i64 c : Value) := hd 9 (by simp) (by decide); subst ee))
    clear hd hg
    go_wp2
    exact ⟨_, rfl, Below.refl _ _, rfl⟩
  (try simp only [List.cons_append, List.nil_append, Act.put, List.setIfInBounds_toArray, List.set_cons_zero, List.set_cons_succ])
  refine inv_cons (fun wx hg hd => ?_) (fun v12 => ?_)
  · have hx := ((Below.refl w1.heap.size w1).drew).trans hg
    (try (have ee : v10 = (.bool true : Value) := hd 10 (by simp) (by decide); subst ee))
    clear hd hg
    go_wp2
    exact ⟨_, rfl, Below.refl _ _, rfl⟩
  (try simp only [List.cons_append, List.nil_append, Act.put, List.setIfInBounds_toArray, List.set_cons_zero, List.set_cons_succ])
  refine inv_done (fun wx hg hd => ?_)
  have hx := ((Below.refl w1.heap.size w1).drew).trans hg
  (have ee : v0 = (.pointer (some ⟨w.heap.size, 0, none⟩) : Value) := hd 0 (by simp); subst ee)
  (have ee : v1 = (.int .i64 a : Value) := hd 1 (by simp); subst ee)
  (have ee : v2 = (.agg #[.int .u64 (uH a), .int .u64 (uL a)] : Value) := hd 2 (by simp); subst ee)
  (have ee : v3 = (.pointer (some ⟨w.heap.size, 1, none⟩) : Value) := hd 3 (by simp); subst ee)
  (have ee : v4 = (.int .i64 b : Value) := hd 4 (by simp); subst ee)
  (have ee : v5 = (.agg #[.int .u64 (uH b), .int .u64 (uL b)] : Value) := hd 5 (by simp); subst ee)
  (have ee : v6 = (.agg #[.int .u64 (uH c), .int .u64 (uL c)] : Value) := hd 6 (by simp); subst ee)
  (have ee : v7 = (.tuple #[.int .i64 c, .bool true] : Value) := hd 7 (by simp); subst ee)
  (have ee : v8 = (.tuple #[.int .i64 c, .bool true] : Value) := hd 8 (by simp); subst ee)
  (have ee : v9 = (.int .i64 c : Value) := hd 9 (by simp); subst ee)
  (have ee : v10 = (.bool true : Value) := hd 10 (by simp); subst ee)
  (have ee : v11 = (.int .i64 c : Value) := hd 11 (by simp); subst ee)
  (have ee : v12 = (.bool true : Value) := hd 12 (by simp); subst ee)
  clear hd hg
  (try go_simp)
  have HB2 := Lib.hid (HB.out.trans (hx.mono HB.out.size))
  obtain ⟨c0, c1⟩ := HC.out _ hx
  have hsx := hx.size
  clear hx HT HC HB
  generalize wx = w4 at *
  go_upto_region 4 with (fail)
  have HC : Hid (∀ wy, Below w4.heap.size w4 wy → Two wy w.heap.size (.int .i64 a) (.int .i64 b)) := fun wy hy => Two.later ⟨c0, c1⟩ (by omega) hy
  clear c0 c1
  refine wp_region_inv (fun w w' => Below w.heap.size w w') (fun qi_ qv_ _ => qv_ = ([.pointer (some ⟨w.heap.size, 0, none⟩), .int .i64 a, .int .i64 A, .pointer (some ⟨w.heap.size, 1, none⟩), .int .i64 b, .int .i64 B, .int .i64 c, .int .i64 C, .int .i64 (max (max A B) C), .int .i64 (max (max A B) C), .bool true] : List Value).getD qi_ undef) (by kernel_rfl) (by kernel_rfl) (fun _ => Below.refl _ _) (fun _ _ _ h1 h2 => below_later h1 h1.size h2) (fun _ _ _ _ _ _ h => h) ?_
  refine inv_cons (fun wx hg hd => ?_) (fun v0 => ?_)
  · have hx := ((Below.refl w4.heap.size w4).drew).trans hg
    clear hd hg
    go_wp2
    exact ⟨_, rfl, Below.refl _ _, rfl⟩
  (try simp only [List.nil_append, Act.put, List.setIfInBounds_toArray, List.set_cons_zero, List.set_cons_succ])
  refine inv_cons (fun wx hg hd => ?_) (fun v1 => ?_)
  · have hx := ((Below.refl w4.heap.size w4).drew).trans hg
    (try (have ee : v0 = (.pointer (some ⟨w.heap.size, 0, none⟩) : Value) := hd 0 (by simp) (by decide); subst ee))
    clear hd hg
    obtain ⟨k1, k2⟩ := HC.out _ hx
    go_wp2
    exact ⟨_, rfl, Below.refl _ _, rfl⟩
  (try simp only [List.cons_append, List.nil_append, Act.put, List.setIfInBounds_toArray, List.set_cons_zero, List.set_cons_succ])
  refine inv_cons (fun wx hg hd => ?_) (fun v2 => ?_)
  · have hx := ((Below.refl w4.heap.size w4).drew).trans hg
    (try (have ee : v1 = (.int .i64 a : Value) := hd 1 (by simp) (by decide); subst ee))
    clear hd hg
    go_wp2_with fail
    refine (SA.out _).mono ?_
    rintro e w' ⟨rfl, rfl⟩
    go_wp2
    exact ⟨_, rfl, Below.refl _ _, rfl⟩
  (try simp only [List.cons_append, List.nil_append, Act.put, List.setIfInBounds_toArray, List.set_cons_zero, List.set_cons_succ])
  refine inv_cons (fun wx hg hd => ?_) (fun v3 => ?_)
  · have hx := ((Below.refl w4.heap.size w4).drew).trans hg
    clear hd hg
    go_wp2
    exact ⟨_, rfl, Below.refl _ _, rfl⟩
  (try simp only [List.cons_append, List.nil_append, Act.put, List.setIfInBounds_toArray, List.set_cons_zero, List.set_cons_succ])
  refine inv_cons (fun wx hg hd => ?_) (fun v4 => ?_)
  · have hx := ((Below.refl w4.heap.size w4).drew).trans hg
    (try (have ee : v3 = (.pointer (some ⟨w.heap.size, 1, none⟩) : Value) := hd 3 (by simp) (by decide); subst ee))
    clear hd hg
    obtain ⟨k1, k2⟩ := HC.out _ hx
    go_wp2
    exact ⟨_, rfl, Below.refl _ _, rfl⟩
  (try simp only [List.cons_append, List.nil_append, Act.put, List.setIfInBounds_toArray, List.set_cons_zero, List.set_cons_succ])
  refine inv_cons (fun wx hg hd => ?_) (fun v5 => ?_)
  · have hx := ((Below.refl w4.heap.size w4).drew).trans hg
    (try (have ee : v4 = (.int .i64 b : Value) := hd 4 (by simp) (by decide); subst ee))
    clear hd hg
    go_wp2_with fail
    refine (SB.out _).mono ?_
    rintro e w' ⟨rfl, rfl⟩
    go_wp2
    exact ⟨_, rfl, Below.refl _ _, rfl⟩
  (try simp only [List.cons_append, List.nil_append, Act.put, List.setIfInBounds_toArray, List.set_cons_zero, List.set_cons_succ])
  refine inv_cons (fun wx hg hd => ?_) (fun v6 => ?_)
  · have hx := ((Below.refl w4.heap.size w4).drew).trans hg
    clear hd hg
    go_wp2
    exact ⟨_, rfl, Below.refl _ _, rfl⟩
  (try simp only [List.cons_append, List.nil_append, Act.put, List.setIfInBounds_toArray, List.set_cons_zero, List.set_cons_succ])
  refine inv_cons (fun wx hg hd => ?_) (fun v7 => ?_)
  · have hx := ((Below.refl w4.heap.size w4).drew).trans hg
    (try (have ee : v6 = (.int .i64 c : Value) := hd 6 (by simp) (by decide); subst ee))
    clear hd hg
    go_wp2_with fail
    refine (SC.out _).mono ?_
    rintro e w' ⟨rfl, rfl⟩
    go_wp2
    exact ⟨_, rfl, Below.refl _ _, rfl⟩
  (try simp only [List.cons_append, List.nil_append, Act.put, List.setIfInBounds_toArray, List.set_cons_zero, List.set_cons_succ])
  refine inv_cons (fun wx hg hd => ?_) (fun v8 => ?_)
  · have hx := ((Below.refl w4.heap.size w4).drew).trans hg
    (try (have ee : v2 = (.int .i64 A : Value) := hd 2 (by simp) (by decide); subst ee))
    (try (have ee : v5 = (.int .i64 B : Value) := hd 5 (by simp) (by decide); subst ee))
    (try (have ee : v7 = (.int .i64 C : Value) := hd 7 (by simp) (by decide); subst ee))
    clear hd hg
    go_wp2
    exact ⟨_, rfl, Below.refl _ _, rfl⟩
  (try simp only [List.cons_append, List.nil_append, Act.put, List.setIfInBounds_toArray, List.set_cons_zero, List.set_cons_succ])
  refine inv_cons (fun wx hg hd => ?_) (fun v9 => ?_)
  · have hx := ((Below.refl w4.heap.size w4).drew).trans hg
    (try (have ee : v8 = (.int .i64 (max (max A B) C) : Value) := hd 8 (by simp) (by decide); subst ee))
    clear hd hg
    go_wp2
    exact ⟨_, rfl, Below.refl _ _, rfl⟩
  (try simp only [List.cons_append, List.nil_append, Act.put, List.setIfInBounds_toArray, List.set_cons_zero, List.set_cons_succ])
  refine inv_cons (fun wx hg hd => ?_) (fun v10 => ?_)
  · have hx := ((Below.refl w4.heap.size w4).drew).trans hg
    clear hd hg
    go_wp2
    exact ⟨_, rfl, Below.refl _ _, rfl⟩
  (try simp only [List.cons_append, List.nil_append, Act.put, List.setIfInBounds_toArray, List.set_cons_zero, List.set_cons_succ])
  refine inv_done (fun wx hg hd => ?_)
  have hx := ((Below.refl w4.heap.size w4).drew).trans hg
  (have ee : v0 = (.pointer (some ⟨w.heap.size, 0, none⟩) : Value) := hd 0 (by simp); subst ee)
  (have ee : v1 = (.int .i64 a : Value) := hd 1 (by simp); subst ee)
  (have ee : v2 = (.int .i64 A : Value) := hd 2 (by simp); subst ee)
  (have ee : v3 = (.pointer (some ⟨w.heap.size, 1, none⟩) : Value) := hd 3 (by simp); subst ee)
  (have ee : v4 = (.int .i64 b : Value) := hd 4 (by simp); subst ee)
  (have ee : v5 = (.int .i64 B : Value) := hd 5 (by simp); subst ee)
  (have ee : v6 = (.int .i64 c : Value) := hd 6 (by simp); subst ee)
  (have ee : v7 = (.int .i64 C : Value) := hd 7 (by simp); subst ee)
  (have ee : v8 = (.int .i64 (max (max A B) C) : Value) := hd 8 (by simp); subst ee)
  (have ee : v9 = (.int .i64 (max (max A B) C) : Value) := hd 9 (by simp); subst ee)
  (have ee : v10 = (.bool true : Value) := hd 10 (by simp); subst ee)
  clear hd hg
  (try go_simp)
  have HF := Lib.hid (HB2.out.trans (hx.mono HB2.out.size))
  clear hx HC
  go_wp2
  go_ret2
  have HS2 : r = max A (max B C) := by rw [HS.out]; omega
  exact ⟨by rw [HS2]; rfl, HF.out⟩
set_option maxRecDepth 100000 in
set_option maxHeartbeats 4000000 in
theorem rdist_any (a b : Nat) (ha : a < 18446744073709551616) (hb : b < 18446744073709551616) (w : World) :
    Calls Try.prog 24 #[.int .u64 a, .int .u64 b] w fun e w' => e = .returned (.tuple #[.int .i64 (dsN a b), .int .i64 (dsE a b)]) ∧ Below w.heap.size w w' := by
  have HCA := Lib.hid (rcell_any a ha)
  have HCB := Lib.hid (rcell_any b hb)
  have sA := cv_sm a
  have sB := cv_sm b
  obtain ⟨rA1, rA2⟩ := cvR_in a
  obtain ⟨rB1, rB2⟩ := cvR_in b
  have HDS : Hid ((cvE a = 5 ∧ dsE a b = 5 ∧ dsN a b = 0) ∨ (cvE a = 0 ∧ cvE b = 5 ∧ dsE a b = 5 ∧ dsN a b = 0) ∨ (cvE a = 0 ∧ cvE b = 0 ∧ cvR a ≠ cvR b ∧ dsE a b = 8 ∧ dsN a b = 0) ∨ (cvE a = 0 ∧ cvE b = 0 ∧ cvR a = cvR b ∧ dsE a b = 0 ∧ dsN a b = stepsN (subE (cvZ a) (cvZ b)))) := by
    by_cases hA : isW a = true
    · have eA : cvE a = 0 := by unfold cvE; rw [if_pos hA]
      have rA : cvR a = rW a := by unfold cvR; rw [if_pos hA]
      have zA : cvZ a = zW a := by unfold cvZ; rw [if_pos hA]
      by_cases hB : isW b = true
      · have eB : cvE b = 0 := by unfold cvE; rw [if_pos hB]
        have rB : cvR b = rW b := by unfold cvR; rw [if_pos hB]
        have zB : cvZ b = zW b := by unfold cvZ; rw [if_pos hB]
        by_cases hr : rW a = rW b
        · have hd : dsE a b = 0 := by unfold dsE; rw [if_pos hA, if_pos hB, if_pos hr]
          exact .inr (.inr (.inr ⟨eA, eB, by rw [rA, rB, hr], hd, by unfold dsN; rw [if_pos hd, zA, zB]⟩))
        · have hd : dsE a b = 8 := by unfold dsE; rw [if_pos hA, if_pos hB, if_neg hr]
          exact .inr (.inr (.inl ⟨eA, eB, by rw [rA, rB]; omega, hd, by unfold dsN; rw [hd]; rfl⟩))
      · have hd : dsE a b = 5 := by unfold dsE; rw [if_pos hA, if_neg hB]
        exact .inr (.inl ⟨eA, by unfold cvE; rw [if_neg hB], hd, by unfold dsN; rw [hd]; rfl⟩)
    · have hd : dsE a b = 5 := by unfold dsE; rw [if_neg hA]
      exact .inl ⟨by unfold cvE; rw [if_neg hA], hd, by unfold dsN; rw [hd]; rfl⟩
  generalize cvZ a = z at *
  generalize cvZ b = y at *
  generalize cvR a = ra at *
  generalize cvR b = rb at *
  generalize cvE a = ea at *
  generalize cvE b = eb at *
  generalize dsN a b = n at *
  generalize dsE a b = er at *
  simp only [vC] at *
  go_enter Try.func24, Try.ntmps24
  go_wp2_with fail
  refine (HCA.out _).mono ?_
  rintro e w1 ⟨rfl, hb1⟩
  have G1 : Hid (Tri (w1.alloc (.cells #[.int .i64 ra, .int .i64 z.1, .int .i64 z.2] 29)) w1.heap.size ra z) := heap_new _ _ _ rfl
  have B1 : Hid (Below w.heap.size w (w1.alloc (.cells #[.int .i64 ra, .int .i64 z.1, .int .i64 z.2] 29))) := hb1.alloc hb1.size _
  have hz1 := hb1.size
  have hy1 : (w1.alloc (.cells #[.int .i64 ra, .int .i64 z.1, .int .i64 z.2] 29)).heap.size = w1.heap.size + 1 := by simp
  clear hb1
  go_wp2_with fail
  refine (HCB.out _).mono ?_
  rintro e w2 ⟨rfl, hb2⟩
  have G2 := Lib.hid (G1.out.later hb2)
  have B2 := Lib.hid (B1.out.trans (hb2.mono (by omega)))
  have hz2 := hb2.size
  rw [hy1] at hz2
  clear hb2 G1 B1 hy1
  have hal : Below w2.heap.size w2 (w2.alloc (.cells #[.int .i64 rb, .int .i64 y.1, .int .i64 y.2] 29)) := (Below.refl _ _).alloc (Nat.le_refl _) _
  have G3 := Lib.hid (G2.out.later hal)
  have H3 : Hid (Tri (w2.alloc (.cells #[.int .i64 rb, .int .i64 y.1, .int .i64 y.2] 29)) w2.heap.size rb y) := heap_new _ _ _ rfl
  have B3 : Hid (Below w.heap.size w (w2.alloc (.cells #[.int .i64 rb, .int .i64 y.1, .int .i64 y.2] 29))) := B2.out.alloc (by omega) _
  have hz3 : w2.heap.size < (w2.alloc (.cells #[.int .i64 rb, .int .i64 y.1, .int .i64 y.2] 29)).heap.size := by simp
  clear hal G2 B2
  go_upto_region 3 with (fail)
  generalize w2.alloc (.cells #[.int .i64 rb, .int .i64 y.1, .int .i64 y.2] 29) = w3 at *
  obtain ⟨c0, c1, c2, c3, c4, c5, c6⟩ := G3.out.cells
  obtain ⟨d0, d1, d2, d3, d4, d5, d6⟩ := H3.out.cells
  rcases HDS.out with ⟨rfl, rfl, rfl⟩ | ⟨rfl, rfl, rfl, rfl⟩ | ⟨rfl, rfl, hne, rfl, rfl⟩ | ⟨rfl, rfl, hne, rfl, hn⟩
  · go_wp2
    go_ret2
    exact ⟨rfl, B3.out⟩
  · go_wp2
    go_ret2
    exact ⟨rfl, B3.out⟩
  · have q1 : (ra != rb) = true := by simp [hne]
    clear hne
    go_wp2
    go_ret2
    exact ⟨rfl, B3.out⟩
  · have q1 : (ra != rb) = false := by simp [hne]
    subst hne
    have HST := Lib.hid (rsteps_in (subE z y) (by unfold Sm subE at *; simp only; omega))
    rw [← hn] at HST
    have e1 : subE z y = (z.1 - y.1, z.2 - y.2) := rfl
    rw [e1] at HST
    unfold Sm at sA sB
    obtain ⟨a1, a2, a3, a4⟩ := sA
    obtain ⟨b1, b2, b3, b4⟩ := sB
    clear hn e1 HDS
    simp only [vE] at *
    go_wp2_with fail
    refine (HST.out _).mono ?_
    rintro e w5 ⟨rfl, hb5⟩
    have B5 := Lib.hid (B3.out.trans (hb5.mono (by omega)))
    clear hb5
    go_wp2
    go_ret2
    exact ⟨rfl, B5.out⟩
end Go.Proofs.Yticbkdignmlfiaa
