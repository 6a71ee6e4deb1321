/- Contracts of apiaryref1: W, Small, Two, Mul, Unit. -/
import Derived.Test.YtkjfdaleamonaaaWdF
import Derived.Test.YtkjfdaleamonaaaWdM
import Derived.Test.YtkjfdaleamonaaaLex8
namespace Go.Proofs.Ytkjfdaleamonaaa
open Go.RowKit Go.Lib Wd

/-- The halves of a number, as the reference has them. -/
def uH (A : Int) : Int := A % 340282366920938463463374607431768211456 / 18446744073709551616
def uL (A : Int) : Int := A % 18446744073709551616
abbrev vU (A : Int) : Value := .agg #[.int .u64 (uH A), .int .u64 (uL A)]
theorem rep_of (A : Int) : Rep (uH A).toNat (uL A).toNat A ∧ ((uH A).toNat : Int) = uH A ∧ ((uL A).toNat : Int) = uL A := by
  unfold uH uL
  exact ⟨⟨by omega, by omega, by omega⟩, by omega, by omega⟩
theorem Rep.eq {h l : Nat} {A : Int} (hr : Rep h l A) : (h : Int) = uH A ∧ (l : Int) = uL A := by
  obtain ⟨h1, h2, h3⟩ := hr
  unfold uH uL
  exact ⟨by omega, by omega⟩
theorem times_x (a b : Int) (ha : -9223372036854775808 ≤ a ∧ a ≤ 9223372036854775807) (hb : -9223372036854775808 ≤ b ∧ b ≤ 9223372036854775807) (w : World) :
    Calls Try.prog 30 #[.int .i64 a, .int .i64 b] w fun e w' => e = .returned (vU (a * b)) ∧ Below w.heap.size w w' :=
  (times_rep a b ha hb w).mono fun _ _ ⟨_, _, he, hr, hb⟩ => ⟨by rw [he, hr.eq.1, hr.eq.2], hb⟩
theorem plus_x (A B : Int) (w : World) : Calls Try.prog 32 #[vU A, vU B] w fun e w' => e = .returned (vU (A + B)) ∧ Below w.heap.size w w' := by
  obtain ⟨r1, e1, e2⟩ := rep_of A
  obtain ⟨r2, e3, e4⟩ := rep_of B
  have := plus_rep r1 r2 w
  rw [e1, e2, e3, e4] at this
  exact this.mono fun _ _ ⟨_, _, he, hr, hb⟩ => ⟨by rw [he, hr.eq.1, hr.eq.2], hb⟩
theorem turned_x (A : Int) (w : World) : Calls Try.prog 33 #[vU A] w fun e w' => e = .returned (vU (-A)) ∧ Below w.heap.size w w' := by
  obtain ⟨r1, e1, e2⟩ := rep_of A
  have := turned_rep r1 w
  rw [e1, e2] at this
  exact this.mono fun _ _ ⟨_, _, he, hr, hb⟩ => ⟨by rw [he, hr.eq.1, hr.eq.2], hb⟩
theorem w_x (n : Int) (h1 : -9223372036854775808 ≤ n) (h2 : n ≤ 9223372036854775807) (w : World) : Calls Try.prog 74 #[.int .i64 n] w fun e w' => e = .returned (vU n) ∧ Below w.heap.size w w' := by
  have e1 : IntKind.u64.wrap n = uL n := by rw [IntKind.wrap_u64]; rfl
  have e2 : IntKind.u64.wrap (n / 9223372036854775808) = uH n := by rw [IntKind.wrap_u64]; unfold uH; omega
  go_enter Try.func74, Try.ntmps74
  go_wp2
  exact bodyPost_ret (v := vU n) (by simp [results, Try.results74, go_sem]) rfl ⟨rfl, (Below.refl _ _).alloc (Nat.le_refl _) _⟩
theorem small_x (A : Int) (hA : -4611686018427387904 ≤ A ∧ A ≤ 4611686018427387904) (w : World) : Calls Try.prog 47 #[vU A] w fun e w' => e = .returned (.tuple #[.int .i64 A, .bool true]) ∧ Below w.heap.size w w' := by
  have e1 : IntKind.i64.wrap (uL A) = A := by rw [IntKind.wrap_i64]; unfold uL; omega
  have HW := Lib.hid (w_x A (by omega) (by omega))
  simp only [vU] at *
  generalize uH A = h at *
  generalize uL A = l at *
  go_enter Try.func47, Try.ntmps47
  have hc : Hid (Two (w.alloc (.cells #[.int .u64 h, .int .u64 l] 66)) w.heap.size (.int .u64 h) (.int .u64 l)) := Two.of_row (t := 66) (f := _) (heap_new _ _ _ rfl)
  have hB : Hid (Below w.heap.size w (w.alloc (.cells #[.int .u64 h, .int .u64 l] 66))) := (Below.refl _ _).alloc (Nat.le_refl _) _
  have hz := World.size_alloc w (.cells #[.int .u64 h, .int .u64 l] 66)
  go_upto_region 2 with (fail)
  generalize w.alloc (.cells #[.int .u64 h, .int .u64 l] 66) = w2 at *
  refine wp_region_inw ([.inl (.int .i64 A), .inl (.agg #[.int .u64 h, .int .u64 l]), .inl (.agg #[.int .u64 h, .int .u64 l]), .inl (.bool false)] : List Want) [] (by kernel_rfl) (by kernel_rfl) (by kernel_rfl) ?_
  refine inw_cons (fun wx hg hd => ?_) (fun v0 => ?_)
  · have hx := ((Below.refl w2.heap.size w2).drew).trans hg
    clear hd hg
    go_wp2
    exact ⟨_, rfl, Below.refl _ _, rfl⟩
  (try simp only [List.nil_append, Act.put, List.setIfInBounds_toArray, List.set_cons_zero, List.set_cons_succ])
  refine inw_cons (fun wx hg hd => ?_) (fun v1 => ?_)
  · have hx := ((Below.refl w2.heap.size w2).drew).trans hg
    (try (have ee : v0 = (.int .i64 A : Value) := hd 0 (by simp) (by decide); subst ee))
    clear hd hg
    go_wp2_with fail
    refine (HW.out _).mono ?_
    rintro e w' ⟨rfl, hb⟩
    go_wp2
    exact ⟨_, rfl, hb, rfl⟩
  (try simp only [List.cons_append, List.nil_append, Act.put, List.setIfInBounds_toArray, List.set_cons_zero, List.set_cons_succ])
  refine inw_cons (fun wx hg hd => ?_) (fun v2 => ?_)
  · have hx := ((Below.refl w2.heap.size w2).drew).trans hg
    clear hd hg
    obtain ⟨k1, k2⟩ := hc.out.later (by omega) hx
    go_wp2
    exact ⟨_, rfl, Below.refl _ _, rfl⟩
  (try simp only [List.cons_append, List.nil_append, Act.put, List.setIfInBounds_toArray, List.set_cons_zero, List.set_cons_succ])
  refine inw_cons (fun wx hg hd => ?_) (fun v3 => ?_)
  · have hx := ((Below.refl w2.heap.size w2).drew).trans hg
    (try (have ee : v1 = (.agg #[.int .u64 h, .int .u64 l] : Value) := hd 1 (by simp) (by decide); subst ee))
    (try (have ee : v2 = (.agg #[.int .u64 h, .int .u64 l] : Value) := hd 2 (by simp) (by decide); subst ee))
    clear hd hg
    go_wp2
    exact ⟨_, rfl, Below.refl _ _, rfl⟩
  (try simp only [List.cons_append, List.nil_append, Act.put, List.setIfInBounds_toArray, List.set_cons_zero, List.set_cons_succ])
  refine inw_done (fun wx hg hd => ?_)
  have hx := ((Below.refl w2.heap.size w2).drew).trans hg
  (have ee : v0 = (.int .i64 A : Value) := hd 0 (by simp) (by kernel_rfl); subst ee)
  (have ee : v1 = (.agg #[.int .u64 h, .int .u64 l] : Value) := hd 1 (by simp) (by kernel_rfl); subst ee)
  (have ee : v2 = (.agg #[.int .u64 h, .int .u64 l] : Value) := hd 2 (by simp) (by kernel_rfl); subst ee)
  (have ee : v3 = (.bool false : Value) := hd 3 (by simp) (by kernel_rfl); subst ee)
  clear hd hg
  (try go_simp)
  have HF : Hid (Below w.heap.size w wx) := hB.out.trans (hx.mono hB.out.size)
  clear hx
  go_wp2
  go_ret2
  exact ⟨rfl, HF.out⟩
theorem two_x (A B : Int) (hA : -4611686018427387904 ≤ A ∧ A ≤ 4611686018427387904) (hB : -4611686018427387904 ≤ B ∧ B ≤ 4611686018427387904) (w : World) :
    Calls Try.prog 31 #[vU A, vU B] w fun e w' => e = .returned (.tuple #[.agg #[.int .i64 A, .int .i64 B], .bool true]) ∧ Below w.heap.size w w' := by
  have HA := Lib.hid (small_x A hA)
  have HB := Lib.hid (small_x B hB)
  simp only [vU] at *
  generalize uH A = h at *
  generalize uL A = l at *
  generalize uH B = h2 at *
  generalize uL B = l2 at *
  clear hA hB
  go_enter Try.func31, Try.ntmps31
  go_wp2_with fail
  refine (HA.out _).mono ?_
  rintro e w1 ⟨rfl, hb1⟩
  have hz := hb1.size
  simp at hz
  have u1 : Two w1 (w.heap.size + 1) (.int .u64 h2) (.int .u64 l2) := (Two.of_row (t := 66) (f := _) (by rw [Below.heap_alloc _ _ _ (by simp)]; exact heap_new _ _ _ (by simp))).later (by simp) hb1
  have U2 : Hid (Two2 w1 (w.heap.size + 2) (.int .i64 0) (.int .i64 0)) := (Two2.of_row (t := 27) (heap_new _ _ _ (by simp))).later (by simp) hb1
  have B1 : Hid (Below w.heap.size w w1) := (((Below.refl _ _).alloc (Nat.le_refl _) _).alloc (by simp) _).alloc (by simp; omega) _ |>.trans (hb1.mono (by simp; omega))
  obtain ⟨k0, k1⟩ := u1
  clear hb1
  go_wp2_with fail
  refine (HB.out _).mono ?_
  rintro e w2 ⟨rfl, hb2⟩
  obtain ⟨⟨c0, c1⟩, f0, f1⟩ := U2.out.later (by omega) hb2
  have B2 := Lib.hid (B1.out.trans (hb2.mono B1.out.size))
  have hz2 := hb2.size
  clear hb2 k0 k1
  go_wp2
  exact bodyPost_ret (v := .tuple #[.agg #[.int .i64 A, .int .i64 B], .bool true]) (by simp [results, Try.results31, go_sem, *]) rfl ⟨rfl, (B2.out.setCell (p := ⟨w.heap.size + 1 + 1, 0, none⟩) (by simp; omega) _).setCell (p := ⟨w.heap.size + 1 + 1, 1, none⟩) (by simp; omega) _⟩
set_option maxHeartbeats 1000000 in
theorem runit_in (k : Nat) (hk : k < 6) (w : World) :
    Calls Try.prog 15 #[.int .i64 k] w fun e w' => e = .returned (vE (unitE k)) ∧ Below w.heap.size w w' := by
  have hu : (k = 0 ∧ unitE k = (1, 0)) ∨ (k = 1 ∧ unitE k = (0, 1)) ∨ (k = 2 ∧ unitE k = (-1, 1)) ∨ (k = 3 ∧ unitE k = (-1, 0)) ∨ (k = 4 ∧ unitE k = (0, -1)) ∨ (k = 5 ∧ unitE k = (1, -1)) := by
    rcases (show k = 0 ∨ k = 1 ∨ k = 2 ∨ k = 3 ∨ k = 4 ∨ k = 5 by omega) with rfl | rfl | rfl | rfl | rfl | rfl <;> simp [unitE]
  rcases hu with ⟨rfl, e⟩ | ⟨rfl, e⟩ | ⟨rfl, e⟩ | ⟨rfl, e⟩ | ⟨rfl, e⟩ | ⟨rfl, e⟩ <;> rw [e] <;> clear e hk <;>
  · go_enter Try.func15, Try.ntmps15
    go_wp2
    exact bodyPost_ret (by simp [results, Try.results15, go_sem]) rfl ⟨rfl, by
      exact ((Below.refl _ _).alloc (Nat.le_refl _) _).alloc (by simp) _⟩
set_option maxRecDepth 100000 in
set_option maxHeartbeats 8000000 in
theorem rmul_in (y z : E2) (hy : Sm 1152921504606846976 y) (hz : Sm 1152921504606846976 z) (h : Sm 4611686018427387904 (mulE y z)) (w : World) :
    Calls Try.prog 14 #[vE y, vE z] w fun e w' => e = .returned (.tuple #[vE (mulE y z), .bool true]) ∧ Below w.heap.size w w' := by
  obtain ⟨a, b⟩ := y
  obtain ⟨c, d⟩ := z
  unfold Sm mulE at *
  simp only at hy hz h
  have T1 := Lib.hid (times_x a c (by omega) (by omega))
  have T2 := Lib.hid (times_x b d (by omega) (by omega))
  have T3 := Lib.hid (times_x a d (by omega) (by omega))
  have T4 := Lib.hid (times_x b c (by omega) (by omega))
  have R1 := Lib.hid (turned_x (b * d))
  have P1 := Lib.hid (plus_x (a * c) (-(b * d)))
  have P2 := Lib.hid (plus_x (a * d) (b * c))
  have P3 := Lib.hid (plus_x (a * d + b * c) (b * d))
  rw [show a * c + -(b * d) = a * c - b * d by omega] at P1
  have W1 := Lib.hid (two_x (a * c - b * d) (a * d + b * c + b * d) (by omega) (by omega))
  simp only [vE, vU] at *
  clear hy hz h
  generalize a * c - b * d = x at *
  generalize a * d + b * c + b * d = y at *
  generalize a * d + b * c = s at *
  generalize a * d = ad at *
  generalize b * c = bc at *
  generalize a * c = ac at *
  generalize b * d = bd at *
  go_enter Try.func14, Try.ntmps14
  go_wp2_with fail
  refine (T2.out _).mono ?_
  rintro e w1 ⟨rfl, hb1⟩
  have hz := hb1.size
  simp at hz
  have h2 : Two w1 w.heap.size (.int .i64 a) (.int .i64 b) := (Two.of_row (t := 27) (f := _) (by rw [Below.heap_alloc _ _ _ (by simp; omega), Below.heap_alloc _ _ _ (by simp)]; exact heap_new _ _ _ rfl)).later (by simp; omega) hb1
  have h3 : Two w1 (w.heap.size + 1) (.int .i64 c) (.int .i64 d) := (Two.of_row (t := 27) (f := _) (by rw [Below.heap_alloc _ _ _ (by simp)]; exact heap_new _ _ _ (by simp))).later (by simp) hb1
  have h5 : Two2 w1 (w.heap.size + 2) (.int .i64 0) (.int .i64 0) := (Two2.of_row (t := 27) (heap_new _ _ _ (by simp))).later (by simp) hb1
  have hq : Below w.heap.size w w1 := (((Below.refl _ _).alloc (Nat.le_refl _) _).alloc (by simp) _).alloc (by simp; omega) _ |>.trans (hb1.mono (by simp; omega))
  have h4 : Two (w1.alloc (.cells #[.int .u64 (uH bd), .int .u64 (uL bd)] 66)) w1.heap.size (.int .u64 (uH bd)) (.int .u64 (uL bd)) := Two.of_row (f := _) (heap_new _ _ _ rfl)
  have h2 := h2.alloc (by omega) (.cells #[.int .u64 (uH bd), .int .u64 (uL bd)] 66)
  have h3 := h3.alloc (by omega) (.cells #[.int .u64 (uH bd), .int .u64 (uL bd)] 66)
  have h5 := h5.alloc (by omega) (.cells #[.int .u64 (uH bd), .int .u64 (uL bd)] 66)
  have HQ := Lib.hid (hq.alloc (by omega) (.cells #[.int .u64 (uH bd), .int .u64 (uL bd)] 66))
  have hs : w1.heap.size < (w1.alloc (.cells #[.int .u64 (uH bd), .int .u64 (uL bd)] 66)).heap.size := by simp
  go_upto_region 2 with (fail)
  generalize w1.alloc (.cells #[.int .u64 (uH bd), .int .u64 (uL bd)] 66) = w2 at *
  have HC : Hid (∀ wx, Below w2.heap.size w2 wx → Two wx w.heap.size (.int .i64 a) (.int .i64 b) ∧ Two wx (w.heap.size + 1) (.int .i64 c) (.int .i64 d) ∧ Two wx w1.heap.size (.int .u64 (uH bd)) (.int .u64 (uL bd)) ∧ Two2 wx (w.heap.size + 2) (.int .i64 0) (.int .i64 0)) := fun wx hx => ⟨h2.later (by omega) hx, h3.later (by omega) hx, h4.later (by omega) hx, h5.later (by omega) hx⟩
  have hsz2 : w.heap.size + 2 < w2.heap.size := by omega
  clear h2 h3 h4 h5 hb1 hq
  refine wp_region_part 22 4 #[true, true, true, true, true, true, true, true, true, true, true, true, true, true, true, true, true, true, true, true, true, true, false, false, false, false] (fun w w' => Below w.heap.size w w') (fun qi_ qv_ _ => qv_ = ([.pointer (some ⟨w.heap.size, 0, none⟩), .int .i64 a, .pointer (some ⟨w.heap.size + 1, 0, none⟩), .int .i64 c, .agg #[.int .u64 (uH ac), .int .u64 (uL ac)], .agg #[.int .u64 (uH bd), .int .u64 (uL bd)], .agg #[.int .u64 (uH (-bd)), .int .u64 (uL (-bd))], .agg #[.int .u64 (uH x), .int .u64 (uL x)], .pointer (some ⟨w.heap.size, 0, none⟩), .int .i64 a, .pointer (some ⟨w.heap.size + 1, 1, none⟩), .int .i64 d, .agg #[.int .u64 (uH ad), .int .u64 (uL ad)], .pointer (some ⟨w.heap.size, 1, none⟩), .int .i64 b, .pointer (some ⟨w.heap.size + 1, 0, none⟩), .int .i64 c, .agg #[.int .u64 (uH bc), .int .u64 (uL bc)], .agg #[.int .u64 (uH s), .int .u64 (uL s)], .agg #[.int .u64 (uH bd), .int .u64 (uL bd)], .agg #[.int .u64 (uH y), .int .u64 (uL y)], .tuple #[.agg #[.int .i64 x, .int .i64 y], .bool true]] : List Value).getD qi_ undef) rfl rfl (by kernel_rfl) (by kernel_rfl) (by kernel_rfl) (fun _ => Below.refl _ _) (fun _ _ _ h1 h2 => below_later h1 h1.size h2) (fun _ _ _ _ _ _ h => h) ?_
  simp only [List.take_succ_cons, List.take_zero]
  refine inv_cons (fun wx hg hd => ?_) (fun v0 => ?_)
  · have hx := ((Below.refl w2.heap.size w2).drew).trans hg
    clear hd hg
    go_wp2
    exact ⟨_, rfl, Below.refl _ _, rfl⟩
  (try simp only [List.nil_append, Act.put, List.setIfInBounds_toArray, List.set_cons_zero, List.set_cons_succ])
  refine inv_cons (fun wx hg hd => ?_) (fun v1 => ?_)
  · have hx := ((Below.refl w2.heap.size w2).drew).trans hg
    (try (have ee : v0 = (.pointer (some ⟨w.heap.size, 0, none⟩) : Value) := hd 0 (by simp) (by decide); subst ee))
    clear hd hg
    obtain ⟨⟨k1, k2⟩, ⟨k3, k4⟩, ⟨k5, k6⟩, _⟩ := HC.out _ hx
    go_wp2
    exact ⟨_, rfl, Below.refl _ _, rfl⟩
  (try simp only [List.cons_append, List.nil_append, Act.put, List.setIfInBounds_toArray, List.set_cons_zero, List.set_cons_succ])
  refine inv_cons (fun wx hg hd => ?_) (fun v2 => ?_)
  · have hx := ((Below.refl w2.heap.size w2).drew).trans hg
    clear hd hg
    go_wp2
    exact ⟨_, rfl, Below.refl _ _, rfl⟩
  (try simp only [List.cons_append, List.nil_append, Act.put, List.setIfInBounds_toArray, List.set_cons_zero, List.set_cons_succ])
  refine inv_cons (fun wx hg hd => ?_) (fun v3 => ?_)
  · have hx := ((Below.refl w2.heap.size w2).drew).trans hg
    (try (have ee : v2 = (.pointer (some ⟨w.heap.size + 1, 0, none⟩) : Value) := hd 2 (by simp) (by decide); subst ee))
    clear hd hg
    obtain ⟨⟨k1, k2⟩, ⟨k3, k4⟩, ⟨k5, k6⟩, _⟩ := HC.out _ hx
    go_wp2
    exact ⟨_, rfl, Below.refl _ _, rfl⟩
  (try simp only [List.cons_append, List.nil_append, Act.put, List.setIfInBounds_toArray, List.set_cons_zero, List.set_cons_succ])
  refine inv_cons (fun wx hg hd => ?_) (fun v4 => ?_)
  · have hx := ((Below.refl w2.heap.size w2).drew).trans hg
    (try (have ee : v1 = (.int .i64 a : Value) := hd 1 (by simp) (by decide); subst ee))
    (try (have ee : v3 = (.int .i64 c : Value) := hd 3 (by simp) (by decide); subst ee))
    clear hd hg
    go_wp2_with fail
    refine (T1.out _).mono ?_
    rintro e w' ⟨rfl, hb⟩
    go_wp2
    exact ⟨_, rfl, hb, rfl⟩
  (try simp only [List.cons_append, List.nil_append, Act.put, List.setIfInBounds_toArray, List.set_cons_zero, List.set_cons_succ])
  refine inv_cons (fun wx hg hd => ?_) (fun v5 => ?_)
  · have hx := ((Below.refl w2.heap.size w2).drew).trans hg
    clear hd hg
    obtain ⟨⟨k1, k2⟩, ⟨k3, k4⟩, ⟨k5, k6⟩, _⟩ := HC.out _ hx
    go_wp2
    exact ⟨_, rfl, Below.refl _ _, rfl⟩
  (try simp only [List.cons_append, List.nil_append, Act.put, List.setIfInBounds_toArray, List.set_cons_zero, List.set_cons_succ])
  refine inv_cons (fun wx hg hd => ?_) (fun v6 => ?_)
  · have hx := ((Below.refl w2.heap.size w2).drew).trans hg
    (try (have ee : v5 = (.agg #[.int .u64 (uH bd), .int .u64 (uL bd)] : Value) := hd 5 (by simp) (by decide); subst ee))
    clear hd hg
    go_wp2_with fail
    refine (R1.out _).mono ?_
    rintro e w' ⟨rfl, hb⟩
    go_wp2
    exact ⟨_, rfl, hb, rfl⟩
  (try simp only [List.cons_append, List.nil_append, Act.put, List.setIfInBounds_toArray, List.set_cons_zero, List.set_cons_succ])
  refine inv_cons (fun wx hg hd => ?_) (fun v7 => ?_)
  · have hx := ((Below.refl w2.heap.size w2).drew).trans hg
    (try (have ee : v4 = (.agg #[.int .u64 (uH ac), .int .u64 (uL ac)] : Value) := hd 4 (by simp) (by decide); subst ee))
    (try (have ee : v6 = (.agg #[.int .u64 (uH (-bd)), .int .u64 (uL (-bd))] : Value) := hd 6 (by simp) (by decide); subst ee))
    clear hd hg
    go_wp2_with fail
    refine (P1.out _).mono ?_
    rintro e w' ⟨rfl, hb⟩
    go_wp2
    exact ⟨_, rfl, hb, rfl⟩
  (try simp only [List.cons_append, List.nil_append, Act.put, List.setIfInBounds_toArray, List.set_cons_zero, List.set_cons_succ])
  refine inv_cons (fun wx hg hd => ?_) (fun v8 => ?_)
  · have hx := ((Below.refl w2.heap.size w2).drew).trans hg
    clear hd hg
    go_wp2
    exact ⟨_, rfl, Below.refl _ _, rfl⟩
  (try simp only [List.cons_append, List.nil_append, Act.put, List.setIfInBounds_toArray, List.set_cons_zero, List.set_cons_succ])
  refine inv_cons (fun wx hg hd => ?_) (fun v9 => ?_)
  · have hx := ((Below.refl w2.heap.size w2).drew).trans hg
    (try (have ee : v8 = (.pointer (some ⟨w.heap.size, 0, none⟩) : Value) := hd 8 (by simp) (by decide); subst ee))
    clear hd hg
    obtain ⟨⟨k1, k2⟩, ⟨k3, k4⟩, ⟨k5, k6⟩, _⟩ := HC.out _ hx
    go_wp2
    exact ⟨_, rfl, Below.refl _ _, rfl⟩
  (try simp only [List.cons_append, List.nil_append, Act.put, List.setIfInBounds_toArray, List.set_cons_zero, List.set_cons_succ])
  refine inv_cons (fun wx hg hd => ?_) (fun v10 => ?_)
  · have hx := ((Below.refl w2.heap.size w2).drew).trans hg
    clear hd hg
    go_wp2
    exact ⟨_, rfl, Below.refl _ _, rfl⟩
  (try simp only [List.cons_append, List.nil_append, Act.put, List.setIfInBounds_toArray, List.set_cons_zero, List.set_cons_succ])
  refine inv_cons (fun wx hg hd => ?_) (fun v11 => ?_)
  · have hx := ((Below.refl w2.heap.size w2).drew).trans hg
    (try (have ee : v10 = (.pointer (some ⟨w.heap.size + 1, 1, none⟩) : Value) := hd 10 (by simp) (by decide); subst ee))
    clear hd hg
    obtain ⟨⟨k1, k2⟩, ⟨k3, k4⟩, ⟨k5, k6⟩, _⟩ := HC.out _ hx
    go_wp2
    exact ⟨_, rfl, Below.refl _ _, rfl⟩
  (try simp only [List.cons_append, List.nil_append, Act.put, List.setIfInBounds_toArray, List.set_cons_zero, List.set_cons_succ])
  refine inv_cons (fun wx hg hd => ?_) (fun v12 => ?_)
  · have hx := ((Below.refl w2.heap.size w2).drew).trans hg
    (try (have ee : v9 = (.int .i64 a : Value) := hd 9 (by simp) (by decide); subst ee))
    (try (have ee : v11 = (.int .i64 d : Value) := hd 11 (by simp) (by decide); subst ee))
    clear hd hg
    go_wp2_with fail
    refine (T3.out _).mono ?_
    rintro e w' ⟨rfl, hb⟩
    go_wp2
    exact ⟨_, rfl, hb, rfl⟩
  (try simp only [List.cons_append, List.nil_append, Act.put, List.setIfInBounds_toArray, List.set_cons_zero, List.set_cons_succ])
  refine inv_cons (fun wx hg hd => ?_) (fun v13 => ?_)
  · have hx := ((Below.refl w2.heap.size w2).drew).trans hg
    clear hd hg
    go_wp2
    exact ⟨_, rfl, Below.refl _ _, rfl⟩
  (try simp only [List.cons_append, List.nil_append, Act.put, List.setIfInBounds_toArray, List.set_cons_zero, List.set_cons_succ])
  refine inv_cons (fun wx hg hd => ?_) (fun v14 => ?_)
  · have hx := ((Below.refl w2.heap.size w2).drew).trans hg
    (try (have ee : v13 = (.pointer (some ⟨w.heap.size, 1, none⟩) : Value) := hd 13 (by simp) (by decide); subst ee))
    clear hd hg
    obtain ⟨⟨k1, k2⟩, ⟨k3, k4⟩, ⟨k5, k6⟩, _⟩ := HC.out _ hx
    go_wp2
    exact ⟨_, rfl, Below.refl _ _, rfl⟩
  (try simp only [List.cons_append, List.nil_append, Act.put, List.setIfInBounds_toArray, List.set_cons_zero, List.set_cons_succ])
  refine inv_cons (fun wx hg hd => ?_) (fun v15 => ?_)
  · have hx := ((Below.refl w2.heap.size w2).drew).trans hg
    clear hd hg
    go_wp2
    exact ⟨_, rfl, Below.refl _ _, rfl⟩
  (try simp only [List.cons_append, List.nil_append, Act.put, List.setIfInBounds_toArray, List.set_cons_zero, List.set_cons_succ])
  refine inv_cons (fun wx hg hd => ?_) (fun v16 => ?_)
  · have hx := ((Below.refl w2.heap.size w2).drew).trans hg
    (try (have ee : v15 = (.pointer (some ⟨w.heap.size + 1, 0, none⟩) : Value) := hd 15 (by simp) (by decide); subst ee))
    clear hd hg
    obtain ⟨⟨k1, k2⟩, ⟨k3, k4⟩, ⟨k5, k6⟩, _⟩ := HC.out _ hx
    go_wp2
    exact ⟨_, rfl, Below.refl _ _, rfl⟩
  (try simp only [List.cons_append, List.nil_append, Act.put, List.setIfInBounds_toArray, List.set_cons_zero, List.set_cons_succ])
  refine inv_cons (fun wx hg hd => ?_) (fun v17 => ?_)
  · have hx := ((Below.refl w2.heap.size w2).drew).trans hg
    (try (have ee : v14 = (.int .i64 b : Value) := hd 14 (by simp) (by decide); subst ee))
    (try (have ee : v16 = (.int .i64 c : Value) := hd 16 (by simp) (by decide); subst ee))
    clear hd hg
    go_wp2_with fail
    refine (T4.out _).mono ?_
    rintro e w' ⟨rfl, hb⟩
    go_wp2
    exact ⟨_, rfl, hb, rfl⟩
  (try simp only [List.cons_append, List.nil_append, Act.put, List.setIfInBounds_toArray, List.set_cons_zero, List.set_cons_succ])
  refine inv_cons (fun wx hg hd => ?_) (fun v18 => ?_)
  · have hx := ((Below.refl w2.heap.size w2).drew).trans hg
    (try (have ee : v12 = (.agg #[.int .u64 (uH ad), .int .u64 (uL ad)] : Value) := hd 12 (by simp) (by decide); subst ee))
    (try (have ee : v17 = (.agg #[.int .u64 (uH bc), .int .u64 (uL bc)] : Value) := hd 17 (by simp) (by decide); subst ee))
    clear hd hg
    go_wp2_with fail
    refine (P2.out _).mono ?_
    rintro e w' ⟨rfl, hb⟩
    go_wp2
    exact ⟨_, rfl, hb, rfl⟩
  (try simp only [List.cons_append, List.nil_append, Act.put, List.setIfInBounds_toArray, List.set_cons_zero, List.set_cons_succ])
  refine inv_cons (fun wx hg hd => ?_) (fun v19 => ?_)
  · have hx := ((Below.refl w2.heap.size w2).drew).trans hg
    clear hd hg
    obtain ⟨⟨k1, k2⟩, ⟨k3, k4⟩, ⟨k5, k6⟩, _⟩ := HC.out _ hx
    go_wp2
    exact ⟨_, rfl, Below.refl _ _, rfl⟩
  (try simp only [List.cons_append, List.nil_append, Act.put, List.setIfInBounds_toArray, List.set_cons_zero, List.set_cons_succ])
  refine inv_cons (fun wx hg hd => ?_) (fun v20 => ?_)
  · have hx := ((Below.refl w2.heap.size w2).drew).trans hg
    (try (have ee : v18 = (.agg #[.int .u64 (uH s), .int .u64 (uL s)] : Value) := hd 18 (by simp) (by decide); subst ee))
    (try (have ee : v19 = (.agg #[.int .u64 (uH bd), .int .u64 (uL bd)] : Value) := hd 19 (by simp) (by decide); subst ee))
    clear hd hg
    go_wp2_with fail
    refine (P3.out _).mono ?_
    rintro e w' ⟨rfl, hb⟩
    go_wp2
    exact ⟨_, rfl, hb, rfl⟩
  (try simp only [List.cons_append, List.nil_append, Act.put, List.setIfInBounds_toArray, List.set_cons_zero, List.set_cons_succ])
  refine inv_cons (fun wx hg hd => ?_) (fun v21 => ?_)
  · have hx := ((Below.refl w2.heap.size w2).drew).trans hg
    (try (have ee : v7 = (.agg #[.int .u64 (uH x), .int .u64 (uL x)] : Value) := hd 7 (by simp) (by decide); subst ee))
    (try (have ee : v20 = (.agg #[.int .u64 (uH y), .int .u64 (uL y)] : Value) := hd 20 (by simp) (by decide); subst ee))
    clear hd hg
    go_wp2_with fail
    refine (W1.out _).mono ?_
    rintro e w' ⟨rfl, hb⟩
    go_wp2
    exact ⟨_, rfl, hb, rfl⟩
  (try simp only [List.cons_append, List.nil_append, Act.put, List.setIfInBounds_toArray, List.set_cons_zero, List.set_cons_succ])
  refine inv_done (fun wx hg hd => ?_)
  have hx := ((Below.refl w2.heap.size w2).drew).trans hg
  (have ee : v0 = (.pointer (some ⟨w.heap.size, 0, none⟩) : Value) := hd 0 (by simp); subst ee)
  (have ee : v1 = (.int .i64 a : Value) := hd 1 (by simp); subst ee)
  (have ee : v2 = (.pointer (some ⟨w.heap.size + 1, 0, none⟩) : Value) := hd 2 (by simp); subst ee)
  (have ee : v3 = (.int .i64 c : Value) := hd 3 (by simp); subst ee)
  (have ee : v4 = (.agg #[.int .u64 (uH ac), .int .u64 (uL ac)] : Value) := hd 4 (by simp); subst ee)
  (have ee : v5 = (.agg #[.int .u64 (uH bd), .int .u64 (uL bd)] : Value) := hd 5 (by simp); subst ee)
  (have ee : v6 = (.agg #[.int .u64 (uH (-bd)), .int .u64 (uL (-bd))] : Value) := hd 6 (by simp); subst ee)
  (have ee : v7 = (.agg #[.int .u64 (uH x), .int .u64 (uL x)] : Value) := hd 7 (by simp); subst ee)
  (have ee : v8 = (.pointer (some ⟨w.heap.size, 0, none⟩) : Value) := hd 8 (by simp); subst ee)
  (have ee : v9 = (.int .i64 a : Value) := hd 9 (by simp); subst ee)
  (have ee : v10 = (.pointer (some ⟨w.heap.size + 1, 1, none⟩) : Value) := hd 10 (by simp); subst ee)
  (have ee : v11 = (.int .i64 d : Value) := hd 11 (by simp); subst ee)
  (have ee : v12 = (.agg #[.int .u64 (uH ad), .int .u64 (uL ad)] : Value) := hd 12 (by simp); subst ee)
  (have ee : v13 = (.pointer (some ⟨w.heap.size, 1, none⟩) : Value) := hd 13 (by simp); subst ee)
  (have ee : v14 = (.int .i64 b : Value) := hd 14 (by simp); subst ee)
  (have ee : v15 = (.pointer (some ⟨w.heap.size + 1, 0, none⟩) : Value) := hd 15 (by simp); subst ee)
  (have ee : v16 = (.int .i64 c : Value) := hd 16 (by simp); subst ee)
  (have ee : v17 = (.agg #[.int .u64 (uH bc), .int .u64 (uL bc)] : Value) := hd 17 (by simp); subst ee)
  (have ee : v18 = (.agg #[.int .u64 (uH s), .int .u64 (uL s)] : Value) := hd 18 (by simp); subst ee)
  (have ee : v19 = (.agg #[.int .u64 (uH bd), .int .u64 (uL bd)] : Value) := hd 19 (by simp); subst ee)
  (have ee : v20 = (.agg #[.int .u64 (uH y), .int .u64 (uL y)] : Value) := hd 20 (by simp); subst ee)
  (have ee : v21 = (.tuple #[.agg #[.int .i64 x, .int .i64 y], .bool true] : Value) := hd 21 (by simp); subst ee)
  clear hd hg
  have HF : Hid (Below w.heap.size w wx) := HQ.out.trans (hx.mono HQ.out.size)
  obtain ⟨-, -, -, ⟨c0, c1⟩, f0, f1⟩ := HC.out _ hx
  have hzx := hx.size
  clear hx HC
  refine wpAny_take (i := 22) (v := .agg #[.int .i64 x, .int .i64 y]) rfl (by kernel_rfl) (by kernel_rfl) (by kernel_rfl) (fun _ _ _ h => h) (Or.inl ⟨by rfl, ?_⟩) ?_
  · intro w
    go_simp
  (try simp only [Act.put, List.setIfInBounds_toArray, List.set_cons_zero, List.set_cons_succ])
  refine wpAny_take (i := 23) (v := .bool true) rfl (by kernel_rfl) (by kernel_rfl) (by kernel_rfl) (fun _ _ _ h => h) (Or.inl ⟨by rfl, ?_⟩) ?_
  · intro w
    go_simp
  (try simp only [Act.put, List.setIfInBounds_toArray, List.set_cons_zero, List.set_cons_succ])
  refine wpAny_ready (rs := [24]) (by kernel_rfl) (by simp) ?_
  refine AllReady.cons rfl (fun K hK => ?_) AllReady.nil
  go_simp
  refine hK _ _ ?_
  clear hK K
  refine wpAny_ready (rs := [25]) (by kernel_rfl) (by simp) ?_
  refine AllReady.cons rfl (fun K hK => ?_) AllReady.nil
  go_simp
  refine hK _ _ ?_
  clear hK K
  refine wpAny_done (by kernel_rfl) ?_ _
  refine only_done ?_
  go_wp2
  exact bodyPost_ret (v := .tuple #[.agg #[.int .i64 x, .int .i64 y], .bool true]) (by simp [results, Try.results14, go_sem, *]) rfl ⟨rfl, (HF.out.setCell (p := ⟨w.heap.size + 1 + 1, 0, none⟩) (by simp; omega) _).setCell (p := ⟨w.heap.size + 1 + 1, 1, none⟩) (by simp; omega) _⟩
end Go.Proofs.Ytkjfdaleamonaaa
