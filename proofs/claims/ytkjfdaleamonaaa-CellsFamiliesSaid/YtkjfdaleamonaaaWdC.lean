/- Contracts of package eisen: both, Mul. -/
import Derived.Test.YtkjfdaleamonaaaWdB
namespace Go.Proofs.Ytkjfdaleamonaaa
open Go.RowKit Go.Lib Wd

/-- Two cells of a block. -/
def Two (w : World) (b : Nat) (u v : Value) : Prop := w.cell? ⟨b, 0, none⟩ = some u ∧ w.cell? ⟨b, 1, none⟩ = some v
theorem Two.later {w w' : World} {b : Nat} {u v : Value} (h : Two w b u v) (hb : b < w.heap.size) (h1 : Below w.heap.size w w') : Two w' b u v :=
  ⟨(h1.cell (p := ⟨b, 0, none⟩) hb).trans h.1, (h1.cell (p := ⟨b, 1, none⟩) hb).trans h.2⟩
theorem Two.of_row {w : World} {b : Nat} {u v : Value} {t : TypeId} {f} (h : w.heap[b]? = some (.cells #[u, v] t f)) : Two w b u v :=
  ⟨cell_of_row _ _ 0 _ _ _ h, cell_of_row _ _ 1 _ _ _ h⟩
/-- The same, of a block that may be written. -/
def Two2 (w : World) (b : Nat) (u v : Value) : Prop := Two w b u v ∧ w.frozen? ⟨b, 0, none⟩ = false ∧ w.frozen? ⟨b, 1, none⟩ = false
theorem Two2.later {w w' : World} {b : Nat} {u v : Value} (h : Two2 w b u v) (hb : b < w.heap.size) (h1 : Below w.heap.size w w') : Two2 w' b u v :=
  ⟨h.1.later hb h1, (h1.frozen (p := ⟨b, 0, none⟩) hb).trans h.2.1, (h1.frozen (p := ⟨b, 1, none⟩) hb).trans h.2.2⟩
theorem Two2.of_row {w : World} {b : Nat} {u v : Value} {t : TypeId} (h : w.heap[b]? = some (.cells #[u, v] t (0, 0))) : Two2 w b u v :=
  ⟨.of_row h, frozen_of_row _ _ _ _ _ h, frozen_of_row _ _ _ _ _ h⟩
theorem both_in (a b : Int) (w : World) :
    Calls Try.prog 86 #[.int .i64 a, .bool true, .int .i64 b, .bool true] w fun e w' => e = .returned (.tuple #[.agg #[.int .i64 a, .int .i64 b], .bool true]) ∧ Below w.heap.size w w' := by
  go_enter Try.func86, Try.ntmps86
  go_wp2
  exact bodyPost_ret (v := .tuple #[.agg #[.int .i64 a, .int .i64 b], .bool true]) (by simp [results, Try.results86, go_sem]) rfl ⟨rfl, (Below.refl _ _).alloc (Nat.le_refl _) _⟩
theorem prod_in {a b : Int} (ha : -1152921504606846976 ≤ a ∧ a ≤ 1152921504606846976) (hb : -1152921504606846976 ≤ b ∧ b ≤ 1152921504606846976) :
    -1329227995784915872903807060280344576 ≤ a * b ∧ a * b ≤ 1329227995784915872903807060280344576 := by
  have h1 : (a * b).natAbs ≤ 1152921504606846976 * 1152921504606846976 := by rw [Int.natAbs_mul]; exact Nat.mul_le_mul (by omega) (by omega)
  omega
set_option maxHeartbeats 1000000 in
theorem mul_in (a b c d : Int) (ha : -1152921504606846976 ≤ a ∧ a ≤ 1152921504606846976) (hb : -1152921504606846976 ≤ b ∧ b ≤ 1152921504606846976) (hc : -1152921504606846976 ≤ c ∧ c ≤ 1152921504606846976) (hd : -1152921504606846976 ≤ d ∧ d ≤ 1152921504606846976)
    (h1 : -4611686018427387904 ≤ a * c - b * d ∧ a * c - b * d ≤ 4611686018427387904) (h2 : -4611686018427387904 ≤ a * d + b * c + b * d ∧ a * d + b * c + b * d ≤ 4611686018427387904) (w : World) :
    Calls Try.prog 63 #[.agg #[.int .i64 a, .int .i64 b], .agg #[.int .i64 c, .int .i64 d]] w fun e w' => e = .returned (.tuple #[.agg #[.int .i64 (a * c - b * d), .int .i64 (a * d + b * c + b * d)], .bool true]) ∧ Below w.heap.size w w' := by
  have p1 := prod_in ha hc
  have p2 := prod_in hb hd
  have p3 := prod_in ha hd
  have p4 := prod_in hb hc
  have T1 := Lib.hid (times_in a c (by omega) (by omega))
  have T2 := Lib.hid (times_in b d (by omega) (by omega))
  have T3 := Lib.hid (times_in a d (by omega) (by omega))
  have T4 := Lib.hid (times_in b c (by omega) (by omega))
  have M1 := Lib.hid (wminus_in (a * c) (b * d) (by omega) (by omega))
  have P1 := Lib.hid (wplus_in (a * d) (b * c) (by omega) (by omega))
  have P2 := Lib.hid (wplus_in (a * d + b * c) (b * d) (by omega) (by omega))
  have S1 := Lib.hid (wshort_in _ h1)
  have S2 := Lib.hid (wshort_in _ h2)
  clear p1 p2 p3 p4 ha hb hc hd h1 h2
  generalize a * c = ac at *
  generalize b * d = bd at *
  generalize a * d = ad at *
  generalize b * c = bc at *
  go_enter Try.func63, Try.ntmps63
  go_wp2_with fail
  refine (T2.out _).mono ?_
  rintro e w1 ⟨rfl, hb1⟩
  have hz := hb1.size
  simp at hz
  have h2 : Two w1 w.heap.size (.int .i64 a) (.int .i64 b) := (Two.of_row (t := 27) (f := _) (by rw [Below.heap_alloc _ _ _ (by simp; omega), Below.heap_alloc _ _ _ (by simp)]; exact heap_new _ _ _ rfl)).later (by simp; omega) hb1
  have h3 : Two w1 (w.heap.size + 1) (.int .i64 c) (.int .i64 d) := (Two.of_row (t := 27) (f := _) (by rw [Below.heap_alloc _ _ _ (by simp)]; exact heap_new _ _ _ (by simp))).later (by simp) hb1
  have h5 : Two2 w1 (w.heap.size + 2) (.int .i64 0) (.int .i64 0) := (Two2.of_row (t := 27) (heap_new _ _ _ (by simp))).later (by simp) hb1
  go_upto_region 3 with (fail)
  have hq : Hid (Below w.heap.size w w1) := (((Below.refl _ _).alloc (Nat.le_refl _) _).alloc (by simp) _).alloc (by simp; omega) _ |>.trans (hb1.mono (by simp; omega))
  have h4 : Two (w1.alloc (.cells #[.int .i64 (hW bd), .int .u64 (lW bd)] 127)) w1.heap.size (.int .i64 (hW bd)) (.int .u64 (lW bd)) := Two.of_row (heap_new _ _ _ rfl)
  have h2 := h2.later (by omega) ((Below.refl _ _).alloc (Nat.le_refl _) (.cells #[.int .i64 (hW bd), .int .u64 (lW bd)] 127))
  have h3 := h3.later (by omega) ((Below.refl _ _).alloc (Nat.le_refl _) (.cells #[.int .i64 (hW bd), .int .u64 (lW bd)] 127))
  have h5 := h5.later (by omega) ((Below.refl _ _).alloc (Nat.le_refl _) (.cells #[.int .i64 (hW bd), .int .u64 (lW bd)] 127))
  have hq := Lib.hid (hq.out.alloc (by omega) (.cells #[.int .i64 (hW bd), .int .u64 (lW bd)] 127))
  have hs : w1.heap.size < (w1.alloc (.cells #[.int .i64 (hW bd), .int .u64 (lW bd)] 127)).heap.size := by simp
  generalize w1.alloc (.cells #[.int .i64 (hW bd), .int .u64 (lW bd)] 127) = w2 at *
  have HC : Hid (∀ wx, Below w2.heap.size w2 wx → Two wx w.heap.size (.int .i64 a) (.int .i64 b) ∧ Two wx (w.heap.size + 1) (.int .i64 c) (.int .i64 d) ∧ Two wx w1.heap.size (.int .i64 (hW bd)) (.int .u64 (lW bd)) ∧ Two2 wx (w.heap.size + 2) (.int .i64 0) (.int .i64 0)) := fun wx hx => ⟨h2.later (by omega) hx, h3.later (by omega) hx, h4.later (by omega) hx, h5.later (by omega) hx⟩
  clear h2 h3 h4 h5 hb1
  refine wp_region_inv (fun w w' => Below w.heap.size w w') (fun qi_ qv_ _ => qv_ = ([.pointer (some ⟨w.heap.size, 0, none⟩), .int .i64 a, .pointer (some ⟨w.heap.size + 1, 0, none⟩), .int .i64 c, .agg #[.int .i64 (hW ac), .int .u64 (lW ac)], .agg #[.int .i64 (hW bd), .int .u64 (lW bd)], .agg #[.int .i64 (hW (ac - bd)), .int .u64 (lW (ac - bd))], .tuple #[.int .i64 (ac - bd), .bool true], .tuple #[.int .i64 (ac - bd), .bool true], .int .i64 (ac - bd), .bool true, .int .i64 (ac - bd), .bool true] : List Value).getD qi_ undef) (by kernel_rfl) (by kernel_rfl) (fun _ => Below.refl _ _) (fun _ _ _ h1 h2 => below_later h1 h1.size h2) (fun _ _ _ _ _ _ h => h) ?_
  refine inv_cons (fun wx hg hd => ?_) (fun v0 => ?_)
  · have hx := ((Below.refl w2.heap.size w2).drew).trans hg
    clear hd hg
    go_wp2
    exact ⟨_, rfl, Below.refl _ _, rfl⟩
  (try simp only [List.nil_append, Act.put, List.setIfInBounds_toArray, List.set_cons_zero, List.set_cons_succ])
  refine inv_cons (fun wx hg hd => ?_) (fun v1 => ?_)
  · have hx := ((Below.refl w2.heap.size w2).drew).trans hg
    (try (have ee : v0 = (.pointer (some ⟨w.heap.size, 0, none⟩) : Value) := hd 0 (by simp) (by decide); subst ee))
    clear hd hg
    obtain ⟨⟨k1, k2⟩, ⟨k3, k4⟩, ⟨k5, k6⟩, _⟩ := HC.out _ hx
    go_wp2
    exact ⟨_, rfl, Below.refl _ _, rfl⟩
  (try simp only [List.cons_append, List.nil_append, Act.put, List.setIfInBounds_toArray, List.set_cons_zero, List.set_cons_succ])
  refine inv_cons (fun wx hg hd => ?_) (fun v2 => ?_)
  · have hx := ((Below.refl w2.heap.size w2).drew).trans hg
    clear hd hg
    go_wp2
    exact ⟨_, rfl, Below.refl _ _, rfl⟩
  (try simp only [List.cons_append, List.nil_append, Act.put, List.setIfInBounds_toArray, List.set_cons_zero, List.set_cons_succ])
  refine inv_cons (fun wx hg hd => ?_) (fun v3 => ?_)
  · have hx := ((Below.refl w2.heap.size w2).drew).trans hg
    (try (have ee : v2 = (.pointer (some ⟨w.heap.size + 1, 0, none⟩) : Value) := hd 2 (by simp) (by decide); subst ee))
    clear hd hg
    obtain ⟨⟨k1, k2⟩, ⟨k3, k4⟩, ⟨k5, k6⟩, _⟩ := HC.out _ hx
    go_wp2
    exact ⟨_, rfl, Below.refl _ _, rfl⟩
  (try simp only [List.cons_append, List.nil_append, Act.put, List.setIfInBounds_toArray, List.set_cons_zero, List.set_cons_succ])
  refine inv_cons (fun wx hg hd => ?_) (fun v4 => ?_)
  · have hx := ((Below.refl w2.heap.size w2).drew).trans hg
    (try (have ee : v1 = (.int .i64 a : Value) := hd 1 (by simp) (by decide); subst ee))
    (try (have ee : v3 = (.int .i64 c : Value) := hd 3 (by simp) (by decide); subst ee))
    clear hd hg
    go_wp2_with fail
    refine (T1.out _).mono ?_
    rintro e w' ⟨rfl, hb⟩
    go_wp2
    exact ⟨_, rfl, hb, rfl⟩
  (try simp only [List.cons_append, List.nil_append, Act.put, List.setIfInBounds_toArray, List.set_cons_zero, List.set_cons_succ])
  refine inv_cons (fun wx hg hd => ?_) (fun v5 => ?_)
  · have hx := ((Below.refl w2.heap.size w2).drew).trans hg
    clear hd hg
    obtain ⟨⟨k1, k2⟩, ⟨k3, k4⟩, ⟨k5, k6⟩, _⟩ := HC.out _ hx
    go_wp2
    exact ⟨_, rfl, Below.refl _ _, rfl⟩
  (try simp only [List.cons_append, List.nil_append, Act.put, List.setIfInBounds_toArray, List.set_cons_zero, List.set_cons_succ])
  refine inv_cons (fun wx hg hd => ?_) (fun v6 => ?_)
  · have hx := ((Below.refl w2.heap.size w2).drew).trans hg
    (try (have ee : v4 = (.agg #[.int .i64 (hW ac), .int .u64 (lW ac)] : Value) := hd 4 (by simp) (by decide); subst ee))
    (try (have ee : v5 = (.agg #[.int .i64 (hW bd), .int .u64 (lW bd)] : Value) := hd 5 (by simp) (by decide); subst ee))
    clear hd hg
    go_wp2_with fail
    refine (M1.out _).mono ?_
    rintro e w' ⟨rfl, hb⟩
    go_wp2
    exact ⟨_, rfl, hb, rfl⟩
  (try simp only [List.cons_append, List.nil_append, Act.put, List.setIfInBounds_toArray, List.set_cons_zero, List.set_cons_succ])
  refine inv_cons (fun wx hg hd => ?_) (fun v7 => ?_)
  · have hx := ((Below.refl w2.heap.size w2).drew).trans hg
    (try (have ee : v6 = (.agg #[.int .i64 (hW (ac - bd)), .int .u64 (lW (ac - bd))] : Value) := hd 6 (by simp) (by decide); subst ee))
    clear hd hg
    go_wp2_with fail
    refine (S1.out _).mono ?_
    rintro e w' ⟨rfl, hb⟩
    go_wp2
    exact ⟨_, rfl, hb, rfl⟩
  (try simp only [List.cons_append, List.nil_append, Act.put, List.setIfInBounds_toArray, List.set_cons_zero, List.set_cons_succ])
  refine inv_cons (fun wx hg hd => ?_) (fun v8 => ?_)
  · have hx := ((Below.refl w2.heap.size w2).drew).trans hg
    (try (have ee : v7 = (.tuple #[.int .i64 (ac - bd), .bool true] : Value) := hd 7 (by simp) (by decide); subst ee))
    clear hd hg
    go_wp2
    exact ⟨_, rfl, Below.refl _ _, rfl⟩
  (try simp only [List.cons_append, List.nil_append, Act.put, List.setIfInBounds_toArray, List.set_cons_zero, List.set_cons_succ])
  refine inv_cons (fun wx hg hd => ?_) (fun v9 => ?_)
  · have hx := ((Below.refl w2.heap.size w2).drew).trans hg
    (try (have ee : v8 = (.tuple #[.int .i64 (ac - bd), .bool true] : Value) := hd 8 (by simp) (by decide); subst ee))
    clear hd hg
    go_wp2
    exact ⟨_, rfl, Below.refl _ _, rfl⟩
  (try simp only [List.cons_append, List.nil_append, Act.put, List.setIfInBounds_toArray, List.set_cons_zero, List.set_cons_succ])
  refine inv_cons (fun wx hg hd => ?_) (fun v10 => ?_)
  · have hx := ((Below.refl w2.heap.size w2).drew).trans hg
    (try (have ee : v8 = (.tuple #[.int .i64 (ac - bd), .bool true] : Value) := hd 8 (by simp) (by decide); subst ee))
    clear hd hg
    go_wp2
    exact ⟨_, rfl, Below.refl _ _, rfl⟩
  (try simp only [List.cons_append, List.nil_append, Act.put, List.setIfInBounds_toArray, List.set_cons_zero, List.set_cons_succ])
  refine inv_cons (fun wx hg hd => ?_) (fun v11 => ?_)
  · have hx := ((Below.refl w2.heap.size w2).drew).trans hg
    (try (have ee : v9 = (.int .i64 (ac - bd) : Value) := hd 9 (by simp) (by decide); subst ee))
    clear hd hg
    go_wp2
    exact ⟨_, rfl, Below.refl _ _, rfl⟩
  (try simp only [List.cons_append, List.nil_append, Act.put, List.setIfInBounds_toArray, List.set_cons_zero, List.set_cons_succ])
  refine inv_cons (fun wx hg hd => ?_) (fun v12 => ?_)
  · have hx := ((Below.refl w2.heap.size w2).drew).trans hg
    (try (have ee : v10 = (.bool true : Value) := hd 10 (by simp) (by decide); subst ee))
    clear hd hg
    go_wp2
    exact ⟨_, rfl, Below.refl _ _, rfl⟩
  (try simp only [List.cons_append, List.nil_append, Act.put, List.setIfInBounds_toArray, List.set_cons_zero, List.set_cons_succ])
  refine inv_done (fun wx hg hd => ?_)
  have hx := ((Below.refl w2.heap.size w2).drew).trans hg
  (have ee : v0 = (.pointer (some ⟨w.heap.size, 0, none⟩) : Value) := hd 0 (by simp); subst ee)
  (have ee : v1 = (.int .i64 a : Value) := hd 1 (by simp); subst ee)
  (have ee : v2 = (.pointer (some ⟨w.heap.size + 1, 0, none⟩) : Value) := hd 2 (by simp); subst ee)
  (have ee : v3 = (.int .i64 c : Value) := hd 3 (by simp); subst ee)
  (have ee : v4 = (.agg #[.int .i64 (hW ac), .int .u64 (lW ac)] : Value) := hd 4 (by simp); subst ee)
  (have ee : v5 = (.agg #[.int .i64 (hW bd), .int .u64 (lW bd)] : Value) := hd 5 (by simp); subst ee)
  (have ee : v6 = (.agg #[.int .i64 (hW (ac - bd)), .int .u64 (lW (ac - bd))] : Value) := hd 6 (by simp); subst ee)
  (have ee : v7 = (.tuple #[.int .i64 (ac - bd), .bool true] : Value) := hd 7 (by simp); subst ee)
  (have ee : v8 = (.tuple #[.int .i64 (ac - bd), .bool true] : Value) := hd 8 (by simp); subst ee)
  (have ee : v9 = (.int .i64 (ac - bd) : Value) := hd 9 (by simp); subst ee)
  (have ee : v10 = (.bool true : Value) := hd 10 (by simp); subst ee)
  (have ee : v11 = (.int .i64 (ac - bd) : Value) := hd 11 (by simp); subst ee)
  (have ee : v12 = (.bool true : Value) := hd 12 (by simp); subst ee)
  clear hd hg
  (try go_simp)
  have hq2 : Hid (Below w.heap.size w wx) := hq.out.trans (hx.mono (by have := hq.out.size; omega))
  have HC2 : Hid (∀ wy, Below wx.heap.size wx wy → Two wy w.heap.size (.int .i64 a) (.int .i64 b) ∧ Two wy (w.heap.size + 1) (.int .i64 c) (.int .i64 d) ∧ Two wy w1.heap.size (.int .i64 (hW bd)) (.int .u64 (lW bd)) ∧ Two2 wy (w.heap.size + 2) (.int .i64 0) (.int .i64 0)) := fun wy hy => HC.out _ (hx.trans (hy.mono hx.size))
  have hz3 : w.heap.size + 2 < wx.heap.size := by have := hx.size; omega
  clear HC hq hx
  generalize wx = w3 at *
  go_upto_region 4 with (fail)
  refine wp_region_inv (fun w w' => Below w.heap.size w w') (fun qi_ qv_ _ => qv_ = ([.func (.func 82) #[] #[], .func (.func 82) #[] #[], .pointer (some ⟨w.heap.size, 0, none⟩), .int .i64 a, .pointer (some ⟨w.heap.size + 1, 1, none⟩), .int .i64 d, .agg #[.int .i64 (hW ad), .int .u64 (lW ad)], .pointer (some ⟨w.heap.size, 1, none⟩), .int .i64 b, .pointer (some ⟨w.heap.size + 1, 0, none⟩), .int .i64 c, .agg #[.int .i64 (hW bc), .int .u64 (lW bc)], .agg #[.int .i64 (hW (ad + bc)), .int .u64 (lW (ad + bc))], .agg #[.int .i64 (hW bd), .int .u64 (lW bd)], .agg #[.int .i64 (hW (ad + bc + bd)), .int .u64 (lW (ad + bc + bd))], .tuple #[.int .i64 (ad + bc + bd), .bool true], .tuple #[.int .i64 (ad + bc + bd), .bool true], .int .i64 (ad + bc + bd), .bool true, .int .i64 (ad + bc + bd), .bool true] : List Value).getD qi_ undef) (by kernel_rfl) (by kernel_rfl) (fun _ => Below.refl _ _) (fun _ _ _ h1 h2 => below_later h1 h1.size h2) (fun _ _ _ _ _ _ h => h) ?_
  refine inv_cons (fun wx hg hd => ?_) (fun v0 => ?_)
  · have hx := ((Below.refl w3.heap.size w3).drew).trans hg
    clear hd hg
    go_wp2
    exact ⟨_, rfl, Below.refl _ _, rfl⟩
  (try simp only [List.nil_append, Act.put, List.setIfInBounds_toArray, List.set_cons_zero, List.set_cons_succ])
  refine inv_cons (fun wx hg hd => ?_) (fun v1 => ?_)
  · have hx := ((Below.refl w3.heap.size w3).drew).trans hg
    clear hd hg
    go_wp2
    exact ⟨_, rfl, Below.refl _ _, rfl⟩
  (try simp only [List.cons_append, List.nil_append, Act.put, List.setIfInBounds_toArray, List.set_cons_zero, List.set_cons_succ])
  refine inv_cons (fun wx hg hd => ?_) (fun v2 => ?_)
  · have hx := ((Below.refl w3.heap.size w3).drew).trans hg
    clear hd hg
    go_wp2
    exact ⟨_, rfl, Below.refl _ _, rfl⟩
  (try simp only [List.cons_append, List.nil_append, Act.put, List.setIfInBounds_toArray, List.set_cons_zero, List.set_cons_succ])
  refine inv_cons (fun wx hg hd => ?_) (fun v3 => ?_)
  · have hx := ((Below.refl w3.heap.size w3).drew).trans hg
    (try (have ee : v2 = (.pointer (some ⟨w.heap.size, 0, none⟩) : Value) := hd 2 (by simp) (by decide); subst ee))
    clear hd hg
    obtain ⟨⟨k1, k2⟩, ⟨k3, k4⟩, ⟨k5, k6⟩, _⟩ := HC2.out _ hx
    go_wp2
    exact ⟨_, rfl, Below.refl _ _, rfl⟩
  (try simp only [List.cons_append, List.nil_append, Act.put, List.setIfInBounds_toArray, List.set_cons_zero, List.set_cons_succ])
  refine inv_cons (fun wx hg hd => ?_) (fun v4 => ?_)
  · have hx := ((Below.refl w3.heap.size w3).drew).trans hg
    clear hd hg
    go_wp2
    exact ⟨_, rfl, Below.refl _ _, rfl⟩
  (try simp only [List.cons_append, List.nil_append, Act.put, List.setIfInBounds_toArray, List.set_cons_zero, List.set_cons_succ])
  refine inv_cons (fun wx hg hd => ?_) (fun v5 => ?_)
  · have hx := ((Below.refl w3.heap.size w3).drew).trans hg
    (try (have ee : v4 = (.pointer (some ⟨w.heap.size + 1, 1, none⟩) : Value) := hd 4 (by simp) (by decide); subst ee))
    clear hd hg
    obtain ⟨⟨k1, k2⟩, ⟨k3, k4⟩, ⟨k5, k6⟩, _⟩ := HC2.out _ hx
    go_wp2
    exact ⟨_, rfl, Below.refl _ _, rfl⟩
  (try simp only [List.cons_append, List.nil_append, Act.put, List.setIfInBounds_toArray, List.set_cons_zero, List.set_cons_succ])
  refine inv_cons (fun wx hg hd => ?_) (fun v6 => ?_)
  · have hx := ((Below.refl w3.heap.size w3).drew).trans hg
    (try (have ee : v3 = (.int .i64 a : Value) := hd 3 (by simp) (by decide); subst ee))
    (try (have ee : v5 = (.int .i64 d : Value) := hd 5 (by simp) (by decide); subst ee))
    clear hd hg
    go_wp2_with fail
    refine (T3.out _).mono ?_
    rintro e w' ⟨rfl, hb⟩
    go_wp2
    exact ⟨_, rfl, hb, rfl⟩
  (try simp only [List.cons_append, List.nil_append, Act.put, List.setIfInBounds_toArray, List.set_cons_zero, List.set_cons_succ])
  refine inv_cons (fun wx hg hd => ?_) (fun v7 => ?_)
  · have hx := ((Below.refl w3.heap.size w3).drew).trans hg
    clear hd hg
    go_wp2
    exact ⟨_, rfl, Below.refl _ _, rfl⟩
  (try simp only [List.cons_append, List.nil_append, Act.put, List.setIfInBounds_toArray, List.set_cons_zero, List.set_cons_succ])
  refine inv_cons (fun wx hg hd => ?_) (fun v8 => ?_)
  · have hx := ((Below.refl w3.heap.size w3).drew).trans hg
    (try (have ee : v7 = (.pointer (some ⟨w.heap.size, 1, none⟩) : Value) := hd 7 (by simp) (by decide); subst ee))
    clear hd hg
    obtain ⟨⟨k1, k2⟩, ⟨k3, k4⟩, ⟨k5, k6⟩, _⟩ := HC2.out _ hx
    go_wp2
    exact ⟨_, rfl, Below.refl _ _, rfl⟩
  (try simp only [List.cons_append, List.nil_append, Act.put, List.setIfInBounds_toArray, List.set_cons_zero, List.set_cons_succ])
  refine inv_cons (fun wx hg hd => ?_) (fun v9 => ?_)
  · have hx := ((Below.refl w3.heap.size w3).drew).trans hg
    clear hd hg
    go_wp2
    exact ⟨_, rfl, Below.refl _ _, rfl⟩
  (try simp only [List.cons_append, List.nil_append, Act.put, List.setIfInBounds_toArray, List.set_cons_zero, List.set_cons_succ])
  refine inv_cons (fun wx hg hd => ?_) (fun v10 => ?_)
  · have hx := ((Below.refl w3.heap.size w3).drew).trans hg
    (try (have ee : v9 = (.pointer (some ⟨w.heap.size + 1, 0, none⟩) : Value) := hd 9 (by simp) (by decide); subst ee))
    clear hd hg
    obtain ⟨⟨k1, k2⟩, ⟨k3, k4⟩, ⟨k5, k6⟩, _⟩ := HC2.out _ hx
    go_wp2
    exact ⟨_, rfl, Below.refl _ _, rfl⟩
  (try simp only [List.cons_append, List.nil_append, Act.put, List.setIfInBounds_toArray, List.set_cons_zero, List.set_cons_succ])
  refine inv_cons (fun wx hg hd => ?_) (fun v11 => ?_)
  · have hx := ((Below.refl w3.heap.size w3).drew).trans hg
    (try (have ee : v8 = (.int .i64 b : Value) := hd 8 (by simp) (by decide); subst ee))
    (try (have ee : v10 = (.int .i64 c : Value) := hd 10 (by simp) (by decide); subst ee))
    clear hd hg
    go_wp2_with fail
    refine (T4.out _).mono ?_
    rintro e w' ⟨rfl, hb⟩
    go_wp2
    exact ⟨_, rfl, hb, rfl⟩
  (try simp only [List.cons_append, List.nil_append, Act.put, List.setIfInBounds_toArray, List.set_cons_zero, List.set_cons_succ])
  refine inv_cons (fun wx hg hd => ?_) (fun v12 => ?_)
  · have hx := ((Below.refl w3.heap.size w3).drew).trans hg
    (try (have ee : v1 = (.func (.func 82) #[] #[] : Value) := hd 1 (by simp) (by decide); subst ee))
    (try (have ee : v6 = (.agg #[.int .i64 (hW ad), .int .u64 (lW ad)] : Value) := hd 6 (by simp) (by decide); subst ee))
    (try (have ee : v11 = (.agg #[.int .i64 (hW bc), .int .u64 (lW bc)] : Value) := hd 11 (by simp) (by decide); subst ee))
    clear hd hg
    go_wp2_with fail
    refine (P1.out _).mono ?_
    rintro e w' ⟨rfl, hb⟩
    go_wp2
    exact ⟨_, rfl, hb, rfl⟩
  (try simp only [List.cons_append, List.nil_append, Act.put, List.setIfInBounds_toArray, List.set_cons_zero, List.set_cons_succ])
  refine inv_cons (fun wx hg hd => ?_) (fun v13 => ?_)
  · have hx := ((Below.refl w3.heap.size w3).drew).trans hg
    clear hd hg
    obtain ⟨⟨k1, k2⟩, ⟨k3, k4⟩, ⟨k5, k6⟩, _⟩ := HC2.out _ hx
    go_wp2
    exact ⟨_, rfl, Below.refl _ _, rfl⟩
  (try simp only [List.cons_append, List.nil_append, Act.put, List.setIfInBounds_toArray, List.set_cons_zero, List.set_cons_succ])
  refine inv_cons (fun wx hg hd => ?_) (fun v14 => ?_)
  · have hx := ((Below.refl w3.heap.size w3).drew).trans hg
    (try (have ee : v0 = (.func (.func 82) #[] #[] : Value) := hd 0 (by simp) (by decide); subst ee))
    (try (have ee : v12 = (.agg #[.int .i64 (hW (ad + bc)), .int .u64 (lW (ad + bc))] : Value) := hd 12 (by simp) (by decide); subst ee))
    (try (have ee : v13 = (.agg #[.int .i64 (hW bd), .int .u64 (lW bd)] : Value) := hd 13 (by simp) (by decide); subst ee))
    clear hd hg
    go_wp2_with fail
    refine (P2.out _).mono ?_
    rintro e w' ⟨rfl, hb⟩
    go_wp2
    exact ⟨_, rfl, hb, rfl⟩
  (try simp only [List.cons_append, List.nil_append, Act.put, List.setIfInBounds_toArray, List.set_cons_zero, List.set_cons_succ])
  refine inv_cons (fun wx hg hd => ?_) (fun v15 => ?_)
  · have hx := ((Below.refl w3.heap.size w3).drew).trans hg
    (try (have ee : v14 = (.agg #[.int .i64 (hW (ad + bc + bd)), .int .u64 (lW (ad + bc + bd))] : Value) := hd 14 (by simp) (by decide); subst ee))
    clear hd hg
    go_wp2_with fail
    refine (S2.out _).mono ?_
    rintro e w' ⟨rfl, hb⟩
    go_wp2
    exact ⟨_, rfl, hb, rfl⟩
  (try simp only [List.cons_append, List.nil_append, Act.put, List.setIfInBounds_toArray, List.set_cons_zero, List.set_cons_succ])
  refine inv_cons (fun wx hg hd => ?_) (fun v16 => ?_)
  · have hx := ((Below.refl w3.heap.size w3).drew).trans hg
    (try (have ee : v15 = (.tuple #[.int .i64 (ad + bc + bd), .bool true] : Value) := hd 15 (by simp) (by decide); subst ee))
    clear hd hg
    go_wp2
    exact ⟨_, rfl, Below.refl _ _, rfl⟩
  (try simp only [List.cons_append, List.nil_append, Act.put, List.setIfInBounds_toArray, List.set_cons_zero, List.set_cons_succ])
  refine inv_cons (fun wx hg hd => ?_) (fun v17 => ?_)
  · have hx := ((Below.refl w3.heap.size w3).drew).trans hg
    (try (have ee : v16 = (.tuple #[.int .i64 (ad + bc + bd), .bool true] : Value) := hd 16 (by simp) (by decide); subst ee))
    clear hd hg
    go_wp2
    exact ⟨_, rfl, Below.refl _ _, rfl⟩
  (try simp only [List.cons_append, List.nil_append, Act.put, List.setIfInBounds_toArray, List.set_cons_zero, List.set_cons_succ])
  refine inv_cons (fun wx hg hd => ?_) (fun v18 => ?_)
  · have hx := ((Below.refl w3.heap.size w3).drew).trans hg
    (try (have ee : v16 = (.tuple #[.int .i64 (ad + bc + bd), .bool true] : Value) := hd 16 (by simp) (by decide); subst ee))
    clear hd hg
    go_wp2
    exact ⟨_, rfl, Below.refl _ _, rfl⟩
  (try simp only [List.cons_append, List.nil_append, Act.put, List.setIfInBounds_toArray, List.set_cons_zero, List.set_cons_succ])
  refine inv_cons (fun wx hg hd => ?_) (fun v19 => ?_)
  · have hx := ((Below.refl w3.heap.size w3).drew).trans hg
    (try (have ee : v17 = (.int .i64 (ad + bc + bd) : Value) := hd 17 (by simp) (by decide); subst ee))
    clear hd hg
    go_wp2
    exact ⟨_, rfl, Below.refl _ _, rfl⟩
  (try simp only [List.cons_append, List.nil_append, Act.put, List.setIfInBounds_toArray, List.set_cons_zero, List.set_cons_succ])
  refine inv_cons (fun wx hg hd => ?_) (fun v20 => ?_)
  · have hx := ((Below.refl w3.heap.size w3).drew).trans hg
    (try (have ee : v18 = (.bool true : Value) := hd 18 (by simp) (by decide); subst ee))
    clear hd hg
    go_wp2
    exact ⟨_, rfl, Below.refl _ _, rfl⟩
  (try simp only [List.cons_append, List.nil_append, Act.put, List.setIfInBounds_toArray, List.set_cons_zero, List.set_cons_succ])
  refine inv_done (fun wx hg hd => ?_)
  have hx := ((Below.refl w3.heap.size w3).drew).trans hg
  (have ee : v0 = (.func (.func 82) #[] #[] : Value) := hd 0 (by simp); subst ee)
  (have ee : v1 = (.func (.func 82) #[] #[] : Value) := hd 1 (by simp); subst ee)
  (have ee : v2 = (.pointer (some ⟨w.heap.size, 0, none⟩) : Value) := hd 2 (by simp); subst ee)
  (have ee : v3 = (.int .i64 a : Value) := hd 3 (by simp); subst ee)
  (have ee : v4 = (.pointer (some ⟨w.heap.size + 1, 1, none⟩) : Value) := hd 4 (by simp); subst ee)
  (have ee : v5 = (.int .i64 d : Value) := hd 5 (by simp); subst ee)
  (have ee : v6 = (.agg #[.int .i64 (hW ad), .int .u64 (lW ad)] : Value) := hd 6 (by simp); subst ee)
  (have ee : v7 = (.pointer (some ⟨w.heap.size, 1, none⟩) : Value) := hd 7 (by simp); subst ee)
  (have ee : v8 = (.int .i64 b : Value) := hd 8 (by simp); subst ee)
  (have ee : v9 = (.pointer (some ⟨w.heap.size + 1, 0, none⟩) : Value) := hd 9 (by simp); subst ee)
  (have ee : v10 = (.int .i64 c : Value) := hd 10 (by simp); subst ee)
  (have ee : v11 = (.agg #[.int .i64 (hW bc), .int .u64 (lW bc)] : Value) := hd 11 (by simp); subst ee)
  (have ee : v12 = (.agg #[.int .i64 (hW (ad + bc)), .int .u64 (lW (ad + bc))] : Value) := hd 12 (by simp); subst ee)
  (have ee : v13 = (.agg #[.int .i64 (hW bd), .int .u64 (lW bd)] : Value) := hd 13 (by simp); subst ee)
  (have ee : v14 = (.agg #[.int .i64 (hW (ad + bc + bd)), .int .u64 (lW (ad + bc + bd))] : Value) := hd 14 (by simp); subst ee)
  (have ee : v15 = (.tuple #[.int .i64 (ad + bc + bd), .bool true] : Value) := hd 15 (by simp); subst ee)
  (have ee : v16 = (.tuple #[.int .i64 (ad + bc + bd), .bool true] : Value) := hd 16 (by simp); subst ee)
  (have ee : v17 = (.int .i64 (ad + bc + bd) : Value) := hd 17 (by simp); subst ee)
  (have ee : v18 = (.bool true : Value) := hd 18 (by simp); subst ee)
  (have ee : v19 = (.int .i64 (ad + bc + bd) : Value) := hd 19 (by simp); subst ee)
  (have ee : v20 = (.bool true : Value) := hd 20 (by simp); subst ee)
  clear hd hg
  (try go_simp)
  have hq3 : Hid (Below w.heap.size w wx) := hq2.out.trans (hx.mono hq2.out.size)
  obtain ⟨-, -, -, h5⟩ := HC2.out _ hx
  have hz3 : w.heap.size + 2 < w3.heap.size := hz3
  have hz4 := hx.size
  clear HC2 hq2 hx
  go_wp2_with fail
  refine (both_in _ _ _).mono ?_
  rintro e w5 ⟨rfl, hb5⟩
  obtain ⟨⟨c0, c1⟩, f0, f1⟩ := h5.later (by omega) hb5
  have hq4 := Lib.hid (hq3.out.trans (hb5.mono hq3.out.size))
  clear hb5
  go_wp2
  exact bodyPost_ret (v := .tuple #[.agg #[.int .i64 (ac - bd), .int .i64 (ad + bc + bd)], .bool true]) (by simp [results, Try.results63, go_sem, *]) rfl ⟨rfl, (hq4.out.setCell (p := ⟨w.heap.size + 1 + 1, 0, none⟩) (by simp; omega) _).setCell (p := ⟨w.heap.size + 1 + 1, 1, none⟩) (by simp; omega) _⟩
end Go.Proofs.Ytkjfdaleamonaaa
