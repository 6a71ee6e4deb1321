/- Joined: WdC, WdD, PnP, VwA, Lex7, Lex9, CbD, CbE, CbF, CbG: contracts and plain laws, each with its own heading below. -/
import Derived.Test.YtjimcjhgjfhbiaaGreatPackBD
import Derived.Test.YtjimcjhgjfhbiaaGreatPackBC
import Derived.StillTail
/- Contracts of package eisen: both, Mul. -/
namespace Go.Proofs.YtjimcjhgjfhbiaaGreat
open Go.RowKit Go.Lib Wd

/-- Two cells of a block. -/
def Two (w : World) (b : Nat) (u v : Value) : Prop := w.cell? ⟨b, 0, none⟩ = some u ∧ w.cell? ⟨b, 1, none⟩ = some v
theorem Two.later {w w' : World} {b : Nat} {u v : Value} (h : Two w b u v) (hb : b < w.heap.size) (h1 : Below w.heap.size w w') : Two w' b u v :=
  ⟨(h1.cell (p := ⟨b, 0, none⟩) hb).trans h.1, (h1.cell (p := ⟨b, 1, none⟩) hb).trans h.2⟩
theorem Two.of_row {w : World} {b : Nat} {u v : Value} {t : TypeId} {f} (h : w.heap[b]? = some (.cells #[u, v] t f)) : Two w b u v :=
  ⟨cell_of_row _ _ 0 _ _ _ h, cell_of_row _ _ 1 _ _ _ h⟩
/-- The same, of a block that may be written. -/
def Two2 (w : World) (b : Nat) (u v : Value) : Prop := Two w b u v ∧ w.frozen? ⟨b, 0, none⟩ = false ∧ w.frozen? ⟨b, 1, none⟩ = false
theorem Two2.later {w w' : World} {b : Nat} {u v : Value} (h : Two2 w b u v) (hb : b < w.heap.size) (h1 : Below w.heap.size w w') : Two2 w' b u v :=
  ⟨h.1.later hb h1, (h1.frozen (p := ⟨b, 0, none⟩) hb).trans h.2.1, (h1.frozen (p := ⟨b, 1, none⟩) hb).trans h.2.2⟩
theorem Two2.of_row {w : World} {b : Nat} {u v : Value} {t : TypeId} (h : w.heap[b]? = some (.cells #[u, v] t (0, 0))) : Two2 w b u v :=
  ⟨.of_row h, frozen_of_row _ _ _ _ _ h, frozen_of_row _ _ _ _ _ h⟩
theorem both_in (a b : Int) (w : World) :
    Calls Tryz.prog 105 #[.int .i64 a, .bool true, .int .i64 b, .bool true] w fun e w' => e = .returned (.tuple #[.agg #[.int .i64 a, .int .i64 b], .bool true]) ∧ Below w.heap.size w w' := by
  go_enter Tryz.func105, Tryz.ntmps105
  go_wp2
  exact bodyPost_ret (v := .tuple #[.agg #[.int .i64 a, .int .i64 b], .bool true]) (by simp [results, Tryz.results105, go_sem]) rfl ⟨rfl, (Below.refl _ _).alloc (Nat.le_refl _) _⟩
theorem prod_in {a b : Int} (ha : -1152921504606846976 ≤ a ∧ a ≤ 1152921504606846976) (hb : -1152921504606846976 ≤ b ∧ b ≤ 1152921504606846976) :
    -1329227995784915872903807060280344576 ≤ a * b ∧ a * b ≤ 1329227995784915872903807060280344576 := by
  have h1 : (a * b).natAbs ≤ 1152921504606846976 * 1152921504606846976 := by rw [Int.natAbs_mul]; exact Nat.mul_le_mul (by omega) (by omega)
  omega
set_option maxHeartbeats 1000000 in
theorem mul_in (a b c d : Int) (ha : -1152921504606846976 ≤ a ∧ a ≤ 1152921504606846976) (hb : -1152921504606846976 ≤ b ∧ b ≤ 1152921504606846976) (hc : -1152921504606846976 ≤ c ∧ c ≤ 1152921504606846976) (hd : -1152921504606846976 ≤ d ∧ d ≤ 1152921504606846976)
    (h1 : -4611686018427387904 ≤ a * c - b * d ∧ a * c - b * d ≤ 4611686018427387904) (h2 : -4611686018427387904 ≤ a * d + b * c + b * d ∧ a * d + b * c + b * d ≤ 4611686018427387904) (w : World) :
    Calls Tryz.prog 84 #[.agg #[.int .i64 a, .int .i64 b], .agg #[.int .i64 c, .int .i64 d]] w fun e w' => e = .returned (.tuple #[.agg #[.int .i64 (a * c - b * d), .int .i64 (a * d + b * c + b * d)], .bool true]) ∧ Below w.heap.size w w' := by
  have p1 := prod_in ha hc
  have p2 := prod_in hb hd
  have p3 := prod_in ha hd
  have p4 := prod_in hb hc
  have T1 := Lib.hid (times_in a c (by omega) (by omega))
  have T2 := Lib.hid (times_in b d (by omega) (by omega))
  have T3 := Lib.hid (times_in a d (by omega) (by omega))
  have T4 := Lib.hid (times_in b c (by omega) (by omega))
  have M1 := Lib.hid (wminus_in (a * c) (b * d) (by omega) (by omega))
  have P1 := Lib.hid (wplus_in (a * d) (b * c) (by omega) (by omega))
  have P2 := Lib.hid (wplus_in (a * d + b * c) (b * d) (by omega) (by omega))
  have S1 := Lib.hid (wshort_in _ h1)
  have S2 := Lib.hid (wshort_in _ h2)
  clear p1 p2 p3 p4 ha hb hc hd h1 h2
  generalize a * c = ac at *
  generalize b * d = bd at *
  generalize a * d = ad at *
  generalize b * c = bc at *
  go_enter Tryz.func84, Tryz.ntmps84
  go_wp2_with fail
  refine (T2.out _).mono ?_
  rintro e w1 ⟨rfl, hb1⟩
  have hz := hb1.size
  simp at hz
  have h2 : Two w1 w.heap.size (.int .i64 a) (.int .i64 b) := (Two.of_row (t := 70) (f := _) (by rw [Below.heap_alloc _ _ _ (by simp; omega), Below.heap_alloc _ _ _ (by simp)]; exact heap_new _ _ _ rfl)).later (by simp; omega) hb1
  have h3 : Two w1 (w.heap.size + 1) (.int .i64 c) (.int .i64 d) := (Two.of_row (t := 70) (f := _) (by rw [Below.heap_alloc _ _ _ (by simp)]; exact heap_new _ _ _ (by simp))).later (by simp) hb1
  have h5 : Two2 w1 (w.heap.size + 2) (.int .i64 0) (.int .i64 0) := (Two2.of_row (t := 70) (heap_new _ _ _ (by simp))).later (by simp) hb1
  go_upto_region 3 with (fail)
  have hq : Hid (Below w.heap.size w w1) := (((Below.refl _ _).alloc (Nat.le_refl _) _).alloc (by simp) _).alloc (by simp; omega) _ |>.trans (hb1.mono (by simp; omega))
  have h4 : Two (w1.alloc (.cells #[.int .i64 (hW bd), .int .u64 (lW bd)] 159)) w1.heap.size (.int .i64 (hW bd)) (.int .u64 (lW bd)) := Two.of_row (heap_new _ _ _ rfl)
  have h2 := h2.later (by omega) ((Below.refl _ _).alloc (Nat.le_refl _) (.cells #[.int .i64 (hW bd), .int .u64 (lW bd)] 159))
  have h3 := h3.later (by omega) ((Below.refl _ _).alloc (Nat.le_refl _) (.cells #[.int .i64 (hW bd), .int .u64 (lW bd)] 159))
  have h5 := h5.later (by omega) ((Below.refl _ _).alloc (Nat.le_refl _) (.cells #[.int .i64 (hW bd), .int .u64 (lW bd)] 159))
  have hq := Lib.hid (hq.out.alloc (by omega) (.cells #[.int .i64 (hW bd), .int .u64 (lW bd)] 159))
  have hs : w1.heap.size < (w1.alloc (.cells #[.int .i64 (hW bd), .int .u64 (lW bd)] 159)).heap.size := by simp
  generalize w1.alloc (.cells #[.int .i64 (hW bd), .int .u64 (lW bd)] 159) = w2 at *
  have HC : Hid (∀ wx, Below w2.heap.size w2 wx → Two wx w.heap.size (.int .i64 a) (.int .i64 b) ∧ Two wx (w.heap.size + 1) (.int .i64 c) (.int .i64 d) ∧ Two wx w1.heap.size (.int .i64 (hW bd)) (.int .u64 (lW bd)) ∧ Two2 wx (w.heap.size + 2) (.int .i64 0) (.int .i64 0)) := fun wx hx => ⟨h2.later (by omega) hx, h3.later (by omega) hx, h4.later (by omega) hx, h5.later (by omega) hx⟩
  clear h2 h3 h4 h5 hb1
  refine wp_region_inv (fun w w' => Below w.heap.size w w') (fun qi_ qv_ _ => qv_ = ([.pointer (some ⟨w.heap.size, 0, none⟩), .int .i64 a, .pointer (some ⟨w.heap.size + 1, 0, none⟩), .int .i64 c, .agg #[.int .i64 (hW ac), .int .u64 (lW ac)], .agg #[.int .i64 (hW bd), .int .u64 (lW bd)], .agg #[.int .i64 (hW (ac - bd)), .int .u64 (lW (ac - bd))], .tuple #[.int .i64 (ac - bd), .bool true], .tuple #[.int .i64 (ac - bd), .bool true], .int .i64 (ac - bd), .bool true, .int .i64 (ac - bd), .bool true] : List Value).getD qi_ undef) (by kernel_rfl) (by kernel_rfl) (fun _ => Below.refl _ _) (fun _ _ _ h1 h2 => below_later h1 h1.size h2) (fun _ _ _ _ _ _ h => h) ?_
  refine inv_cons (fun wx hg hd => ?_) (fun v0 => ?_)
  · have hx := ((Below.refl w2.heap.size w2).drew).trans hg
    clear hd hg
    go_wp2
    exact ⟨_, rfl, Below.refl _ _, rfl⟩
  (try simp only [List.nil_append, Act.put, List.setIfInBounds_toArray, List.set_cons_zero, List.set_cons_succ])
  refine inv_cons (fun wx hg hd => ?_) (fun v1 => ?_)
  · have hx := ((Below.refl w2.heap.size w2).drew).trans hg
    (try (have ee : v0 = (.pointer (some ⟨w.heap.size, 0, none⟩) : Value) := hd 0 (by simp) (by decide); subst ee))
    clear hd hg
    obtain ⟨⟨k1, k2⟩, ⟨k3, k4⟩, ⟨k5, k6⟩, _⟩ := HC.out _ hx
    go_wp2
    exact ⟨_, rfl, Below.refl _ _, rfl⟩
  (try simp only [List.cons_append, List.nil_append, Act.put, List.setIfInBounds_toArray, List.set_cons_zero, List.set_cons_succ])
  refine inv_cons (fun wx hg hd => ?_) (fun v2 => ?_)
  · have hx := ((Below.refl w2.heap.size w2).drew).trans hg
    clear hd hg
    go_wp2
    exact ⟨_, rfl, Below.refl _ _, rfl⟩
  (try simp only [List.cons_append, List.nil_append, Act.put, List.setIfInBounds_toArray, List.set_cons_zero, List.set_cons_succ])
  refine inv_cons (fun wx hg hd => ?_) (fun v3 => ?_)
  · have hx := ((Below.refl w2.heap.size w2).drew).trans hg
    (try (have ee : v2 = (.pointer (some ⟨w.heap.size + 1, 0, none⟩) : Value) := hd 2 (by simp) (by decide); subst ee))
    clear hd hg
    obtain ⟨⟨k1, k2⟩, ⟨k3, k4⟩, ⟨k5, k6⟩, _⟩ := HC.out _ hx
    go_wp2
    exact ⟨_, rfl, Below.refl _ _, rfl⟩
  (try simp only [List.cons_append, List.nil_append, Act.put, List.setIfInBounds_toArray, List.set_cons_zero, List.set_cons_succ])
  refine inv_cons (fun wx hg hd => ?_) (fun v4 => ?_)
  · have hx := ((Below.refl w2.heap.size w2).drew).trans hg
    (try (have ee : v1 = (.int .i64 a : Value) := hd 1 (by simp) (by decide); subst ee))
    (try (have ee : v3 = (.int .i64 c : Value) := hd 3 (by simp) (by decide); subst ee))
    clear hd hg
    go_wp2_with fail
    refine (T1.out _).mono ?_
    rintro e w' ⟨rfl, hb⟩
    go_wp2
    exact ⟨_, rfl, hb, rfl⟩
  (try simp only [List.cons_append, List.nil_append, Act.put, List.setIfInBounds_toArray, List.set_cons_zero, List.set_cons_succ])
  refine inv_cons (fun wx hg hd => ?_) (fun v5 => ?_)
  · have hx := ((Below.refl w2.heap.size w2).drew).trans hg
    clear hd hg
    obtain ⟨⟨k1, k2⟩, ⟨k3, k4⟩, ⟨k5, k6⟩, _⟩ := HC.out _ hx
    go_wp2
    exact ⟨_, rfl, Below.refl _ _, rfl⟩
  (try simp only [List.cons_append, List.nil_append, Act.put, List.setIfInBounds_toArray, List.set_cons_zero, List.set_cons_succ])
  refine inv_cons (fun wx hg hd => ?_) (fun v6 => ?_)
  · have hx := ((Below.refl w2.heap.size w2).drew).trans hg
    (try (have ee : v4 = (.agg #[.int .i64 (hW ac), .int .u64 (lW ac)] : Value) := hd 4 (by simp) (by decide); subst ee))
    (try (have ee : v5 = (.agg #[.int .i64 (hW bd), .int .u64 (lW bd)] : Value) := hd 5 (by simp) (by decide); subst ee))
    clear hd hg
    go_wp2_with fail
    refine (M1.out _).mono ?_
    rintro e w' ⟨rfl, hb⟩
    go_wp2
    exact ⟨_, rfl, hb, rfl⟩
  (try simp only [List.cons_append, List.nil_append, Act.put, List.setIfInBounds_toArray, List.set_cons_zero, List.set_cons_succ])
  refine inv_cons (fun wx hg hd => ?_) (fun v7 => ?_)
  · have hx := ((Below.refl w2.heap.size w2).drew).trans hg
    (try (have ee : v6 = (.agg #[.int .i64 (hW (ac - bd)), .int .u64 (lW (ac - bd))] : Value) := hd 6 (by simp) (by decide); subst ee))
    clear hd hg
    go_wp2_with fail
    refine (S1.out _).mono ?_
    rintro e w' ⟨rfl, hb⟩
    go_wp2
    exact ⟨_, rfl, hb, rfl⟩
  (try simp only [List.cons_append, List.nil_append, Act.put, List.setIfInBounds_toArray, List.set_cons_zero, List.set_cons_succ])
  refine inv_cons (fun wx hg hd => ?_) (fun v8 => ?_)
  · have hx := ((Below.refl w2.heap.size w2).drew).trans hg
    (try (have ee : v7 = (.tuple #[.int .i64 (ac - bd), .bool true] : Value) := hd 7 (by simp) (by decide); subst ee))
    clear hd hg
    go_wp2
    exact ⟨_, rfl, Below.refl _ _, rfl⟩
  (try simp only [List.cons_append, List.nil_append, Act.put, List.setIfInBounds_toArray, List.set_cons_zero, List.set_cons_succ])
  refine inv_cons (fun wx hg hd => ?_) (fun v9 => ?_)
  · have hx := ((Below.refl w2.heap.size w2).drew).trans hg
    (try (have ee : v8 = (.tuple #[.int .i64 (ac - bd), .bool true] : Value) := hd 8 (by simp) (by decide); subst ee))
    clear hd hg
    go_wp2
    exact ⟨_, rfl, Below.refl _ _, rfl⟩
  (try simp only [List.cons_append, List.nil_append, Act.put, List.setIfInBounds_toArray, List.set_cons_zero, List.set_cons_succ])
  refine inv_cons (fun wx hg hd => ?_) (fun v10 => ?_)
  · have hx := ((Below.refl w2.heap.size w2).drew).trans hg
    (try (have ee : v8 = (.tuple #[.int .i64 (ac - bd), .bool true] : Value) := hd 8 (by simp) (by decide); subst ee))
    clear hd hg
    go_wp2
    exact ⟨_, rfl, Below.refl _ _, rfl⟩
  (try simp only [List.cons_append, List.nil_append, Act.put, List.setIfInBounds_toArray, List.set_cons_zero, List.set_cons_succ])
  refine inv_cons (fun wx hg hd => ?_) (fun v11 => ?_)
  · have hx := ((Below.refl w2.heap.size w2).drew).trans hg
    (try (have ee : v9 = (.int .i64 (ac - bd) : Value) := hd 9 (by simp) (by decide); subst ee))
    clear hd hg
    go_wp2
    exact ⟨_, rfl, Below.refl _ _, rfl⟩
  (try simp only [List.cons_append, List.nil_append, Act.put, List.setIfInBounds_toArray, List.set_cons_zero, List.set_cons_succ])
  refine inv_cons (fun wx hg hd => ?_) (fun v12 => ?_)
  · have hx := ((Below.refl w2.heap.size w2).drew).trans hg
    (try (have ee : v10 = (.bool true : Value) := hd 10 (by simp) (by decide); subst ee))
    clear hd hg
    go_wp2
    exact ⟨_, rfl, Below.refl _ _, rfl⟩
  (try simp only [List.cons_append, List.nil_append, Act.put, List.setIfInBounds_toArray, List.set_cons_zero, List.set_cons_succ])
  refine inv_done (fun wx hg hd => ?_)
  have hx := ((Below.refl w2.heap.size w2).drew).trans hg
  (have ee : v0 = (.pointer (some ⟨w.heap.size, 0, none⟩) : Value) := hd 0 (by simp); subst ee)
  (have ee : v1 = (.int .i64 a : Value) := hd 1 (by simp); subst ee)
  (have ee : v2 = (.pointer (some ⟨w.heap.size + 1, 0, none⟩) : Value) := hd 2 (by simp); subst ee)
  (have ee : v3 = (.int .i64 c : Value) := hd 3 (by simp); subst ee)
  (have ee : v4 = (.agg #[.int .i64 (hW ac), .int .u64 (lW ac)] : Value) := hd 4 (by simp); subst ee)
  (have ee : v5 = (.agg #[.int .i64 (hW bd), .int .u64 (lW bd)] : Value) := hd 5 (by simp); subst ee)
  (have ee : v6 = (.agg #[.int .i64 (hW (ac - bd)), .int .u64 (lW (ac - bd))] : Value) := hd 6 (by simp); subst ee)
  (have ee : v7 = (.tuple #[.int .i64 (ac - bd), .bool true] : Value) := hd 7 (by simp); subst ee)
  (have ee : v8 = (.tuple #[.int .i64 (ac - bd), .bool true] : Value) := hd 8 (by simp); subst ee)
  (have ee : v9 = (.int .i64 (ac - bd) : Value) := hd 9 (by simp); subst ee)
  (have ee : v10 = (.bool true : Value) := hd 10 (by simp); subst ee)
  (have ee : v11 = (.int .i64 (ac - bd) : Value) := hd 11 (by simp); subst ee)
  (have ee : v12 = (.bool true : Value) := hd 12 (by simp); subst ee)
  clear hd hg
  (try go_simp)
  have hq2 : Hid (Below w.heap.size w wx) := hq.out.trans (hx.mono (by have := hq.out.size; omega))
  have HC2 : Hid (∀ wy, Below wx.heap.size wx wy → Two wy w.heap.size (.int .i64 a) (.int .i64 b) ∧ Two wy (w.heap.size + 1) (.int .i64 c) (.int .i64 d) ∧ Two wy w1.heap.size (.int .i64 (hW bd)) (.int .u64 (lW bd)) ∧ Two2 wy (w.heap.size + 2) (.int .i64 0) (.int .i64 0)) := fun wy hy => HC.out _ (hx.trans (hy.mono hx.size))
  have hz3 : w.heap.size + 2 < wx.heap.size := by have := hx.size; omega
  clear HC hq hx
  generalize wx = w3 at *
  go_upto_region 4 with (fail)
  refine wp_region_inv (fun w w' => Below w.heap.size w w') (fun qi_ qv_ _ => qv_ = ([.func (.func 108) #[] #[], .func (.func 108) #[] #[], .pointer (some ⟨w.heap.size, 0, none⟩), .int .i64 a, .pointer (some ⟨w.heap.size + 1, 1, none⟩), .int .i64 d, .agg #[.int .i64 (hW ad), .int .u64 (lW ad)], .pointer (some ⟨w.heap.size, 1, none⟩), .int .i64 b, .pointer (some ⟨w.heap.size + 1, 0, none⟩), .int .i64 c, .agg #[.int .i64 (hW bc), .int .u64 (lW bc)], .agg #[.int .i64 (hW (ad + bc)), .int .u64 (lW (ad + bc))], .agg #[.int .i64 (hW bd), .int .u64 (lW bd)], .agg #[.int .i64 (hW (ad + bc + bd)), .int .u64 (lW (ad + bc + bd))], .tuple #[.int .i64 (ad + bc + bd), .bool true], .tuple #[.int .i64 (ad + bc + bd), .bool true], .int .i64 (ad + bc + bd), .bool true, .int .i64 (ad + bc + bd), .bool true] : List Value).getD qi_ undef) (by kernel_rfl) (by kernel_rfl) (fun _ => Below.refl _ _) (fun _ _ _ h1 h2 => below_later h1 h1.size h2) (fun _ _ _ _ _ _ h => h) ?_
  refine inv_cons (fun wx hg hd => ?_) (fun v0 => ?_)
  · have hx := ((Below.refl w3.heap.size w3).drew).trans hg
    clear hd hg
    go_wp2
    exact ⟨_, rfl, Below.refl _ _, rfl⟩
  (try simp only [List.nil_append, Act.put, List.setIfInBounds_toArray, List.set_cons_zero, List.set_cons_succ])
  refine inv_cons (fun wx hg hd => ?_) (fun v1 => ?_)
  · have hx := ((Below.refl w3.heap.size w3).drew).trans hg
    clear hd hg
    go_wp2
    exact ⟨_, rfl, Below.refl _ _, rfl⟩
  (try simp only [List.cons_append, List.nil_append, Act.put, List.setIfInBounds_toArray, List.set_cons_zero, List.set_cons_succ])
  refine inv_cons (fun wx hg hd => ?_) (fun v2 => ?_)
  · have hx := ((Below.refl w3.heap.size w3).drew).trans hg
    clear hd hg
    go_wp2
    exact ⟨_, rfl, Below.refl _ _, rfl⟩
  (try simp only [List.cons_append, List.nil_append, Act.put, List.setIfInBounds_toArray, List.set_cons_zero, List.set_cons_succ])
  refine inv_cons (fun wx hg hd => ?_) (fun v3 => ?_)
  · have hx := ((Below.refl w3.heap.size w3).drew).trans hg
    (try (have ee : v2 = (.pointer (some ⟨w.heap.size, 0, none⟩) : Value) := hd 2 (by simp) (by decide); subst ee))
    clear hd hg
    obtain ⟨⟨k1, k2⟩, ⟨k3, k4⟩, ⟨k5, k6⟩, _⟩ := HC2.out _ hx
    go_wp2
    exact ⟨_, rfl, Below.refl _ _, rfl⟩
  (try simp only [List.cons_append, List.nil_append, Act.put, List.setIfInBounds_toArray, List.set_cons_zero, List.set_cons_succ])
  refine inv_cons (fun wx hg hd => ?_) (fun v4 => ?_)
  · have hx := ((Below.refl w3.heap.size w3).drew).trans hg
    clear hd hg
    go_wp2
    exact ⟨_, rfl, Below.refl _ _, rfl⟩
  (try simp only [List.cons_append, List.nil_append, Act.put, List.setIfInBounds_toArray, List.set_cons_zero, List.set_cons_succ])
  refine inv_cons (fun wx hg hd => ?_) (fun v5 => ?_)
  · have hx := ((Below.refl w3.heap.size w3).drew).trans hg
    (try (have ee : v4 = (.pointer (some ⟨w.heap.size + 1, 1, none⟩) : Value) := hd 4 (by simp) (by decide); subst ee))
    clear hd hg
    obtain ⟨⟨k1, k2⟩, ⟨k3, k4⟩, ⟨k5, k6⟩, _⟩ := HC2.out _ hx
    go_wp2
    exact ⟨_, rfl, Below.refl _ _, rfl⟩
  (try simp only [List.cons_append, List.nil_append, Act.put, List.setIfInBounds_toArray, List.set_cons_zero, List.set_cons_succ])
  refine inv_cons (fun wx hg hd => ?_) (fun v6 => ?_)
  · have hx := ((Below.refl w3.heap.size w3).drew).trans hg
    (try (have ee : v3 = (.int .i64 a : Value) := hd 3 (by simp) (by decide); subst ee))
    (try (have ee : v5 = (.int .i64 d : Value) := hd 5 (by simp) (by decide); subst ee))
    clear hd hg
    go_wp2_with fail
    refine (T3.out _).mono ?_
    rintro e w' ⟨rfl, hb⟩
    go_wp2
    exact ⟨_, rfl, hb, rfl⟩
  (try simp only [List.cons_append, List.nil_append, Act.put, List.setIfInBounds_toArray, List.set_cons_zero, List.set_cons_succ])
  refine inv_cons (fun wx hg hd => ?_) (fun v7 => ?_)
  · have hx := ((Below.refl w3.heap.size w3).drew).trans hg
    clear hd hg
    go_wp2
    exact ⟨_, rfl, Below.refl _ _, rfl⟩
  (try simp only [List.cons_append, List.nil_append, Act.put, List.setIfInBounds_toArray, List.set_cons_zero, List.set_cons_succ])
  refine inv_cons (fun wx hg hd => ?_) (fun v8 => ?_)
  · have hx := ((Below.refl w3.heap.size w3).drew).trans hg
    (try (have ee : v7 = (.pointer (some ⟨w.heap.size, 1, none⟩) : Value) := hd 7 (by simp) (by decide); subst ee))
    clear hd hg
    obtain ⟨⟨k1, k2⟩, ⟨k3, k4⟩, ⟨k5, k6⟩, _⟩ := HC2.out _ hx
    go_wp2
    exact ⟨_, rfl, Below.refl _ _, rfl⟩
  (try simp only [List.cons_append, List.nil_append, Act.put, List.setIfInBounds_toArray, List.set_cons_zero, List.set_cons_succ])
  refine inv_cons (fun wx hg hd => ?_) (fun v9 => ?_)
  · have hx := ((Below.refl w3.heap.size w3).drew).trans hg
    clear hd hg
    go_wp2
    exact ⟨_, rfl, Below.refl _ _, rfl⟩
  (try simp only [List.cons_append, List.nil_append, Act.put, List.setIfInBounds_toArray, List.set_cons_zero, List.set_cons_succ])
  refine inv_cons (fun wx hg hd => ?_) (fun v10 => ?_)
  · have hx := ((Below.refl w3.heap.size w3).drew).trans hg
    (try (have ee : v9 = (.pointer (some ⟨w.heap.size + 1, 0, none⟩) : Value) := hd 9 (by simp) (by decide); subst ee))
    clear hd hg
    obtain ⟨⟨k1, k2⟩, ⟨k3, k4⟩, ⟨k5, k6⟩, _⟩ := HC2.out _ hx
    go_wp2
    exact ⟨_, rfl, Below.refl _ _, rfl⟩
  (try simp only [List.cons_append, List.nil_append, Act.put, List.setIfInBounds_toArray, List.set_cons_zero, List.set_cons_succ])
  refine inv_cons (fun wx hg hd => ?_) (fun v11 => ?_)
  · have hx := ((Below.refl w3.heap.size w3).drew).trans hg
    (try (have ee : v8 = (.int .i64 b : Value) := hd 8 (by simp) (by decide); subst ee))
    (try (have ee : v10 = (.int .i64 c : Value) := hd 10 (by simp) (by decide); subst ee))
    clear hd hg
    go_wp2_with fail
    refine (T4.out _).mono ?_
    rintro e w' ⟨rfl, hb⟩
    go_wp2
    exact ⟨_, rfl, hb, rfl⟩
  (try simp only [List.cons_append, List.nil_append, Act.put, List.setIfInBounds_toArray, List.set_cons_zero, List.set_cons_succ])
  refine inv_cons (fun wx hg hd => ?_) (fun v12 => ?_)
  · have hx := ((Below.refl w3.heap.size w3).drew).trans hg
    (try (have ee : v1 = (.func (.func 108) #[] #[] : Value) := hd 1 (by simp) (by decide); subst ee))
    (try (have ee : v6 = (.agg #[.int .i64 (hW ad), .int .u64 (lW ad)] : Value) := hd 6 (by simp) (by decide); subst ee))
    (try (have ee : v11 = (.agg #[.int .i64 (hW bc), .int .u64 (lW bc)] : Value) := hd 11 (by simp) (by decide); subst ee))
    clear hd hg
    go_wp2_with fail
    refine (P1.out _).mono ?_
    rintro e w' ⟨rfl, hb⟩
    go_wp2
    exact ⟨_, rfl, hb, rfl⟩
  (try simp only [List.cons_append, List.nil_append, Act.put, List.setIfInBounds_toArray, List.set_cons_zero, List.set_cons_succ])
  refine inv_cons (fun wx hg hd => ?_) (fun v13 => ?_)
  · have hx := ((Below.refl w3.heap.size w3).drew).trans hg
    clear hd hg
    obtain ⟨⟨k1, k2⟩, ⟨k3, k4⟩, ⟨k5, k6⟩, _⟩ := HC2.out _ hx
    go_wp2
    exact ⟨_, rfl, Below.refl _ _, rfl⟩
  (try simp only [List.cons_append, List.nil_append, Act.put, List.setIfInBounds_toArray, List.set_cons_zero, List.set_cons_succ])
  refine inv_cons (fun wx hg hd => ?_) (fun v14 => ?_)
  · have hx := ((Below.refl w3.heap.size w3).drew).trans hg
    (try (have ee : v0 = (.func (.func 108) #[] #[] : Value) := hd 0 (by simp) (by decide); subst ee))
    (try (have ee : v12 = (.agg #[.int .i64 (hW (ad + bc)), .int .u64 (lW (ad + bc))] : Value) := hd 12 (by simp) (by decide); subst ee))
    (try (have ee : v13 = (.agg #[.int .i64 (hW bd), .int .u64 (lW bd)] : Value) := hd 13 (by simp) (by decide); subst ee))
    clear hd hg
    go_wp2_with fail
    refine (P2.out _).mono ?_
    rintro e w' ⟨rfl, hb⟩
    go_wp2
    exact ⟨_, rfl, hb, rfl⟩
  (try simp only [List.cons_append, List.nil_append, Act.put, List.setIfInBounds_toArray, List.set_cons_zero, List.set_cons_succ])
  refine inv_cons (fun wx hg hd => ?_) (fun v15 => ?_)
  · have hx := ((Below.refl w3.heap.size w3).drew).trans hg
    (try (have ee : v14 = (.agg #[.int .i64 (hW (ad + bc + bd)), .int .u64 (lW (ad + bc + bd))] : Value) := hd 14 (by simp) (by decide); subst ee))
    clear hd hg
    go_wp2_with fail
    refine (S2.out _).mono ?_
    rintro e w' ⟨rfl, hb⟩
    go_wp2
    exact ⟨_, rfl, hb, rfl⟩
  (try simp only [List.cons_append, List.nil_append, Act.put, List.setIfInBounds_toArray, List.set_cons_zero, List.set_cons_succ])
  refine inv_cons (fun wx hg hd => ?_) (fun v16 => ?_)
  · have hx := ((Below.refl w3.heap.size w3).drew).trans hg
    (try (have ee : v15 = (.tuple #[.int .i64 (ad + bc + bd), .bool true] : Value) := hd 15 (by simp) (by decide); subst ee))
    clear hd hg
    go_wp2
    exact ⟨_, rfl, Below.refl _ _, rfl⟩
  (try simp only [List.cons_append, List.nil_append, Act.put, List.setIfInBounds_toArray, List.set_cons_zero, List.set_cons_succ])
  refine inv_cons (fun wx hg hd => ?_) (fun v17 => ?_)
  · have hx := ((Below.refl w3.heap.size w3).drew).trans hg
    (try (have ee : v16 = (.tuple #[.int .i64 (ad + bc + bd), .bool true] : Value) := hd 16 (by simp) (by decide); subst ee))
    clear hd hg
    go_wp2
    exact ⟨_, rfl, Below.refl _ _, rfl⟩
  (try simp only [List.cons_append, List.nil_append, Act.put, List.setIfInBounds_toArray, List.set_cons_zero, List.set_cons_succ])
  refine inv_cons (fun wx hg hd => ?_) (fun v18 => ?_)
  · have hx := ((Below.refl w3.heap.size w3).drew).trans hg
    (try (have ee : v16 = (.tuple #[.int .i64 (ad + bc + bd), .bool true] : Value) := hd 16 (by simp) (by decide); subst ee))
    clear hd hg
    go_wp2
    exact ⟨_, rfl, Below.refl _ _, rfl⟩
  (try simp only [List.cons_append, List.nil_append, Act.put, List.setIfInBounds_toArray, List.set_cons_zero, List.set_cons_succ])
  refine inv_cons (fun wx hg hd => ?_) (fun v19 => ?_)
  · have hx := ((Below.refl w3.heap.size w3).drew).trans hg
    (try (have ee : v17 = (.int .i64 (ad + bc + bd) : Value) := hd 17 (by simp) (by decide); subst ee))
    clear hd hg
    go_wp2
    exact ⟨_, rfl, Below.refl _ _, rfl⟩
  (try simp only [List.cons_append, List.nil_append, Act.put, List.setIfInBounds_toArray, List.set_cons_zero, List.set_cons_succ])
  refine inv_cons (fun wx hg hd => ?_) (fun v20 => ?_)
  · have hx := ((Below.refl w3.heap.size w3).drew).trans hg
    (try (have ee : v18 = (.bool true : Value) := hd 18 (by simp) (by decide); subst ee))
    clear hd hg
    go_wp2
    exact ⟨_, rfl, Below.refl _ _, rfl⟩
  (try simp only [List.cons_append, List.nil_append, Act.put, List.setIfInBounds_toArray, List.set_cons_zero, List.set_cons_succ])
  refine inv_done (fun wx hg hd => ?_)
  have hx := ((Below.refl w3.heap.size w3).drew).trans hg
  (have ee : v0 = (.func (.func 108) #[] #[] : Value) := hd 0 (by simp); subst ee)
  (have ee : v1 = (.func (.func 108) #[] #[] : Value) := hd 1 (by simp); subst ee)
  (have ee : v2 = (.pointer (some ⟨w.heap.size, 0, none⟩) : Value) := hd 2 (by simp); subst ee)
  (have ee : v3 = (.int .i64 a : Value) := hd 3 (by simp); subst ee)
  (have ee : v4 = (.pointer (some ⟨w.heap.size + 1, 1, none⟩) : Value) := hd 4 (by simp); subst ee)
  (have ee : v5 = (.int .i64 d : Value) := hd 5 (by simp); subst ee)
  (have ee : v6 = (.agg #[.int .i64 (hW ad), .int .u64 (lW ad)] : Value) := hd 6 (by simp); subst ee)
  (have ee : v7 = (.pointer (some ⟨w.heap.size, 1, none⟩) : Value) := hd 7 (by simp); subst ee)
  (have ee : v8 = (.int .i64 b : Value) := hd 8 (by simp); subst ee)
  (have ee : v9 = (.pointer (some ⟨w.heap.size + 1, 0, none⟩) : Value) := hd 9 (by simp); subst ee)
  (have ee : v10 = (.int .i64 c : Value) := hd 10 (by simp); subst ee)
  (have ee : v11 = (.agg #[.int .i64 (hW bc), .int .u64 (lW bc)] : Value) := hd 11 (by simp); subst ee)
  (have ee : v12 = (.agg #[.int .i64 (hW (ad + bc)), .int .u64 (lW (ad + bc))] : Value) := hd 12 (by simp); subst ee)
  (have ee : v13 = (.agg #[.int .i64 (hW bd), .int .u64 (lW bd)] : Value) := hd 13 (by simp); subst ee)
  (have ee : v14 = (.agg #[.int .i64 (hW (ad + bc + bd)), .int .u64 (lW (ad + bc + bd))] : Value) := hd 14 (by simp); subst ee)
  (have ee : v15 = (.tuple #[.int .i64 (ad + bc + bd), .bool true] : Value) := hd 15 (by simp); subst ee)
  (have ee : v16 = (.tuple #[.int .i64 (ad + bc + bd), .bool true] : Value) := hd 16 (by simp); subst ee)
  (have ee : v17 = (.int .i64 (ad + bc + bd) : Value) := hd 17 (by simp); subst ee)
  (have ee : v18 = (.bool true : Value) := hd 18 (by simp); subst ee)
  (have ee : v19 = (.int .i64 (ad + bc + bd) : Value) := hd 19 (by simp); subst ee)
  (have ee : v20 = (.bool true : Value) := hd 20 (by simp); subst ee)
  clear hd hg
  (try go_simp)
  have hq3 : Hid (Below w.heap.size w wx) := hq2.out.trans (hx.mono hq2.out.size)
  obtain ⟨-, -, -, h5⟩ := HC2.out _ hx
  have hz3 : w.heap.size + 2 < w3.heap.size := hz3
  have hz4 := hx.size
  clear HC2 hq2 hx
  go_wp2_with fail
  refine (both_in _ _ _).mono ?_
  rintro e w5 ⟨rfl, hb5⟩
  obtain ⟨⟨c0, c1⟩, f0, f1⟩ := h5.later (by omega) hb5
  have hq4 := Lib.hid (hq3.out.trans (hb5.mono hq3.out.size))
  clear hb5
  go_wp2
  exact bodyPost_ret (v := .tuple #[.agg #[.int .i64 (ac - bd), .int .i64 (ad + bc + bd)], .bool true]) (by simp [results, Tryz.results84, go_sem, *]) rfl ⟨rfl, (hq4.out.setCell (p := ⟨w.heap.size + 1 + 1, 0, none⟩) (by simp; omega) _).setCell (p := ⟨w.heap.size + 1 + 1, 1, none⟩) (by simp; omega) _⟩
end Go.Proofs.YtjimcjhgjfhbiaaGreat
/- Contracts of package eisen: Add, Sub, Conj, Unit. -/
namespace Go.Proofs.YtjimcjhgjfhbiaaGreat
open Go.RowKit Go.Lib Wd

/-- A number of the lattice, as a value. -/
abbrev vE (z : E2) : Value := .agg #[.int .i64 z.1, .int .i64 z.2]
set_option maxHeartbeats 1000000 in
theorem sides_nadd (a b c d x y : Int) (h1 : ∀ w, Calls Tryz.prog 103 #[.int .i64 a, .int .i64 c] w fun e w' => e = .returned (.tuple #[.int .i64 x, .bool true]) ∧ w' = w)
    (h2 : ∀ w, Calls Tryz.prog 103 #[.int .i64 b, .int .i64 d] w fun e w' => e = .returned (.tuple #[.int .i64 y, .bool true]) ∧ w' = w) (w : World) :
    Calls Tryz.prog 142 #[.agg #[.int .i64 a, .int .i64 b], .agg #[.int .i64 c, .int .i64 d], .func (.func 103) #[] #[]] w fun e w' => e = .returned (.tuple #[.agg #[.int .i64 x, .int .i64 y], .bool true]) ∧ Below w.heap.size w w' := by
  have H1 := Lib.hid h1
  have H2 := Lib.hid h2
  clear h1 h2
  go_enter Tryz.func142, Tryz.ntmps142
  go_wp2_with fail
  refine (H1.out _).mono ?_
  rintro e w1 ⟨rfl, rfl⟩
  go_wp2_with fail
  refine (H2.out _).mono ?_
  rintro e w1 ⟨rfl, rfl⟩
  go_wp2_with fail
  refine (both_in _ _ _).mono ?_
  rintro e w1 ⟨rfl, hb⟩
  have h5 : Two2 w1 (w.heap.size + 2) (.int .i64 0) (.int .i64 0) := (Two2.of_row (t := 70) (heap_new _ _ _ (by simp))).later (by simp) hb
  obtain ⟨⟨c0, c1⟩, f0, f1⟩ := h5
  have hz := hb.size
  simp at hz
  have hq : Hid (Below w.heap.size w w1) := (((Below.refl _ _).alloc (Nat.le_refl _) _).alloc (by simp) _).alloc (by simp; omega) _ |>.trans (hb.mono (by simp; omega))
  clear hb H1 H2
  go_wp2
  exact bodyPost_ret (v := .tuple #[.agg #[.int .i64 x, .int .i64 y], .bool true]) (by simp [results, Tryz.results142, go_sem, *]) rfl ⟨rfl, (hq.out.setCell (p := ⟨w.heap.size + 1 + 1, 0, none⟩) (by simp; omega) _).setCell (p := ⟨w.heap.size + 1 + 1, 1, none⟩) (by simp; omega) _⟩
set_option maxHeartbeats 1000000 in
theorem sides_nsub (a b c d x y : Int) (h1 : ∀ w, Calls Tryz.prog 124 #[.int .i64 a, .int .i64 c] w fun e w' => e = .returned (.tuple #[.int .i64 x, .bool true]) ∧ w' = w)
    (h2 : ∀ w, Calls Tryz.prog 124 #[.int .i64 b, .int .i64 d] w fun e w' => e = .returned (.tuple #[.int .i64 y, .bool true]) ∧ w' = w) (w : World) :
    Calls Tryz.prog 142 #[.agg #[.int .i64 a, .int .i64 b], .agg #[.int .i64 c, .int .i64 d], .func (.func 124) #[] #[]] w fun e w' => e = .returned (.tuple #[.agg #[.int .i64 x, .int .i64 y], .bool true]) ∧ Below w.heap.size w w' := by
  have H1 := Lib.hid h1
  have H2 := Lib.hid h2
  clear h1 h2
  go_enter Tryz.func142, Tryz.ntmps142
  go_wp2_with fail
  refine (H1.out _).mono ?_
  rintro e w1 ⟨rfl, rfl⟩
  go_wp2_with fail
  refine (H2.out _).mono ?_
  rintro e w1 ⟨rfl, rfl⟩
  go_wp2_with fail
  refine (both_in _ _ _).mono ?_
  rintro e w1 ⟨rfl, hb⟩
  have h5 : Two2 w1 (w.heap.size + 2) (.int .i64 0) (.int .i64 0) := (Two2.of_row (t := 70) (heap_new _ _ _ (by simp))).later (by simp) hb
  obtain ⟨⟨c0, c1⟩, f0, f1⟩ := h5
  have hz := hb.size
  simp at hz
  have hq : Hid (Below w.heap.size w w1) := (((Below.refl _ _).alloc (Nat.le_refl _) _).alloc (by simp) _).alloc (by simp; omega) _ |>.trans (hb.mono (by simp; omega))
  clear hb H1 H2
  go_wp2
  exact bodyPost_ret (v := .tuple #[.agg #[.int .i64 x, .int .i64 y], .bool true]) (by simp [results, Tryz.results142, go_sem, *]) rfl ⟨rfl, (hq.out.setCell (p := ⟨w.heap.size + 1 + 1, 0, none⟩) (by simp; omega) _).setCell (p := ⟨w.heap.size + 1 + 1, 1, none⟩) (by simp; omega) _⟩
/-- Numbers that may be added. -/
def Sm (h : Int) (z : E2) : Prop := -h ≤ z.1 ∧ z.1 ≤ h ∧ -h ≤ z.2 ∧ z.2 ≤ h
theorem add_in (y z : E2) (hy : Sm 4611686018427387903 y) (hz : Sm 4611686018427387903 z) (w : World) :
    Calls Tryz.prog 137 #[vE y, vE z] w fun e w' => e = .returned (.tuple #[vE (addE y z), .bool true]) ∧ Below w.heap.size w w' := by
  obtain ⟨a, b⟩ := y
  obtain ⟨c, d⟩ := z
  unfold Sm at hy hz
  simp only at hy hz
  have HS := Lib.hid (sides_nadd a b c d (a + c) (b + d) (nadd_in a c (by omega) (by omega) (by omega) (by omega)) (nadd_in b d (by omega) (by omega) (by omega) (by omega)))
  clear hy hz
  show Calls Tryz.prog 137 #[.agg #[.int .i64 a, .int .i64 b], .agg #[.int .i64 c, .int .i64 d]] w fun e w' => e = .returned (.tuple #[.agg #[.int .i64 (a + c), .int .i64 (b + d)], .bool true]) ∧ Below w.heap.size w w'
  generalize a + c = x at *
  generalize b + d = y at *
  go_enter Tryz.func137, Tryz.ntmps137
  go_wp2_with fail
  refine (HS.out _).mono ?_
  rintro e w1 ⟨rfl, hb⟩
  have h5 : Two2 w1 (w.heap.size + 2) (.int .i64 0) (.int .i64 0) := (Two2.of_row (t := 70) (heap_new _ _ _ (by simp))).later (by simp) hb
  obtain ⟨⟨c0, c1⟩, f0, f1⟩ := h5
  have hz := hb.size
  simp at hz
  have hq : Hid (Below w.heap.size w w1) := (((Below.refl _ _).alloc (Nat.le_refl _) _).alloc (by simp) _).alloc (by simp; omega) _ |>.trans (hb.mono (by simp; omega))
  clear hb HS
  go_wp2
  exact bodyPost_ret (v := .tuple #[.agg #[.int .i64 x, .int .i64 y], .bool true]) (by simp [results, Tryz.results137, go_sem, *]) rfl ⟨rfl, (hq.out.setCell (p := ⟨w.heap.size + 1 + 1, 0, none⟩) (by simp; omega) _).setCell (p := ⟨w.heap.size + 1 + 1, 1, none⟩) (by simp; omega) _⟩
theorem sub_in (y z : E2) (hy : Sm 4611686018427387903 y) (hz : Sm 4611686018427387903 z) (w : World) :
    Calls Tryz.prog 140 #[vE y, vE z] w fun e w' => e = .returned (.tuple #[vE (subE y z), .bool true]) ∧ Below w.heap.size w w' := by
  obtain ⟨a, b⟩ := y
  obtain ⟨c, d⟩ := z
  unfold Sm at hy hz
  simp only at hy hz
  have HS := Lib.hid (sides_nsub a b c d (a - c) (b - d) (nsub_in a c (by omega) (by omega) (by omega) (by omega)) (nsub_in b d (by omega) (by omega) (by omega) (by omega)))
  clear hy hz
  show Calls Tryz.prog 140 #[.agg #[.int .i64 a, .int .i64 b], .agg #[.int .i64 c, .int .i64 d]] w fun e w' => e = .returned (.tuple #[.agg #[.int .i64 (a - c), .int .i64 (b - d)], .bool true]) ∧ Below w.heap.size w w'
  generalize a - c = x at *
  generalize b - d = y at *
  go_enter Tryz.func140, Tryz.ntmps140
  go_wp2_with fail
  refine (HS.out _).mono ?_
  rintro e w1 ⟨rfl, hb⟩
  have h5 : Two2 w1 (w.heap.size + 2) (.int .i64 0) (.int .i64 0) := (Two2.of_row (t := 70) (heap_new _ _ _ (by simp))).later (by simp) hb
  obtain ⟨⟨c0, c1⟩, f0, f1⟩ := h5
  have hz := hb.size
  simp at hz
  have hq : Hid (Below w.heap.size w w1) := (((Below.refl _ _).alloc (Nat.le_refl _) _).alloc (by simp) _).alloc (by simp; omega) _ |>.trans (hb.mono (by simp; omega))
  clear hb HS
  go_wp2
  exact bodyPost_ret (v := .tuple #[.agg #[.int .i64 x, .int .i64 y], .bool true]) (by simp [results, Tryz.results140, go_sem, *]) rfl ⟨rfl, (hq.out.setCell (p := ⟨w.heap.size + 1 + 1, 0, none⟩) (by simp; omega) _).setCell (p := ⟨w.heap.size + 1 + 1, 1, none⟩) (by simp; omega) _⟩
theorem neg_in (a : Int) (h1 : -4611686018427387903 ≤ a) (h2 : a ≤ 4611686018427387903) (w : World) :
    Calls Tryz.prog 104 #[.int .i64 a] w fun e w' => e = .returned (.tuple #[.int .i64 (-a), .bool true]) ∧ w' = w := by
  have H := Lib.hid (nsub_in 0 a (by omega) (by omega) (by omega) (by omega))
  rw [Int.zero_sub] at H
  generalize -a = b at *
  go_enter Tryz.func104, Tryz.ntmps104
  go_wp2_with fail
  refine (H.out _).mono ?_
  rintro e w1 ⟨rfl, rfl⟩
  go_wp2
  go_ret2
  exact ⟨rfl, rfl⟩
set_option maxHeartbeats 1000000 in
theorem conj_in (z : E2) (hz : Sm 1152921504606846976 z) (w : World) :
    Calls Tryz.prog 82 #[vE z] w fun e w' => e = .returned (.tuple #[.agg #[.int .i64 (z.1 + z.2), .int .i64 (-z.2)], .bool true]) ∧ Below w.heap.size w w' := by
  obtain ⟨a, b⟩ := z
  unfold Sm at hz
  simp only at hz ⊢
  have H1 := Lib.hid (nadd_in a b (by omega) (by omega) (by omega) (by omega))
  have H2 := Lib.hid (neg_in b (by omega) (by omega))
  clear hz
  generalize a + b = x at *
  generalize -b = y at *
  go_enter Tryz.func82, Tryz.ntmps82
  go_wp2_with fail
  refine (H1.out _).mono ?_
  rintro e w1 ⟨rfl, rfl⟩
  go_wp2_with fail
  refine (H2.out _).mono ?_
  rintro e w1 ⟨rfl, rfl⟩
  go_wp2_with fail
  refine (both_in _ _ _).mono ?_
  rintro e w1 ⟨rfl, hb⟩
  have h5 : Two2 w1 (w.heap.size + 1) (.int .i64 0) (.int .i64 0) := (Two2.of_row (t := 70) (heap_new _ _ _ (by simp))).later (by simp) hb
  obtain ⟨⟨c0, c1⟩, f0, f1⟩ := h5
  have hz := hb.size
  simp at hz
  have hq : Hid (Below w.heap.size w w1) := ((Below.refl _ _).alloc (Nat.le_refl _) _).alloc (by simp) _ |>.trans (hb.mono (by simp; omega))
  clear hb H1 H2
  go_wp2
  exact bodyPost_ret (v := .tuple #[.agg #[.int .i64 x, .int .i64 y], .bool true]) (by simp [results, Tryz.results82, go_sem, *]) rfl ⟨rfl, (hq.out.setCell (p := ⟨w.heap.size + 1, 0, none⟩) (by simp) _).setCell (p := ⟨w.heap.size + 1, 1, none⟩) (by simp) _⟩
set_option maxHeartbeats 1000000 in
theorem unit_in (k : Nat) (hk : k < 6) (w : World) :
    Calls Tryz.prog 141 #[.int .i64 k] w fun e w' => e = .returned (vE (unitE k)) ∧ Below w.heap.size w w' := by
  have hu : (k = 0 ∧ unitE k = (1, 0)) ∨ (k = 1 ∧ unitE k = (0, 1)) ∨ (k = 2 ∧ unitE k = (-1, 1)) ∨ (k = 3 ∧ unitE k = (-1, 0)) ∨ (k = 4 ∧ unitE k = (0, -1)) ∨ (k = 5 ∧ unitE k = (1, -1)) := by
    rcases (show k = 0 ∨ k = 1 ∨ k = 2 ∨ k = 3 ∨ k = 4 ∨ k = 5 by omega) with rfl | rfl | rfl | rfl | rfl | rfl <;> simp [unitE]
  rcases hu with ⟨rfl, e⟩ | ⟨rfl, e⟩ | ⟨rfl, e⟩ | ⟨rfl, e⟩ | ⟨rfl, e⟩ | ⟨rfl, e⟩ <;> rw [e] <;> clear e hk <;>
  · go_enter Tryz.func141, Tryz.ntmps141
    go_wp2
    exact bodyPost_ret (by simp [results, Tryz.results141, go_sem]) rfl ⟨rfl, by
      exact ((Below.refl _ _).alloc (Nat.le_refl _) _).alloc (by simp) _⟩
end Go.Proofs.YtjimcjhgjfhbiaaGreat
/- Contracts of num.Mul at numbers that are not below nought and small, num.Pow of seven; blocks of one cell. -/
namespace Go.Proofs.YtjimcjhgjfhbiaaGreat
open Go.RowKit Go.Lib Wd

theorem nsize_any (a : Int) (h0 : 0 ≤ a) (h1 : a < 9223372036854775808) (w : World) : Calls Tryz.prog 125 #[.int .i64 a] w fun e w' => e = .returned (.int .u64 a) ∧ w = w' := by
  have q1 : IntKind.u64.wrap a = a := by rw [IntKind.wrap_u64]; omega
  have q2 : ¬ a < 0 := by omega
  go_enter Tryz.func125, Tryz.ntmps125
  go_wp2
  go_ret
  exact ⟨rfl, rfl⟩
set_option maxRecDepth 100000 in
set_option maxHeartbeats 1000000 in
theorem nmul_nat (a b : Nat) (ha : a < 4611686018427387904) (hb : b < 4611686018427387904) (hp : a * b < 4611686018427387904) (w : World) :
    Calls Tryz.prog 107 #[.int .i64 a, .int .i64 b] w fun e w' => e = .returned (.tuple #[.int .i64 ((a * b : Nat) : Int), .bool true]) ∧ Below w.heap.size w w' := by
  have HA := Lib.hid (nsize_any a (by omega) (by omega))
  have HB := Lib.hid (nsize_any b (by omega) (by omega))
  have hm := mul64_any a b (by omega) (by omega)
  rw [Nat.div_eq_of_lt (by omega), Nat.mod_eq_of_lt (by omega)] at hm
  have HM := Lib.hid hm
  generalize a * b = p at *
  have q1 : ¬ (a : Int) < 0 := by omega
  have q2 : ¬ (b : Int) < 0 := by omega
  have q3 : IntKind.i64.wrap (p : Int) = p := wrap_in (by omega) (by omega)
  have q4 : decide ((9223372036854775808 : Int) < (p : Int)) = false := decide_eq_false (by omega)
  have q5 : ((p : Int) == 9223372036854775808) = false := by rw [beq_eq_false_iff_ne]; omega
  have q6 : ((((0 : Nat) : Int)) != 0) = false := by decide
  clear hm
  go_enter Tryz.func107, Tryz.ntmps107
  go_wp2_with fail
  refine (HA.out _).mono ?_
  rintro e w1 ⟨rfl, rfl⟩
  go_wp2_with fail
  refine (HB.out _).mono ?_
  rintro e w1 ⟨rfl, rfl⟩
  go_wp2_with fail
  refine (HM.out _).mono ?_
  rintro e w1 ⟨rfl, rfl⟩
  go_wp2
  go_ret2
  exact ⟨rfl, Below.refl _ _⟩
theorem seven_le : ∀ {k : Nat}, k ≤ 12 → 7 ^ k ≤ 13841287201 := fun {k} h => Nat.le_trans (Nat.pow_le_pow_right (by decide) h) (by decide)
/-- A block of one cell. -/
def Cel (w : World) (b : Nat) (t : TypeId) (v : Value) : Prop := w.heap[b]? = some (.cells #[v] t (0, 0))
theorem Cel.cell {w : World} {b : Nat} {t : TypeId} {v : Value} (h : Cel w b t v) : w.cell? ⟨b, 0, none⟩ = some v := cell_of_row _ _ 0 _ _ _ h
theorem Cel.frozen {w : World} {b : Nat} {t : TypeId} {v : Value} (h : Cel w b t v) : w.frozen? ⟨b, 0, none⟩ = false := frozen_of_row _ _ _ _ _ h
theorem Cel.lt {w : World} {b : Nat} {t : TypeId} {v : Value} (h : Cel w b t v) : b < w.heap.size := (Array.getElem?_eq_some_iff.1 h).1
theorem Cel.later {w w' : World} {b : Nat} {t : TypeId} {v : Value} (h : Cel w b t v) (hb : Below w.heap.size w w') : Cel w' b t v := (hb.block b h.lt).trans h
theorem Cel.put {w : World} {b : Nat} {t : TypeId} {v : Value} (h : Cel w b t v) (u : Value) : Cel (w.setCell ⟨b, 0, none⟩ u) b t u := by
  unfold Cel at h ⊢
  rw [Sort.setCell_eq]
  simp [Sort.mapBlock, Array.getElem?_modify, h, Sort.onCells]
theorem Cel.other {w : World} {b : Nat} {t : TypeId} {v : Value} (h : Cel w b t v) {g : Nat} (hg : b ≠ g) (j : Nat) (u : Value) : Cel (w.setCell ⟨g, j, none⟩ u) b t v := (Below.heap_setCell _ _ _ _ hg).trans h
set_option maxRecDepth 100000 in
set_option maxHeartbeats 1000000 in
theorem npow1_any {w : World} {b0 b1 b2 : Nat} {x y : Int} {t0 t1 t2 : TypeId} (h0 : Cel w b0 t0 (.int .i64 7)) (h1 : Cel w b1 t1 (.int .i64 x)) (h2 : Cel w b2 t2 (.bool true)) (h01 : b0 ≠ b1) (h02 : b0 ≠ b2) (h12 : b1 ≠ b2)
    (hm : ∀ w, Calls Tryz.prog 107 #[.int .i64 x, .int .i64 7] w fun e w' => e = .returned (.tuple #[.int .i64 y, .bool true]) ∧ Below w.heap.size w w') :
    Calls Tryz.prog 106 #[.pointer (some ⟨b1, 0, none⟩), .pointer (some ⟨b0, 0, none⟩), .pointer (some ⟨b2, 0, none⟩)] w fun e w' => e = .returned (.tuple #[]) ∧ (Cel w' b0 t0 (.int .i64 7) ∧ Cel w' b1 t1 (.int .i64 y) ∧ Cel w' b2 t2 (.bool true)) ∧ Turn (fun k => k = b1 ∨ k = b2) w w' := by
  have HM := Lib.hid hm
  have c0 := h0.cell
  have c1 := h1.cell
  have l0 := h0.lt
  have l1 := h1.lt
  have HH := Lib.hid (And.intro h0 (And.intro h1 h2))
  clear h0 h1 h2 hm
  go_enter Tryz.func106, Tryz.ntmps106
  go_wp2_with fail
  refine (HM.out _).mono ?_
  rintro e w1 ⟨rfl, hb1⟩
  have d0 := HH.out.1.later hb1
  have d1 := HH.out.2.1.later hb1
  have d2 := HH.out.2.2.later hb1
  have k1 := d1.cell
  have k2 := (d2.other (g := b1) (fun e => h12 e.symm) 0 (.int .i64 y)).cell
  have f1 := d1.frozen
  have f2 := (d2.other (g := b1) (fun e => h12 e.symm) 0 (.int .i64 y)).frozen
  have HF : Hid ((Cel ((w1.setCell ⟨b1, 0, none⟩ (.int .i64 y)).setCell ⟨b2, 0, none⟩ (.bool true)) b0 t0 (.int .i64 7) ∧ Cel ((w1.setCell ⟨b1, 0, none⟩ (.int .i64 y)).setCell ⟨b2, 0, none⟩ (.bool true)) b1 t1 (.int .i64 y) ∧ Cel ((w1.setCell ⟨b1, 0, none⟩ (.int .i64 y)).setCell ⟨b2, 0, none⟩ (.bool true)) b2 t2 (.bool true)) ∧ Turn (fun k => k = b1 ∨ k = b2) w ((w1.setCell ⟨b1, 0, none⟩ (.int .i64 y)).setCell ⟨b2, 0, none⟩ (.bool true))) := by
    refine ⟨⟨(d0.other h01 _ _).other h02 _ _, (d1.put _).other h12 _ _, (d2.other (fun e => h12 e.symm) _ _).put _⟩, ?_⟩
    exact ((Turn.of_below hb1).setCell (a := ⟨b1, 0, none⟩) (.inl rfl) _).setCell (a := ⟨b2, 0, none⟩) (.inr rfl) _
  have r1 := d1.lt
  have r2 := d2.lt
  clear hb1 HH d0 d1 d2 c0 c1
  go_wp2
  go_end0
  exact ⟨rfl, HF.out⟩
set_option maxRecDepth 100000 in
set_option maxHeartbeats 1000000 in
theorem npow_seven {k : Nat} (hk : k ≤ 12) (w : World) : Calls Tryz.prog 83 #[.int .i64 7, .int .i64 k] w fun e w' => e = .returned (.tuple #[.int .i64 ((7 ^ k : Nat) : Int), .bool true]) ∧ Below w.heap.size w w' := by
  have HS : Hid (∀ j, j < 12 → ∀ w, Calls Tryz.prog 107 #[.int .i64 ((7 ^ j : Nat) : Int), .int .i64 7] w fun e w' => e = .returned (.tuple #[.int .i64 ((7 ^ (j + 1) : Nat) : Int), .bool true]) ∧ Below w.heap.size w w') := fun j hj w => by
    have h1 := seven_le (k := j) (by omega)
    have h2 := seven_le (k := j + 1) (by omega)
    rw [Nat.pow_succ] at h2 ⊢
    exact nmul_nat (7 ^ j) 7 (by omega) (by decide) (by omega) w
  have hmf : ∀ (fn : Fn) (first cap : Array Value) (w : World), (Instr.makeFunc fn first cap).run Tryz.prog w = .ok (.func fn first cap) w := fun _ _ _ _ => rfl
  have q1 : ¬ (k : Int) < 0 := by omega
  obtain ⟨p, hp⟩ : ∃ p : Int, ((7 ^ k : Nat) : Int) = p := ⟨_, rfl⟩
  have HP := Lib.hid hp
  rw [hp]
  have H0 : Hid (Cel (((w.alloc (.cells #[.int .i64 7] 2)).alloc (.cells #[.int .i64 1] 2)).alloc (.cells #[.bool true] 4)) w.heap.size 2 (.int .i64 7) ∧ Cel (((w.alloc (.cells #[.int .i64 7] 2)).alloc (.cells #[.int .i64 1] 2)).alloc (.cells #[.bool true] 4)) (w.heap.size + 1) 2 (.int .i64 1) ∧ Cel (((w.alloc (.cells #[.int .i64 7] 2)).alloc (.cells #[.int .i64 1] 2)).alloc (.cells #[.bool true] 4)) (w.heap.size + 1 + 1) 4 (.bool true) ∧ Below w.heap.size w (((w.alloc (.cells #[.int .i64 7] 2)).alloc (.cells #[.int .i64 1] 2)).alloc (.cells #[.bool true] 4))) := by
    have e0 : Cel (w.alloc (.cells #[.int .i64 7] 2)) w.heap.size 2 (.int .i64 7) := heap_new _ _ _ rfl
    have e1 : Cel ((w.alloc (.cells #[.int .i64 7] 2)).alloc (.cells #[.int .i64 1] 2)) (w.heap.size + 1) 2 (.int .i64 1) := heap_new _ _ _ (by simp)
    have e2 : Cel (((w.alloc (.cells #[.int .i64 7] 2)).alloc (.cells #[.int .i64 1] 2)).alloc (.cells #[.bool true] 4)) (w.heap.size + 1 + 1) 4 (.bool true) := heap_new _ _ _ (by simp)
    exact ⟨(e0.later ((Below.refl _ _).alloc (Nat.le_refl _) _)).later ((Below.refl _ _).alloc (Nat.le_refl _) _), e1.later ((Below.refl _ _).alloc (Nat.le_refl _) _), e2, (((Below.refl _ w).alloc (Nat.le_refl _) _).alloc (by simp) _).alloc (by simp; omega) _⟩
  clear hp
  go_enter Tryz.func83, Tryz.ntmps83
  go_upto_region 6 with (fail)
  generalize ((w.alloc (.cells #[.int .i64 7] 2)).alloc (.cells #[.int .i64 1] 2)).alloc (.cells #[.bool true] 4) = w3 at *
  go_wp2
  go_loopw [1] (fun kv wr => ∃ (j m : Nat), j + m = k ∧ kv = .int .i64 m ∧ Hid (Cel wr w.heap.size 2 (.int .i64 7) ∧ Cel wr (w.heap.size + 1) 2 (.int .i64 ((7 ^ j : Nat) : Int)) ∧ Cel wr (w.heap.size + 1 + 1) 4 (.bool true) ∧ Below w.heap.size w wr)) (fun kv _ => (intOf kv).toNat)
  case atStart => exact ⟨0, k, by omega, rfl, H0.out⟩
  case round =>
    obtain ⟨j, m, hjm, rfl, HI⟩ := hrel
    have c2 := HI.out.2.2.1.cell
    have l2 := HI.out.2.2.1.lt
    by_cases hm : 0 < m
    · have HC := Lib.hid (npow1_any HI.out.1 HI.out.2.1 HI.out.2.2.1 (by omega) (by omega) (by omega) (HS.out j (by omega)))
      have HBI := Lib.hid HI.out.2.2.2
      have q2 : decide (0 < (m : Int)) = true := decide_eq_true (by omega)
      have q2n : decide (0 < m) = true := decide_eq_true (by omega)
      have HJ := Lib.hid hjm
      have hm12 : m ≤ 12 := by omega
      clear HI hjm
      go_wp2_with fail
      refine HC.out.mono ?_
      rintro e w4 ⟨rfl, hc4, ht4⟩
      have HI4 : Hid (Cel w4 w.heap.size 2 (.int .i64 7) ∧ Cel w4 (w.heap.size + 1) 2 (.int .i64 ((7 ^ (j + 1) : Nat) : Int)) ∧ Cel w4 (w.heap.size + 1 + 1) 4 (.bool true) ∧ Below w.heap.size w w4) := ⟨hc4.1, hc4.2.1, hc4.2.2, HBI.out.trans (ht4.below HBI.out.size fun k hk hs => by rcases hs with rfl | rfl <;> omega)⟩
      clear hc4 ht4 HC c2 l2
      go_wp2
      go_roundw
      case rel => exact ⟨j + 1, m - 1, by have := HJ.out; omega, by go_num, HI4.out⟩
      case measure => simp [intOf]; omega
    · obtain rfl : j = k := by omega
      obtain rfl : m = 0 := by omega
      have c1 := HI.out.2.1.cell
      rw [HP.out] at c1
      have l1 := HI.out.2.1.lt
      have HB := Lib.hid (HI.out.2.2.2.drew)
      have q2 : decide (0 < (0 : Int)) = false := rfl
      clear HI hjm
      go_wp2_with (first | (with_reducible refine wp_region_lex (by kernel_rfl) (by kernel_rfl) ?_) | (with_reducible refine OnlyG.intro (by kernel_rfl) ?_))
      go_ret2
      exact ⟨rfl, HB.out⟩
end Go.Proofs.YtjimcjhgjfhbiaaGreat
/- Contracts of package view: is, unit, Fine, Ok; plane.Width. -/
namespace Go.Proofs.YtjimcjhgjfhbiaaGreat
open Go.RowKit Go.Lib

def isT (t : TL) : Bool := decide (0 ≤ t.1) && decide (t.1 ≤ 18) && (decide (0 ≤ t.2.2.2) && decide (t.2.2.2 ≤ 12)) && (decide (0 ≤ t.2.1) && decide (t.2.1 < ((2 ^ t.1.toNat : Nat) : Int))) && (decide (0 ≤ t.2.2.1) && decide (t.2.2.1 < ((2 ^ t.1.toNat : Nat) : Int)))
def fineT (t : TL) : Bool := isT t && decide (169 * 7 ^ (12 - t.2.2.2).toNat < 16 * 2 ^ (18 - t.1).toNat * 2 ^ (18 - t.1).toNat)
def okT (t : TL) : Int := if isT t then if fineT t then 14 else 0 else 1
theorem visres_any (r : Int) (w : World) : Calls Tryz.prog 80 #[.int .i64 r] w fun e w' => e = .returned (.bool (decide (0 ≤ r) && decide (r ≤ 12))) ∧ w' = w := by
  by_cases h1 : 0 ≤ r
  · by_cases h2 : r ≤ 12
    all_goals
      simp only [h1, h2, decide_true, decide_false, Bool.and_true, Bool.and_false]
      go_enter Tryz.func80, Tryz.ntmps80
      go_wp2
      go_ret
      exact ⟨rfl, rfl⟩
  · simp only [h1, decide_false, Bool.false_and]
    go_enter Tryz.func80, Tryz.ntmps80
    go_wp2
    go_ret
    exact ⟨rfl, rfl⟩
set_option maxHeartbeats 1000000 in
theorem width_in (k : Nat) (r : Int) (hr : 0 ≤ r) (hk : 12 - r = (k : Int)) (w : World) : Calls Tryz.prog 68 #[.int .i64 r] w fun e w' => e = .returned (.tuple #[.int .i64 ((169 * 7 ^ k : Nat) : Int), .bool true]) ∧ Below w.heap.size w w' := by
  have hi := visres_any r w
  rw [decide_eq_true (show 0 ≤ r by omega), decide_eq_true (show r ≤ 12 by omega)] at hi
  have HI := Lib.hid hi
  have hk12 : k ≤ 12 := by omega
  have HP := Lib.hid (npow_seven hk12)
  have hs := seven_le hk12
  obtain ⟨p, hp⟩ : ∃ p, 7 ^ k = p := ⟨_, rfl⟩
  rw [hp] at HP hs
  have q1 : IntKind.i64.wrap (12 - r) = (k : Int) := by rw [hk]; exact wrap_in (by omega) (by omega)
  have q2 : IntKind.i64.wrap (169 * (p : Int)) = 169 * (p : Int) := wrap_in (by omega) (by omega)
  have q3 : (((169 * p : Nat) : Int)) = 169 * (p : Int) := by omega
  rw [hp, q3]
  clear hi hp q3 hk
  go_enter Tryz.func68, Tryz.ntmps68
  go_wp2_with fail
  refine HI.out.mono ?_
  rintro e w1 ⟨rfl, rfl⟩
  go_wp2_with fail
  refine (HP.out _).mono ?_
  rintro e w2 ⟨rfl, hb⟩
  have HB := Lib.hid hb
  clear hb
  go_wp2
  go_ret2
  exact ⟨rfl, HB.out⟩
theorem width_out (r : Int) (hr : ¬ (0 ≤ r ∧ r ≤ 12)) (w : World) : Calls Tryz.prog 68 #[.int .i64 r] w fun e w' => e = .returned (.tuple #[.int .i64 0, .bool false]) ∧ Below w.heap.size w w' := by
  have hi := visres_any r w
  rw [show (decide (0 ≤ r) && decide (r ≤ 12)) = false by rw [Bool.eq_false_iff]; intro h; rw [Bool.and_eq_true, decide_eq_true_eq, decide_eq_true_eq] at h; exact hr h] at hi
  have HI := Lib.hid hi
  clear hi hr
  go_enter Tryz.func68, Tryz.ntmps68
  go_wp2_with fail
  refine HI.out.mono ?_
  rintro e w1 ⟨rfl, rfl⟩
  go_wp2
  go_ret2
  exact ⟨rfl, Below.refl _ _⟩
/-- A tile that is boxed. -/
theorem boxed_tile (w : World) (t : TL) : TileAt (w.alloc (.cells #[.int .i64 t.1, .int .i64 t.2.1, .int .i64 t.2.2.1, .int .i64 t.2.2.2] 26)) w.heap.size t ∧ Below w.heap.size w (w.alloc (.cells #[.int .i64 t.1, .int .i64 t.2.1, .int .i64 t.2.2.1, .int .i64 t.2.2.2] 26)) ∧ w.heap.size < (w.alloc (.cells #[.int .i64 t.1, .int .i64 t.2.1, .int .i64 t.2.2.1, .int .i64 t.2.2.2] 26)).heap.size := by
  have e := heap_new w (.cells #[.int .i64 t.1, .int .i64 t.2.1, .int .i64 t.2.2.1, .int .i64 t.2.2.2] 26) _ rfl
  exact ⟨⟨cell_of_row _ _ 0 _ _ _ e, cell_of_row _ _ 1 _ _ _ e, cell_of_row _ _ 2 _ _ _ e, cell_of_row _ _ 3 _ _ _ e⟩, (Below.refl _ _).alloc (Nat.le_refl _) _, by rw [World.size_alloc]; omega⟩
set_option maxRecDepth 100000 in
set_option maxHeartbeats 1000000 in
theorem vis_any (t : TL) (w : World) : Calls Tryz.prog 44 #[tlV t] w fun e w' => e = .returned (.bool (isT t)) ∧ Below w.heap.size w w' := by
  obtain ⟨⟨t0, t1, t2, t3⟩, hb, hs⟩ := boxed_tile w t
  obtain ⟨z, x, y, r⟩ := t
  dsimp only at t0 t1 t2 t3 hb hs
  unfold tlV isT
  dsimp only
  have HB := Lib.hid hb
  by_cases h1 : z < 0 ∨ 18 < z ∨ r < 0 ∨ 12 < r
  · have HR : Hid ((decide (0 ≤ z) && decide (z ≤ 18) && (decide (0 ≤ r) && decide (r ≤ 12)) && (decide (0 ≤ x) && decide (x < ((2 ^ z.toNat : Nat) : Int))) && (decide (0 ≤ y) && decide (y < ((2 ^ z.toNat : Nat) : Int)))) = false) := by
      show _ = _
      rw [Bool.eq_false_iff]
      intro h
      simp only [Bool.and_eq_true, decide_eq_true_eq] at h
      omega
    rw [HR.out]
    clear hb
    by_cases g1 : z < 0
    · have q1 : decide (z < 0) = true := decide_eq_true g1
      go_enter Tryz.func44, Tryz.ntmps44
      go_wp2
      go_ret
      exact ⟨rfl, HB.out⟩
    · have q1 : decide (z < 0) = false := decide_eq_false g1
      by_cases g2 : 18 < z
      · have q2 : decide (18 < z) = true := decide_eq_true g2
        go_enter Tryz.func44, Tryz.ntmps44
        go_wp2
        go_ret
        exact ⟨rfl, HB.out⟩
      · have q2 : decide (18 < z) = false := decide_eq_false g2
        by_cases g3 : r < 0
        · have q3 : decide (r < 0) = true := decide_eq_true g3
          go_enter Tryz.func44, Tryz.ntmps44
          go_wp2
          go_ret
          exact ⟨rfl, HB.out⟩
        · have q3 : decide (r < 0) = false := decide_eq_false g3
          have q4 : decide (12 < r) = true := decide_eq_true (by omega)
          go_enter Tryz.func44, Tryz.ntmps44
          go_wp2
          go_ret
          exact ⟨rfl, HB.out⟩
  · obtain ⟨k, rfl⟩ : ∃ k : Nat, z = (k : Int) := ⟨z.toNat, by omega⟩
    have hk : k ≤ 18 := by omega
    have hp : 2 ^ k ≤ 262144 := Nat.le_trans (Nat.pow_le_pow_right (by decide) hk) (by decide)
    have HR : Hid ((decide (0 ≤ (k : Int)) && decide ((k : Int) ≤ 18) && (decide (0 ≤ r) && decide (r ≤ 12)) && (decide (0 ≤ x) && decide (x < ((2 ^ (k : Int).toNat : Nat) : Int))) && (decide (0 ≤ y) && decide (y < ((2 ^ (k : Int).toNat : Nat) : Int)))) = (decide (0 ≤ x) && decide (x < ((2 ^ k : Nat) : Int)) && (decide (0 ≤ y) && decide (y < ((2 ^ k : Nat) : Int))))) := by
      show _ = _
      rw [Int.toNat_natCast, decide_eq_true (show 0 ≤ (k : Int) by omega), decide_eq_true (show (k : Int) ≤ 18 by omega), decide_eq_true (show 0 ≤ r by omega), decide_eq_true (show r ≤ 12 by omega)]
      simp
    rw [HR.out]
    have q1 : decide ((k : Int) < 0) = false := decide_eq_false (by omega)
    have q2 : decide (18 < (k : Int)) = false := decide_eq_false (by omega)
    have q3 : decide (r < 0) = false := decide_eq_false (by omega)
    have q4 : decide (12 < r) = false := decide_eq_false (by omega)
    have qc : IntKind.u64.wrap (k : Int) = (k : Int) := by rw [IntKind.wrap_u64]; omega
    clear hb
    obtain ⟨p, hpp⟩ : ∃ p : Int, ((2 ^ k : Nat) : Int) = p := ⟨_, rfl⟩
    have hp1 : 0 ≤ ((2 ^ k : Nat) : Int) := Int.natCast_nonneg _
    have hp2 : ((2 ^ k : Nat) : Int) ≤ 262144 := Int.ofNat_le.2 hp
    rw [hpp] at hp1 hp2
    have qp : wrap64 ((2 : Int) ^ k) = p := by rw [show ((2 : Int) ^ k) = p by rw [← hpp, Int.natCast_pow]; rfl]; unfold wrap64; omega
    rw [hpp]
    clear HR hpp hp
    by_cases g1 : 0 ≤ x
    · have q5 : decide (0 ≤ x) = true := decide_eq_true g1
      by_cases g2 : x < p
      · have q6 : decide (x < p) = true := decide_eq_true g2
        by_cases g3 : 0 ≤ y
        · have q7 : decide (0 ≤ y) = true := decide_eq_true g3
          obtain ⟨b, q8⟩ : ∃ b, decide (y < p) = b := ⟨_, rfl⟩
          rw [q5, q6, q7, q8]
          go_enter Tryz.func44, Tryz.ntmps44
          go_wp2
          go_ret
          exact ⟨rfl, HB.out⟩
        · have q7 : decide (0 ≤ y) = false := decide_eq_false g3
          rw [q5, q6, q7]
          go_enter Tryz.func44, Tryz.ntmps44
          go_wp2
          go_ret
          exact ⟨rfl, HB.out⟩
      · have q6 : decide (x < p) = false := decide_eq_false g2
        rw [q5, q6]
        go_enter Tryz.func44, Tryz.ntmps44
        go_wp2
        go_ret
        exact ⟨rfl, HB.out⟩
    · have q5 : decide (0 ≤ x) = false := decide_eq_false g1
      rw [q5]
      go_enter Tryz.func44, Tryz.ntmps44
      go_wp2
      go_ret
      exact ⟨rfl, HB.out⟩
theorem vunit_in (k : Nat) (hk : k ≤ 18) (t : TL) (ht : 18 - t.1 = (k : Int)) (w : World) : Calls Tryz.prog 69 #[tlV t] w fun e w' => e = .returned (.int .i64 ((2 ^ k : Nat) : Int)) ∧ Below w.heap.size w w' := by
  obtain ⟨⟨t0, t1, t2, t3⟩, hb, hs⟩ := boxed_tile w t
  obtain ⟨z, x, y, r⟩ := t
  dsimp only at t0 t1 t2 t3 hb hs ht
  unfold tlV
  dsimp only
  have HB := Lib.hid hb
  have hp : 2 ^ k ≤ 262144 := Nat.le_trans (Nat.pow_le_pow_right (by decide) hk) (by decide)
  have hp1 : 0 ≤ ((2 ^ k : Nat) : Int) := Int.natCast_nonneg _
  have hp2 : ((2 ^ k : Nat) : Int) ≤ 262144 := Int.ofNat_le.2 hp
  obtain ⟨p, hpp⟩ : ∃ p : Int, ((2 ^ k : Nat) : Int) = p := ⟨_, rfl⟩
  rw [hpp] at hp1 hp2
  have qp : wrap64 ((2 : Int) ^ k) = p := by rw [show ((2 : Int) ^ k) = p by rw [← hpp, Int.natCast_pow]; rfl]; unfold wrap64; omega
  have qs : IntKind.i64.wrap (18 - z) = (k : Int) := by rw [ht]; exact wrap_in (by omega) (by omega)
  have qc : IntKind.u64.wrap (k : Int) = (k : Int) := by rw [IntKind.wrap_u64]; omega
  rw [hpp]
  clear hpp hp hb ht
  go_enter Tryz.func69, Tryz.ntmps69
  go_wp2
  go_ret
  refine ⟨?_, HB.out⟩
  show Ending.returned (.int .i64 (wrap64 (2 ^ k))) = _
  rw [qp]
set_option maxRecDepth 100000 in
set_option maxHeartbeats 1000000 in
theorem vfine_any (t : TL) (w : World) : Calls Tryz.prog 45 #[tlV t] w fun e w' => e = .returned (.bool (fineT t)) ∧ Below w.heap.size w w' := by
  obtain ⟨⟨t0, t1, t2, t3⟩, hb, hs⟩ := boxed_tile w t
  have HB := Lib.hid hb
  have HIS := Lib.hid (fun w => vis_any t w)
  by_cases ht : isT t = true
  · have hi : 0 ≤ t.1 ∧ t.1 ≤ 18 ∧ 0 ≤ t.2.2.2 ∧ t.2.2.2 ≤ 12 := by
      have h := ht
      unfold isT at h
      simp only [Bool.and_eq_true, decide_eq_true_eq] at h
      omega
    obtain ⟨k, hk⟩ : ∃ k : Nat, 12 - t.2.2.2 = (k : Int) := ⟨(12 - t.2.2.2).toNat, by omega⟩
    obtain ⟨j, hj⟩ : ∃ j : Nat, 18 - t.1 = (j : Int) := ⟨(18 - t.1).toNat, by omega⟩
    have HW := Lib.hid (fun w => width_in k t.2.2.2 hi.2.2.1 hk w)
    have HU := Lib.hid (fun w => vunit_in j (by omega) t hj w)
    have HF : Hid (fineT t = decide (((169 * 7 ^ k : Nat) : Int) < 16 * ((2 ^ j : Nat) : Int) * ((2 ^ j : Nat) : Int))) := by
      show _ = _
      unfold fineT
      rw [ht, hk, hj, Int.toNat_natCast, Int.toNat_natCast, Bool.true_and]
      congr 1
      rw [← Int.ofNat_lt]
      simp only [Int.natCast_mul]
      rfl
    have hp : 2 ^ j ≤ 262144 := Nat.le_trans (Nat.pow_le_pow_right (by decide) (show j ≤ 18 by omega)) (by decide)
    have hp1 : 0 ≤ ((2 ^ j : Nat) : Int) := Int.natCast_nonneg _
    have hp2 : ((2 ^ j : Nat) : Int) ≤ 262144 := Int.ofNat_le.2 hp
    obtain ⟨p, hpp⟩ : ∃ p : Int, ((2 ^ j : Nat) : Int) = p := ⟨_, rfl⟩
    obtain ⟨m, hm⟩ : ∃ m : Int, ((169 * 7 ^ k : Nat) : Int) = m := ⟨_, rfl⟩
    rw [hpp] at hp1 hp2 HU HF
    rw [hm] at HW HF
    rw [HF.out]
    rw [ht] at HIS
    have hpq : p * p ≤ 262144 * 262144 := Int.mul_le_mul hp2 hp2 hp1 (by decide)
    have hpq0 : 0 ≤ p * p := Int.mul_nonneg hp1 hp1
    have q1 : IntKind.i64.wrap (16 * p) = 16 * p := wrap_in (by omega) (by omega)
    have q2 : IntKind.i64.wrap (16 * p * p) = 16 * p * p := by rw [Int.mul_assoc]; exact wrap_in (by omega) (by omega)
    clear hb ht hi hk hj hpp hm hp hpq hpq0 HF
    have T := Lib.hid (show Value.agg #[.int .i64 t.1, .int .i64 t.2.1, .int .i64 t.2.2.1, .int .i64 t.2.2.2] = tlV t from rfl)
    rw [← T.out] at HIS HU ⊢
    obtain ⟨b, hbb⟩ : ∃ b, decide (m < 16 * p * p) = b := ⟨_, rfl⟩
    rw [hbb]
    go_enter Tryz.func45, Tryz.ntmps45
    go_wp2_with fail
    refine (HW.out _).mono ?_
    rintro e w1 ⟨rfl, hb1⟩
    have HB1 : Hid (Below w.heap.size w w1) := HB.out.trans (hb1.mono HB.out.size)
    have ex : w.heap.size < w1.heap.size := Nat.lt_of_lt_of_le hs hb1.size
    have HT1 : Hid (∀ W, Below w1.heap.size w1 W → TileAt W w.heap.size t) := fun W hW => (TileAt.below ⟨t0, t1, t2, t3⟩ hb1).below hW
    clear hb1
    go_upto_region 2 with (fail)
    refine wp_region_inv (fun w w' => Below w.heap.size w w') (fun qi_ qv_ _ => qv_ = ([.agg #[.int .i64 t.1, .int .i64 t.2.1, .int .i64 t.2.2.1, .int .i64 t.2.2.2], .bool true, .bool true, .int .i64 m, .agg #[.int .i64 t.1, .int .i64 t.2.1, .int .i64 t.2.2.1, .int .i64 t.2.2.2], .int .i64 p, .int .i64 (16 * p), .agg #[.int .i64 t.1, .int .i64 t.2.1, .int .i64 t.2.2.1, .int .i64 t.2.2.2], .int .i64 p, .int .i64 (16 * p * p), .bool b, .bool b, .bool b] : List Value).getD qi_ undef) (by kernel_rfl) (by kernel_rfl) (fun _ => Below.refl _ _) (fun _ _ _ h1 h2 => below_later h1 h1.size h2) (fun _ _ _ _ _ _ h => h) ?_
    refine inv_cons (fun wx hg hd => ?_) (fun v0 => ?_)
    · have hx := ((Below.refl w1.heap.size w1).drew).trans hg
      clear hd hg
      obtain ⟨k0, k1, k2, k3⟩ := HT1.out _ hx
      have hsx : w.heap.size < wx.heap.size := Nat.lt_of_lt_of_le ex hx.size
      go_wp2
      exact ⟨_, rfl, Below.refl _ _, rfl⟩
    (try simp only [List.nil_append, Act.put, List.setIfInBounds_toArray, List.set_cons_zero, List.set_cons_succ])
    refine inv_cons (fun wx hg hd => ?_) (fun v1 => ?_)
    · have hx := ((Below.refl w1.heap.size w1).drew).trans hg
      (try (have ee : v0 = (.agg #[.int .i64 t.1, .int .i64 t.2.1, .int .i64 t.2.2.1, .int .i64 t.2.2.2] : Value) := hd 0 (by simp) (by decide); subst ee))
      clear hd hg
      go_wp2_with fail
      refine (HIS.out _).mono ?_
      rintro e w' ⟨rfl, hb⟩
      go_wp2
      exact ⟨_, rfl, hb, rfl⟩
    (try simp only [List.cons_append, List.nil_append, Act.put, List.setIfInBounds_toArray, List.set_cons_zero, List.set_cons_succ])
    refine inv_cons (fun wx hg hd => ?_) (fun v2 => ?_)
    · have hx := ((Below.refl w1.heap.size w1).drew).trans hg
      (try (have ee : v1 = (.bool true : Value) := hd 1 (by simp) (by decide); subst ee))
      clear hd hg
      go_wp2
      exact ⟨_, rfl, Below.refl _ _, rfl⟩
    (try simp only [List.cons_append, List.nil_append, Act.put, List.setIfInBounds_toArray, List.set_cons_zero, List.set_cons_succ])
    refine inv_cons (fun wx hg hd => ?_) (fun v3 => ?_)
    · have hx := ((Below.refl w1.heap.size w1).drew).trans hg
      (try (have ee : v2 = (.bool true : Value) := hd 2 (by simp) (by decide); subst ee))
      clear hd hg
      go_wp2
      exact ⟨_, rfl, Below.refl _ _, rfl⟩
    (try simp only [List.cons_append, List.nil_append, Act.put, List.setIfInBounds_toArray, List.set_cons_zero, List.set_cons_succ])
    refine inv_cons (fun wx hg hd => ?_) (fun v4 => ?_)
    · have hx := ((Below.refl w1.heap.size w1).drew).trans hg
      (try (have ee : v2 = (.bool true : Value) := hd 2 (by simp) (by decide); subst ee))
      clear hd hg
      obtain ⟨k0, k1, k2, k3⟩ := HT1.out _ hx
      have hsx : w.heap.size < wx.heap.size := Nat.lt_of_lt_of_le ex hx.size
      go_wp2
      exact ⟨_, rfl, Below.refl _ _, rfl⟩
    (try simp only [List.cons_append, List.nil_append, Act.put, List.setIfInBounds_toArray, List.set_cons_zero, List.set_cons_succ])
    refine inv_cons (fun wx hg hd => ?_) (fun v5 => ?_)
    · have hx := ((Below.refl w1.heap.size w1).drew).trans hg
      (try (have ee : v2 = (.bool true : Value) := hd 2 (by simp) (by decide); subst ee))
      (try (have ee : v4 = (.agg #[.int .i64 t.1, .int .i64 t.2.1, .int .i64 t.2.2.1, .int .i64 t.2.2.2] : Value) := hd 4 (by simp) (by decide); subst ee))
      clear hd hg
      go_wp2_with fail
      refine (HU.out _).mono ?_
      rintro e w' ⟨rfl, hb⟩
      go_wp2
      exact ⟨_, rfl, hb, rfl⟩
    (try simp only [List.cons_append, List.nil_append, Act.put, List.setIfInBounds_toArray, List.set_cons_zero, List.set_cons_succ])
    refine inv_cons (fun wx hg hd => ?_) (fun v6 => ?_)
    · have hx := ((Below.refl w1.heap.size w1).drew).trans hg
      (try (have ee : v2 = (.bool true : Value) := hd 2 (by simp) (by decide); subst ee))
      (try (have ee : v5 = (.int .i64 p : Value) := hd 5 (by simp) (by decide); subst ee))
      clear hd hg
      go_wp2
      exact ⟨_, rfl, Below.refl _ _, rfl⟩
    (try simp only [List.cons_append, List.nil_append, Act.put, List.setIfInBounds_toArray, List.set_cons_zero, List.set_cons_succ])
    refine inv_cons (fun wx hg hd => ?_) (fun v7 => ?_)
    · have hx := ((Below.refl w1.heap.size w1).drew).trans hg
      (try (have ee : v2 = (.bool true : Value) := hd 2 (by simp) (by decide); subst ee))
      clear hd hg
      obtain ⟨k0, k1, k2, k3⟩ := HT1.out _ hx
      have hsx : w.heap.size < wx.heap.size := Nat.lt_of_lt_of_le ex hx.size
      go_wp2
      exact ⟨_, rfl, Below.refl _ _, rfl⟩
    (try simp only [List.cons_append, List.nil_append, Act.put, List.setIfInBounds_toArray, List.set_cons_zero, List.set_cons_succ])
    refine inv_cons (fun wx hg hd => ?_) (fun v8 => ?_)
    · have hx := ((Below.refl w1.heap.size w1).drew).trans hg
      (try (have ee : v2 = (.bool true : Value) := hd 2 (by simp) (by decide); subst ee))
      (try (have ee : v7 = (.agg #[.int .i64 t.1, .int .i64 t.2.1, .int .i64 t.2.2.1, .int .i64 t.2.2.2] : Value) := hd 7 (by simp) (by decide); subst ee))
      clear hd hg
      go_wp2_with fail
      refine (HU.out _).mono ?_
      rintro e w' ⟨rfl, hb⟩
      go_wp2
      exact ⟨_, rfl, hb, rfl⟩
    (try simp only [List.cons_append, List.nil_append, Act.put, List.setIfInBounds_toArray, List.set_cons_zero, List.set_cons_succ])
    refine inv_cons (fun wx hg hd => ?_) (fun v9 => ?_)
    · have hx := ((Below.refl w1.heap.size w1).drew).trans hg
      (try (have ee : v2 = (.bool true : Value) := hd 2 (by simp) (by decide); subst ee))
      (try (have ee : v6 = (.int .i64 (16 * p) : Value) := hd 6 (by simp) (by decide); subst ee))
      (try (have ee : v8 = (.int .i64 p : Value) := hd 8 (by simp) (by decide); subst ee))
      clear hd hg
      go_wp2
      exact ⟨_, rfl, Below.refl _ _, rfl⟩
    (try simp only [List.cons_append, List.nil_append, Act.put, List.setIfInBounds_toArray, List.set_cons_zero, List.set_cons_succ])
    refine inv_cons (fun wx hg hd => ?_) (fun v10 => ?_)
    · have hx := ((Below.refl w1.heap.size w1).drew).trans hg
      (try (have ee : v2 = (.bool true : Value) := hd 2 (by simp) (by decide); subst ee))
      (try (have ee : v3 = (.int .i64 m : Value) := hd 3 (by simp) (by decide); subst ee))
      (try (have ee : v9 = (.int .i64 (16 * p * p) : Value) := hd 9 (by simp) (by decide); subst ee))
      clear hd hg
      go_wp2
      exact ⟨_, rfl, Below.refl _ _, rfl⟩
    (try simp only [List.cons_append, List.nil_append, Act.put, List.setIfInBounds_toArray, List.set_cons_zero, List.set_cons_succ])
    refine inv_cons (fun wx hg hd => ?_) (fun v11 => ?_)
    · have hx := ((Below.refl w1.heap.size w1).drew).trans hg
      (try (have ee : v2 = (.bool true : Value) := hd 2 (by simp) (by decide); subst ee))
      (try (have ee : v10 = (.bool b : Value) := hd 10 (by simp) (by decide); subst ee))
      clear hd hg
      go_wp2
      exact ⟨_, rfl, Below.refl _ _, rfl⟩
    (try simp only [List.cons_append, List.nil_append, Act.put, List.setIfInBounds_toArray, List.set_cons_zero, List.set_cons_succ])
    refine inv_cons (fun wx hg hd => ?_) (fun v12 => ?_)
    · have hx := ((Below.refl w1.heap.size w1).drew).trans hg
      (try (have ee : v11 = (.bool b : Value) := hd 11 (by simp) (by decide); subst ee))
      clear hd hg
      go_wp2
      exact ⟨_, rfl, Below.refl _ _, rfl⟩
    (try simp only [List.cons_append, List.nil_append, Act.put, List.setIfInBounds_toArray, List.set_cons_zero, List.set_cons_succ])
    refine inv_done (fun wx hg hd => ?_)
    have hx := ((Below.refl w1.heap.size w1).drew).trans hg
    (have ee : v0 = (.agg #[.int .i64 t.1, .int .i64 t.2.1, .int .i64 t.2.2.1, .int .i64 t.2.2.2] : Value) := hd 0 (by simp); subst ee)
    (have ee : v1 = (.bool true : Value) := hd 1 (by simp); subst ee)
    (have ee : v2 = (.bool true : Value) := hd 2 (by simp); subst ee)
    (have ee : v3 = (.int .i64 m : Value) := hd 3 (by simp); subst ee)
    (have ee : v4 = (.agg #[.int .i64 t.1, .int .i64 t.2.1, .int .i64 t.2.2.1, .int .i64 t.2.2.2] : Value) := hd 4 (by simp); subst ee)
    (have ee : v5 = (.int .i64 p : Value) := hd 5 (by simp); subst ee)
    (have ee : v6 = (.int .i64 (16 * p) : Value) := hd 6 (by simp); subst ee)
    (have ee : v7 = (.agg #[.int .i64 t.1, .int .i64 t.2.1, .int .i64 t.2.2.1, .int .i64 t.2.2.2] : Value) := hd 7 (by simp); subst ee)
    (have ee : v8 = (.int .i64 p : Value) := hd 8 (by simp); subst ee)
    (have ee : v9 = (.int .i64 (16 * p * p) : Value) := hd 9 (by simp); subst ee)
    (have ee : v10 = (.bool b : Value) := hd 10 (by simp); subst ee)
    (have ee : v11 = (.bool b : Value) := hd 11 (by simp); subst ee)
    (have ee : v12 = (.bool b : Value) := hd 12 (by simp); subst ee)
    clear hd hg
    (try go_simp)
    go_wp2
    go_ret
    exact ⟨rfl, HB1.out.trans (hx.mono HB1.out.size)⟩
  · have hf : isT t = false := by simpa using ht
    have HF : Hid (fineT t = false) := by show _ = _; unfold fineT; rw [hf]; rfl
    rw [HF.out]
    rw [hf] at HIS
    have HW : Hid (∀ w, Calls Tryz.prog 68 #[.int .i64 t.2.2.2] w fun e w' => ∃ m b, e = .returned (.tuple #[.int .i64 m, .bool b]) ∧ Below w.heap.size w w') := fun w => by
      by_cases hr : 0 ≤ t.2.2.2 ∧ t.2.2.2 ≤ 12
      · exact (width_in (12 - t.2.2.2).toNat t.2.2.2 hr.1 (by omega) w).mono fun e w' ⟨h1, h2⟩ => ⟨_, _, h1, h2⟩
      · exact (width_out t.2.2.2 hr w).mono fun e w' ⟨h1, h2⟩ => ⟨_, _, h1, h2⟩
    clear hb ht hf HF
    have T := Lib.hid (show Value.agg #[.int .i64 t.1, .int .i64 t.2.1, .int .i64 t.2.2.1, .int .i64 t.2.2.2] = tlV t from rfl)
    rw [← T.out] at HIS ⊢
    go_enter Tryz.func45, Tryz.ntmps45
    go_wp2_with fail
    refine (HW.out _).mono ?_
    rintro e w1 ⟨m, mb, rfl, hb1⟩
    have HB1 : Hid (Below w.heap.size w w1) := HB.out.trans (hb1.mono HB.out.size)
    have ex : w.heap.size < w1.heap.size := Nat.lt_of_lt_of_le hs hb1.size
    obtain ⟨k0, k1, k2, k3⟩ := TileAt.below ⟨t0, t1, t2, t3⟩ hb1
    clear hb1 t0 t1 t2 t3
    go_upto_region 2 with (fail)
    have HT1 : Hid (∀ W, Below w1.heap.size w1 W → TileAt W w.heap.size t) := fun W hW => (TileAt.below ⟨k0, k1, k2, k3⟩ hW)
    clear k0 k1 k2 k3
    refine wp_region_inv (fun w w' => Below w.heap.size w w') (fun qi_ qv_ _ => qv_ = ([.agg #[.int .i64 t.1, .int .i64 t.2.1, .int .i64 t.2.2.1, .int .i64 t.2.2.2], .bool false, .bool false, undef, undef, undef, undef, undef, undef, undef, undef, .bool false, .bool false] : List Value).getD qi_ undef) (by kernel_rfl) (by kernel_rfl) (fun _ => Below.refl _ _) (fun _ _ _ h1 h2 => below_later h1 h1.size h2) (fun _ _ _ _ _ _ h => h) ?_
    refine inv_cons (fun wx hg hd => ?_) (fun v0 => ?_)
    · have hx := ((Below.refl w1.heap.size w1).drew).trans hg
      clear hd hg
      obtain ⟨k0, k1, k2, k3⟩ := HT1.out _ hx
      have hsx : w.heap.size < wx.heap.size := Nat.lt_of_lt_of_le ex hx.size
      go_wp2
      exact ⟨_, rfl, Below.refl _ _, rfl⟩
    (try simp only [List.nil_append, Act.put, List.setIfInBounds_toArray, List.set_cons_zero, List.set_cons_succ])
    refine inv_cons (fun wx hg hd => ?_) (fun v1 => ?_)
    · have hx := ((Below.refl w1.heap.size w1).drew).trans hg
      (try (have ee : v0 = (.agg #[.int .i64 t.1, .int .i64 t.2.1, .int .i64 t.2.2.1, .int .i64 t.2.2.2] : Value) := hd 0 (by simp) (by decide); subst ee))
      clear hd hg
      go_wp2_with fail
      refine (HIS.out _).mono ?_
      rintro e w' ⟨rfl, hb⟩
      go_wp2
      exact ⟨_, rfl, hb, rfl⟩
    (try simp only [List.cons_append, List.nil_append, Act.put, List.setIfInBounds_toArray, List.set_cons_zero, List.set_cons_succ])
    refine inv_cons (fun wx hg hd => ?_) (fun v2 => ?_)
    · have hx := ((Below.refl w1.heap.size w1).drew).trans hg
      (try (have ee : v1 = (.bool false : Value) := hd 1 (by simp) (by decide); subst ee))
      clear hd hg
      go_wp2
      exact ⟨_, rfl, Below.refl _ _, rfl⟩
    (try simp only [List.cons_append, List.nil_append, Act.put, List.setIfInBounds_toArray, List.set_cons_zero, List.set_cons_succ])
    refine inv_cons (fun wx hg hd => ?_) (fun v3 => ?_)
    · have hx := ((Below.refl w1.heap.size w1).drew).trans hg
      (try (have ee : v2 = (.bool false : Value) := hd 2 (by simp) (by decide); subst ee))
      clear hd hg
      go_wp2
      exact ⟨_, rfl, Below.refl _ _, rfl⟩
    (try simp only [List.cons_append, List.nil_append, Act.put, List.setIfInBounds_toArray, List.set_cons_zero, List.set_cons_succ])
    refine inv_cons (fun wx hg hd => ?_) (fun v4 => ?_)
    · have hx := ((Below.refl w1.heap.size w1).drew).trans hg
      (try (have ee : v2 = (.bool false : Value) := hd 2 (by simp) (by decide); subst ee))
      clear hd hg
      go_wp2
      exact ⟨_, rfl, Below.refl _ _, rfl⟩
    (try simp only [List.cons_append, List.nil_append, Act.put, List.setIfInBounds_toArray, List.set_cons_zero, List.set_cons_succ])
    refine inv_cons (fun wx hg hd => ?_) (fun v5 => ?_)
    · have hx := ((Below.refl w1.heap.size w1).drew).trans hg
      (try (have ee : v2 = (.bool false : Value) := hd 2 (by simp) (by decide); subst ee))
      (try (have ee : v4 = (undef : Value) := hd 4 (by simp) (by decide); subst ee))
      clear hd hg
      go_wp2
      exact ⟨_, rfl, Below.refl _ _, rfl⟩
    (try simp only [List.cons_append, List.nil_append, Act.put, List.setIfInBounds_toArray, List.set_cons_zero, List.set_cons_succ])
    refine inv_cons (fun wx hg hd => ?_) (fun v6 => ?_)
    · have hx := ((Below.refl w1.heap.size w1).drew).trans hg
      (try (have ee : v2 = (.bool false : Value) := hd 2 (by simp) (by decide); subst ee))
      (try (have ee : v5 = (undef : Value) := hd 5 (by simp) (by decide); subst ee))
      clear hd hg
      go_wp2
      exact ⟨_, rfl, Below.refl _ _, rfl⟩
    (try simp only [List.cons_append, List.nil_append, Act.put, List.setIfInBounds_toArray, List.set_cons_zero, List.set_cons_succ])
    refine inv_cons (fun wx hg hd => ?_) (fun v7 => ?_)
    · have hx := ((Below.refl w1.heap.size w1).drew).trans hg
      (try (have ee : v2 = (.bool false : Value) := hd 2 (by simp) (by decide); subst ee))
      clear hd hg
      go_wp2
      exact ⟨_, rfl, Below.refl _ _, rfl⟩
    (try simp only [List.cons_append, List.nil_append, Act.put, List.setIfInBounds_toArray, List.set_cons_zero, List.set_cons_succ])
    refine inv_cons (fun wx hg hd => ?_) (fun v8 => ?_)
    · have hx := ((Below.refl w1.heap.size w1).drew).trans hg
      (try (have ee : v2 = (.bool false : Value) := hd 2 (by simp) (by decide); subst ee))
      (try (have ee : v7 = (undef : Value) := hd 7 (by simp) (by decide); subst ee))
      clear hd hg
      go_wp2
      exact ⟨_, rfl, Below.refl _ _, rfl⟩
    (try simp only [List.cons_append, List.nil_append, Act.put, List.setIfInBounds_toArray, List.set_cons_zero, List.set_cons_succ])
    refine inv_cons (fun wx hg hd => ?_) (fun v9 => ?_)
    · have hx := ((Below.refl w1.heap.size w1).drew).trans hg
      (try (have ee : v2 = (.bool false : Value) := hd 2 (by simp) (by decide); subst ee))
      (try (have ee : v6 = (undef : Value) := hd 6 (by simp) (by decide); subst ee))
      (try (have ee : v8 = (undef : Value) := hd 8 (by simp) (by decide); subst ee))
      clear hd hg
      go_wp2
      exact ⟨_, rfl, Below.refl _ _, rfl⟩
    (try simp only [List.cons_append, List.nil_append, Act.put, List.setIfInBounds_toArray, List.set_cons_zero, List.set_cons_succ])
    refine inv_cons (fun wx hg hd => ?_) (fun v10 => ?_)
    · have hx := ((Below.refl w1.heap.size w1).drew).trans hg
      (try (have ee : v2 = (.bool false : Value) := hd 2 (by simp) (by decide); subst ee))
      (try (have ee : v3 = (undef : Value) := hd 3 (by simp) (by decide); subst ee))
      (try (have ee : v9 = (undef : Value) := hd 9 (by simp) (by decide); subst ee))
      clear hd hg
      go_wp2
      exact ⟨_, rfl, Below.refl _ _, rfl⟩
    (try simp only [List.cons_append, List.nil_append, Act.put, List.setIfInBounds_toArray, List.set_cons_zero, List.set_cons_succ])
    refine inv_cons (fun wx hg hd => ?_) (fun v11 => ?_)
    · have hx := ((Below.refl w1.heap.size w1).drew).trans hg
      (try (have ee : v2 = (.bool false : Value) := hd 2 (by simp) (by decide); subst ee))
      (try (have ee : v10 = (undef : Value) := hd 10 (by simp) (by decide); subst ee))
      clear hd hg
      go_wp2
      exact ⟨_, rfl, Below.refl _ _, rfl⟩
    (try simp only [List.cons_append, List.nil_append, Act.put, List.setIfInBounds_toArray, List.set_cons_zero, List.set_cons_succ])
    refine inv_cons (fun wx hg hd => ?_) (fun v12 => ?_)
    · have hx := ((Below.refl w1.heap.size w1).drew).trans hg
      (try (have ee : v11 = (.bool false : Value) := hd 11 (by simp) (by decide); subst ee))
      clear hd hg
      go_wp2
      exact ⟨_, rfl, Below.refl _ _, rfl⟩
    (try simp only [List.cons_append, List.nil_append, Act.put, List.setIfInBounds_toArray, List.set_cons_zero, List.set_cons_succ])
    refine inv_done (fun wx hg hd => ?_)
    have hx := ((Below.refl w1.heap.size w1).drew).trans hg
    (have ee : v0 = (.agg #[.int .i64 t.1, .int .i64 t.2.1, .int .i64 t.2.2.1, .int .i64 t.2.2.2] : Value) := hd 0 (by simp); subst ee)
    (have ee : v1 = (.bool false : Value) := hd 1 (by simp); subst ee)
    (have ee : v2 = (.bool false : Value) := hd 2 (by simp); subst ee)
    (have ee : v3 = (undef : Value) := hd 3 (by simp); subst ee)
    (have ee : v4 = (undef : Value) := hd 4 (by simp); subst ee)
    (have ee : v5 = (undef : Value) := hd 5 (by simp); subst ee)
    (have ee : v6 = (undef : Value) := hd 6 (by simp); subst ee)
    (have ee : v7 = (undef : Value) := hd 7 (by simp); subst ee)
    (have ee : v8 = (undef : Value) := hd 8 (by simp); subst ee)
    (have ee : v9 = (undef : Value) := hd 9 (by simp); subst ee)
    (have ee : v10 = (undef : Value) := hd 10 (by simp); subst ee)
    (have ee : v11 = (.bool false : Value) := hd 11 (by simp); subst ee)
    (have ee : v12 = (.bool false : Value) := hd 12 (by simp); subst ee)
    clear hd hg
    (try go_simp)
    go_wp2
    go_ret
    exact ⟨rfl, HB1.out.trans (hx.mono HB1.out.size)⟩
set_option maxRecDepth 100000 in
set_option maxHeartbeats 1000000 in
theorem vok_any (t : TL) (w : World) : Calls Tryz.prog 21 #[tlV t] w fun e w' => e = .returned (.int .i64 (okT t)) ∧ Below w.heap.size w w' := by
  obtain ⟨⟨t0, t1, t2, t3⟩, hb, hs⟩ := boxed_tile w t
  have HB := Lib.hid hb
  have HIS := Lib.hid (fun w => vis_any t w)
  have HFI := Lib.hid (fun w => vfine_any t w)
  have HO : Hid (okT t = if isT t then if fineT t then 14 else 0 else 1) := rfl
  have T := Lib.hid (show Value.agg #[.int .i64 t.1, .int .i64 t.2.1, .int .i64 t.2.2.1, .int .i64 t.2.2.2] = tlV t from rfl)
  rw [← T.out] at HIS HFI ⊢
  generalize okT t = o at *
  generalize isT t = p at *
  generalize fineT t = q at *
  have HT1 : Hid (∀ W, Below (w.alloc (.cells #[.int .i64 t.1, .int .i64 t.2.1, .int .i64 t.2.2.1, .int .i64 t.2.2.2] 26)).heap.size (w.alloc (.cells #[.int .i64 t.1, .int .i64 t.2.1, .int .i64 t.2.2.1, .int .i64 t.2.2.2] 26)) W → TileAt W w.heap.size t) := fun W hW => TileAt.below ⟨t0, t1, t2, t3⟩ hW
  clear hb
  go_enter Tryz.func21, Tryz.ntmps21
  go_wp2_with fail
  refine (HIS.out _).mono ?_
  rintro e w1 ⟨rfl, hb1⟩
  obtain ⟨k0, k1, k2, k3⟩ := HT1.out _ hb1
  have ex : w.heap.size < w1.heap.size := Nat.lt_of_lt_of_le hs hb1.size
  have HB1 : Hid (Below w.heap.size w w1) := HB.out.trans (hb1.mono HB.out.size)
  clear hb1 t0 t1 t2 t3 hs
  cases p
  · go_wp2
    go_ret
    exact ⟨by rw [HO.out]; rfl, HB1.out⟩
  · go_wp2_with fail
    refine (HFI.out _).mono ?_
    rintro e w2 ⟨rfl, hb2⟩
    have HB2 : Hid (Below w.heap.size w w2) := HB1.out.trans (hb2.mono HB1.out.size)
    clear hb2
    cases q
    all_goals
      go_wp2
      go_ret
      exact ⟨by rw [HO.out]; rfl, HB2.out⟩
end Go.Proofs.YtjimcjhgjfhbiaaGreat
/- The law for a region that draws its order, of which the last operations come behind all others, one behind the other: what is ahead of them is looked at once each, from whatever later world. -/
namespace Go.Proofs.YtjimcjhgjfhbiaaGreat
open Go
section
variable {P : Program} {ops : Array Oper}
/-- The last operations, from place n on, wait for all others, and come in the order of the text. -/
def endB (ops : Array Oper) (n : Nat) : Bool :=
  decide (n ≤ ops.size) && ((List.range ops.size).all fun t => decide (t < n) || (List.range n).all fun i => ((waits ops.toList []).getD t 0).testBit i) &&
  Region.seqB .any ops (ops.size - n) n (Array.replicate n true ++ Array.replicate (ops.size - n) false)
theorem arr_cut {listed : Array Bool} {n s : Nat} (hs : listed.size = s) (hn : n ≤ s) (h1 : ∀ i, i < n → listed.getD i false = true) (h2 : ∀ i, n ≤ i → listed.getD i false = false) : listed = Array.replicate n true ++ Array.replicate (s - n) false := by
  apply Array.ext
  · simp; omega
  · intro i hi hi2
    rcases Nat.lt_or_ge i n with h | h
    · have := h1 i h
      rw [Array.getElem_append_left (by simpa using h)]
      simp [hi] at this ⊢
      exact this
    · have := h2 i h
      rw [Array.getElem_append_right (by simpa using h)]
      simp [hi] at this ⊢
      exact this
theorem inv_end {l : List Oper} {n : Nat} {Q : Exit → Act → World → Prop} {G : World → World → Prop} {w0 : World} {R : Nat → Value → World → Prop} {a0 : Act} (hB : invB l.toArray = true) (hE : endB l.toArray n = true)
    (Gt : ∀ w w1 w2, G w w1 → G w1 w2 → G w w2) (mono : ∀ i v w w', G w0 w → G w w' → R i v w → R i v w')
    (h : invList P l.toArray G w0 R (fun a w => wpList P l.toArray (Only (Q .normal)) (l.drop n) a w) (l.take n) [] a0) :
    ∀ (fuel : Nat) (listed : Array Bool) (V : Nat → Value) (w : World), listed.size = l.length → Closed l.toArray listed → (∀ t, n ≤ t → listed.getD t false = false) → G w0 w → (∀ j, listed.getD j false = true → R j (V j) w) →
    (rem l.toArray listed).length = fuel → wpAny P .any l.toArray (Only (Q .normal)) fuel listed (fillD (fun j => listed.getD j false) V (l.take n) 0 a0) w := by
  unfold invB at hB
  simp only [Bool.and_eq_true, List.all_eq_true, List.mem_range] at hB
  obtain ⟨hsel, hB⟩ := hB
  have hB' : ∀ i oi, l.toArray[i]? = some oi → _ := fun i oi hi => by
    have := hB i (Array.getElem?_eq_some_iff.1 hi).1
    simp only [hi, Bool.and_eq_true, List.all_eq_true, List.mem_range] at this
    exact this
  have hback : ∀ i oi, l.toArray[i]? = some oi → ∀ e ∈ oi.after, Region.binds .any e = true → e.on < i := fun i oi hi e he hb => by
    have := (hB' i oi hi).1 e (by simpa using he)
    simpa [hb] using this
  have htr : Truth l.toArray (waits l.toArray.toList []) := waits_truth hback l.toArray.toList [] (fun j => by simp) (fun i t hi => by simp at hi)
  have hlen : (waits l.toArray.toList []).length = l.length := by rw [waits_length]; simp
  unfold endB at hE
  simp only [Bool.and_eq_true, decide_eq_true_eq, List.all_eq_true, List.mem_range, Bool.or_eq_true] at hE
  obtain ⟨⟨hn, hw⟩, hsq⟩ := hE
  have hnl : n ≤ l.length := by simpa using hn
  have htl : (l.take n).length = n := by rw [List.length_take]; omega
  have hend : ∀ (listed : Array Bool) (V : Nat → Value) (w : World), listed.size = l.length → (∀ i, i < n → listed.getD i false = true) → (∀ t, n ≤ t → listed.getD t false = false) → G w0 w → (∀ j, listed.getD j false = true → R j (V j) w) →
      wpAny P .any l.toArray (Only (Q .normal)) (l.length - n) listed (fillD (fun j => listed.getD j false) V (l.take n) 0 a0) w := fun listed V w hs hd hd2 hg hr => by
    have h1 := (inv_at V (l.take n) 0 a0 h).2 w hg fun j hj => hr j (hd j (by rw [htl] at hj; omega))
    rw [fill_congr _ (fun _ => true) V V (l.take n) 0 a0 fun j _ hj => ⟨hd j (by rw [htl] at hj; omega), fun _ => rfl⟩]
    have h2 := wpAny_of_seq (md := .any) (Q' := Only (Q .normal)) (l.drop n) n listed _ w (fun j => by simp [List.getElem?_drop]) (by
      rw [arr_cut hs hnl hd hd2]
      simpa using hsq) h1
    simpa using h2
  have hfro : ∀ (listed : Array Bool), Closed l.toArray listed → ∀ i, i ∈ Region.ready .any l.toArray listed → n ≤ i → ∀ k, k < n → listed.getD k false = true := fun listed hcl i hi hni k hk => by
    obtain ⟨hun, o, ho, hdone⟩ := mem_ready.1 hi
    have hlt : i < l.toArray.size := (Array.getElem?_eq_some_iff.1 ho).1
    have h1 := (hw i hlt).resolve_left (by omega) k hk
    exact htr.listed hcl i o k (by rw [hlen]; simpa using hlt) ho (fun e he hb => hdone e he hb) h1
  intro fuel
  induction fuel with
  | zero =>
    intro listed V w hs hcl hta hg hr hf
    have hnil : rem l.toArray listed = [] := List.eq_nil_of_length_eq_zero (by omega)
    have hd : ∀ i, i < l.length → listed.getD i false = true := fun i hi => by
      by_cases hd : listed.getD i false = true
      · exact hd
      · exfalso
        have : i ∈ rem l.toArray listed := mem_rem.2 ⟨by simpa using hi, by
          have : i < listed.size := by omega
          simp [this] at hd ⊢; exact hd⟩
        rw [hnil] at this
        cases this
    have hnn : n = l.length := by
      rcases Nat.lt_or_ge n l.length with h1 | h1
      · have h2 := hd n h1
        rw [hta n (Nat.le_refl n)] at h2
        cases h2
      · omega
    have := hend listed V w hs (fun i hi => hd i (by omega)) hta hg hr
    rw [show l.length - n = 0 by omega] at this
    exact this
  | succ fuel ih =>
    intro listed V w hs hcl hta hg hr hf
    by_cases hfull : ∀ i, i < n → listed.getD i false = true
    · have hrem : (rem l.toArray listed).length = l.length - n := by
        have e := arr_cut hs hnl hfull hta
        have e2 : rem l.toArray listed = (List.range l.length).filter fun j => decide (n ≤ j) := by
          unfold rem
          rw [show l.toArray.size = l.length by simp]
          refine List.filter_congr fun j hj => ?_
          have hj' : j < l.length := by simpa using hj
          rcases Nat.lt_or_ge j n with h1 | h1
          · rw [decide_eq_false (by omega)]
            have h3 := hfull j h1
            have h4 : j < listed.size := by omega
            simp [h4] at h3 ⊢
            exact h3
          · rw [decide_eq_true h1]
            have h3 := hta j h1
            have h4 : j < listed.size := by omega
            simp [h4] at h3 ⊢
            exact h3
        rw [e2]
        clear e e2 hf
        have : ∀ m, n ≤ m → ((List.range m).filter fun j => decide (n ≤ j)).length = m - n := by
          intro m hm
          obtain ⟨d, rfl⟩ : ∃ d, m = n + d := ⟨m - n, by omega⟩
          clear hm
          induction d with
          | zero =>
            rw [List.filter_eq_nil_iff.2 fun j hj => by have := List.mem_range.1 hj; simp; omega]
            simp
          | succ d ih => rw [← Nat.add_assoc, List.range_succ, List.filter_append, List.length_append, ih]; simp; omega
        exact this _ hnl
      have := hend listed V w hs hfull hta hg hr
      rw [← hrem, hf] at this
      exact this
    have hir : ∀ i, i ∈ Region.ready .any l.toArray listed → i < n := fun i hi => by
      rcases Nat.lt_or_ge i n with h1 | h1
      · exact h1
      · exact absurd (hfro listed hcl i hi h1) hfull
    refine ⟨fun hrd => ?_, fun i hi => ?_⟩
    · exfalso
      exact hfull fun i hi => rem_nil hback listed (by simpa using hs) hrd i (by rw [show l.toArray.size = l.length by simp]; omega)
    have hin := hir i hi
    obtain ⟨hun, o, ho, hdone⟩ := mem_ready.1 hi
    have hlt : i < l.toArray.size := (Array.getElem?_eq_some_iff.1 ho).1
    have hltl : i < l.length := by simpa using hlt
    have hlis : i < listed.size := by omega
    have hun' : listed.getD i false = false := by simp [hlis] at hun ⊢; exact hun
    have hol : (l.take n)[i]? = some o := by rw [List.getElem?_take_of_lt hin]; simpa using ho
    have hst := (inv_at V (l.take n) 0 a0 h).1 i o hol w hg fun j hj hn => by
      refine hr j ?_
      unfold needs at hn
      simp only [List.any_eq_true, Bool.and_eq_true, beq_iff_eq] at hn
      obtain ⟨e, he, hb, rfl⟩ := hn
      exact hdone e (by simpa using he) hb
    rw [Nat.zero_add] at hst
    have hsel' : ∀ cs b, o.op ≠ .select cs b := by
      intro cs b hc
      unfold Region.noSelect at hsel
      simp only [Array.all_eq_true] at hsel
      have := hsel i (by simpa using hlt)
      rw [(Array.getElem?_eq_some_iff.1 ho).2] at this
      rw [hc] at this
      simp at this
    have hsv := stepV_congr (a := fillD (fun j => listed.getD j false) V (l.take n) 0 a0) hsel' (by rw [fill_size, fill_size]) (fun d hd => ?_) (stepV_of_list hst)
    · refine stepV_wpOp ho ?_ hsv
      rintro v w' ⟨hgw, hR⟩
      rw [fill_take (fun j => listed.getD j false) V v (l.take n) 0 a0 i o hol (by rw [Nat.zero_add]; exact hun') fun q o' hq hne d hd1 hd2 => by
        have hqn : q < n := by have := (List.getElem?_eq_some_iff.1 hq).1; rw [htl] at this; exact this
        rw [List.getElem?_take_of_lt hqn] at hq
        have h1 := (hB' i o ho).2 q (by have := (List.getElem?_eq_some_iff.1 hq).1; simpa using this)
        have hq' : l.toArray[q]? = some o' := by simpa using hq
        simp [hne, hq', hd2, hd1] at h1]
      have hcl' := hcl.set hi
      have e : (fun j => if j = 0 + i then true else listed.getD j false) = fun j => (listed.setIfInBounds i true).getD j false := by
        funext j
        rw [Nat.zero_add]
        by_cases hj : j = i
        · subst hj; simp [hlis]
        · rw [if_neg hj, getD_set_ne false (fun e => hj e.symm)]
      rw [e]
      refine ih _ _ w' (by simpa using hs) hcl' (fun t ht => by rw [getD_set_ne false (by omega)]; exact hta t ht) (Gt _ _ _ hg hgw) (fun j hj => ?_) ?_
      · rw [Nat.zero_add]
        by_cases hji : j = i
        · subst hji; rw [if_pos rfl]; exact hR
        · rw [if_neg hji]
          rw [getD_set_ne false (fun e => hji e.symm)] at hj
          exact mono j _ w w' hg hgw (hr j hj)
      · obtain ⟨τ, ρ, e1, e2, _⟩ := rem_split (by simpa using hs) (mem_rem.2 ⟨hlt, hun⟩)
        rw [e2]
        rw [e1] at hf
        simp only [List.length_append, List.length_cons] at hf ⊢
        omega
    · refine fill_at _ _ V d (l.take n) 0 a0 a0 rfl rfl fun q o' hq hod => ?_
      rw [Nat.zero_add]
      have hqn : q < n := by have := (List.getElem?_eq_some_iff.1 hq).1; rw [htl] at this; exact this
      rw [List.getElem?_take_of_lt hqn] at hq
      have hq' : l.toArray[q]? = some o' := by simpa using hq
      have hql : q < l.length := (List.getElem?_eq_some_iff.1 hq).1
      by_cases hqi : q = i
      · subst hqi; rw [hun']; simp
      · have h1 := (hB' i o ho).2 q (by simpa using hql)
        have hdc : (o.looksAt l.toArray).contains d = true := by simpa using hd
        simp only [hqi, beq_iff_eq, hq', Option.bind_some, hod, hdc, Bool.not_true, Bool.false_or, Bool.or_eq_true, Bool.and_eq_true, decide_eq_true_eq, false_or] at h1
        rcases h1.2 with ⟨h2, h3⟩ | ⟨h2, h3⟩
        · rw [decide_eq_true h2]
          unfold needs at h3
          simp only [List.any_eq_true, Bool.and_eq_true, beq_iff_eq] at h3
          obtain ⟨e, he, hb, rfl⟩ := h3
          exact hdone e (by simpa using he) hb
        · rw [decide_eq_false (by omega)]
          by_cases hqd : listed.getD q false = true
          · exfalso
            have := htr.listed hcl q o' i (by omega) hq' (fun e he hb => hcl q o' hq' hqd e he hb) h3
            rw [hun'] at this
            cases this
          · simpa using hqd

theorem only_done {K : Act → World → Prop} {a : Act} {w : World} (h : K a w) : Only K .normal a w := h
/-- THE LAW. -/
theorem wp_region_end {id : Nat} {l : List Oper} {Q : Exit → Act → World → Prop} {a : Act} {w : World} (n : Nat) (G : World → World → Prop) (R : Nat → Value → World → Prop) (hm : P.follows .mixedOrders = true) (hB : invB l.toArray = true) (hE : endB l.toArray n = true)
    (Gr : ∀ w, G w w) (Gt : ∀ w w1 w2, G w w1 → G w1 w2 → G w w2) (mono : ∀ i v w1 w2, G w.drew w1 → G w1 w2 → R i v w1 → R i v w2)
    (h : invList P l.toArray G w.drew R (fun a w => wpList P l.toArray (Only (Q .normal)) (l.drop n) a w) (l.take n) [] a) : (Code.region id l.toArray true).wp P Q a w := by
  refine Code.wp_mono (Q := Only (Q .normal)) (fun e a w hq => by cases e <;> first | exact hq | exact hq.elim) ?_
  refine wp_region_any hm ?_
  have h0 := inv_end hB hE Gt mono h l.toArray.size (Array.replicate l.toArray.size false) (fun _ => undef) w.drew (by simp) (fun j oj _ hl => by rw [getD_replicate0] at hl; cases hl) (fun t _ => getD_replicate0 _ _) (Gr _) (fun j hj => by rw [getD_replicate0] at hj; cases hj) ?_
  · rw [fill_none] at h0
    · exact h0
    · intro j _; exact getD_replicate0 _ _
  · unfold rem
    rw [List.filter_eq_self.2 fun j hj => by have := List.mem_range.1 hj; simp at this; simp [this]]
    simp
end
end Go.Proofs.YtjimcjhgjfhbiaaGreat
/- For regions that draw their order, some of whose operations make memory in no order, the last ones behind all others: what is known of values as long as memory stays (with the law of Lex7). -/
namespace Go.Proofs.YtjimcjhgjfhbiaaGreat
open Go Go.RowKit

theorem want_stays {L : List Want} {i : Nat} {v : Value} {w w' : World} (hb : Below w.heap.size w w') (h : (wantAt L i).holds v w) : (wantAt L i).holds v w' := by
  cases e : wantAt L i with
  | inl u => rw [e] at h; exact h
  | inr p => rw [e] at h; exact p.2 v w w' hb h
/-- A new block, laid so. -/
def pNew (base : Nat) (cs : Array Value) (t : TypeId) : SP := ⟨fun v w => ∃ g, v = .pointer (some ⟨g, 0, none⟩) ∧ base ≤ g ∧ g < w.heap.size ∧ w.heap[g]? = some (.cells cs t (0, 0)), fun _ _ _ hb ⟨g, e, h1, h2, h3⟩ => ⟨g, e, h1, Nat.lt_of_lt_of_le h2 hb.size, (hb.block g h2).trans h3⟩⟩
end Go.Proofs.YtjimcjhgjfhbiaaGreat
/- Contract of package cache: Put. -/
namespace Go.Proofs.YtjimcjhgjfhbiaaGreat
open Go.RowKit Go.Lib

/-- What is known behind a call of the heap. -/
theorem core_after {S T : Nat → Prop} {w w' : World} {r mst now c' : Nat} {M' : List CE} {vo vo' : Option Addr} {L' : List KE} (c0 : w.cell? ⟨r, 0, none⟩ = some (.int .i64 mst)) (c1 : w.cell? ⟨r, 1, none⟩ = some (.int .i64 now)) (fz : ∀ j, w.frozen? ⟨r, j, none⟩ = false) (inS : S r)
    (ltS : ∀ k, S k → k < w.heap.size) (ltT : ∀ k, T k → k < w.heap.size ∧ ¬ S k) (foot : ∀ k, FootK r vo k → S k) (ents : ∀ e ∈ M', EntAt w S T e ∧ (0 ≤ e.1.2 ∧ e.1.2 ≤ now) ∧ ¬ FootK r vo e.1.1)
    (rise : M'.Pairwise fun a b => a.1.2 < b.1.2) (unl : M'.Pairwise fun a b => a.2.1 ≠ b.2.1) (ht : TK r 2 vo w w') (hr : RowK w' 0 r 2 vo' c' L') (hh : HeapK L'.length L') (hg : GrowsK w r vo vo') (hp : L'.Perm (M'.map (·.1))) :
    CoreAt w' r (fun k => S k ∨ ∃ o s, vo' = some ⟨k, o, s⟩ ∧ w.heap.size ≤ k) T mst now M' vo' c' L' := by
  have hlt' : ∀ g o s, vo' = some ⟨g, o, s⟩ → g < w'.heap.size := fun g o s e => by subst e; exact (own_lt hr.2.2.1 _ _ _ rfl).2
  refine ⟨(ht.2.1 0 (by decide)).trans c0, (ht.2.1 1 (by decide)).trans c1, fun j => (ht.2.2 j).trans (fz j), .inl inS, fun k hk => ?_, fun k hk => ⟨Nat.lt_of_lt_of_le (ltT k hk).1 ht.1.2.2.2.1, ?_⟩, fun e he => ?_, rise, unl, hr, hh, hp, fun g o s e => ?_⟩
  · rcases hk with hk | ⟨o, s, e, _⟩
    · exact Nat.lt_of_lt_of_le (ltS k hk) ht.1.2.2.2.1
    · exact hlt' _ _ _ e
  · rintro (h1 | ⟨o, s, e, h1⟩)
    · exact (ltT k hk).2 h1
    · have := (ltT k hk).1; omega
  · obtain ⟨h1, h2, h3⟩ := ents e he
    exact ⟨h1.turn ht.1 h3 (fun k hk hf => (ltT k hk).2 (foot k hf)) (fun _ h => .inl h) (fun _ h => h), h2⟩
  · rcases Nat.lt_or_ge g w.heap.size with h1 | h1
    · exact .inl (foot g (hg g o s e h1))
    · exact .inr ⟨o, s, e, h1⟩
/-- The list behind a Put. -/
def putA (mst : Nat) (A : List AE) (t : TL) (l : List Int) : List AE :=
  if atA A t < A.length then A.eraseIdx (atA A t) ++ [(t, l)] else if mst < A.length + 1 then (A ++ [(t, l)]).drop 1 else A ++ [(t, l)]
def goodP (mst : Nat) (t : TL) : Bool := decide (0 < mst) && decide (okT t = 0)
/-- What Put leaves. -/
def PutP (w : World) (r : Nat) (S T : Nat → Prop) (mst N : Nat) (A : List AE) (t : TL) (l : List Int) (e : Ending) (w' : World) : Prop :=
  e = .returned (.bool (goodP mst t)) ∧ CTo w r S T mst (N + 1) (if goodP mst t then putA mst A t l else A) w'
theorem cto_below {w w' : World} {r mst N N' : Nat} {S T : Nat → Prop} {A : List AE} (h : CacheIs w r S T mst N A) (hb : Below w.heap.size w w') (hN : N ≤ N') : CTo w r S T mst N' A w' :=
  ⟨S, T, (h.below hb).more hN, Turn.of_below hb, fun _ _ h => h⟩
set_option maxRecDepth 100000 in
set_option maxHeartbeats 1000000 in
theorem kput_no {S T : Nat → Prop} {w : World} {r mst N n c : Nat} {A : List AE} {ao : Option Addr} (h : CacheIs w r S T mst N A) (t : TL) (l : List Int) (hg : goodP mst t = false) :
    Calls Tryz.prog 7 #[.pointer (some ⟨r, 0, none⟩), tlV t, .slice ao n c] w (PutP w r S T mst N A t l) := by
  have HQ : Hid (∀ w', Below w.heap.size w w' → PutP w r S T mst N A t l (.returned (.bool false)) w') := fun w' hb => ⟨by rw [hg], by rw [hg]; exact cto_below h hb (by omega)⟩
  obtain ⟨Q, hQ⟩ : ∃ Q, PutP w r S T mst N A t l = Q := ⟨_, rfl⟩
  rw [hQ] at HQ ⊢
  obtain ⟨now, M, vo, cc, L, hc, hnow, hA, hlen, hm0⟩ := h
  obtain ⟨w1, hw1⟩ : ∃ W, w.alloc (.cells #[.int .i64 t.1, .int .i64 t.2.1, .int .i64 t.2.2.1, .int .i64 t.2.2.2] 26) = W := ⟨_, rfl⟩
  obtain ⟨⟨t0, t1, t2, t3⟩, hb, ht⟩ := boxed_tile w t
  rw [hw1] at t0 t1 t2 t3 hb ht
  have hr := hc.row.lt
  have c0 : w1.cell? ⟨r, 0, none⟩ = some (.int .i64 mst) := (hb.cell (p := ⟨r, 0, none⟩) hr).trans hc.c0
  have hr1 : r < w1.heap.size := by omega
  have HB := Lib.hid hb
  have HW1 := Lib.hid hw1
  have HO := Lib.hid (vok_any t w1)
  have hgg : mst = 0 ∨ (0 < mst ∧ okT t ≠ 0) := by
    unfold goodP at hg
    rcases Nat.eq_zero_or_pos mst with h1 | h1
    · exact .inl h1
    · refine .inr ⟨h1, fun h2 => ?_⟩
      rw [decide_eq_true h1, decide_eq_true h2] at hg; cases hg
  clear hc hb hw1 hQ hA hlen hm0 hnow hg hr
  have TT := Lib.hid (show Value.agg #[.int .i64 t.1, .int .i64 t.2.1, .int .i64 t.2.2.1, .int .i64 t.2.2.2] = tlV t from rfl)
  rw [← TT.out] at HO ⊢
  rcases hgg with rfl | ⟨h1, h2⟩
  · go_enter Tryz.func7, Tryz.ntmps7
    go_wp2_with (rw [HW1.out])
    first | go_ret | skip
    exact HQ.out _ HB.out
  · have q1 : ((mst : Int) == 0) = false := by rw [beq_eq_false_iff_ne]; omega
    obtain ⟨o, ho⟩ : ∃ o, okT t = o := ⟨_, rfl⟩
    rw [ho] at HO h2
    have q2 : (o != 0) = true := by simpa using h2
    clear ho h1 h2
    go_enter Tryz.func7, Tryz.ntmps7
    go_wp2_with (rw [HW1.out])
    go_wp2_with fail
    refine HO.out.mono ?_
    rintro e w2 ⟨rfl, hb2⟩
    have HQ2 : Hid (Q (.returned (.bool false)) w2) := HQ.out _ (HB.out.trans (hb2.mono HB.out.size))
    clear hb2
    go_wp2
    first | go_ret | skip
    exact HQ2.out
/-- Bytes of the call's own, in whatever value. -/
def pSl (base : Nat) (l : List Int) (n : Nat) (f : Option Addr → Nat → Value) : SP :=
  ⟨fun v w => ∃ ao c, v = f ao c ∧ w.ownsRow base 5 1 (.slice ao n c) n (byV l), fun _ _ _ hb ⟨ao, c, e, h⟩ => ⟨ao, c, e, own_later h hb⟩⟩
/-- A new block that holds a tile, bytes of the call's own and a number. -/
def KpAt (base : Nat) (l : List Int) (n : Nat) (t : TL) (x : Int) (w : World) (g : Nat) : Prop :=
  base ≤ g ∧ g < w.heap.size ∧ ∃ ao c, w.heap[g]? = some (.cells #[.int .i64 t.1, .int .i64 t.2.1, .int .i64 t.2.2.1, .int .i64 t.2.2.2, .slice ao n c, .int .i64 x] 63 (0, 0)) ∧ w.ownsRow base 5 1 (.slice ao n c) n (byV l) ∧ ∀ b o s, ao = some ⟨b, o, s⟩ → b < g
theorem KpAt.later {base n : Nat} {l : List Int} {t : TL} {x : Int} {w w' : World} {g : Nat} (h : KpAt base l n t x w g) (hb : Below w.heap.size w w') : KpAt base l n t x w' g := by
  obtain ⟨h1, h2, ao, c, h3, h4, h5⟩ := h
  exact ⟨h1, Nat.lt_of_lt_of_le h2 hb.size, ao, c, (hb.block g h2).trans h3, own_later h4 hb, h5⟩
def pKp (base : Nat) (l : List Int) (n : Nat) (t : TL) (x : Int) (f : Nat → Value) : SP := ⟨fun v w => ∃ g, v = f g ∧ KpAt base l n t x w g, fun _ _ _ hb ⟨g, e, h⟩ => ⟨g, e, h.later hb⟩⟩
theorem slAt_own {w : World} {base n c : Nat} {ao : Option Addr} {l : List Int} {T : Nat → Prop} (h : w.ownsRow base 5 1 (.slice ao n c) n (byV l)) (hl : l.length = n) (hT : ∀ b o s, ao = some ⟨b, o, s⟩ → T b) : SlAt w T (.slice ao n c) l := by
  subst hl
  refine ⟨ao, c, rfl, fun h0 => ?_, fun e => ?_, hT⟩
  · rcases h.2 with ⟨hv, _⟩ | ⟨g, cap, cur, hv, hbg, hh, hnc, hcm, hcs, htake⟩
    · simp only [Value.slice.injEq] at hv; omega
    · simp only [Value.slice.injEq] at hv
      refine ⟨g, 0, hv.1, (Array.getElem?_eq_some_iff.1 hh).1, fun i hi => ?_⟩
      have h3 : w.cell? ⟨g, 0 + i, none⟩ = cur[0 + i]? := by simp [World.cell?, hh]
      rw [h3, Nat.zero_add, ← Array.getElem?_toList, ← List.getElem?_take_of_lt (show i < l.length * 1 by omega), htake]
      exact byV_get l i hi
  · rcases h.2 with ⟨hv, _⟩ | ⟨g, cap, cur, hv, _⟩
    · simp only [Value.slice.injEq] at hv; omega
    · simp only [Value.slice.injEq] at hv; rw [hv.1] at e; cases e
end Go.Proofs.YtjimcjhgjfhbiaaGreat
/- Contract of package cache: Put where the tile is there. -/
namespace Go.Proofs.YtjimcjhgjfhbiaaGreat
open Go.RowKit Go.Lib

theorem set_cons_perm' {α : Type} {L : List α} {i : Nat} (hi : i < L.length) (x : α) : (L.set i x).Perm (x :: L.eraseIdx i) := by
  induction L generalizing i with
  | nil => simp at hi
  | cons y L ih =>
    cases i with
    | zero => simp
    | succ i =>
      simp only [List.set_cons_succ, List.eraseIdx_cons_succ]
      exact ((ih (by simpa using hi)).cons y).trans (List.Perm.swap ..)
theorem set_map_same {α β : Type} (f : α → β) {M : List α} {m : Nat} (hm : m < M.length) {x : α} (h : f x = f M[m]) : (M.set m x).map f = M.map f := by
  rw [List.map_set, h]
  apply List.ext_getElem?
  intro j
  rw [List.getElem?_set]
  by_cases e : m = j
  · subst e; rw [if_pos rfl, if_pos (by rw [List.length_map]; exact hm), List.getElem?_map, List.getElem?_eq_getElem hm]; rfl
  · rw [if_neg e]
theorem erase_set {α : Type} (M : List α) (m : Nat) (x : α) : (M.set m x).eraseIdx m = M.eraseIdx m := by
  induction M generalizing m with
  | nil => rfl
  | cons y M ih => cases m with
    | zero => rfl
    | succ m => simp [ih]
theorem CoreAt.erase_block {S T : Nat → Prop} {w : World} {r mst now c : Nat} {M : List CE} {vo : Option Addr} {L : List KE} (h : CoreAt w r S T mst now M vo c L) {m : Nat} (hm : m < M.length) : ∀ e ∈ M.eraseIdx m, e.1.1 ≠ (M[m]).1.1 := fun e he eb => by
  have hu : ∀ q : CE, q ∈ M → w.cell? ⟨q.1.1, 5, none⟩ = some (.int .i64 q.1.2) := fun q hq => (h.row.used q.1 (h.perm.mem_iff.2 (List.mem_map_of_mem hq))).1
  have u1 := hu e (erase_sub e he)
  rw [eb, hu _ (List.getElem_mem hm)] at u1
  have e2 : (M[m]).1.2 = e.1.2 := by simpa using u1
  have := keyK_inj h.rise (erase_sub e he) (List.getElem_mem hm) (Prod.ext eb e2.symm)
  exact erase_ne h.unl hm e he (by rw [this])
theorem CoreAt.setBytes {S T : Nat → Prop} {w : World} {r mst now c : Nat} {M : List CE} {vo : Option Addr} {L : List KE} (h : CoreAt w r S T mst now M vo c L) {m : Nat} (hm : m < M.length) {base n cu : Nat} {ao : Option Addr} {l : List Int} (hn : l.length = n) (hbig : n ≤ 1000000)
    (ho : w.ownsRow base 5 1 (.slice ao n cu) n (byV l)) (hbase : ∀ k, S k → k < base) :
    CoreAt (w.setCell ⟨(M[m]).1.1, 4, none⟩ (.slice ao n cu)) r S (fun k => T k ∨ ∃ o s, ao = some ⟨k, o, s⟩) mst now (M.set m ((M[m]).1, ((M[m]).2.1, l))) vo c L := by
  obtain ⟨b, hb⟩ : ∃ b, (M[m]).1.1 = b := ⟨_, rfl⟩
  have hent := (h.ents _ (List.getElem_mem hm)).1
  have hE := h.erase_block hm
  have hSb : S b := by rw [← hb]; exact hent.2.2.1
  have hTb : ∀ k, (T k ∨ ∃ o s, ao = some ⟨k, o, s⟩) → ¬ S k := fun k hk hs => by
    rcases hk with hk | ⟨o, s, e⟩
    · exact (h.ltT k hk).2 hs
    · have := (own_lt ho _ _ _ e).1; have := hbase k hs; omega
  have hTt : ∀ k, (T k ∨ ∃ o s, ao = some ⟨k, o, s⟩) → ¬ k = b := fun k hk e => hTb k hk (e ▸ hSb)
  have ht : Turn (fun k => k = b) w (w.setCell ⟨b, 4, none⟩ (.slice ao n cu)) := (Turn.refl (fun k => k = b) w).setCell (a := ⟨b, 4, none⟩) rfl _
  have hoth : ∀ k j, j ≠ 4 → (w.setCell ⟨b, 4, none⟩ (.slice ao n cu)).cell? ⟨k, j, none⟩ = w.cell? ⟨k, j, none⟩ := fun k j hj => World.cell?_setCell_other _ _ _ _ (fun e => hj (congrArg Addr.off e).symm)
  obtain ⟨u4, h4, -⟩ := hent.2.2.2.2
  have hfz := hent.2.1
  obtain ⟨a0, a1, a2, a3⟩ := hent.1
  rw [hb] at h4 hE hfz a0 a1 a2 a3 ⊢
  have hr := h.row
  have hmap1 : (M.set m ((M[m]).1, ((M[m]).2.1, l))).map (·.1) = M.map (·.1) := set_map_same _ hm rfl
  have hmap2 : (M.set m ((M[m]).1, ((M[m]).2.1, l))).map (·.2.1) = M.map (·.2.1) := set_map_same _ hm rfl
  refine ⟨(hoth r 0 (by decide)).trans h.c0, (hoth r 1 (by decide)).trans h.c1, fun j => (World.frozen?_setCell _ _ _ _).trans (h.fz j), h.inS, fun k hk => Nat.lt_of_lt_of_le (h.ltS k hk) ht.2.2.2.1, fun k hk => ⟨?_, hTb k hk⟩, fun e he => ?_, ?_, ?_, ?_, h.heap, by rw [hmap1]; exact h.perm, h.rowS⟩
  · rcases hk with hk | ⟨o, s, e⟩
    · exact Nat.lt_of_lt_of_le (h.ltT k hk).1 ht.2.2.2.1
    · exact Nat.lt_of_lt_of_le (own_lt ho _ _ _ e).2 ht.2.2.2.1
  · rcases List.mem_cons.1 ((set_cons_perm' hm _).mem_iff.1 he) with rfl | he'
    · have hx := (h.ents _ (List.getElem_mem hm)).2
      refine ⟨⟨?_, fun j => ?_, ?_, ?_, .slice ao n cu, ?_, ?_⟩, hx⟩
      · show TileAt _ (M[m]).1.1 (M[m]).2.1
        rw [hb]
        exact ⟨(hoth b 0 (by decide)).trans a0, (hoth b 1 (by decide)).trans a1, (hoth b 2 (by decide)).trans a2, (hoth b 3 (by decide)).trans a3⟩
      · show World.frozen? _ ⟨(M[m]).1.1, j, none⟩ = false
        rw [World.frozen?_setCell, hb]
        exact hfz j
      · show S (M[m]).1.1
        rw [hb]; exact hSb
      · show l.length ≤ 1000000
        omega
      · show World.cell? _ ⟨(M[m]).1.1, 4, none⟩ = _
        rw [hb]
        exact World.cell?_setCell_same _ _ _ h4
      · exact (slAt_own ho hn fun b o s e => .inr ⟨o, s, e⟩).turn ht hTt
    · have hx := h.ents e (erase_sub e he')
      exact ⟨hx.1.turn ht (hE e he') (fun k hk => hTt k (.inl hk)) (fun _ h => h) (fun _ h => .inl h), hx.2⟩
  · have h1 : (M.map (·.1)).Pairwise fun a b => a.2 < b.2 := List.pairwise_map.2 h.rise
    rw [← hmap1] at h1
    exact (List.pairwise_map (f := fun x : CE => x.1) (R := fun a b : KE => a.2 < b.2)).1 h1
  · have h1 : (M.map (·.2.1)).Pairwise fun a b => a ≠ b := List.pairwise_map.2 h.unl
    rw [← hmap2] at h1
    exact (List.pairwise_map (f := fun x : CE => x.2.1) (R := fun a b : TL => a ≠ b)).1 h1
  · refine ⟨(hoth r 2 (by decide)).trans hr.1, (World.frozen?_setCell _ _ _ _).trans hr.2.1, own_turn hr.2.2.1 ht fun g o s e => ?_, hr.2.2.2.1, hr.len, fun q hq => ⟨(hoth q.1 5 (by decide)).trans (hr.used q hq).1, (hr.used q hq).2⟩⟩
    have hu := hr.used (M[m]).1 (h.perm.mem_iff.2 (List.mem_map_of_mem (List.getElem_mem hm)))
    rw [← hb]
    exact hu.2.2 _ _ _ e
theorem atM_lt {M : List CE} {t : TL} : atM M t < M.length ↔ atA (M.map (·.2)) t < (M.map (·.2)).length := by rw [atM_map, List.length_map]
set_option maxRecDepth 100000 in
set_option maxHeartbeats 1000000 in
theorem kput_old {S T : Nat → Prop} {w : World} {r mst N n c : Nat} {A : List AE} {ao : Option Addr} (h : CacheIs w r S T mst N A) (hN : N < 1000000000) (t : TL) (l : List Int) (hl : l.length = n) (hbig : n ≤ 1000000) (hby : BytesAt w ao l) (hz : ao = none → n = 0 ∧ c = 0) (hg : goodP mst t = true) (hlt : atA A t < A.length) :
    Calls Tryz.prog 7 #[.pointer (some ⟨r, 0, none⟩), tlV t, .slice ao n c] w (PutP w r S T mst N A t l) := by
  obtain ⟨now, M, vo, cc, L, hc, hnow, rfl, hlen, hm0⟩ := h
  rw [← atM_lt] at hlt
  have hmst : 0 < mst ∧ okT t = 0 := by unfold goodP at hg; simpa using hg
  obtain ⟨w1, hw1⟩ : ∃ W, w.alloc (.cells #[.int .i64 t.1, .int .i64 t.2.1, .int .i64 t.2.2.1, .int .i64 t.2.2.2] 26) = W := ⟨_, rfl⟩
  obtain ⟨⟨t0, t1, t2, t3⟩, hb, ht⟩ := boxed_tile w t
  rw [hw1] at t0 t1 t2 t3 hb ht
  have hr := hc.row.lt
  have c0 : w1.cell? ⟨r, 0, none⟩ = some (.int .i64 mst) := (hb.cell (p := ⟨r, 0, none⟩) hr).trans hc.c0
  have hr1 : r < w1.heap.size := by omega
  have HB := Lib.hid hb
  have HW1 := Lib.hid hw1
  have hO := vok_any t w1
  rw [hmst.2] at hO
  have HO := Lib.hid hO
  obtain ⟨i, hi, hidx, hk⟩ := idx_found hc.rise hc.unl hc.perm hlt
  have HFI : Hid (∀ W, Below w.heap.size w W → Calls Tryz.prog 22 #[.pointer (some ⟨r, 0, none⟩), tlV t] W fun e w' => e = .returned (.int .i64 i) ∧ Below W.heap.size W w') := fun W hW => by
    have := core_find (hc.below hW) t
    rw [hidx] at this
    exact this
  have HTL : Hid (∀ W, Below w1.heap.size w1 W → TileAt W w.heap.size t) := fun W hW => TileAt.below ⟨t0, t1, t2, t3⟩ hW
  have hent := (hc.ents _ (List.getElem_mem hlt)).1
  have HCL : Hid (∀ W, Below w.heap.size w W → Calls Tryz.prog 23 #[.slice ao n c] W fun e w' => ∃ v, e = .returned v ∧ w'.ownsRow W.heap.size 5 1 v n (byV l) ∧ Below W.heap.size W w') := fun W hW => by
    subst hl
    exact bclone_any (hby.below hW) rfl hz hbig
  obtain ⟨g, rfl, hgl, hgr, hf, hcc⟩ := hc.row.cells (by omega)
  have hHC : ∀ W, Below w.heap.size w W → W.cell? ⟨r, 2, none⟩ = some (.slice (some ⟨g, 0, none⟩) L.length cc) ∧ W.cell? ⟨g, i, none⟩ = some (.pointer (some ⟨(kG L i).1, 0, none⟩)) ∧ (∃ u, W.cell? ⟨(kG L i).1, 4, none⟩ = some u) ∧ W.frozen? ⟨(kG L i).1, 4, none⟩ = false := fun W hW => by
    obtain ⟨u, h4, _⟩ := hent.2.2.2.2
    have hlt4 := hent.1.lt
    refine ⟨(hW.cell (p := ⟨r, 2, none⟩) hr).trans hc.row.1, (hW.cell (p := ⟨g, i, none⟩) hgl).trans (hcc i hi), ⟨u, ?_⟩, ?_⟩
    · rw [hk]; exact (hW.cell (p := ⟨_, 4, none⟩) hlt4).trans h4
    · rw [hk, World.frozen?_of_block (w := w) (a := ⟨_, 4, none⟩) (hW.block _ hlt4)]; exact hent.2.1 4
  have hblt : (kG L i).1 < w.heap.size := by rw [hk]; exact hent.1.lt
  have HUS : Hid (∀ ao' c' W, Below w.heap.size w W → W.ownsRow w.heap.size 5 1 (.slice ao' n c') n (byV l) → Calls Tryz.prog 24 #[.pointer (some ⟨r, 0, none⟩), .int .i64 i] (W.setCell ⟨(kG L i).1, 4, none⟩ (.slice ao' n c')) fun e w' => e = .returned (.tuple #[]) ∧ PutP w r S T mst N (M.map (·.2)) t l (.returned (.bool true)) w') := fun ao' c' W hW ho => by
    have hset := (hc.below hW).setBytes hlt hl hbig ho hc.ltS
    have hm' : atM M t < (M.set (atM M t) ((M[atM M t]'hlt).1, ((M[atM M t]'hlt).2.1, l))).length := by rw [List.length_set]; exact hlt
    have hx : (M.set (atM M t) ((M[atM M t]'hlt).1, ((M[atM M t]'hlt).2.1, l)))[atM M t]'hm' = ((M[atM M t]'hlt).1, ((M[atM M t]'hlt).2.1, l)) := List.getElem_set_self hm'
    have hu := kuse_any hset (by omega) hi hm' (by rw [hx]; exact hk)
    rw [hk]
    refine hu.mono ?_
    rintro e w' ⟨rfl, L', h1, h2⟩
    refine ⟨rfl, by rw [hg], S, _, ⟨now + 1, _, _, cc, L', h1, by omega, ?_, ?_, hm0⟩, ?_, ?_⟩
    · rw [hx, erase_set, List.map_append, map_erase, hg, if_pos rfl]
      unfold putA
      rw [if_pos (by rw [← atM_map, List.length_map]; exact hlt), ← atM_map]
      show _ ++ [((M[atM M t]'hlt).2.1, l)] = _
      rw [atM_tile hlt]
    · rw [hg, if_pos rfl]
      unfold putA
      rw [if_pos (by rw [← atM_map, List.length_map]; exact hlt), ← atM_map, moved_len hlt]
      rw [List.length_map] at hlen; exact hlen
    · have hb4 : S (M[atM M t]'hlt).1.1 := hent.2.2.1
      exact ((Turn.of_below hW).setCell (a := ⟨(M[atM M t]'hlt).1.1, 4, none⟩) hb4 (.slice ao' n c')).trans h2 fun _ _ h => h
    · rintro k hk' (h3 | h3 | ⟨o, s, h3⟩)
      · exact .inl h3
      · exact .inr h3
      · have := (own_lt ho _ _ _ h3).1; omega
  obtain ⟨b, hbb⟩ : ∃ b, (kG L i).1 = b := ⟨_, rfl⟩
  obtain ⟨Q, hQ⟩ : ∃ Q, PutP w r S T mst N (M.map (·.2)) t l = Q := ⟨_, rfl⟩
  rw [hQ] at HUS ⊢
  rw [hbb] at hHC HUS hblt
  have HC := Lib.hid hHC
  obtain ⟨nl, hnl⟩ : ∃ nl, L.length = nl := ⟨_, rfl⟩
  rw [hnl] at HC hi
  have q1 : ((mst : Int) == 0) = false := by rw [beq_eq_false_iff_ne]; omega
  have q2 : decide (0 ≤ (i : Int)) = true := decide_eq_true (by omega)
  have hi0 : ¬ (i : Int) < 0 := by omega
  have hi1 : (0 : Int) ≤ (i : Int) := by omega
  have hi2 : (i : Int) < (nl : Int) := by omega
  clear hc hent hcc hf hbb hQ hnl hb hw1 hk hidx hO hHC hby hz hlen hm0 hg hmst hl hlt
  have TT := Lib.hid (show Value.agg #[.int .i64 t.1, .int .i64 t.2.1, .int .i64 t.2.2.1, .int .i64 t.2.2.2] = tlV t from rfl)
  rw [← TT.out] at HO HFI ⊢
  go_enter Tryz.func7, Tryz.ntmps7
  go_wp2_with (rw [HW1.out])
  go_wp2_with fail
  refine HO.out.mono ?_
  rintro e w2 ⟨rfl, hb2⟩
  have HB2 : Hid (Below w.heap.size w w2) := HB.out.trans (hb2.mono HB.out.size)
  obtain ⟨k0, k1, k2, k3⟩ := HTL.out _ hb2
  have ht2 : w.heap.size < w2.heap.size := Nat.lt_of_lt_of_le ht hb2.size
  clear hb2 t0 t1 t2 t3 c0
  go_wp2_with fail
  refine (HFI.out w2 HB2.out).mono ?_
  rintro e w3 ⟨rfl, hb3⟩
  have HB3 : Hid (Below w.heap.size w w3) := HB2.out.trans (hb3.mono HB2.out.size)
  clear hb3 k0 k1 k2 k3
  go_upto_region 5 with (fail)
  have hr3 : r < w3.heap.size := Nat.lt_of_lt_of_le hr HB3.out.size
  have hg3 : g < w3.heap.size := Nat.lt_of_lt_of_le hgl HB3.out.size
  have hb3 : b < w3.heap.size := Nat.lt_of_lt_of_le hblt HB3.out.size
  refine wp_region_end 11 (fun qa_ qb_ => Below qa_.heap.size qa_ qb_) (fun qi_ qv_ qw_ => (wantAt ([.inl (.pointer (some ⟨r, 0, none⟩)), .inl (.pointer (some ⟨r, 0, none⟩)), .inl (.pointer (some ⟨r, 2, none⟩)), .inl (.slice (some ⟨g, 0, none⟩) nl cc), .inl (.int .i64 i), .inl (.pointer (some ⟨g, i, none⟩)), .inl (.pointer (some ⟨b, 0, none⟩)), .inl (.slice ao n c), .inr (pSl w.heap.size l n (fun a c => .slice a n c)), .inl (.pointer (some ⟨b, 0, none⟩)), .inl (.pointer (some ⟨b, 4, none⟩))] : List Want) qi_).holds qv_ qw_) (by kernel_rfl) (by kernel_rfl) (by kernel_rfl) (fun _ => Below.refl _ _) (fun _ _ _ h1 h2 => h1.trans (h2.mono h1.size)) (fun _ _ _ _ _ h2 h => want_stays h2 h) ?_
  simp only [List.take_succ_cons, List.take_zero, List.drop_succ_cons, List.drop_zero]
  refine inv_cons (fun wx hg hd => ?_) (fun v0 => ?_)
  · have hx := ((Below.refl w3.heap.size w3).drew).trans hg
    clear hd hg
    go_wp2
    exact ⟨_, rfl, Below.refl _ _, rfl⟩
  (try simp only [List.nil_append, Act.put, List.setIfInBounds_toArray, List.set_cons_zero, List.set_cons_succ])
  refine inv_cons (fun wx hg hd => ?_) (fun v1 => ?_)
  · have hx := ((Below.refl w3.heap.size w3).drew).trans hg
    (try (have ee : v0 = (.pointer (some ⟨r, 0, none⟩) : Value) := hd 0 (by simp) (by decide); subst ee))
    clear hd hg
    have hrx := Nat.lt_of_lt_of_le hr3 hx.size
    go_wp2
    exact ⟨_, rfl, Below.refl _ _, rfl⟩
  (try simp only [List.cons_append, List.nil_append, Act.put, List.setIfInBounds_toArray, List.set_cons_zero, List.set_cons_succ])
  refine inv_cons (fun wx hg hd => ?_) (fun v2 => ?_)
  · have hx := ((Below.refl w3.heap.size w3).drew).trans hg
    (try (have ee : v1 = (.pointer (some ⟨r, 0, none⟩) : Value) := hd 1 (by simp) (by decide); subst ee))
    clear hd hg
    go_wp2
    exact ⟨_, rfl, Below.refl _ _, rfl⟩
  (try simp only [List.cons_append, List.nil_append, Act.put, List.setIfInBounds_toArray, List.set_cons_zero, List.set_cons_succ])
  refine inv_cons (fun wx hg hd => ?_) (fun v3 => ?_)
  · have hx := ((Below.refl w3.heap.size w3).drew).trans hg
    (try (have ee : v2 = (.pointer (some ⟨r, 2, none⟩) : Value) := hd 2 (by simp) (by decide); subst ee))
    clear hd hg
    obtain ⟨d1, d2, ⟨u, d3⟩, d4⟩ := HC.out wx (HB3.out.trans (hx.mono HB3.out.size))
    go_wp2
    exact ⟨_, rfl, Below.refl _ _, rfl⟩
  (try simp only [List.cons_append, List.nil_append, Act.put, List.setIfInBounds_toArray, List.set_cons_zero, List.set_cons_succ])
  refine inv_cons (fun wx hg hd => ?_) (fun v4 => ?_)
  · have hx := ((Below.refl w3.heap.size w3).drew).trans hg
    clear hd hg
    go_wp2
    exact ⟨_, rfl, Below.refl _ _, rfl⟩
  (try simp only [List.cons_append, List.nil_append, Act.put, List.setIfInBounds_toArray, List.set_cons_zero, List.set_cons_succ])
  refine inv_cons (fun wx hg hd => ?_) (fun v5 => ?_)
  · have hx := ((Below.refl w3.heap.size w3).drew).trans hg
    (try (have ee : v3 = (.slice (some ⟨g, 0, none⟩) nl cc : Value) := hd 3 (by simp) (by decide); subst ee))
    (try (have ee : v4 = (.int .i64 i : Value) := hd 4 (by simp) (by decide); subst ee))
    clear hd hg
    go_wp2
    exact ⟨_, rfl, Below.refl _ _, rfl⟩
  (try simp only [List.cons_append, List.nil_append, Act.put, List.setIfInBounds_toArray, List.set_cons_zero, List.set_cons_succ])
  refine inv_cons (fun wx hg hd => ?_) (fun v6 => ?_)
  · have hx := ((Below.refl w3.heap.size w3).drew).trans hg
    (try (have ee : v5 = (.pointer (some ⟨g, i, none⟩) : Value) := hd 5 (by simp) (by decide); subst ee))
    clear hd hg
    obtain ⟨d1, d2, ⟨u, d3⟩, d4⟩ := HC.out wx (HB3.out.trans (hx.mono HB3.out.size))
    go_wp2
    exact ⟨_, rfl, Below.refl _ _, rfl⟩
  (try simp only [List.cons_append, List.nil_append, Act.put, List.setIfInBounds_toArray, List.set_cons_zero, List.set_cons_succ])
  refine inv_cons (fun wx hg hd => ?_) (fun v7 => ?_)
  · have hx := ((Below.refl w3.heap.size w3).drew).trans hg
    clear hd hg
    go_wp2
    exact ⟨_, rfl, Below.refl _ _, rfl⟩
  (try simp only [List.cons_append, List.nil_append, Act.put, List.setIfInBounds_toArray, List.set_cons_zero, List.set_cons_succ])
  refine inv_cons (fun wx hg hd => ?_) (fun v8 => ?_)
  · have hx := ((Below.refl w3.heap.size w3).drew).trans hg
    (try (have ee : v7 = (.slice ao n c : Value) := hd 7 (by simp) (by decide); subst ee))
    clear hd hg
    go_wp2_with fail
    refine (HCL.out wx (HB3.out.trans (hx.mono HB3.out.size))).mono ?_
    rintro e w' ⟨v, rfl, ho, hb⟩
    go_wp2
    obtain ⟨a', c', rfl, _⟩ := own_form ho
    exact ⟨_, rfl, hb, a', c', rfl, own_base ho (HB3.out.trans (hx.mono HB3.out.size)).size⟩
  (try simp only [List.cons_append, List.nil_append, Act.put, List.setIfInBounds_toArray, List.set_cons_zero, List.set_cons_succ])
  refine inv_cons (fun wx hg hd => ?_) (fun v9 => ?_)
  · have hx := ((Below.refl w3.heap.size w3).drew).trans hg
    (try (have ee : v6 = (.pointer (some ⟨b, 0, none⟩) : Value) := hd 6 (by simp) (by decide); subst ee))
    clear hd hg
    have hbx := Nat.lt_of_lt_of_le hb3 hx.size
    go_wp2
    exact ⟨_, rfl, Below.refl _ _, rfl⟩
  (try simp only [List.cons_append, List.nil_append, Act.put, List.setIfInBounds_toArray, List.set_cons_zero, List.set_cons_succ])
  refine inv_cons (fun wx hg hd => ?_) (fun v10 => ?_)
  · have hx := ((Below.refl w3.heap.size w3).drew).trans hg
    (try (have ee : v9 = (.pointer (some ⟨b, 0, none⟩) : Value) := hd 9 (by simp) (by decide); subst ee))
    clear hd hg
    go_wp2
    exact ⟨_, rfl, Below.refl _ _, rfl⟩
  (try simp only [List.cons_append, List.nil_append, Act.put, List.setIfInBounds_toArray, List.set_cons_zero, List.set_cons_succ])
  refine inv_done (fun wx hg hd => ?_)
  have hx := ((Below.refl w3.heap.size w3).drew).trans hg
  (have ee : v0 = (.pointer (some ⟨r, 0, none⟩) : Value) := hd 0 (by simp); subst ee)
  (have ee : v1 = (.pointer (some ⟨r, 0, none⟩) : Value) := hd 1 (by simp); subst ee)
  (have ee : v2 = (.pointer (some ⟨r, 2, none⟩) : Value) := hd 2 (by simp); subst ee)
  (have ee : v3 = (.slice (some ⟨g, 0, none⟩) nl cc : Value) := hd 3 (by simp); subst ee)
  (have ee : v4 = (.int .i64 i : Value) := hd 4 (by simp); subst ee)
  (have ee : v5 = (.pointer (some ⟨g, i, none⟩) : Value) := hd 5 (by simp); subst ee)
  (have ee : v6 = (.pointer (some ⟨b, 0, none⟩) : Value) := hd 6 (by simp); subst ee)
  (have ee : v7 = (.slice ao n c : Value) := hd 7 (by simp); subst ee)
  have hp8 : (pSl w.heap.size l n (fun a c => .slice a n c) : SP).1 v8 wx := hd 8 (by simp)
  (have ee : v9 = (.pointer (some ⟨b, 0, none⟩) : Value) := hd 9 (by simp); subst ee)
  (have ee : v10 = (.pointer (some ⟨b, 4, none⟩) : Value) := hd 10 (by simp); subst ee)
  clear hd hg
  (try go_simp)
  obtain ⟨ao', c', rfl, ho⟩ := hp8
  have HBX := HB3.out.trans (hx.mono HB3.out.size)
  obtain ⟨d1, d2, ⟨u, d3⟩, d4⟩ := HC.out wx HBX
  have hbx : b < wx.heap.size := Nat.lt_of_lt_of_le hb3 hx.size
  have HU := Lib.hid (HUS.out ao' c' wx HBX ho)
  clear HBX ho hx d1 d2
  go_wp2
  refine only_done ?_
  go_wp2_with fail
  refine HU.out.mono ?_
  rintro e w4 ⟨rfl, hq⟩
  have HQ := Lib.hid hq
  clear hq
  go_wp2
  first | go_ret | skip
  exact HQ.out
end Go.Proofs.YtjimcjhgjfhbiaaGreat
/- Contract of package cache: Put. -/
namespace Go.Proofs.YtjimcjhgjfhbiaaGreat
open Go.RowKit Go.Lib

theorem CoreAt.tick {S T : Nat → Prop} {w : World} {r mst now c : Nat} {M : List CE} {vo : Option Addr} {L : List KE} (h : CoreAt w r S T mst now M vo c L) {v : Int} (hv : v = ((now + 1 : Nat) : Int)) : CoreAt (w.setCell ⟨r, 1, none⟩ (.int .i64 v)) r S T mst (now + 1) M vo c L := by
  subst hv
  have ht : Turn (fun k => k = r) w (w.setCell ⟨r, 1, none⟩ (.int .i64 ((now + 1 : Nat) : Int))) := (Turn.refl (fun k => k = r) w).setCell (a := ⟨r, 1, none⟩) rfl _
  have hoth : ∀ k j, (⟨k, j, none⟩ : Addr) ≠ ⟨r, 1, none⟩ → (w.setCell ⟨r, 1, none⟩ (.int .i64 ((now + 1 : Nat) : Int))).cell? ⟨k, j, none⟩ = w.cell? ⟨k, j, none⟩ := fun k j hj => World.cell?_setCell_other _ _ _ _ (Ne.symm hj)
  have hr := h.row
  have hTr : ∀ k, T k → ¬ k = r := fun k hk e => (h.ltT k hk).2 (e ▸ h.inS)
  refine ⟨(hoth r 0 (by simp)).trans h.c0, World.cell?_setCell_same _ _ _ h.c1, fun j => (World.frozen?_setCell _ _ _ _).trans (h.fz j), h.inS, fun k hk => Nat.lt_of_lt_of_le (h.ltS k hk) ht.2.2.2.1, fun k hk => ⟨Nat.lt_of_lt_of_le (h.ltT k hk).1 ht.2.2.2.1, (h.ltT k hk).2⟩, fun e he => ?_, h.rise, h.unl, ?_, h.heap, h.perm, h.rowS⟩
  · have hx := h.ents e he
    have hu := hr.used e.1 (h.perm.mem_iff.2 (List.mem_map_of_mem he))
    exact ⟨hx.1.turn ht hu.2.1 hTr (fun _ h => h) (fun _ h => h), hx.2.1, by have := hx.2.2; omega⟩
  · exact ⟨(hoth r 2 (by simp)).trans hr.1, (World.frozen?_setCell _ _ _ _).trans hr.2.1, own_turn hr.2.2.1 ht (fun g o s e => hr.2.2.2.1 g o s e), hr.2.2.2.1, hr.len, fun q hq => ⟨(hoth q.1 5 (fun e => (hr.used q hq).2.1 (congrArg Addr.block e))).trans (hr.used q hq).1, (hr.used q hq).2⟩⟩
/-- Behind heap.Push of a new one. -/
theorem CoreAt.pushed {S T : Nat → Prop} {w : World} {r mst now c n base : Nat} {M : List CE} {vo : Option Addr} {L : List KE} (h : CoreAt w r S T mst now M vo c L) {g : Nat} {t : TL} {l : List Int} (hl : l.length = n) (hbig : n ≤ 1000000) (hk : KpAt base l n t (now : Int) w g) (hbase : ∀ k, S k ∨ T k → k < base)
    (hnew : ∀ e ∈ M, e.2.1 ≠ t) (hold : ∀ e ∈ M, e.1.2 < now) (hM : M.length < 2000) :
    Calls Tryz.prog 25 #[ifcK r 2, .iface 64 (.pointer (some ⟨g, 0, none⟩))] w fun e w' => e = .returned (.tuple #[]) ∧ ∃ S' T' vo' c' L', CoreAt w' r S' T' mst now (M ++ [((((g, (now : Int)) : KE), (t, l)) : CE)]) vo' c' L' ∧ Turn S w w' ∧ ∀ k, k < base → (S' k → S k) ∧ (T' k → T k) := by
  obtain ⟨k1, k2, ao, cu, k3, k4, k5⟩ := hk
  have hgr : g ≠ r := fun e => by have := hbase r (.inl h.inS); omega
  have hgS : ¬ S g := fun e => by have := hbase g (.inl e); omega
  have hux : UsedAt w r vo (g, (now : Int)) := ⟨cell_of_row _ _ 5 _ _ _ k3, hgr, fun g' o s e e2 => hgS (by have h9 := h.rowS _ _ _ e; rw [e2] at h9; exact h9)⟩
  have hLM : L.length = M.length := by rw [h.perm.length_eq, List.length_map]
  refine (hpushK_any h.row h.heap (Nat.zero_le _) (g, (now : Int)) hux (by omega)).mono ?_
  rintro e w' ⟨rfl, L', p1, p2, ⟨vo', c', r1, g1⟩, t1⟩
  have hc := core_after (S := fun k => S k ∨ k = g) (T := fun k => T k ∨ ∃ o s, ao = some ⟨k, o, s⟩) (M' := M ++ [((((g, (now : Int)) : KE), (t, l)) : CE)]) h.c0 h.c1 h.fz (.inl h.inS)
    (fun k hk => by rcases hk with hk | rfl; exact h.ltS k hk; exact k2)
    (fun k hk => by
      rcases hk with hk | ⟨o, s, e⟩
      · refine ⟨(h.ltT k hk).1, ?_⟩
        rintro (h1 | rfl)
        · exact (h.ltT k hk).2 h1
        · have := hbase k (.inr hk); omega
      · have := own_lt k4 _ _ _ e
        refine ⟨this.2, ?_⟩
        rintro (h1 | rfl)
        · have := hbase k (.inl h1); omega
        · have := k5 _ _ _ e; omega)
    (fun k hk => .inl (h.foot k hk))
    (fun e he => by
      rcases List.mem_append.1 he with he | he
      · have hx := h.ents e he
        have hu := h.row.used e.1 (h.perm.mem_iff.2 (List.mem_map_of_mem he))
        refine ⟨hx.1.turn (Turn.refl (fun _ => False) w) (fun h => h) (fun _ _ h => h) (fun _ h => .inl h) (fun _ h => .inl h), hx.2, ?_⟩
        rintro (h3 | ⟨o, s, h3⟩)
        · exact hu.2.1 h3
        · exact hu.2.2 _ _ _ h3 rfl
      · rw [List.mem_singleton.1 he]
        refine ⟨⟨⟨cell_of_row _ _ 0 _ _ _ k3, cell_of_row _ _ 1 _ _ _ k3, cell_of_row _ _ 2 _ _ _ k3, cell_of_row _ _ 3 _ _ _ k3⟩, fun j => frozen_of_row _ _ _ _ _ k3, .inr rfl, (show l.length ≤ 1000000 by omega), .slice ao n cu, cell_of_row _ _ 4 _ _ _ k3, slAt_own k4 hl fun b o s e => .inr ⟨o, s, e⟩⟩, ⟨Int.natCast_nonneg _, Int.le_refl _⟩, ?_⟩
        rintro (h3 | ⟨o, s, h3⟩)
        · exact hgr h3
        · exact hux.2.2 _ _ _ h3 rfl)
    (by
      rw [List.pairwise_append]
      refine ⟨h.rise, List.pairwise_singleton _ _, fun a ha b hb => ?_⟩
      rw [List.mem_singleton.1 hb]
      exact hold a ha)
    (by
      rw [List.pairwise_append]
      refine ⟨h.unl, List.pairwise_singleton _ _, fun a ha b hb => ?_⟩
      rw [List.mem_singleton.1 hb]
      exact hnew a ha)
    t1 r1 p2 g1 (by rw [List.map_append]; exact p1.trans ((h.perm.cons _).trans (List.perm_append_comm (l₁ := [(g, (now : Int))]))))
  refine ⟨rfl, _, _, vo', c', L', hc, ?_, fun k hk => ⟨?_, ?_⟩⟩
  · exact ⟨t1.1.1, t1.1.2.1, t1.1.2.2.1, t1.1.2.2.2.1, fun k hk hs => t1.1.2.2.2.2 k hk fun hf => hs (h.foot k hf)⟩
  · rintro ((h1 | h1) | ⟨o, s, e, h1⟩)
    · exact h1
    · omega
    · omega
  · rintro (h1 | ⟨o, s, e⟩)
    · exact h1
    · have := (own_lt k4 _ _ _ e).1; omega
/-- Behind heap.Pop: the least lately used is gone. -/
theorem CoreAt.popped {S T : Nat → Prop} {w : World} {r mst now c : Nat} {M : List CE} {vo : Option Addr} {L : List KE} (h : CoreAt w r S T mst now M vo c L) (hM : 0 < M.length) :
    Calls Tryz.prog 26 #[ifcK r 2] w fun e w' => (∃ v, e = .returned v) ∧ ∃ S' L', CoreAt w' r S' T mst now (M.drop 1) vo c L' ∧ Turn S w w' ∧ (∀ k, k < w.heap.size → S' k → S k) := by
  have hLM : L.length = M.length := by rw [h.perm.length_eq, List.length_map]
  have hx := head_least h.rise h.perm h.heap hM
  obtain ⟨m, hm⟩ : ∃ m, L.length = m + 1 := ⟨L.length - 1, by omega⟩
  refine (hpopK_any h.row h.heap hm).mono ?_
  rintro e w' ⟨rfl, L', p1, p2, r1, t1⟩
  refine ⟨⟨_, rfl⟩, _, L', core_after (S := S) (T := T) (M' := M.drop 1) h.c0 h.c1 h.fz h.inS h.ltS h.ltT h.foot (fun e he => ?_) (h.rise.sublist (List.drop_sublist 1 M)) (h.unl.sublist (List.drop_sublist 1 M)) t1 r1 p2 (fun g o s e _ => .inr ⟨o, s, e⟩) ?_, ?_, ?_⟩
  · have he' := (List.drop_sublist 1 M).subset he
    have hu := h.row.used e.1 (h.perm.mem_iff.2 (List.mem_map_of_mem he'))
    have hx := h.ents e he'
    refine ⟨hx.1, hx.2, ?_⟩
    rintro (h3 | ⟨o, s, h3⟩)
    · exact hu.2.1 h3
    · exact hu.2.2 _ _ _ h3 rfl
  · rw [hx] at p1
    have := gone_perm h.perm hM p1
    rwa [List.drop_one, ← List.eraseIdx_zero]
  · exact ⟨t1.1.1, t1.1.2.1, t1.1.2.2.1, t1.1.2.2.2.1, fun k hk hs => t1.1.2.2.2.2 k hk fun hf => hs (h.foot k hf)⟩
  · rintro k hk (h1 | ⟨o, s, e, h1⟩)
    · exact h1
    · omega
end Go.Proofs.YtjimcjhgjfhbiaaGreat
/- Contract of package cache: Put. -/
namespace Go.Proofs.YtjimcjhgjfhbiaaGreat
open Go.RowKit Go.Lib

theorem BytesAt.tick {w : World} {ao : Option Addr} {l : List Int} {r : Nat} {x y : Int} (h : BytesAt w ao l) (hc : w.cell? ⟨r, 1, none⟩ = some (.int .i64 x)) : BytesAt (w.setCell ⟨r, 1, none⟩ (.int .i64 y)) ao l := fun h0 => by
  obtain ⟨b, off, e, hlt, hb⟩ := h h0
  refine ⟨b, off, e, by simpa using hlt, fun i hi => ?_⟩
  rw [World.cell?_setCell_other _ _ _ _ (fun e2 => by have := hb i hi; rw [← e2, hc] at this; simp at this)]
  exact hb i hi
/-- What is known ahead of heap.Push and behind. -/
def NewTo (w : World) (r : Nat) (S T : Nat → Prop) (mst now : Nat) (M : List CE) (W : World) : Prop :=
  ∃ S' T' vo c L, CoreAt W r S' T' mst now M vo c L ∧ Turn S w W ∧ ∀ k, k < w.heap.size → (S' k → S k) ∧ (T' k → T k)
theorem NewTo.drew {w : World} {r : Nat} {S T : Nat → Prop} {mst now : Nat} {M : List CE} {W : World} (h : NewTo w r S T mst now M W) : NewTo w r S T mst now M W.drew := by
  obtain ⟨S', T', vo', c', L', q1, q2, q3⟩ := h
  exact ⟨S', T', vo', c', L', q1.kept (X := fun _ => False) ((Turn.refl _ W).drew) (fun _ _ h => h), q2.drew, q3⟩
set_option maxRecDepth 100000 in
set_option maxHeartbeats 1000000 in
theorem kput_new {S T : Nat → Prop} {w : World} {r mst N n c : Nat} {A : List AE} {ao : Option Addr} (h : CacheIs w r S T mst N A) (hN : N < 1000000000) (t : TL) (l : List Int) (hl : l.length = n) (hbig : n ≤ 1000000) (hby : BytesAt w ao l) (hz : ao = none → n = 0 ∧ c = 0) (hg : goodP mst t = true) (hlt : ¬ atA A t < A.length) :
    Calls Tryz.prog 7 #[.pointer (some ⟨r, 0, none⟩), tlV t, .slice ao n c] w (PutP w r S T mst N A t l) := by
  have hlS := h.lt
  obtain ⟨now, M, vo, cc, L, hc, hnow, rfl, hlen, hm0⟩ := h
  rw [← atM_lt] at hlt
  rw [List.length_map] at hlen
  have hmst : 0 < mst ∧ okT t = 0 := by unfold goodP at hg; simpa using hg
  obtain ⟨w1, hw1⟩ : ∃ W, w.alloc (.cells #[.int .i64 t.1, .int .i64 t.2.1, .int .i64 t.2.2.1, .int .i64 t.2.2.2] 26) = W := ⟨_, rfl⟩
  obtain ⟨⟨t0, t1, t2, t3⟩, hb, ht⟩ := boxed_tile w t
  rw [hw1] at t0 t1 t2 t3 hb ht
  have hr := hc.row.lt
  have c0 : w1.cell? ⟨r, 0, none⟩ = some (.int .i64 mst) := (hb.cell (p := ⟨r, 0, none⟩) hr).trans hc.c0
  have hr1 : r < w1.heap.size := by omega
  have HB := Lib.hid hb
  have HW1 := Lib.hid hw1
  have hO := vok_any t w1
  rw [hmst.2] at hO
  have HO := Lib.hid hO
  have hM0 : atM M t = M.length := by have := atM_le M t; omega
  have hfi := idx_none hc.rise hc.perm hM0
  have HFI : Hid (∀ W, Below w.heap.size w W → Calls Tryz.prog 22 #[.pointer (some ⟨r, 0, none⟩), tlV t] W fun e w' => e = .returned (.int .i64 (-1)) ∧ Below W.heap.size W w') := fun W hW => by
    have := core_find (hc.below hW) t
    rw [hfi] at this
    exact this
  have hnew : ∀ e ∈ M, e.2.1 ≠ t := fun e he e2 => by
    have := (List.findIdx_eq_length (p := fun e : CE => decide (e.2.1 = t)) (xs := M)).1 hM0 e he
    simp [e2] at this
  have hold : ∀ e ∈ M, e.1.2 < ((now + 1 : Nat) : Int) := fun e he => by have := hc.ents e he; omega
  have HTL : Hid (∀ W, Below w1.heap.size w1 W → TileAt W w.heap.size t) := fun W hW => TileAt.below ⟨t0, t1, t2, t3⟩ hW
  have HT4 : Hid (∀ W, Below w1.heap.size w1 W → TileAt (W.setCell ⟨r, 1, none⟩ (.int .i64 ((now + 1 : Nat) : Int))) w.heap.size t) := fun W hW => by
    have hTL := TileAt.below ⟨t0, t1, t2, t3⟩ hW
    exact hTL.block (Below.heap_setCell _ _ _ _ (by show w.heap.size ≠ r; omega))
  have HCT : Hid (∀ W, Below w.heap.size w W → CoreAt (W.setCell ⟨r, 1, none⟩ (.int .i64 ((now + 1 : Nat) : Int))) r S T mst (now + 1) M vo cc L ∧ BytesAt (W.setCell ⟨r, 1, none⟩ (.int .i64 ((now + 1 : Nat) : Int))) ao l ∧ Turn S w (W.setCell ⟨r, 1, none⟩ (.int .i64 ((now + 1 : Nat) : Int)))) := fun W hW =>
    ⟨(hc.below hW).tick rfl, (hby.below hW).tick (hc.below hW).c1, (Turn.of_below hW).setCell (a := ⟨r, 1, none⟩) hc.inS _⟩
  have HPU : Hid (∀ W g, CoreAt W r S T mst (now + 1) M vo cc L → Turn S w W → KpAt w.heap.size l n t ((now + 1 : Nat) : Int) W g → Calls Tryz.prog 25 #[ifcK r 2, .iface 64 (.pointer (some ⟨g, 0, none⟩))] W fun e w' => e = .returned (.tuple #[]) ∧ NewTo w r S T mst (now + 1) (M ++ [((((g, ((now + 1 : Nat) : Int)) : KE), (t, l)) : CE)]) w') := fun W g h1 h2 h3 =>
    (h1.pushed hl hbig h3 hlS hnew hold (by omega)).mono fun e w' ⟨e1, S', T', vo', c', L', q1, q2, q3⟩ => ⟨e1, S', T', vo', c', L', q1, h2.trans q2 fun _ _ h => h, q3⟩
  have HPO : Hid (∀ W (M' : List CE), 0 < M'.length → NewTo w r S T mst (now + 1) M' W → Calls Tryz.prog 26 #[ifcK r 2] W fun e w' => (∃ v, e = .returned v) ∧ NewTo w r S T mst (now + 1) (M'.drop 1) w') := fun W M' hM ⟨S', T', vo', c', L', q1, q2, q3⟩ =>
    (q1.popped hM).mono fun e w' ⟨e1, S2, L2, p1, p2, p3⟩ => ⟨e1, S2, T', vo', c', L2, p1, q2.trans p2 fun k hk hs => (q3 k hk).1 hs, fun k hk => ⟨fun h => (q3 k hk).1 (p3 k (Nat.lt_of_lt_of_le hk q2.2.2.2.1) h), (q3 k hk).2⟩⟩
  have HCL : Hid (∀ W, BytesAt W ao l → Calls Tryz.prog 23 #[.slice ao n c] W fun e w' => ∃ v, e = .returned v ∧ w'.ownsRow W.heap.size 5 1 v n (byV l) ∧ Below W.heap.size W w') := fun W hW => by
    subst hl
    exact bclone_any hW rfl hz hbig
  have HFIN : Hid (∀ W M', NewTo w r S T mst (now + 1) M' W → M'.map (·.2) = putA mst (M.map (·.2)) t l → M'.length ≤ mst → PutP w r S T mst N (M.map (·.2)) t l (.returned (.bool true)) W) := fun W M' ⟨S', T', vo', c', L', q1, q2, q3⟩ hA hl' => by
    refine ⟨by rw [hg], ?_⟩
    rw [hg, if_pos rfl]
    exact ⟨S', T', ⟨now + 1, M', vo', c', L', q1, by omega, hA, by rw [← hA, List.length_map]; exact hl', hm0⟩, q2, fun k hk h => by
      rcases h with h | h
      · exact .inl ((q3 k hk).1 h)
      · exact .inr ((q3 k hk).2 h)⟩
  have hput : ∀ q : KE, putA mst (M.map (·.2)) t l = if mst < M.length + 1 then ((M ++ [((q, (t, l)) : CE)]).drop 1).map (·.2) else (M ++ [((q, (t, l)) : CE)]).map (·.2) := fun q => by
    unfold putA
    rw [← atM_map, List.length_map, if_neg hlt]
    split <;> simp
  have HLM : Hid (∀ W M', NewTo w r S T mst (now + 1) M' W → ∃ vo c, W.cell? ⟨r, 2, none⟩ = some (.slice vo M'.length c) ∧ W.cell? ⟨r, 0, none⟩ = some (.int .i64 mst) ∧ r < W.heap.size) := fun W M' ⟨S', T', vo', c', L', q1, q2, q3⟩ => by
    have := q1.row.1
    rw [q1.perm.length_eq, List.length_map] at this
    exact ⟨vo', c', this, q1.c0, q1.row.lt⟩
  obtain ⟨Q, hQ⟩ : ∃ Q, PutP w r S T mst N (M.map (·.2)) t l = Q := ⟨_, rfl⟩
  rw [hQ] at HFIN ⊢
  have q1 : ((mst : Int) == 0) = false := by rw [beq_eq_false_iff_ne]; omega
  have HPT := Lib.hid hput
  have HM1 := Lib.hid hlen
  obtain ⟨K, hK⟩ : ∃ K : Nat, now + 1 = K := ⟨_, rfl⟩
  have hw2 : IntKind.i64.wrap ((now : Int) + 1) = (K : Int) := by rw [← hK]; exact wrap_in (by omega) (by omega)
  have HC1 : Hid (∀ W, Below w.heap.size w W → W.cell? ⟨r, 1, none⟩ = some (.int .i64 now) ∧ W.frozen? ⟨r, 1, none⟩ = false) := fun W hW => ⟨(hc.below hW).c1, (hc.below hW).fz 1⟩
  rw [hK] at HT4 HCT HPU HPO HFIN HLM
  clear hc hlS hQ hb hw1 hO hby hz hlen hm0 hg hmst hl hlt hfi hnew hold hput hM0 hK
  have TT := Lib.hid (show Value.agg #[.int .i64 t.1, .int .i64 t.2.1, .int .i64 t.2.2.1, .int .i64 t.2.2.2] = tlV t from rfl)
  rw [← TT.out] at HO HFI ⊢
  go_enter Tryz.func7, Tryz.ntmps7
  go_wp2_with (rw [HW1.out])
  go_wp2_with fail
  refine HO.out.mono ?_
  rintro e w2 ⟨rfl, hb2⟩
  have HB2 : Hid (Below w.heap.size w w2) := HB.out.trans (hb2.mono HB.out.size)
  obtain ⟨k0, k1, k2, k3⟩ := HTL.out _ hb2
  have HB12 := Lib.hid hb2
  have ht2 : w.heap.size < w2.heap.size := Nat.lt_of_lt_of_le ht hb2.size
  clear hb2 t0 t1 t2 t3 c0
  go_wp2_with fail
  refine (HFI.out w2 HB2.out).mono ?_
  rintro e w3 ⟨rfl, hb3⟩
  have HB3 : Hid (Below w.heap.size w w3) := HB2.out.trans (hb3.mono HB2.out.size)
  have HB13 : Hid (Below w1.heap.size w1 w3) := HB12.out.trans (hb3.mono HB12.out.size)
  have ht3 : w.heap.size < w3.heap.size := Nat.lt_of_lt_of_le ht2 hb3.size
  clear hb3 k0 k1 k2 k3
  obtain ⟨c1, f1⟩ := HC1.out w3 HB3.out
  have hr3 : r < w3.heap.size := Nat.lt_of_lt_of_le hr HB3.out.size
  go_upto_region 9 with (fail)
  have h4 := HT4.out w3 HB13.out
  obtain ⟨h5, h6, h7⟩ := HCT.out w3 HB3.out
  have hs4 : (w3.setCell ⟨r, 1, none⟩ (.int .i64 (K : Int))).heap.size = w3.heap.size := by simp
  generalize w3.setCell ⟨r, 1, none⟩ (.int .i64 (K : Int)) = w4 at *
  have hr4 : r < w4.heap.size := by omega
  have ht4 : w.heap.size < w4.heap.size := by omega
  have HR4 : Hid (∀ W, Below w4.heap.size w4 W → TileAt W w.heap.size t ∧ BytesAt W ao l ∧ W.cell? ⟨r, 1, none⟩ = some (.int .i64 K)) := fun W hW => ⟨h4.below hW, h6.below hW, (h5.below hW).c1⟩
  have H5 := Lib.hid h5
  have H7 := Lib.hid h7
  clear h4 h5 h6 h7 c1 f1
  refine wp_region_end 14 (fun qa_ qb_ => Below qa_.heap.size qa_ qb_) (fun qi_ qv_ qw_ => (wantAt ([.inl (.pointer (some ⟨r, 0, none⟩)), .inl (.pointer (some ⟨r, 0, none⟩)), .inl (.pointer (some ⟨r, 2, none⟩)), .inl (.iface 67 (.pointer (some ⟨r, 2, none⟩))), .inl (.agg #[.int .i64 t.1, .int .i64 t.2.1, .int .i64 t.2.2.1, .int .i64 t.2.2.2]), .inl (.slice ao n c), .inr (pSl w.heap.size l n (fun a c => .slice a n c)), .inl (.pointer (some ⟨r, 0, none⟩)), .inl (.pointer (some ⟨r, 0, none⟩)), .inl (.pointer (some ⟨r, 1, none⟩)), .inl (.int .i64 K), .inr (pSl w.heap.size l n (fun a c => .agg #[.int .i64 t.1, .int .i64 t.2.1, .int .i64 t.2.2.1, .int .i64 t.2.2.2, .slice a n c, .int .i64 K])), .inr (pKp w.heap.size l n t K (fun g => .pointer (some ⟨g, 0, none⟩))), .inr (pKp w.heap.size l n t K (fun g => .iface 64 (.pointer (some ⟨g, 0, none⟩))))] : List Want) qi_).holds qv_ qw_) (by kernel_rfl) (by kernel_rfl) (by kernel_rfl) (fun _ => Below.refl _ _) (fun _ _ _ h1 h2 => h1.trans (h2.mono h1.size)) (fun _ _ _ _ _ h2 h => want_stays h2 h) ?_
  simp only [List.take_succ_cons, List.take_zero, List.drop_succ_cons, List.drop_zero]
  refine inv_cons (fun wx hg hd => ?_) (fun v0 => ?_)
  · have hx := ((Below.refl w4.heap.size w4).drew).trans hg
    clear hd hg
    go_wp2
    exact ⟨_, rfl, Below.refl _ _, rfl⟩
  (try simp only [List.nil_append, Act.put, List.setIfInBounds_toArray, List.set_cons_zero, List.set_cons_succ])
  refine inv_cons (fun wx hg hd => ?_) (fun v1 => ?_)
  · have hx := ((Below.refl w4.heap.size w4).drew).trans hg
    (try (have ee : v0 = (.pointer (some ⟨r, 0, none⟩) : Value) := hd 0 (by simp) (by decide); subst ee))
    clear hd hg
    have hrx := Nat.lt_of_lt_of_le hr4 hx.size
    go_wp2
    exact ⟨_, rfl, Below.refl _ _, rfl⟩
  (try simp only [List.cons_append, List.nil_append, Act.put, List.setIfInBounds_toArray, List.set_cons_zero, List.set_cons_succ])
  refine inv_cons (fun wx hg hd => ?_) (fun v2 => ?_)
  · have hx := ((Below.refl w4.heap.size w4).drew).trans hg
    (try (have ee : v1 = (.pointer (some ⟨r, 0, none⟩) : Value) := hd 1 (by simp) (by decide); subst ee))
    clear hd hg
    go_wp2
    exact ⟨_, rfl, Below.refl _ _, rfl⟩
  (try simp only [List.cons_append, List.nil_append, Act.put, List.setIfInBounds_toArray, List.set_cons_zero, List.set_cons_succ])
  refine inv_cons (fun wx hg hd => ?_) (fun v3 => ?_)
  · have hx := ((Below.refl w4.heap.size w4).drew).trans hg
    (try (have ee : v2 = (.pointer (some ⟨r, 2, none⟩) : Value) := hd 2 (by simp) (by decide); subst ee))
    clear hd hg
    go_wp2
    exact ⟨_, rfl, Below.refl _ _, rfl⟩
  (try simp only [List.cons_append, List.nil_append, Act.put, List.setIfInBounds_toArray, List.set_cons_zero, List.set_cons_succ])
  refine inv_cons (fun wx hg hd => ?_) (fun v4 => ?_)
  · have hx := ((Below.refl w4.heap.size w4).drew).trans hg
    clear hd hg
    obtain ⟨⟨k0, k1, k2, k3⟩, _, _⟩ := HR4.out wx hx
    have hsx := Nat.lt_of_lt_of_le ht4 hx.size
    go_wp2
    exact ⟨_, rfl, Below.refl _ _, rfl⟩
  (try simp only [List.cons_append, List.nil_append, Act.put, List.setIfInBounds_toArray, List.set_cons_zero, List.set_cons_succ])
  refine inv_cons (fun wx hg hd => ?_) (fun v5 => ?_)
  · have hx := ((Below.refl w4.heap.size w4).drew).trans hg
    clear hd hg
    go_wp2
    exact ⟨_, rfl, Below.refl _ _, rfl⟩
  (try simp only [List.cons_append, List.nil_append, Act.put, List.setIfInBounds_toArray, List.set_cons_zero, List.set_cons_succ])
  refine inv_cons (fun wx hg hd => ?_) (fun v6 => ?_)
  · have hx := ((Below.refl w4.heap.size w4).drew).trans hg
    (try (have ee : v5 = (.slice ao n c : Value) := hd 5 (by simp) (by decide); subst ee))
    clear hd hg
    go_wp2_with fail
    refine (HCL.out wx (HR4.out wx hx).2.1).mono ?_
    rintro e w' ⟨v, rfl, ho, hb⟩
    go_wp2
    obtain ⟨a', c', rfl, _⟩ := own_form ho
    exact ⟨_, rfl, hb, a', c', rfl, own_base ho (by have := hx.size; omega)⟩
  (try simp only [List.cons_append, List.nil_append, Act.put, List.setIfInBounds_toArray, List.set_cons_zero, List.set_cons_succ])
  refine inv_cons (fun wx hg hd => ?_) (fun v7 => ?_)
  · have hx := ((Below.refl w4.heap.size w4).drew).trans hg
    clear hd hg
    go_wp2
    exact ⟨_, rfl, Below.refl _ _, rfl⟩
  (try simp only [List.cons_append, List.nil_append, Act.put, List.setIfInBounds_toArray, List.set_cons_zero, List.set_cons_succ])
  refine inv_cons (fun wx hg hd => ?_) (fun v8 => ?_)
  · have hx := ((Below.refl w4.heap.size w4).drew).trans hg
    (try (have ee : v7 = (.pointer (some ⟨r, 0, none⟩) : Value) := hd 7 (by simp) (by decide); subst ee))
    clear hd hg
    have hrx := Nat.lt_of_lt_of_le hr4 hx.size
    go_wp2
    exact ⟨_, rfl, Below.refl _ _, rfl⟩
  (try simp only [List.cons_append, List.nil_append, Act.put, List.setIfInBounds_toArray, List.set_cons_zero, List.set_cons_succ])
  refine inv_cons (fun wx hg hd => ?_) (fun v9 => ?_)
  · have hx := ((Below.refl w4.heap.size w4).drew).trans hg
    (try (have ee : v8 = (.pointer (some ⟨r, 0, none⟩) : Value) := hd 8 (by simp) (by decide); subst ee))
    clear hd hg
    go_wp2
    exact ⟨_, rfl, Below.refl _ _, rfl⟩
  (try simp only [List.cons_append, List.nil_append, Act.put, List.setIfInBounds_toArray, List.set_cons_zero, List.set_cons_succ])
  refine inv_cons (fun wx hg hd => ?_) (fun v10 => ?_)
  · have hx := ((Below.refl w4.heap.size w4).drew).trans hg
    (try (have ee : v9 = (.pointer (some ⟨r, 1, none⟩) : Value) := hd 9 (by simp) (by decide); subst ee))
    clear hd hg
    obtain ⟨_, _, k1⟩ := HR4.out wx hx
    have hrx := Nat.lt_of_lt_of_le hr4 hx.size
    go_wp2
    exact ⟨_, rfl, Below.refl _ _, rfl⟩
  (try simp only [List.cons_append, List.nil_append, Act.put, List.setIfInBounds_toArray, List.set_cons_zero, List.set_cons_succ])
  refine inv_cons (fun wx hg hd => ?_) (fun v11 => ?_)
  · have hx := ((Below.refl w4.heap.size w4).drew).trans hg
    (try (have ee : v4 = (.agg #[.int .i64 t.1, .int .i64 t.2.1, .int .i64 t.2.2.1, .int .i64 t.2.2.2] : Value) := hd 4 (by simp) (by decide); subst ee))
    have hp6 : (pSl w.heap.size l n (fun a c => .slice a n c) : SP).1 v6 wx := hd 6 (by simp) (by decide)
    (try (have ee : v10 = (.int .i64 K : Value) := hd 10 (by simp) (by decide); subst ee))
    clear hd hg
    obtain ⟨a', c', rfl, ho⟩ := hp6
    go_wp2
    exact ⟨_, rfl, Below.refl _ _, a', c', rfl, ho⟩
  (try simp only [List.cons_append, List.nil_append, Act.put, List.setIfInBounds_toArray, List.set_cons_zero, List.set_cons_succ])
  refine inv_cons (fun wx hg hd => ?_) (fun v12 => ?_)
  · have hx := ((Below.refl w4.heap.size w4).drew).trans hg
    have hp11 : (pSl w.heap.size l n (fun a c => .agg #[.int .i64 t.1, .int .i64 t.2.1, .int .i64 t.2.2.1, .int .i64 t.2.2.2, .slice a n c, .int .i64 K]) : SP).1 v11 wx := hd 11 (by simp) (by decide)
    clear hd hg
    obtain ⟨a', c', rfl, ho⟩ := hp11
    go_wp2
    exact ⟨_, rfl, (Below.refl _ _).alloc (Nat.le_refl _) _, wx.heap.size, rfl, (by have := hx.size; omega), by simp, a', c', heap_new _ _ _ rfl, ho.alloc _, fun b o s e => (own_lt ho b o s e).2⟩
  (try simp only [List.cons_append, List.nil_append, Act.put, List.setIfInBounds_toArray, List.set_cons_zero, List.set_cons_succ])
  refine inv_cons (fun wx hg hd => ?_) (fun v13 => ?_)
  · have hx := ((Below.refl w4.heap.size w4).drew).trans hg
    have hp12 : (pKp w.heap.size l n t K (fun g => .pointer (some ⟨g, 0, none⟩)) : SP).1 v12 wx := hd 12 (by simp) (by decide)
    clear hd hg
    obtain ⟨g, rfl, ho⟩ := hp12
    go_wp2
    exact ⟨_, rfl, Below.refl _ _, g, rfl, ho⟩
  (try simp only [List.cons_append, List.nil_append, Act.put, List.setIfInBounds_toArray, List.set_cons_zero, List.set_cons_succ])
  refine inv_done (fun wx hg hd => ?_)
  have hx := ((Below.refl w4.heap.size w4).drew).trans hg
  (have ee : v0 = (.pointer (some ⟨r, 0, none⟩) : Value) := hd 0 (by simp); subst ee)
  (have ee : v1 = (.pointer (some ⟨r, 0, none⟩) : Value) := hd 1 (by simp); subst ee)
  (have ee : v2 = (.pointer (some ⟨r, 2, none⟩) : Value) := hd 2 (by simp); subst ee)
  (have ee : v3 = (.iface 67 (.pointer (some ⟨r, 2, none⟩)) : Value) := hd 3 (by simp); subst ee)
  (have ee : v4 = (.agg #[.int .i64 t.1, .int .i64 t.2.1, .int .i64 t.2.2.1, .int .i64 t.2.2.2] : Value) := hd 4 (by simp); subst ee)
  (have ee : v5 = (.slice ao n c : Value) := hd 5 (by simp); subst ee)
  have hp6 : (pSl w.heap.size l n (fun a c => .slice a n c) : SP).1 v6 wx := hd 6 (by simp)
  (have ee : v7 = (.pointer (some ⟨r, 0, none⟩) : Value) := hd 7 (by simp); subst ee)
  (have ee : v8 = (.pointer (some ⟨r, 0, none⟩) : Value) := hd 8 (by simp); subst ee)
  (have ee : v9 = (.pointer (some ⟨r, 1, none⟩) : Value) := hd 9 (by simp); subst ee)
  (have ee : v10 = (.int .i64 K : Value) := hd 10 (by simp); subst ee)
  have hp11 : (pSl w.heap.size l n (fun a c => .agg #[.int .i64 t.1, .int .i64 t.2.1, .int .i64 t.2.2.1, .int .i64 t.2.2.2, .slice a n c, .int .i64 K]) : SP).1 v11 wx := hd 11 (by simp)
  have hp12 : (pKp w.heap.size l n t K (fun g => .pointer (some ⟨g, 0, none⟩)) : SP).1 v12 wx := hd 12 (by simp)
  have hp13 : (pKp w.heap.size l n t K (fun g => .iface 64 (.pointer (some ⟨g, 0, none⟩))) : SP).1 v13 wx := hd 13 (by simp)
  clear hd hg
  (try go_simp)
  obtain ⟨g, rfl, hkp⟩ := hp13
  have HPS := Lib.hid (HPU.out wx g (H5.out.below hx) (H7.out.trans (T := fun _ => False) (Turn.of_below hx) fun _ _ h => h.elim) hkp)
  unfold ifcK at HPS HPO
  clear hkp hp11 hp12 hp6 hx
  go_wp2_with fail
  refine HPS.out.mono ?_
  rintro e w5 ⟨rfl, hn5⟩
  obtain ⟨vo5, c5, d2, d0, hr5⟩ := HLM.out _ _ hn5
  have HN5 := Lib.hid hn5
  rw [show (M ++ [((((g, (K : Int)) : KE), (t, l)) : CE)]).length = M.length + 1 by simp] at d2
  clear hn5 HPS
  go_wp2
  refine only_done ?_
  by_cases hpop : mst < M.length + 1
  · have q3 : decide ((mst : Int) < ((M.length + 1 : Nat) : Int)) = true := decide_eq_true (by omega)
    have HX := Lib.hid (HPO.out w5.drew _ (by simp) HN5.out.drew)
    have HPP := Lib.hid hpop
    unfold ifcK at HX
    go_wp2_with (first | (with_reducible refine wp_region_lex (by kernel_rfl) (by kernel_rfl) ?_) | (with_reducible refine OnlyG.intro (by kernel_rfl) ?_))
    refine HX.out.mono ?_
    rintro e w6 ⟨⟨v, rfl⟩, hn6⟩
    have HQ : Hid (Q (.returned (.bool true)) w6) := HFIN.out w6 _ hn6 (by rw [HPT.out (g, (K : Int)), if_pos HPP.out]) (by simp; have := HM1.out; omega)
    clear hn6
    go_wp2
    first | go_ret | skip
    exact HQ.out
  · have q3 : decide ((mst : Int) < ((M.length + 1 : Nat) : Int)) = false := decide_eq_false (by omega)
    have HPP := Lib.hid hpop
    have HQ : Hid (Q (.returned (.bool true)) w5.drew) := HFIN.out w5.drew _ HN5.out.drew (by rw [HPT.out (g, (K : Int)), if_neg HPP.out]) (by simp; have := HPP.out; omega)
    go_wp2_with (first | (with_reducible refine wp_region_lex (by kernel_rfl) (by kernel_rfl) ?_) | (with_reducible refine OnlyG.intro (by kernel_rfl) ?_))
    first | go_ret | skip
    exact HQ.out
/-- cache.Put. -/
theorem kput_any {S T : Nat → Prop} {w : World} {r mst N n c : Nat} {A : List AE} {ao : Option Addr} (h : CacheIs w r S T mst N A) (hN : N < 1000000000) (t : TL) (l : List Int) (hl : l.length = n) (hbig : n ≤ 1000000) (hby : BytesAt w ao l) (hz : ao = none → n = 0 ∧ c = 0) :
    Calls Tryz.prog 7 #[.pointer (some ⟨r, 0, none⟩), tlV t, .slice ao n c] w (PutP w r S T mst N A t l) := by
  cases hg : goodP mst t with
  | false => exact kput_no h t l hg
  | true =>
    by_cases hlt : atA A t < A.length
    · exact kput_old h hN t l hl hbig hby hz hg hlt
    · exact kput_new h hN t l hl hbig hby hz hg hlt
end Go.Proofs.YtjimcjhgjfhbiaaGreat
