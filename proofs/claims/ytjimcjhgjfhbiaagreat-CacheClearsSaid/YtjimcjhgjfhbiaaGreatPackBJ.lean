/- Joined: VwD: contracts and plain laws, each with its own heading below. -/
import Derived.Test.YtjimcjhgjfhbiaaGreatPackBH
import Derived.Test.YtjimcjhgjfhbiaaGreatPackBG
/- Contracts of the reference: shift, tile, Fine, TileOk, Origin of apiaryref9. (Printed by gen_vwd.py.) -/
namespace Go.Proofs.YtjimcjhgjfhbiaaGreat
open Go.RowKit Go.Lib Wd Cv

theorem rshift_in (k : Nat) (hk : k ≤ 60) (w : World) : Calls Tryz.prog 43 #[.int .i64 k] w fun e w' => e = .returned (.int .i64 ((2 ^ k : Nat) : Int)) ∧ Below w.heap.size w w' := by
  have hp : 2 ^ k ≤ 1152921504606846976 := Nat.le_trans (Nat.pow_le_pow_right (by decide) hk) (by decide)
  obtain ⟨p, hpp⟩ : ∃ p : Int, ((2 ^ k : Nat) : Int) = p := ⟨_, rfl⟩
  have hp1 : 0 ≤ p := by rw [← hpp]; exact Int.natCast_nonneg _
  have hp2 : p ≤ 1152921504606846976 := by rw [← hpp]; exact Int.ofNat_le.2 hp
  have qp : wrap64 ((2 : Int) ^ k) = p := by rw [show ((2 : Int) ^ k) = p by rw [← hpp, Int.natCast_pow]; rfl]; unfold wrap64; omega
  have qn : ¬ (k : Int) < 0 := by omega
  have qd : decide ((k : Int) < 0) = false := decide_eq_false qn
  rw [hpp]
  clear hpp hp
  go_enter Tryz.func43, Tryz.ntmps43
  go_wp2
  go_ret
  exact ⟨rfl, Below.refl _ _⟩
set_option maxRecDepth 100000 in
set_option maxHeartbeats 8000000 in
theorem rtile_any (t : TL) (w : World) : Calls Tryz.prog 37 #[tlV t] w fun e w' => e = .returned (.bool (isT t)) ∧ Below w.heap.size w w' := by
  obtain ⟨⟨t0, t1, t2, t3⟩, hb, hs⟩ := boxed_tile w t
  obtain ⟨w1, hw1⟩ : ∃ W, (w.alloc (.cells #[.int .i64 t.1, .int .i64 t.2.1, .int .i64 t.2.2.1, .int .i64 t.2.2.2] 26)) = W := ⟨_, rfl⟩
  rw [hw1] at t0 t1 t2 t3 hb hs
  have HB := Lib.hid hb
  have HW1 := Lib.hid hw1
  have HT1 : Hid (∀ W, Below w1.heap.size w1 W → TileAt W w.heap.size t) := fun W hW => TileAt.below ⟨t0, t1, t2, t3⟩ hW
  have HI : Hid (isT t = (decide (0 ≤ t.1) && decide (t.1 ≤ 18) && (decide (0 ≤ t.2.2.2) && decide (t.2.2.2 ≤ 12)) && (decide (0 ≤ t.2.1) && decide (t.2.1 < ((2 ^ t.1.toNat : Nat) : Int))) && (decide (0 ≤ t.2.2.1) && decide (t.2.2.1 < ((2 ^ t.1.toNat : Nat) : Int))))) := rfl
  have HP : Hid (0 ≤ t.1 → t.1 ≤ 18 → ∀ w, Calls Tryz.prog 43 #[.int .i64 t.1] w fun e w' => e = .returned (.int .i64 ((2 ^ t.1.toNat : Nat) : Int)) ∧ Below w.heap.size w w') := fun h1 h2 w => by
    have := rshift_in t.1.toNat (by omega) w
    rwa [show ((t.1.toNat : Nat) : Int) = t.1 by omega] at this
  generalize isT t = res at *
  generalize ((2 ^ t.1.toNat : Nat) : Int) = P at *
  clear hw1 t0 t1 t2 t3 hb
  obtain ⟨z, x, y, r⟩ := t
  unfold tlV at *
  dsimp only at *
  by_cases g1 : 0 ≤ z
  · have q1 : decide (0 ≤ z) = true := decide_eq_true g1
    by_cases g2 : z ≤ 18
    · have q2 : decide (z ≤ 18) = true := decide_eq_true g2
      by_cases g3 : 0 ≤ x
      · have q3 : decide (0 ≤ x) = true := decide_eq_true g3
        by_cases g4 : x < P
        · have q4 : decide (x < P) = true := decide_eq_true g4
          by_cases g5 : 0 ≤ y
          · have q5 : decide (0 ≤ y) = true := decide_eq_true g5
            by_cases g6 : y < P
            · have q6 : decide (y < P) = true := decide_eq_true g6
              by_cases g7 : 0 ≤ r
              · have q7 : decide (0 ≤ r) = true := decide_eq_true g7
                by_cases g8 : r ≤ 12
                · have q8 : decide (r ≤ 12) = true := decide_eq_true g8
                  have HR : Hid (res = true) := by show _ = _; rw [HI.out, decide_eq_true g1, decide_eq_true g2, decide_eq_true g3, decide_eq_true g4, decide_eq_true g5, decide_eq_true g6, decide_eq_true g7, decide_eq_true g8]; rfl
                  have HSH := Lib.hid (HP.out g1 g2)
                  clear HP
                  clear HI
                  go_enter Tryz.func37, Tryz.ntmps37
                  go_upto_region 1 with (rw [HW1.out])
                  first | rw [HW1.out] | skip
                  refine wp_region_inv (fun w w' => Below w.heap.size w w') (fun qi_ qv_ _ => qv_ = ([.pointer (some ⟨w.heap.size, 0, none⟩), .int .i64 z, .bool true, .bool true, .pointer (some ⟨w.heap.size, 0, none⟩), .int .i64 z, .bool true, .bool true, .bool true, .pointer (some ⟨w.heap.size, 1, none⟩), .int .i64 x, .bool true, .bool true, .bool true, .pointer (some ⟨w.heap.size, 1, none⟩), .int .i64 x, .pointer (some ⟨w.heap.size, 0, none⟩), .int .i64 z, .int .i64 P, .bool true, .bool true, .bool true, .pointer (some ⟨w.heap.size, 2, none⟩), .int .i64 y, .bool true, .bool true, .bool true, .pointer (some ⟨w.heap.size, 2, none⟩), .int .i64 y, .pointer (some ⟨w.heap.size, 0, none⟩), .int .i64 z, .int .i64 P, .bool true, .bool true, .bool true, .pointer (some ⟨w.heap.size, 3, none⟩), .int .i64 r, .bool true, .bool true, .bool true, .pointer (some ⟨w.heap.size, 3, none⟩), .int .i64 r, .bool true, .bool true, .bool true] : List Value).getD qi_ undef) (by kernel_rfl) (by kernel_rfl) (fun _ => Below.refl _ _) (fun _ _ _ h1 h2 => below_later h1 h1.size h2) (fun _ _ _ _ _ _ h => h) ?_
                  refine inv_cons (fun wx hg hd => ?_) (fun v0 => ?_)
                  · have hx := ((Below.refl w1.heap.size w1).drew).trans hg
                    clear hd hg
                    go_wp2
                    exact ⟨_, rfl, Below.refl _ _, rfl⟩
                  (try simp only [List.nil_append, Act.put, List.setIfInBounds_toArray, List.set_cons_zero, List.set_cons_succ])
                  refine inv_cons (fun wx hg hd => ?_) (fun v1 => ?_)
                  · have hx := ((Below.refl w1.heap.size w1).drew).trans hg
                    (try (have ee : v0 = (.pointer (some ⟨w.heap.size, 0, none⟩) : Value) := hd 0 (by simp) (by decide); subst ee))
                    clear hd hg
                    obtain ⟨k0, k1, k2, k3⟩ := HT1.out _ hx
                    have hsx : w.heap.size < wx.heap.size := Nat.lt_of_lt_of_le hs hx.size
                    go_wp2
                    exact ⟨_, rfl, Below.refl _ _, rfl⟩
                  (try simp only [List.cons_append, List.nil_append, Act.put, List.setIfInBounds_toArray, List.set_cons_zero, List.set_cons_succ])
                  refine inv_cons (fun wx hg hd => ?_) (fun v2 => ?_)
                  · have hx := ((Below.refl w1.heap.size w1).drew).trans hg
                    (try (have ee : v1 = (.int .i64 z : Value) := hd 1 (by simp) (by decide); subst ee))
                    clear hd hg
                    go_wp2
                    exact ⟨_, rfl, Below.refl _ _, rfl⟩
                  (try simp only [List.cons_append, List.nil_append, Act.put, List.setIfInBounds_toArray, List.set_cons_zero, List.set_cons_succ])
                  refine inv_cons (fun wx hg hd => ?_) (fun v3 => ?_)
                  · have hx := ((Below.refl w1.heap.size w1).drew).trans hg
                    (try (have ee : v2 = (.bool true : Value) := hd 2 (by simp) (by decide); subst ee))
                    clear hd hg
                    go_wp2
                    exact ⟨_, rfl, Below.refl _ _, rfl⟩
                  (try simp only [List.cons_append, List.nil_append, Act.put, List.setIfInBounds_toArray, List.set_cons_zero, List.set_cons_succ])
                  refine inv_cons (fun wx hg hd => ?_) (fun v4 => ?_)
                  · have hx := ((Below.refl w1.heap.size w1).drew).trans hg
                    (try (have ee : v3 = (.bool true : Value) := hd 3 (by simp) (by decide); subst ee))
                    clear hd hg
                    go_wp2
                    exact ⟨_, rfl, Below.refl _ _, rfl⟩
                  (try simp only [List.cons_append, List.nil_append, Act.put, List.setIfInBounds_toArray, List.set_cons_zero, List.set_cons_succ])
                  refine inv_cons (fun wx hg hd => ?_) (fun v5 => ?_)
                  · have hx := ((Below.refl w1.heap.size w1).drew).trans hg
                    (try (have ee : v3 = (.bool true : Value) := hd 3 (by simp) (by decide); subst ee))
                    (try (have ee : v4 = (.pointer (some ⟨w.heap.size, 0, none⟩) : Value) := hd 4 (by simp) (by decide); subst ee))
                    clear hd hg
                    obtain ⟨k0, k1, k2, k3⟩ := HT1.out _ hx
                    have hsx : w.heap.size < wx.heap.size := Nat.lt_of_lt_of_le hs hx.size
                    go_wp2
                    exact ⟨_, rfl, Below.refl _ _, rfl⟩
                  (try simp only [List.cons_append, List.nil_append, Act.put, List.setIfInBounds_toArray, List.set_cons_zero, List.set_cons_succ])
                  refine inv_cons (fun wx hg hd => ?_) (fun v6 => ?_)
                  · have hx := ((Below.refl w1.heap.size w1).drew).trans hg
                    (try (have ee : v3 = (.bool true : Value) := hd 3 (by simp) (by decide); subst ee))
                    (try (have ee : v5 = (.int .i64 z : Value) := hd 5 (by simp) (by decide); subst ee))
                    clear hd hg
                    go_wp2
                    exact ⟨_, rfl, Below.refl _ _, rfl⟩
                  (try simp only [List.cons_append, List.nil_append, Act.put, List.setIfInBounds_toArray, List.set_cons_zero, List.set_cons_succ])
                  refine inv_cons (fun wx hg hd => ?_) (fun v7 => ?_)
                  · have hx := ((Below.refl w1.heap.size w1).drew).trans hg
                    (try (have ee : v3 = (.bool true : Value) := hd 3 (by simp) (by decide); subst ee))
                    (try (have ee : v6 = (.bool true : Value) := hd 6 (by simp) (by decide); subst ee))
                    clear hd hg
                    go_wp2
                    exact ⟨_, rfl, Below.refl _ _, rfl⟩
                  (try simp only [List.cons_append, List.nil_append, Act.put, List.setIfInBounds_toArray, List.set_cons_zero, List.set_cons_succ])
                  refine inv_cons (fun wx hg hd => ?_) (fun v8 => ?_)
                  · have hx := ((Below.refl w1.heap.size w1).drew).trans hg
                    (try (have ee : v7 = (.bool true : Value) := hd 7 (by simp) (by decide); subst ee))
                    clear hd hg
                    go_wp2
                    exact ⟨_, rfl, Below.refl _ _, rfl⟩
                  (try simp only [List.cons_append, List.nil_append, Act.put, List.setIfInBounds_toArray, List.set_cons_zero, List.set_cons_succ])
                  refine inv_cons (fun wx hg hd => ?_) (fun v9 => ?_)
                  · have hx := ((Below.refl w1.heap.size w1).drew).trans hg
                    (try (have ee : v8 = (.bool true : Value) := hd 8 (by simp) (by decide); subst ee))
                    clear hd hg
                    go_wp2
                    exact ⟨_, rfl, Below.refl _ _, rfl⟩
                  (try simp only [List.cons_append, List.nil_append, Act.put, List.setIfInBounds_toArray, List.set_cons_zero, List.set_cons_succ])
                  refine inv_cons (fun wx hg hd => ?_) (fun v10 => ?_)
                  · have hx := ((Below.refl w1.heap.size w1).drew).trans hg
                    (try (have ee : v8 = (.bool true : Value) := hd 8 (by simp) (by decide); subst ee))
                    (try (have ee : v9 = (.pointer (some ⟨w.heap.size, 1, none⟩) : Value) := hd 9 (by simp) (by decide); subst ee))
                    clear hd hg
                    obtain ⟨k0, k1, k2, k3⟩ := HT1.out _ hx
                    have hsx : w.heap.size < wx.heap.size := Nat.lt_of_lt_of_le hs hx.size
                    go_wp2
                    exact ⟨_, rfl, Below.refl _ _, rfl⟩
                  (try simp only [List.cons_append, List.nil_append, Act.put, List.setIfInBounds_toArray, List.set_cons_zero, List.set_cons_succ])
                  refine inv_cons (fun wx hg hd => ?_) (fun v11 => ?_)
                  · have hx := ((Below.refl w1.heap.size w1).drew).trans hg
                    (try (have ee : v8 = (.bool true : Value) := hd 8 (by simp) (by decide); subst ee))
                    (try (have ee : v10 = (.int .i64 x : Value) := hd 10 (by simp) (by decide); subst ee))
                    clear hd hg
                    go_wp2
                    exact ⟨_, rfl, Below.refl _ _, rfl⟩
                  (try simp only [List.cons_append, List.nil_append, Act.put, List.setIfInBounds_toArray, List.set_cons_zero, List.set_cons_succ])
                  refine inv_cons (fun wx hg hd => ?_) (fun v12 => ?_)
                  · have hx := ((Below.refl w1.heap.size w1).drew).trans hg
                    (try (have ee : v8 = (.bool true : Value) := hd 8 (by simp) (by decide); subst ee))
                    (try (have ee : v11 = (.bool true : Value) := hd 11 (by simp) (by decide); subst ee))
                    clear hd hg
                    go_wp2
                    exact ⟨_, rfl, Below.refl _ _, rfl⟩
                  (try simp only [List.cons_append, List.nil_append, Act.put, List.setIfInBounds_toArray, List.set_cons_zero, List.set_cons_succ])
                  refine inv_cons (fun wx hg hd => ?_) (fun v13 => ?_)
                  · have hx := ((Below.refl w1.heap.size w1).drew).trans hg
                    (try (have ee : v12 = (.bool true : Value) := hd 12 (by simp) (by decide); subst ee))
                    clear hd hg
                    go_wp2
                    exact ⟨_, rfl, Below.refl _ _, rfl⟩
                  (try simp only [List.cons_append, List.nil_append, Act.put, List.setIfInBounds_toArray, List.set_cons_zero, List.set_cons_succ])
                  refine inv_cons (fun wx hg hd => ?_) (fun v14 => ?_)
                  · have hx := ((Below.refl w1.heap.size w1).drew).trans hg
                    (try (have ee : v13 = (.bool true : Value) := hd 13 (by simp) (by decide); subst ee))
                    clear hd hg
                    go_wp2
                    exact ⟨_, rfl, Below.refl _ _, rfl⟩
                  (try simp only [List.cons_append, List.nil_append, Act.put, List.setIfInBounds_toArray, List.set_cons_zero, List.set_cons_succ])
                  refine inv_cons (fun wx hg hd => ?_) (fun v15 => ?_)
                  · have hx := ((Below.refl w1.heap.size w1).drew).trans hg
                    (try (have ee : v13 = (.bool true : Value) := hd 13 (by simp) (by decide); subst ee))
                    (try (have ee : v14 = (.pointer (some ⟨w.heap.size, 1, none⟩) : Value) := hd 14 (by simp) (by decide); subst ee))
                    clear hd hg
                    obtain ⟨k0, k1, k2, k3⟩ := HT1.out _ hx
                    have hsx : w.heap.size < wx.heap.size := Nat.lt_of_lt_of_le hs hx.size
                    go_wp2
                    exact ⟨_, rfl, Below.refl _ _, rfl⟩
                  (try simp only [List.cons_append, List.nil_append, Act.put, List.setIfInBounds_toArray, List.set_cons_zero, List.set_cons_succ])
                  refine inv_cons (fun wx hg hd => ?_) (fun v16 => ?_)
                  · have hx := ((Below.refl w1.heap.size w1).drew).trans hg
                    (try (have ee : v13 = (.bool true : Value) := hd 13 (by simp) (by decide); subst ee))
                    clear hd hg
                    go_wp2
                    exact ⟨_, rfl, Below.refl _ _, rfl⟩
                  (try simp only [List.cons_append, List.nil_append, Act.put, List.setIfInBounds_toArray, List.set_cons_zero, List.set_cons_succ])
                  refine inv_cons (fun wx hg hd => ?_) (fun v17 => ?_)
                  · have hx := ((Below.refl w1.heap.size w1).drew).trans hg
                    (try (have ee : v13 = (.bool true : Value) := hd 13 (by simp) (by decide); subst ee))
                    (try (have ee : v16 = (.pointer (some ⟨w.heap.size, 0, none⟩) : Value) := hd 16 (by simp) (by decide); subst ee))
                    clear hd hg
                    obtain ⟨k0, k1, k2, k3⟩ := HT1.out _ hx
                    have hsx : w.heap.size < wx.heap.size := Nat.lt_of_lt_of_le hs hx.size
                    go_wp2
                    exact ⟨_, rfl, Below.refl _ _, rfl⟩
                  (try simp only [List.cons_append, List.nil_append, Act.put, List.setIfInBounds_toArray, List.set_cons_zero, List.set_cons_succ])
                  refine inv_cons (fun wx hg hd => ?_) (fun v18 => ?_)
                  · have hx := ((Below.refl w1.heap.size w1).drew).trans hg
                    (try (have ee : v13 = (.bool true : Value) := hd 13 (by simp) (by decide); subst ee))
                    (try (have ee : v17 = (.int .i64 z : Value) := hd 17 (by simp) (by decide); subst ee))
                    clear hd hg
                    go_wp2_with fail
                    refine (HSH.out _).mono ?_
                    rintro e w' ⟨rfl, hb⟩
                    go_wp2
                    exact ⟨_, rfl, hb, rfl⟩
                  (try simp only [List.cons_append, List.nil_append, Act.put, List.setIfInBounds_toArray, List.set_cons_zero, List.set_cons_succ])
                  refine inv_cons (fun wx hg hd => ?_) (fun v19 => ?_)
                  · have hx := ((Below.refl w1.heap.size w1).drew).trans hg
                    (try (have ee : v13 = (.bool true : Value) := hd 13 (by simp) (by decide); subst ee))
                    (try (have ee : v15 = (.int .i64 x : Value) := hd 15 (by simp) (by decide); subst ee))
                    (try (have ee : v18 = (.int .i64 P : Value) := hd 18 (by simp) (by decide); subst ee))
                    clear hd hg
                    go_wp2
                    exact ⟨_, rfl, Below.refl _ _, rfl⟩
                  (try simp only [List.cons_append, List.nil_append, Act.put, List.setIfInBounds_toArray, List.set_cons_zero, List.set_cons_succ])
                  refine inv_cons (fun wx hg hd => ?_) (fun v20 => ?_)
                  · have hx := ((Below.refl w1.heap.size w1).drew).trans hg
                    (try (have ee : v13 = (.bool true : Value) := hd 13 (by simp) (by decide); subst ee))
                    (try (have ee : v19 = (.bool true : Value) := hd 19 (by simp) (by decide); subst ee))
                    clear hd hg
                    go_wp2
                    exact ⟨_, rfl, Below.refl _ _, rfl⟩
                  (try simp only [List.cons_append, List.nil_append, Act.put, List.setIfInBounds_toArray, List.set_cons_zero, List.set_cons_succ])
                  refine inv_cons (fun wx hg hd => ?_) (fun v21 => ?_)
                  · have hx := ((Below.refl w1.heap.size w1).drew).trans hg
                    (try (have ee : v20 = (.bool true : Value) := hd 20 (by simp) (by decide); subst ee))
                    clear hd hg
                    go_wp2
                    exact ⟨_, rfl, Below.refl _ _, rfl⟩
                  (try simp only [List.cons_append, List.nil_append, Act.put, List.setIfInBounds_toArray, List.set_cons_zero, List.set_cons_succ])
                  refine inv_cons (fun wx hg hd => ?_) (fun v22 => ?_)
                  · have hx := ((Below.refl w1.heap.size w1).drew).trans hg
                    (try (have ee : v21 = (.bool true : Value) := hd 21 (by simp) (by decide); subst ee))
                    clear hd hg
                    go_wp2
                    exact ⟨_, rfl, Below.refl _ _, rfl⟩
                  (try simp only [List.cons_append, List.nil_append, Act.put, List.setIfInBounds_toArray, List.set_cons_zero, List.set_cons_succ])
                  refine inv_cons (fun wx hg hd => ?_) (fun v23 => ?_)
                  · have hx := ((Below.refl w1.heap.size w1).drew).trans hg
                    (try (have ee : v21 = (.bool true : Value) := hd 21 (by simp) (by decide); subst ee))
                    (try (have ee : v22 = (.pointer (some ⟨w.heap.size, 2, none⟩) : Value) := hd 22 (by simp) (by decide); subst ee))
                    clear hd hg
                    obtain ⟨k0, k1, k2, k3⟩ := HT1.out _ hx
                    have hsx : w.heap.size < wx.heap.size := Nat.lt_of_lt_of_le hs hx.size
                    go_wp2
                    exact ⟨_, rfl, Below.refl _ _, rfl⟩
                  (try simp only [List.cons_append, List.nil_append, Act.put, List.setIfInBounds_toArray, List.set_cons_zero, List.set_cons_succ])
                  refine inv_cons (fun wx hg hd => ?_) (fun v24 => ?_)
                  · have hx := ((Below.refl w1.heap.size w1).drew).trans hg
                    (try (have ee : v21 = (.bool true : Value) := hd 21 (by simp) (by decide); subst ee))
                    (try (have ee : v23 = (.int .i64 y : Value) := hd 23 (by simp) (by decide); subst ee))
                    clear hd hg
                    go_wp2
                    exact ⟨_, rfl, Below.refl _ _, rfl⟩
                  (try simp only [List.cons_append, List.nil_append, Act.put, List.setIfInBounds_toArray, List.set_cons_zero, List.set_cons_succ])
                  refine inv_cons (fun wx hg hd => ?_) (fun v25 => ?_)
                  · have hx := ((Below.refl w1.heap.size w1).drew).trans hg
                    (try (have ee : v21 = (.bool true : Value) := hd 21 (by simp) (by decide); subst ee))
                    (try (have ee : v24 = (.bool true : Value) := hd 24 (by simp) (by decide); subst ee))
                    clear hd hg
                    go_wp2
                    exact ⟨_, rfl, Below.refl _ _, rfl⟩
                  (try simp only [List.cons_append, List.nil_append, Act.put, List.setIfInBounds_toArray, List.set_cons_zero, List.set_cons_succ])
                  refine inv_cons (fun wx hg hd => ?_) (fun v26 => ?_)
                  · have hx := ((Below.refl w1.heap.size w1).drew).trans hg
                    (try (have ee : v25 = (.bool true : Value) := hd 25 (by simp) (by decide); subst ee))
                    clear hd hg
                    go_wp2
                    exact ⟨_, rfl, Below.refl _ _, rfl⟩
                  (try simp only [List.cons_append, List.nil_append, Act.put, List.setIfInBounds_toArray, List.set_cons_zero, List.set_cons_succ])
                  refine inv_cons (fun wx hg hd => ?_) (fun v27 => ?_)
                  · have hx := ((Below.refl w1.heap.size w1).drew).trans hg
                    (try (have ee : v26 = (.bool true : Value) := hd 26 (by simp) (by decide); subst ee))
                    clear hd hg
                    go_wp2
                    exact ⟨_, rfl, Below.refl _ _, rfl⟩
                  (try simp only [List.cons_append, List.nil_append, Act.put, List.setIfInBounds_toArray, List.set_cons_zero, List.set_cons_succ])
                  refine inv_cons (fun wx hg hd => ?_) (fun v28 => ?_)
                  · have hx := ((Below.refl w1.heap.size w1).drew).trans hg
                    (try (have ee : v26 = (.bool true : Value) := hd 26 (by simp) (by decide); subst ee))
                    (try (have ee : v27 = (.pointer (some ⟨w.heap.size, 2, none⟩) : Value) := hd 27 (by simp) (by decide); subst ee))
                    clear hd hg
                    obtain ⟨k0, k1, k2, k3⟩ := HT1.out _ hx
                    have hsx : w.heap.size < wx.heap.size := Nat.lt_of_lt_of_le hs hx.size
                    go_wp2
                    exact ⟨_, rfl, Below.refl _ _, rfl⟩
                  (try simp only [List.cons_append, List.nil_append, Act.put, List.setIfInBounds_toArray, List.set_cons_zero, List.set_cons_succ])
                  refine inv_cons (fun wx hg hd => ?_) (fun v29 => ?_)
                  · have hx := ((Below.refl w1.heap.size w1).drew).trans hg
                    (try (have ee : v26 = (.bool true : Value) := hd 26 (by simp) (by decide); subst ee))
                    clear hd hg
                    go_wp2
                    exact ⟨_, rfl, Below.refl _ _, rfl⟩
                  (try simp only [List.cons_append, List.nil_append, Act.put, List.setIfInBounds_toArray, List.set_cons_zero, List.set_cons_succ])
                  refine inv_cons (fun wx hg hd => ?_) (fun v30 => ?_)
                  · have hx := ((Below.refl w1.heap.size w1).drew).trans hg
                    (try (have ee : v26 = (.bool true : Value) := hd 26 (by simp) (by decide); subst ee))
                    (try (have ee : v29 = (.pointer (some ⟨w.heap.size, 0, none⟩) : Value) := hd 29 (by simp) (by decide); subst ee))
                    clear hd hg
                    obtain ⟨k0, k1, k2, k3⟩ := HT1.out _ hx
                    have hsx : w.heap.size < wx.heap.size := Nat.lt_of_lt_of_le hs hx.size
                    go_wp2
                    exact ⟨_, rfl, Below.refl _ _, rfl⟩
                  (try simp only [List.cons_append, List.nil_append, Act.put, List.setIfInBounds_toArray, List.set_cons_zero, List.set_cons_succ])
                  refine inv_cons (fun wx hg hd => ?_) (fun v31 => ?_)
                  · have hx := ((Below.refl w1.heap.size w1).drew).trans hg
                    (try (have ee : v26 = (.bool true : Value) := hd 26 (by simp) (by decide); subst ee))
                    (try (have ee : v30 = (.int .i64 z : Value) := hd 30 (by simp) (by decide); subst ee))
                    clear hd hg
                    go_wp2_with fail
                    refine (HSH.out _).mono ?_
                    rintro e w' ⟨rfl, hb⟩
                    go_wp2
                    exact ⟨_, rfl, hb, rfl⟩
                  (try simp only [List.cons_append, List.nil_append, Act.put, List.setIfInBounds_toArray, List.set_cons_zero, List.set_cons_succ])
                  refine inv_cons (fun wx hg hd => ?_) (fun v32 => ?_)
                  · have hx := ((Below.refl w1.heap.size w1).drew).trans hg
                    (try (have ee : v26 = (.bool true : Value) := hd 26 (by simp) (by decide); subst ee))
                    (try (have ee : v28 = (.int .i64 y : Value) := hd 28 (by simp) (by decide); subst ee))
                    (try (have ee : v31 = (.int .i64 P : Value) := hd 31 (by simp) (by decide); subst ee))
                    clear hd hg
                    go_wp2
                    exact ⟨_, rfl, Below.refl _ _, rfl⟩
                  (try simp only [List.cons_append, List.nil_append, Act.put, List.setIfInBounds_toArray, List.set_cons_zero, List.set_cons_succ])
                  refine inv_cons (fun wx hg hd => ?_) (fun v33 => ?_)
                  · have hx := ((Below.refl w1.heap.size w1).drew).trans hg
                    (try (have ee : v26 = (.bool true : Value) := hd 26 (by simp) (by decide); subst ee))
                    (try (have ee : v32 = (.bool true : Value) := hd 32 (by simp) (by decide); subst ee))
                    clear hd hg
                    go_wp2
                    exact ⟨_, rfl, Below.refl _ _, rfl⟩
                  (try simp only [List.cons_append, List.nil_append, Act.put, List.setIfInBounds_toArray, List.set_cons_zero, List.set_cons_succ])
                  refine inv_cons (fun wx hg hd => ?_) (fun v34 => ?_)
                  · have hx := ((Below.refl w1.heap.size w1).drew).trans hg
                    (try (have ee : v33 = (.bool true : Value) := hd 33 (by simp) (by decide); subst ee))
                    clear hd hg
                    go_wp2
                    exact ⟨_, rfl, Below.refl _ _, rfl⟩
                  (try simp only [List.cons_append, List.nil_append, Act.put, List.setIfInBounds_toArray, List.set_cons_zero, List.set_cons_succ])
                  refine inv_cons (fun wx hg hd => ?_) (fun v35 => ?_)
                  · have hx := ((Below.refl w1.heap.size w1).drew).trans hg
                    (try (have ee : v34 = (.bool true : Value) := hd 34 (by simp) (by decide); subst ee))
                    clear hd hg
                    go_wp2
                    exact ⟨_, rfl, Below.refl _ _, rfl⟩
                  (try simp only [List.cons_append, List.nil_append, Act.put, List.setIfInBounds_toArray, List.set_cons_zero, List.set_cons_succ])
                  refine inv_cons (fun wx hg hd => ?_) (fun v36 => ?_)
                  · have hx := ((Below.refl w1.heap.size w1).drew).trans hg
                    (try (have ee : v34 = (.bool true : Value) := hd 34 (by simp) (by decide); subst ee))
                    (try (have ee : v35 = (.pointer (some ⟨w.heap.size, 3, none⟩) : Value) := hd 35 (by simp) (by decide); subst ee))
                    clear hd hg
                    obtain ⟨k0, k1, k2, k3⟩ := HT1.out _ hx
                    have hsx : w.heap.size < wx.heap.size := Nat.lt_of_lt_of_le hs hx.size
                    go_wp2
                    exact ⟨_, rfl, Below.refl _ _, rfl⟩
                  (try simp only [List.cons_append, List.nil_append, Act.put, List.setIfInBounds_toArray, List.set_cons_zero, List.set_cons_succ])
                  refine inv_cons (fun wx hg hd => ?_) (fun v37 => ?_)
                  · have hx := ((Below.refl w1.heap.size w1).drew).trans hg
                    (try (have ee : v34 = (.bool true : Value) := hd 34 (by simp) (by decide); subst ee))
                    (try (have ee : v36 = (.int .i64 r : Value) := hd 36 (by simp) (by decide); subst ee))
                    clear hd hg
                    go_wp2
                    exact ⟨_, rfl, Below.refl _ _, rfl⟩
                  (try simp only [List.cons_append, List.nil_append, Act.put, List.setIfInBounds_toArray, List.set_cons_zero, List.set_cons_succ])
                  refine inv_cons (fun wx hg hd => ?_) (fun v38 => ?_)
                  · have hx := ((Below.refl w1.heap.size w1).drew).trans hg
                    (try (have ee : v34 = (.bool true : Value) := hd 34 (by simp) (by decide); subst ee))
                    (try (have ee : v37 = (.bool true : Value) := hd 37 (by simp) (by decide); subst ee))
                    clear hd hg
                    go_wp2
                    exact ⟨_, rfl, Below.refl _ _, rfl⟩
                  (try simp only [List.cons_append, List.nil_append, Act.put, List.setIfInBounds_toArray, List.set_cons_zero, List.set_cons_succ])
                  refine inv_cons (fun wx hg hd => ?_) (fun v39 => ?_)
                  · have hx := ((Below.refl w1.heap.size w1).drew).trans hg
                    (try (have ee : v38 = (.bool true : Value) := hd 38 (by simp) (by decide); subst ee))
                    clear hd hg
                    go_wp2
                    exact ⟨_, rfl, Below.refl _ _, rfl⟩
                  (try simp only [List.cons_append, List.nil_append, Act.put, List.setIfInBounds_toArray, List.set_cons_zero, List.set_cons_succ])
                  refine inv_cons (fun wx hg hd => ?_) (fun v40 => ?_)
                  · have hx := ((Below.refl w1.heap.size w1).drew).trans hg
                    (try (have ee : v39 = (.bool true : Value) := hd 39 (by simp) (by decide); subst ee))
                    clear hd hg
                    go_wp2
                    exact ⟨_, rfl, Below.refl _ _, rfl⟩
                  (try simp only [List.cons_append, List.nil_append, Act.put, List.setIfInBounds_toArray, List.set_cons_zero, List.set_cons_succ])
                  refine inv_cons (fun wx hg hd => ?_) (fun v41 => ?_)
                  · have hx := ((Below.refl w1.heap.size w1).drew).trans hg
                    (try (have ee : v39 = (.bool true : Value) := hd 39 (by simp) (by decide); subst ee))
                    (try (have ee : v40 = (.pointer (some ⟨w.heap.size, 3, none⟩) : Value) := hd 40 (by simp) (by decide); subst ee))
                    clear hd hg
                    obtain ⟨k0, k1, k2, k3⟩ := HT1.out _ hx
                    have hsx : w.heap.size < wx.heap.size := Nat.lt_of_lt_of_le hs hx.size
                    go_wp2
                    exact ⟨_, rfl, Below.refl _ _, rfl⟩
                  (try simp only [List.cons_append, List.nil_append, Act.put, List.setIfInBounds_toArray, List.set_cons_zero, List.set_cons_succ])
                  refine inv_cons (fun wx hg hd => ?_) (fun v42 => ?_)
                  · have hx := ((Below.refl w1.heap.size w1).drew).trans hg
                    (try (have ee : v39 = (.bool true : Value) := hd 39 (by simp) (by decide); subst ee))
                    (try (have ee : v41 = (.int .i64 r : Value) := hd 41 (by simp) (by decide); subst ee))
                    clear hd hg
                    go_wp2
                    exact ⟨_, rfl, Below.refl _ _, rfl⟩
                  (try simp only [List.cons_append, List.nil_append, Act.put, List.setIfInBounds_toArray, List.set_cons_zero, List.set_cons_succ])
                  refine inv_cons (fun wx hg hd => ?_) (fun v43 => ?_)
                  · have hx := ((Below.refl w1.heap.size w1).drew).trans hg
                    (try (have ee : v39 = (.bool true : Value) := hd 39 (by simp) (by decide); subst ee))
                    (try (have ee : v42 = (.bool true : Value) := hd 42 (by simp) (by decide); subst ee))
                    clear hd hg
                    go_wp2
                    exact ⟨_, rfl, Below.refl _ _, rfl⟩
                  (try simp only [List.cons_append, List.nil_append, Act.put, List.setIfInBounds_toArray, List.set_cons_zero, List.set_cons_succ])
                  refine inv_cons (fun wx hg hd => ?_) (fun v44 => ?_)
                  · have hx := ((Below.refl w1.heap.size w1).drew).trans hg
                    (try (have ee : v43 = (.bool true : Value) := hd 43 (by simp) (by decide); subst ee))
                    clear hd hg
                    go_wp2
                    exact ⟨_, rfl, Below.refl _ _, rfl⟩
                  (try simp only [List.cons_append, List.nil_append, Act.put, List.setIfInBounds_toArray, List.set_cons_zero, List.set_cons_succ])
                  refine inv_done (fun wx hg hd => ?_)
                  have hx := ((Below.refl w1.heap.size w1).drew).trans hg
                  (have ee : v0 = (.pointer (some ⟨w.heap.size, 0, none⟩) : Value) := hd 0 (by simp); subst ee)
                  (have ee : v1 = (.int .i64 z : Value) := hd 1 (by simp); subst ee)
                  (have ee : v2 = (.bool true : Value) := hd 2 (by simp); subst ee)
                  (have ee : v3 = (.bool true : Value) := hd 3 (by simp); subst ee)
                  (have ee : v4 = (.pointer (some ⟨w.heap.size, 0, none⟩) : Value) := hd 4 (by simp); subst ee)
                  (have ee : v5 = (.int .i64 z : Value) := hd 5 (by simp); subst ee)
                  (have ee : v6 = (.bool true : Value) := hd 6 (by simp); subst ee)
                  (have ee : v7 = (.bool true : Value) := hd 7 (by simp); subst ee)
                  (have ee : v8 = (.bool true : Value) := hd 8 (by simp); subst ee)
                  (have ee : v9 = (.pointer (some ⟨w.heap.size, 1, none⟩) : Value) := hd 9 (by simp); subst ee)
                  (have ee : v10 = (.int .i64 x : Value) := hd 10 (by simp); subst ee)
                  (have ee : v11 = (.bool true : Value) := hd 11 (by simp); subst ee)
                  (have ee : v12 = (.bool true : Value) := hd 12 (by simp); subst ee)
                  (have ee : v13 = (.bool true : Value) := hd 13 (by simp); subst ee)
                  (have ee : v14 = (.pointer (some ⟨w.heap.size, 1, none⟩) : Value) := hd 14 (by simp); subst ee)
                  (have ee : v15 = (.int .i64 x : Value) := hd 15 (by simp); subst ee)
                  (have ee : v16 = (.pointer (some ⟨w.heap.size, 0, none⟩) : Value) := hd 16 (by simp); subst ee)
                  (have ee : v17 = (.int .i64 z : Value) := hd 17 (by simp); subst ee)
                  (have ee : v18 = (.int .i64 P : Value) := hd 18 (by simp); subst ee)
                  (have ee : v19 = (.bool true : Value) := hd 19 (by simp); subst ee)
                  (have ee : v20 = (.bool true : Value) := hd 20 (by simp); subst ee)
                  (have ee : v21 = (.bool true : Value) := hd 21 (by simp); subst ee)
                  (have ee : v22 = (.pointer (some ⟨w.heap.size, 2, none⟩) : Value) := hd 22 (by simp); subst ee)
                  (have ee : v23 = (.int .i64 y : Value) := hd 23 (by simp); subst ee)
                  (have ee : v24 = (.bool true : Value) := hd 24 (by simp); subst ee)
                  (have ee : v25 = (.bool true : Value) := hd 25 (by simp); subst ee)
                  (have ee : v26 = (.bool true : Value) := hd 26 (by simp); subst ee)
                  (have ee : v27 = (.pointer (some ⟨w.heap.size, 2, none⟩) : Value) := hd 27 (by simp); subst ee)
                  (have ee : v28 = (.int .i64 y : Value) := hd 28 (by simp); subst ee)
                  (have ee : v29 = (.pointer (some ⟨w.heap.size, 0, none⟩) : Value) := hd 29 (by simp); subst ee)
                  (have ee : v30 = (.int .i64 z : Value) := hd 30 (by simp); subst ee)
                  (have ee : v31 = (.int .i64 P : Value) := hd 31 (by simp); subst ee)
                  (have ee : v32 = (.bool true : Value) := hd 32 (by simp); subst ee)
                  (have ee : v33 = (.bool true : Value) := hd 33 (by simp); subst ee)
                  (have ee : v34 = (.bool true : Value) := hd 34 (by simp); subst ee)
                  (have ee : v35 = (.pointer (some ⟨w.heap.size, 3, none⟩) : Value) := hd 35 (by simp); subst ee)
                  (have ee : v36 = (.int .i64 r : Value) := hd 36 (by simp); subst ee)
                  (have ee : v37 = (.bool true : Value) := hd 37 (by simp); subst ee)
                  (have ee : v38 = (.bool true : Value) := hd 38 (by simp); subst ee)
                  (have ee : v39 = (.bool true : Value) := hd 39 (by simp); subst ee)
                  (have ee : v40 = (.pointer (some ⟨w.heap.size, 3, none⟩) : Value) := hd 40 (by simp); subst ee)
                  (have ee : v41 = (.int .i64 r : Value) := hd 41 (by simp); subst ee)
                  (have ee : v42 = (.bool true : Value) := hd 42 (by simp); subst ee)
                  (have ee : v43 = (.bool true : Value) := hd 43 (by simp); subst ee)
                  (have ee : v44 = (.bool true : Value) := hd 44 (by simp); subst ee)
                  clear hd hg
                  (try go_simp)
                  go_wp2
                  go_ret
                  exact ⟨by rw [HR.out]; rfl, HB.out.trans (hx.mono HB.out.size)⟩
                · have HR : Hid (res = false) := by show _ = _; rw [HI.out, decide_eq_false g8]; simp
                  have q8 : decide (r ≤ 12) = false := decide_eq_false g8
                  have HSH := Lib.hid (HP.out g1 g2)
                  clear HP
                  clear HI
                  go_enter Tryz.func37, Tryz.ntmps37
                  go_upto_region 1 with (rw [HW1.out])
                  first | rw [HW1.out] | skip
                  refine wp_region_inv (fun w w' => Below w.heap.size w w') (fun qi_ qv_ _ => qv_ = ([.pointer (some ⟨w.heap.size, 0, none⟩), .int .i64 z, .bool true, .bool true, .pointer (some ⟨w.heap.size, 0, none⟩), .int .i64 z, .bool true, .bool true, .bool true, .pointer (some ⟨w.heap.size, 1, none⟩), .int .i64 x, .bool true, .bool true, .bool true, .pointer (some ⟨w.heap.size, 1, none⟩), .int .i64 x, .pointer (some ⟨w.heap.size, 0, none⟩), .int .i64 z, .int .i64 P, .bool true, .bool true, .bool true, .pointer (some ⟨w.heap.size, 2, none⟩), .int .i64 y, .bool true, .bool true, .bool true, .pointer (some ⟨w.heap.size, 2, none⟩), .int .i64 y, .pointer (some ⟨w.heap.size, 0, none⟩), .int .i64 z, .int .i64 P, .bool true, .bool true, .bool true, .pointer (some ⟨w.heap.size, 3, none⟩), .int .i64 r, .bool true, .bool true, .bool true, .pointer (some ⟨w.heap.size, 3, none⟩), .int .i64 r, .bool false, .bool false, .bool false] : List Value).getD qi_ undef) (by kernel_rfl) (by kernel_rfl) (fun _ => Below.refl _ _) (fun _ _ _ h1 h2 => below_later h1 h1.size h2) (fun _ _ _ _ _ _ h => h) ?_
                  refine inv_cons (fun wx hg hd => ?_) (fun v0 => ?_)
                  · have hx := ((Below.refl w1.heap.size w1).drew).trans hg
                    clear hd hg
                    go_wp2
                    exact ⟨_, rfl, Below.refl _ _, rfl⟩
                  (try simp only [List.nil_append, Act.put, List.setIfInBounds_toArray, List.set_cons_zero, List.set_cons_succ])
                  refine inv_cons (fun wx hg hd => ?_) (fun v1 => ?_)
                  · have hx := ((Below.refl w1.heap.size w1).drew).trans hg
                    (try (have ee : v0 = (.pointer (some ⟨w.heap.size, 0, none⟩) : Value) := hd 0 (by simp) (by decide); subst ee))
                    clear hd hg
                    obtain ⟨k0, k1, k2, k3⟩ := HT1.out _ hx
                    have hsx : w.heap.size < wx.heap.size := Nat.lt_of_lt_of_le hs hx.size
                    go_wp2
                    exact ⟨_, rfl, Below.refl _ _, rfl⟩
                  (try simp only [List.cons_append, List.nil_append, Act.put, List.setIfInBounds_toArray, List.set_cons_zero, List.set_cons_succ])
                  refine inv_cons (fun wx hg hd => ?_) (fun v2 => ?_)
                  · have hx := ((Below.refl w1.heap.size w1).drew).trans hg
                    (try (have ee : v1 = (.int .i64 z : Value) := hd 1 (by simp) (by decide); subst ee))
                    clear hd hg
                    go_wp2
                    exact ⟨_, rfl, Below.refl _ _, rfl⟩
                  (try simp only [List.cons_append, List.nil_append, Act.put, List.setIfInBounds_toArray, List.set_cons_zero, List.set_cons_succ])
                  refine inv_cons (fun wx hg hd => ?_) (fun v3 => ?_)
                  · have hx := ((Below.refl w1.heap.size w1).drew).trans hg
                    (try (have ee : v2 = (.bool true : Value) := hd 2 (by simp) (by decide); subst ee))
                    clear hd hg
                    go_wp2
                    exact ⟨_, rfl, Below.refl _ _, rfl⟩
                  (try simp only [List.cons_append, List.nil_append, Act.put, List.setIfInBounds_toArray, List.set_cons_zero, List.set_cons_succ])
                  refine inv_cons (fun wx hg hd => ?_) (fun v4 => ?_)
                  · have hx := ((Below.refl w1.heap.size w1).drew).trans hg
                    (try (have ee : v3 = (.bool true : Value) := hd 3 (by simp) (by decide); subst ee))
                    clear hd hg
                    go_wp2
                    exact ⟨_, rfl, Below.refl _ _, rfl⟩
                  (try simp only [List.cons_append, List.nil_append, Act.put, List.setIfInBounds_toArray, List.set_cons_zero, List.set_cons_succ])
                  refine inv_cons (fun wx hg hd => ?_) (fun v5 => ?_)
                  · have hx := ((Below.refl w1.heap.size w1).drew).trans hg
                    (try (have ee : v3 = (.bool true : Value) := hd 3 (by simp) (by decide); subst ee))
                    (try (have ee : v4 = (.pointer (some ⟨w.heap.size, 0, none⟩) : Value) := hd 4 (by simp) (by decide); subst ee))
                    clear hd hg
                    obtain ⟨k0, k1, k2, k3⟩ := HT1.out _ hx
                    have hsx : w.heap.size < wx.heap.size := Nat.lt_of_lt_of_le hs hx.size
                    go_wp2
                    exact ⟨_, rfl, Below.refl _ _, rfl⟩
                  (try simp only [List.cons_append, List.nil_append, Act.put, List.setIfInBounds_toArray, List.set_cons_zero, List.set_cons_succ])
                  refine inv_cons (fun wx hg hd => ?_) (fun v6 => ?_)
                  · have hx := ((Below.refl w1.heap.size w1).drew).trans hg
                    (try (have ee : v3 = (.bool true : Value) := hd 3 (by simp) (by decide); subst ee))
                    (try (have ee : v5 = (.int .i64 z : Value) := hd 5 (by simp) (by decide); subst ee))
                    clear hd hg
                    go_wp2
                    exact ⟨_, rfl, Below.refl _ _, rfl⟩
                  (try simp only [List.cons_append, List.nil_append, Act.put, List.setIfInBounds_toArray, List.set_cons_zero, List.set_cons_succ])
                  refine inv_cons (fun wx hg hd => ?_) (fun v7 => ?_)
                  · have hx := ((Below.refl w1.heap.size w1).drew).trans hg
                    (try (have ee : v3 = (.bool true : Value) := hd 3 (by simp) (by decide); subst ee))
                    (try (have ee : v6 = (.bool true : Value) := hd 6 (by simp) (by decide); subst ee))
                    clear hd hg
                    go_wp2
                    exact ⟨_, rfl, Below.refl _ _, rfl⟩
                  (try simp only [List.cons_append, List.nil_append, Act.put, List.setIfInBounds_toArray, List.set_cons_zero, List.set_cons_succ])
                  refine inv_cons (fun wx hg hd => ?_) (fun v8 => ?_)
                  · have hx := ((Below.refl w1.heap.size w1).drew).trans hg
                    (try (have ee : v7 = (.bool true : Value) := hd 7 (by simp) (by decide); subst ee))
                    clear hd hg
                    go_wp2
                    exact ⟨_, rfl, Below.refl _ _, rfl⟩
                  (try simp only [List.cons_append, List.nil_append, Act.put, List.setIfInBounds_toArray, List.set_cons_zero, List.set_cons_succ])
                  refine inv_cons (fun wx hg hd => ?_) (fun v9 => ?_)
                  · have hx := ((Below.refl w1.heap.size w1).drew).trans hg
                    (try (have ee : v8 = (.bool true : Value) := hd 8 (by simp) (by decide); subst ee))
                    clear hd hg
                    go_wp2
                    exact ⟨_, rfl, Below.refl _ _, rfl⟩
                  (try simp only [List.cons_append, List.nil_append, Act.put, List.setIfInBounds_toArray, List.set_cons_zero, List.set_cons_succ])
                  refine inv_cons (fun wx hg hd => ?_) (fun v10 => ?_)
                  · have hx := ((Below.refl w1.heap.size w1).drew).trans hg
                    (try (have ee : v8 = (.bool true : Value) := hd 8 (by simp) (by decide); subst ee))
                    (try (have ee : v9 = (.pointer (some ⟨w.heap.size, 1, none⟩) : Value) := hd 9 (by simp) (by decide); subst ee))
                    clear hd hg
                    obtain ⟨k0, k1, k2, k3⟩ := HT1.out _ hx
                    have hsx : w.heap.size < wx.heap.size := Nat.lt_of_lt_of_le hs hx.size
                    go_wp2
                    exact ⟨_, rfl, Below.refl _ _, rfl⟩
                  (try simp only [List.cons_append, List.nil_append, Act.put, List.setIfInBounds_toArray, List.set_cons_zero, List.set_cons_succ])
                  refine inv_cons (fun wx hg hd => ?_) (fun v11 => ?_)
                  · have hx := ((Below.refl w1.heap.size w1).drew).trans hg
                    (try (have ee : v8 = (.bool true : Value) := hd 8 (by simp) (by decide); subst ee))
                    (try (have ee : v10 = (.int .i64 x : Value) := hd 10 (by simp) (by decide); subst ee))
                    clear hd hg
                    go_wp2
                    exact ⟨_, rfl, Below.refl _ _, rfl⟩
                  (try simp only [List.cons_append, List.nil_append, Act.put, List.setIfInBounds_toArray, List.set_cons_zero, List.set_cons_succ])
                  refine inv_cons (fun wx hg hd => ?_) (fun v12 => ?_)
                  · have hx := ((Below.refl w1.heap.size w1).drew).trans hg
                    (try (have ee : v8 = (.bool true : Value) := hd 8 (by simp) (by decide); subst ee))
                    (try (have ee : v11 = (.bool true : Value) := hd 11 (by simp) (by decide); subst ee))
                    clear hd hg
                    go_wp2
                    exact ⟨_, rfl, Below.refl _ _, rfl⟩
                  (try simp only [List.cons_append, List.nil_append, Act.put, List.setIfInBounds_toArray, List.set_cons_zero, List.set_cons_succ])
                  refine inv_cons (fun wx hg hd => ?_) (fun v13 => ?_)
                  · have hx := ((Below.refl w1.heap.size w1).drew).trans hg
                    (try (have ee : v12 = (.bool true : Value) := hd 12 (by simp) (by decide); subst ee))
                    clear hd hg
                    go_wp2
                    exact ⟨_, rfl, Below.refl _ _, rfl⟩
                  (try simp only [List.cons_append, List.nil_append, Act.put, List.setIfInBounds_toArray, List.set_cons_zero, List.set_cons_succ])
                  refine inv_cons (fun wx hg hd => ?_) (fun v14 => ?_)
                  · have hx := ((Below.refl w1.heap.size w1).drew).trans hg
                    (try (have ee : v13 = (.bool true : Value) := hd 13 (by simp) (by decide); subst ee))
                    clear hd hg
                    go_wp2
                    exact ⟨_, rfl, Below.refl _ _, rfl⟩
                  (try simp only [List.cons_append, List.nil_append, Act.put, List.setIfInBounds_toArray, List.set_cons_zero, List.set_cons_succ])
                  refine inv_cons (fun wx hg hd => ?_) (fun v15 => ?_)
                  · have hx := ((Below.refl w1.heap.size w1).drew).trans hg
                    (try (have ee : v13 = (.bool true : Value) := hd 13 (by simp) (by decide); subst ee))
                    (try (have ee : v14 = (.pointer (some ⟨w.heap.size, 1, none⟩) : Value) := hd 14 (by simp) (by decide); subst ee))
                    clear hd hg
                    obtain ⟨k0, k1, k2, k3⟩ := HT1.out _ hx
                    have hsx : w.heap.size < wx.heap.size := Nat.lt_of_lt_of_le hs hx.size
                    go_wp2
                    exact ⟨_, rfl, Below.refl _ _, rfl⟩
                  (try simp only [List.cons_append, List.nil_append, Act.put, List.setIfInBounds_toArray, List.set_cons_zero, List.set_cons_succ])
                  refine inv_cons (fun wx hg hd => ?_) (fun v16 => ?_)
                  · have hx := ((Below.refl w1.heap.size w1).drew).trans hg
                    (try (have ee : v13 = (.bool true : Value) := hd 13 (by simp) (by decide); subst ee))
                    clear hd hg
                    go_wp2
                    exact ⟨_, rfl, Below.refl _ _, rfl⟩
                  (try simp only [List.cons_append, List.nil_append, Act.put, List.setIfInBounds_toArray, List.set_cons_zero, List.set_cons_succ])
                  refine inv_cons (fun wx hg hd => ?_) (fun v17 => ?_)
                  · have hx := ((Below.refl w1.heap.size w1).drew).trans hg
                    (try (have ee : v13 = (.bool true : Value) := hd 13 (by simp) (by decide); subst ee))
                    (try (have ee : v16 = (.pointer (some ⟨w.heap.size, 0, none⟩) : Value) := hd 16 (by simp) (by decide); subst ee))
                    clear hd hg
                    obtain ⟨k0, k1, k2, k3⟩ := HT1.out _ hx
                    have hsx : w.heap.size < wx.heap.size := Nat.lt_of_lt_of_le hs hx.size
                    go_wp2
                    exact ⟨_, rfl, Below.refl _ _, rfl⟩
                  (try simp only [List.cons_append, List.nil_append, Act.put, List.setIfInBounds_toArray, List.set_cons_zero, List.set_cons_succ])
                  refine inv_cons (fun wx hg hd => ?_) (fun v18 => ?_)
                  · have hx := ((Below.refl w1.heap.size w1).drew).trans hg
                    (try (have ee : v13 = (.bool true : Value) := hd 13 (by simp) (by decide); subst ee))
                    (try (have ee : v17 = (.int .i64 z : Value) := hd 17 (by simp) (by decide); subst ee))
                    clear hd hg
                    go_wp2_with fail
                    refine (HSH.out _).mono ?_
                    rintro e w' ⟨rfl, hb⟩
                    go_wp2
                    exact ⟨_, rfl, hb, rfl⟩
                  (try simp only [List.cons_append, List.nil_append, Act.put, List.setIfInBounds_toArray, List.set_cons_zero, List.set_cons_succ])
                  refine inv_cons (fun wx hg hd => ?_) (fun v19 => ?_)
                  · have hx := ((Below.refl w1.heap.size w1).drew).trans hg
                    (try (have ee : v13 = (.bool true : Value) := hd 13 (by simp) (by decide); subst ee))
                    (try (have ee : v15 = (.int .i64 x : Value) := hd 15 (by simp) (by decide); subst ee))
                    (try (have ee : v18 = (.int .i64 P : Value) := hd 18 (by simp) (by decide); subst ee))
                    clear hd hg
                    go_wp2
                    exact ⟨_, rfl, Below.refl _ _, rfl⟩
                  (try simp only [List.cons_append, List.nil_append, Act.put, List.setIfInBounds_toArray, List.set_cons_zero, List.set_cons_succ])
                  refine inv_cons (fun wx hg hd => ?_) (fun v20 => ?_)
                  · have hx := ((Below.refl w1.heap.size w1).drew).trans hg
                    (try (have ee : v13 = (.bool true : Value) := hd 13 (by simp) (by decide); subst ee))
                    (try (have ee : v19 = (.bool true : Value) := hd 19 (by simp) (by decide); subst ee))
                    clear hd hg
                    go_wp2
                    exact ⟨_, rfl, Below.refl _ _, rfl⟩
                  (try simp only [List.cons_append, List.nil_append, Act.put, List.setIfInBounds_toArray, List.set_cons_zero, List.set_cons_succ])
                  refine inv_cons (fun wx hg hd => ?_) (fun v21 => ?_)
                  · have hx := ((Below.refl w1.heap.size w1).drew).trans hg
                    (try (have ee : v20 = (.bool true : Value) := hd 20 (by simp) (by decide); subst ee))
                    clear hd hg
                    go_wp2
                    exact ⟨_, rfl, Below.refl _ _, rfl⟩
                  (try simp only [List.cons_append, List.nil_append, Act.put, List.setIfInBounds_toArray, List.set_cons_zero, List.set_cons_succ])
                  refine inv_cons (fun wx hg hd => ?_) (fun v22 => ?_)
                  · have hx := ((Below.refl w1.heap.size w1).drew).trans hg
                    (try (have ee : v21 = (.bool true : Value) := hd 21 (by simp) (by decide); subst ee))
                    clear hd hg
                    go_wp2
                    exact ⟨_, rfl, Below.refl _ _, rfl⟩
                  (try simp only [List.cons_append, List.nil_append, Act.put, List.setIfInBounds_toArray, List.set_cons_zero, List.set_cons_succ])
                  refine inv_cons (fun wx hg hd => ?_) (fun v23 => ?_)
                  · have hx := ((Below.refl w1.heap.size w1).drew).trans hg
                    (try (have ee : v21 = (.bool true : Value) := hd 21 (by simp) (by decide); subst ee))
                    (try (have ee : v22 = (.pointer (some ⟨w.heap.size, 2, none⟩) : Value) := hd 22 (by simp) (by decide); subst ee))
                    clear hd hg
                    obtain ⟨k0, k1, k2, k3⟩ := HT1.out _ hx
                    have hsx : w.heap.size < wx.heap.size := Nat.lt_of_lt_of_le hs hx.size
                    go_wp2
                    exact ⟨_, rfl, Below.refl _ _, rfl⟩
                  (try simp only [List.cons_append, List.nil_append, Act.put, List.setIfInBounds_toArray, List.set_cons_zero, List.set_cons_succ])
                  refine inv_cons (fun wx hg hd => ?_) (fun v24 => ?_)
                  · have hx := ((Below.refl w1.heap.size w1).drew).trans hg
                    (try (have ee : v21 = (.bool true : Value) := hd 21 (by simp) (by decide); subst ee))
                    (try (have ee : v23 = (.int .i64 y : Value) := hd 23 (by simp) (by decide); subst ee))
                    clear hd hg
                    go_wp2
                    exact ⟨_, rfl, Below.refl _ _, rfl⟩
                  (try simp only [List.cons_append, List.nil_append, Act.put, List.setIfInBounds_toArray, List.set_cons_zero, List.set_cons_succ])
                  refine inv_cons (fun wx hg hd => ?_) (fun v25 => ?_)
                  · have hx := ((Below.refl w1.heap.size w1).drew).trans hg
                    (try (have ee : v21 = (.bool true : Value) := hd 21 (by simp) (by decide); subst ee))
                    (try (have ee : v24 = (.bool true : Value) := hd 24 (by simp) (by decide); subst ee))
                    clear hd hg
                    go_wp2
                    exact ⟨_, rfl, Below.refl _ _, rfl⟩
                  (try simp only [List.cons_append, List.nil_append, Act.put, List.setIfInBounds_toArray, List.set_cons_zero, List.set_cons_succ])
                  refine inv_cons (fun wx hg hd => ?_) (fun v26 => ?_)
                  · have hx := ((Below.refl w1.heap.size w1).drew).trans hg
                    (try (have ee : v25 = (.bool true : Value) := hd 25 (by simp) (by decide); subst ee))
                    clear hd hg
                    go_wp2
                    exact ⟨_, rfl, Below.refl _ _, rfl⟩
                  (try simp only [List.cons_append, List.nil_append, Act.put, List.setIfInBounds_toArray, List.set_cons_zero, List.set_cons_succ])
                  refine inv_cons (fun wx hg hd => ?_) (fun v27 => ?_)
                  · have hx := ((Below.refl w1.heap.size w1).drew).trans hg
                    (try (have ee : v26 = (.bool true : Value) := hd 26 (by simp) (by decide); subst ee))
                    clear hd hg
                    go_wp2
                    exact ⟨_, rfl, Below.refl _ _, rfl⟩
                  (try simp only [List.cons_append, List.nil_append, Act.put, List.setIfInBounds_toArray, List.set_cons_zero, List.set_cons_succ])
                  refine inv_cons (fun wx hg hd => ?_) (fun v28 => ?_)
                  · have hx := ((Below.refl w1.heap.size w1).drew).trans hg
                    (try (have ee : v26 = (.bool true : Value) := hd 26 (by simp) (by decide); subst ee))
                    (try (have ee : v27 = (.pointer (some ⟨w.heap.size, 2, none⟩) : Value) := hd 27 (by simp) (by decide); subst ee))
                    clear hd hg
                    obtain ⟨k0, k1, k2, k3⟩ := HT1.out _ hx
                    have hsx : w.heap.size < wx.heap.size := Nat.lt_of_lt_of_le hs hx.size
                    go_wp2
                    exact ⟨_, rfl, Below.refl _ _, rfl⟩
                  (try simp only [List.cons_append, List.nil_append, Act.put, List.setIfInBounds_toArray, List.set_cons_zero, List.set_cons_succ])
                  refine inv_cons (fun wx hg hd => ?_) (fun v29 => ?_)
                  · have hx := ((Below.refl w1.heap.size w1).drew).trans hg
                    (try (have ee : v26 = (.bool true : Value) := hd 26 (by simp) (by decide); subst ee))
                    clear hd hg
                    go_wp2
                    exact ⟨_, rfl, Below.refl _ _, rfl⟩
                  (try simp only [List.cons_append, List.nil_append, Act.put, List.setIfInBounds_toArray, List.set_cons_zero, List.set_cons_succ])
                  refine inv_cons (fun wx hg hd => ?_) (fun v30 => ?_)
                  · have hx := ((Below.refl w1.heap.size w1).drew).trans hg
                    (try (have ee : v26 = (.bool true : Value) := hd 26 (by simp) (by decide); subst ee))
                    (try (have ee : v29 = (.pointer (some ⟨w.heap.size, 0, none⟩) : Value) := hd 29 (by simp) (by decide); subst ee))
                    clear hd hg
                    obtain ⟨k0, k1, k2, k3⟩ := HT1.out _ hx
                    have hsx : w.heap.size < wx.heap.size := Nat.lt_of_lt_of_le hs hx.size
                    go_wp2
                    exact ⟨_, rfl, Below.refl _ _, rfl⟩
                  (try simp only [List.cons_append, List.nil_append, Act.put, List.setIfInBounds_toArray, List.set_cons_zero, List.set_cons_succ])
                  refine inv_cons (fun wx hg hd => ?_) (fun v31 => ?_)
                  · have hx := ((Below.refl w1.heap.size w1).drew).trans hg
                    (try (have ee : v26 = (.bool true : Value) := hd 26 (by simp) (by decide); subst ee))
                    (try (have ee : v30 = (.int .i64 z : Value) := hd 30 (by simp) (by decide); subst ee))
                    clear hd hg
                    go_wp2_with fail
                    refine (HSH.out _).mono ?_
                    rintro e w' ⟨rfl, hb⟩
                    go_wp2
                    exact ⟨_, rfl, hb, rfl⟩
                  (try simp only [List.cons_append, List.nil_append, Act.put, List.setIfInBounds_toArray, List.set_cons_zero, List.set_cons_succ])
                  refine inv_cons (fun wx hg hd => ?_) (fun v32 => ?_)
                  · have hx := ((Below.refl w1.heap.size w1).drew).trans hg
                    (try (have ee : v26 = (.bool true : Value) := hd 26 (by simp) (by decide); subst ee))
                    (try (have ee : v28 = (.int .i64 y : Value) := hd 28 (by simp) (by decide); subst ee))
                    (try (have ee : v31 = (.int .i64 P : Value) := hd 31 (by simp) (by decide); subst ee))
                    clear hd hg
                    go_wp2
                    exact ⟨_, rfl, Below.refl _ _, rfl⟩
                  (try simp only [List.cons_append, List.nil_append, Act.put, List.setIfInBounds_toArray, List.set_cons_zero, List.set_cons_succ])
                  refine inv_cons (fun wx hg hd => ?_) (fun v33 => ?_)
                  · have hx := ((Below.refl w1.heap.size w1).drew).trans hg
                    (try (have ee : v26 = (.bool true : Value) := hd 26 (by simp) (by decide); subst ee))
                    (try (have ee : v32 = (.bool true : Value) := hd 32 (by simp) (by decide); subst ee))
                    clear hd hg
                    go_wp2
                    exact ⟨_, rfl, Below.refl _ _, rfl⟩
                  (try simp only [List.cons_append, List.nil_append, Act.put, List.setIfInBounds_toArray, List.set_cons_zero, List.set_cons_succ])
                  refine inv_cons (fun wx hg hd => ?_) (fun v34 => ?_)
                  · have hx := ((Below.refl w1.heap.size w1).drew).trans hg
                    (try (have ee : v33 = (.bool true : Value) := hd 33 (by simp) (by decide); subst ee))
                    clear hd hg
                    go_wp2
                    exact ⟨_, rfl, Below.refl _ _, rfl⟩
                  (try simp only [List.cons_append, List.nil_append, Act.put, List.setIfInBounds_toArray, List.set_cons_zero, List.set_cons_succ])
                  refine inv_cons (fun wx hg hd => ?_) (fun v35 => ?_)
                  · have hx := ((Below.refl w1.heap.size w1).drew).trans hg
                    (try (have ee : v34 = (.bool true : Value) := hd 34 (by simp) (by decide); subst ee))
                    clear hd hg
                    go_wp2
                    exact ⟨_, rfl, Below.refl _ _, rfl⟩
                  (try simp only [List.cons_append, List.nil_append, Act.put, List.setIfInBounds_toArray, List.set_cons_zero, List.set_cons_succ])
                  refine inv_cons (fun wx hg hd => ?_) (fun v36 => ?_)
                  · have hx := ((Below.refl w1.heap.size w1).drew).trans hg
                    (try (have ee : v34 = (.bool true : Value) := hd 34 (by simp) (by decide); subst ee))
                    (try (have ee : v35 = (.pointer (some ⟨w.heap.size, 3, none⟩) : Value) := hd 35 (by simp) (by decide); subst ee))
                    clear hd hg
                    obtain ⟨k0, k1, k2, k3⟩ := HT1.out _ hx
                    have hsx : w.heap.size < wx.heap.size := Nat.lt_of_lt_of_le hs hx.size
                    go_wp2
                    exact ⟨_, rfl, Below.refl _ _, rfl⟩
                  (try simp only [List.cons_append, List.nil_append, Act.put, List.setIfInBounds_toArray, List.set_cons_zero, List.set_cons_succ])
                  refine inv_cons (fun wx hg hd => ?_) (fun v37 => ?_)
                  · have hx := ((Below.refl w1.heap.size w1).drew).trans hg
                    (try (have ee : v34 = (.bool true : Value) := hd 34 (by simp) (by decide); subst ee))
                    (try (have ee : v36 = (.int .i64 r : Value) := hd 36 (by simp) (by decide); subst ee))
                    clear hd hg
                    go_wp2
                    exact ⟨_, rfl, Below.refl _ _, rfl⟩
                  (try simp only [List.cons_append, List.nil_append, Act.put, List.setIfInBounds_toArray, List.set_cons_zero, List.set_cons_succ])
                  refine inv_cons (fun wx hg hd => ?_) (fun v38 => ?_)
                  · have hx := ((Below.refl w1.heap.size w1).drew).trans hg
                    (try (have ee : v34 = (.bool true : Value) := hd 34 (by simp) (by decide); subst ee))
                    (try (have ee : v37 = (.bool true : Value) := hd 37 (by simp) (by decide); subst ee))
                    clear hd hg
                    go_wp2
                    exact ⟨_, rfl, Below.refl _ _, rfl⟩
                  (try simp only [List.cons_append, List.nil_append, Act.put, List.setIfInBounds_toArray, List.set_cons_zero, List.set_cons_succ])
                  refine inv_cons (fun wx hg hd => ?_) (fun v39 => ?_)
                  · have hx := ((Below.refl w1.heap.size w1).drew).trans hg
                    (try (have ee : v38 = (.bool true : Value) := hd 38 (by simp) (by decide); subst ee))
                    clear hd hg
                    go_wp2
                    exact ⟨_, rfl, Below.refl _ _, rfl⟩
                  (try simp only [List.cons_append, List.nil_append, Act.put, List.setIfInBounds_toArray, List.set_cons_zero, List.set_cons_succ])
                  refine inv_cons (fun wx hg hd => ?_) (fun v40 => ?_)
                  · have hx := ((Below.refl w1.heap.size w1).drew).trans hg
                    (try (have ee : v39 = (.bool true : Value) := hd 39 (by simp) (by decide); subst ee))
                    clear hd hg
                    go_wp2
                    exact ⟨_, rfl, Below.refl _ _, rfl⟩
                  (try simp only [List.cons_append, List.nil_append, Act.put, List.setIfInBounds_toArray, List.set_cons_zero, List.set_cons_succ])
                  refine inv_cons (fun wx hg hd => ?_) (fun v41 => ?_)
                  · have hx := ((Below.refl w1.heap.size w1).drew).trans hg
                    (try (have ee : v39 = (.bool true : Value) := hd 39 (by simp) (by decide); subst ee))
                    (try (have ee : v40 = (.pointer (some ⟨w.heap.size, 3, none⟩) : Value) := hd 40 (by simp) (by decide); subst ee))
                    clear hd hg
                    obtain ⟨k0, k1, k2, k3⟩ := HT1.out _ hx
                    have hsx : w.heap.size < wx.heap.size := Nat.lt_of_lt_of_le hs hx.size
                    go_wp2
                    exact ⟨_, rfl, Below.refl _ _, rfl⟩
                  (try simp only [List.cons_append, List.nil_append, Act.put, List.setIfInBounds_toArray, List.set_cons_zero, List.set_cons_succ])
                  refine inv_cons (fun wx hg hd => ?_) (fun v42 => ?_)
                  · have hx := ((Below.refl w1.heap.size w1).drew).trans hg
                    (try (have ee : v39 = (.bool true : Value) := hd 39 (by simp) (by decide); subst ee))
                    (try (have ee : v41 = (.int .i64 r : Value) := hd 41 (by simp) (by decide); subst ee))
                    clear hd hg
                    go_wp2
                    exact ⟨_, rfl, Below.refl _ _, rfl⟩
                  (try simp only [List.cons_append, List.nil_append, Act.put, List.setIfInBounds_toArray, List.set_cons_zero, List.set_cons_succ])
                  refine inv_cons (fun wx hg hd => ?_) (fun v43 => ?_)
                  · have hx := ((Below.refl w1.heap.size w1).drew).trans hg
                    (try (have ee : v39 = (.bool true : Value) := hd 39 (by simp) (by decide); subst ee))
                    (try (have ee : v42 = (.bool false : Value) := hd 42 (by simp) (by decide); subst ee))
                    clear hd hg
                    go_wp2
                    exact ⟨_, rfl, Below.refl _ _, rfl⟩
                  (try simp only [List.cons_append, List.nil_append, Act.put, List.setIfInBounds_toArray, List.set_cons_zero, List.set_cons_succ])
                  refine inv_cons (fun wx hg hd => ?_) (fun v44 => ?_)
                  · have hx := ((Below.refl w1.heap.size w1).drew).trans hg
                    (try (have ee : v43 = (.bool false : Value) := hd 43 (by simp) (by decide); subst ee))
                    clear hd hg
                    go_wp2
                    exact ⟨_, rfl, Below.refl _ _, rfl⟩
                  (try simp only [List.cons_append, List.nil_append, Act.put, List.setIfInBounds_toArray, List.set_cons_zero, List.set_cons_succ])
                  refine inv_done (fun wx hg hd => ?_)
                  have hx := ((Below.refl w1.heap.size w1).drew).trans hg
                  (have ee : v0 = (.pointer (some ⟨w.heap.size, 0, none⟩) : Value) := hd 0 (by simp); subst ee)
                  (have ee : v1 = (.int .i64 z : Value) := hd 1 (by simp); subst ee)
                  (have ee : v2 = (.bool true : Value) := hd 2 (by simp); subst ee)
                  (have ee : v3 = (.bool true : Value) := hd 3 (by simp); subst ee)
                  (have ee : v4 = (.pointer (some ⟨w.heap.size, 0, none⟩) : Value) := hd 4 (by simp); subst ee)
                  (have ee : v5 = (.int .i64 z : Value) := hd 5 (by simp); subst ee)
                  (have ee : v6 = (.bool true : Value) := hd 6 (by simp); subst ee)
                  (have ee : v7 = (.bool true : Value) := hd 7 (by simp); subst ee)
                  (have ee : v8 = (.bool true : Value) := hd 8 (by simp); subst ee)
                  (have ee : v9 = (.pointer (some ⟨w.heap.size, 1, none⟩) : Value) := hd 9 (by simp); subst ee)
                  (have ee : v10 = (.int .i64 x : Value) := hd 10 (by simp); subst ee)
                  (have ee : v11 = (.bool true : Value) := hd 11 (by simp); subst ee)
                  (have ee : v12 = (.bool true : Value) := hd 12 (by simp); subst ee)
                  (have ee : v13 = (.bool true : Value) := hd 13 (by simp); subst ee)
                  (have ee : v14 = (.pointer (some ⟨w.heap.size, 1, none⟩) : Value) := hd 14 (by simp); subst ee)
                  (have ee : v15 = (.int .i64 x : Value) := hd 15 (by simp); subst ee)
                  (have ee : v16 = (.pointer (some ⟨w.heap.size, 0, none⟩) : Value) := hd 16 (by simp); subst ee)
                  (have ee : v17 = (.int .i64 z : Value) := hd 17 (by simp); subst ee)
                  (have ee : v18 = (.int .i64 P : Value) := hd 18 (by simp); subst ee)
                  (have ee : v19 = (.bool true : Value) := hd 19 (by simp); subst ee)
                  (have ee : v20 = (.bool true : Value) := hd 20 (by simp); subst ee)
                  (have ee : v21 = (.bool true : Value) := hd 21 (by simp); subst ee)
                  (have ee : v22 = (.pointer (some ⟨w.heap.size, 2, none⟩) : Value) := hd 22 (by simp); subst ee)
                  (have ee : v23 = (.int .i64 y : Value) := hd 23 (by simp); subst ee)
                  (have ee : v24 = (.bool true : Value) := hd 24 (by simp); subst ee)
                  (have ee : v25 = (.bool true : Value) := hd 25 (by simp); subst ee)
                  (have ee : v26 = (.bool true : Value) := hd 26 (by simp); subst ee)
                  (have ee : v27 = (.pointer (some ⟨w.heap.size, 2, none⟩) : Value) := hd 27 (by simp); subst ee)
                  (have ee : v28 = (.int .i64 y : Value) := hd 28 (by simp); subst ee)
                  (have ee : v29 = (.pointer (some ⟨w.heap.size, 0, none⟩) : Value) := hd 29 (by simp); subst ee)
                  (have ee : v30 = (.int .i64 z : Value) := hd 30 (by simp); subst ee)
                  (have ee : v31 = (.int .i64 P : Value) := hd 31 (by simp); subst ee)
                  (have ee : v32 = (.bool true : Value) := hd 32 (by simp); subst ee)
                  (have ee : v33 = (.bool true : Value) := hd 33 (by simp); subst ee)
                  (have ee : v34 = (.bool true : Value) := hd 34 (by simp); subst ee)
                  (have ee : v35 = (.pointer (some ⟨w.heap.size, 3, none⟩) : Value) := hd 35 (by simp); subst ee)
                  (have ee : v36 = (.int .i64 r : Value) := hd 36 (by simp); subst ee)
                  (have ee : v37 = (.bool true : Value) := hd 37 (by simp); subst ee)
                  (have ee : v38 = (.bool true : Value) := hd 38 (by simp); subst ee)
                  (have ee : v39 = (.bool true : Value) := hd 39 (by simp); subst ee)
                  (have ee : v40 = (.pointer (some ⟨w.heap.size, 3, none⟩) : Value) := hd 40 (by simp); subst ee)
                  (have ee : v41 = (.int .i64 r : Value) := hd 41 (by simp); subst ee)
                  (have ee : v42 = (.bool false : Value) := hd 42 (by simp); subst ee)
                  (have ee : v43 = (.bool false : Value) := hd 43 (by simp); subst ee)
                  (have ee : v44 = (.bool false : Value) := hd 44 (by simp); subst ee)
                  clear hd hg
                  (try go_simp)
                  go_wp2
                  go_ret
                  exact ⟨by rw [HR.out]; rfl, HB.out.trans (hx.mono HB.out.size)⟩
              · have HR : Hid (res = false) := by show _ = _; rw [HI.out, decide_eq_false g7]; simp
                have q7 : decide (0 ≤ r) = false := decide_eq_false g7
                have HSH := Lib.hid (HP.out g1 g2)
                clear HP
                clear HI
                go_enter Tryz.func37, Tryz.ntmps37
                go_upto_region 1 with (rw [HW1.out])
                first | rw [HW1.out] | skip
                refine wp_region_inv (fun w w' => Below w.heap.size w w') (fun qi_ qv_ _ => qv_ = ([.pointer (some ⟨w.heap.size, 0, none⟩), .int .i64 z, .bool true, .bool true, .pointer (some ⟨w.heap.size, 0, none⟩), .int .i64 z, .bool true, .bool true, .bool true, .pointer (some ⟨w.heap.size, 1, none⟩), .int .i64 x, .bool true, .bool true, .bool true, .pointer (some ⟨w.heap.size, 1, none⟩), .int .i64 x, .pointer (some ⟨w.heap.size, 0, none⟩), .int .i64 z, .int .i64 P, .bool true, .bool true, .bool true, .pointer (some ⟨w.heap.size, 2, none⟩), .int .i64 y, .bool true, .bool true, .bool true, .pointer (some ⟨w.heap.size, 2, none⟩), .int .i64 y, .pointer (some ⟨w.heap.size, 0, none⟩), .int .i64 z, .int .i64 P, .bool true, .bool true, .bool true, .pointer (some ⟨w.heap.size, 3, none⟩), .int .i64 r, .bool false, .bool false, .bool false, undef, undef, undef, .bool false, .bool false] : List Value).getD qi_ undef) (by kernel_rfl) (by kernel_rfl) (fun _ => Below.refl _ _) (fun _ _ _ h1 h2 => below_later h1 h1.size h2) (fun _ _ _ _ _ _ h => h) ?_
                refine inv_cons (fun wx hg hd => ?_) (fun v0 => ?_)
                · have hx := ((Below.refl w1.heap.size w1).drew).trans hg
                  clear hd hg
                  go_wp2
                  exact ⟨_, rfl, Below.refl _ _, rfl⟩
                (try simp only [List.nil_append, Act.put, List.setIfInBounds_toArray, List.set_cons_zero, List.set_cons_succ])
                refine inv_cons (fun wx hg hd => ?_) (fun v1 => ?_)
                · have hx := ((Below.refl w1.heap.size w1).drew).trans hg
                  (try (have ee : v0 = (.pointer (some ⟨w.heap.size, 0, none⟩) : Value) := hd 0 (by simp) (by decide); subst ee))
                  clear hd hg
                  obtain ⟨k0, k1, k2, k3⟩ := HT1.out _ hx
                  have hsx : w.heap.size < wx.heap.size := Nat.lt_of_lt_of_le hs hx.size
                  go_wp2
                  exact ⟨_, rfl, Below.refl _ _, rfl⟩
                (try simp only [List.cons_append, List.nil_append, Act.put, List.setIfInBounds_toArray, List.set_cons_zero, List.set_cons_succ])
                refine inv_cons (fun wx hg hd => ?_) (fun v2 => ?_)
                · have hx := ((Below.refl w1.heap.size w1).drew).trans hg
                  (try (have ee : v1 = (.int .i64 z : Value) := hd 1 (by simp) (by decide); subst ee))
                  clear hd hg
                  go_wp2
                  exact ⟨_, rfl, Below.refl _ _, rfl⟩
                (try simp only [List.cons_append, List.nil_append, Act.put, List.setIfInBounds_toArray, List.set_cons_zero, List.set_cons_succ])
                refine inv_cons (fun wx hg hd => ?_) (fun v3 => ?_)
                · have hx := ((Below.refl w1.heap.size w1).drew).trans hg
                  (try (have ee : v2 = (.bool true : Value) := hd 2 (by simp) (by decide); subst ee))
                  clear hd hg
                  go_wp2
                  exact ⟨_, rfl, Below.refl _ _, rfl⟩
                (try simp only [List.cons_append, List.nil_append, Act.put, List.setIfInBounds_toArray, List.set_cons_zero, List.set_cons_succ])
                refine inv_cons (fun wx hg hd => ?_) (fun v4 => ?_)
                · have hx := ((Below.refl w1.heap.size w1).drew).trans hg
                  (try (have ee : v3 = (.bool true : Value) := hd 3 (by simp) (by decide); subst ee))
                  clear hd hg
                  go_wp2
                  exact ⟨_, rfl, Below.refl _ _, rfl⟩
                (try simp only [List.cons_append, List.nil_append, Act.put, List.setIfInBounds_toArray, List.set_cons_zero, List.set_cons_succ])
                refine inv_cons (fun wx hg hd => ?_) (fun v5 => ?_)
                · have hx := ((Below.refl w1.heap.size w1).drew).trans hg
                  (try (have ee : v3 = (.bool true : Value) := hd 3 (by simp) (by decide); subst ee))
                  (try (have ee : v4 = (.pointer (some ⟨w.heap.size, 0, none⟩) : Value) := hd 4 (by simp) (by decide); subst ee))
                  clear hd hg
                  obtain ⟨k0, k1, k2, k3⟩ := HT1.out _ hx
                  have hsx : w.heap.size < wx.heap.size := Nat.lt_of_lt_of_le hs hx.size
                  go_wp2
                  exact ⟨_, rfl, Below.refl _ _, rfl⟩
                (try simp only [List.cons_append, List.nil_append, Act.put, List.setIfInBounds_toArray, List.set_cons_zero, List.set_cons_succ])
                refine inv_cons (fun wx hg hd => ?_) (fun v6 => ?_)
                · have hx := ((Below.refl w1.heap.size w1).drew).trans hg
                  (try (have ee : v3 = (.bool true : Value) := hd 3 (by simp) (by decide); subst ee))
                  (try (have ee : v5 = (.int .i64 z : Value) := hd 5 (by simp) (by decide); subst ee))
                  clear hd hg
                  go_wp2
                  exact ⟨_, rfl, Below.refl _ _, rfl⟩
                (try simp only [List.cons_append, List.nil_append, Act.put, List.setIfInBounds_toArray, List.set_cons_zero, List.set_cons_succ])
                refine inv_cons (fun wx hg hd => ?_) (fun v7 => ?_)
                · have hx := ((Below.refl w1.heap.size w1).drew).trans hg
                  (try (have ee : v3 = (.bool true : Value) := hd 3 (by simp) (by decide); subst ee))
                  (try (have ee : v6 = (.bool true : Value) := hd 6 (by simp) (by decide); subst ee))
                  clear hd hg
                  go_wp2
                  exact ⟨_, rfl, Below.refl _ _, rfl⟩
                (try simp only [List.cons_append, List.nil_append, Act.put, List.setIfInBounds_toArray, List.set_cons_zero, List.set_cons_succ])
                refine inv_cons (fun wx hg hd => ?_) (fun v8 => ?_)
                · have hx := ((Below.refl w1.heap.size w1).drew).trans hg
                  (try (have ee : v7 = (.bool true : Value) := hd 7 (by simp) (by decide); subst ee))
                  clear hd hg
                  go_wp2
                  exact ⟨_, rfl, Below.refl _ _, rfl⟩
                (try simp only [List.cons_append, List.nil_append, Act.put, List.setIfInBounds_toArray, List.set_cons_zero, List.set_cons_succ])
                refine inv_cons (fun wx hg hd => ?_) (fun v9 => ?_)
                · have hx := ((Below.refl w1.heap.size w1).drew).trans hg
                  (try (have ee : v8 = (.bool true : Value) := hd 8 (by simp) (by decide); subst ee))
                  clear hd hg
                  go_wp2
                  exact ⟨_, rfl, Below.refl _ _, rfl⟩
                (try simp only [List.cons_append, List.nil_append, Act.put, List.setIfInBounds_toArray, List.set_cons_zero, List.set_cons_succ])
                refine inv_cons (fun wx hg hd => ?_) (fun v10 => ?_)
                · have hx := ((Below.refl w1.heap.size w1).drew).trans hg
                  (try (have ee : v8 = (.bool true : Value) := hd 8 (by simp) (by decide); subst ee))
                  (try (have ee : v9 = (.pointer (some ⟨w.heap.size, 1, none⟩) : Value) := hd 9 (by simp) (by decide); subst ee))
                  clear hd hg
                  obtain ⟨k0, k1, k2, k3⟩ := HT1.out _ hx
                  have hsx : w.heap.size < wx.heap.size := Nat.lt_of_lt_of_le hs hx.size
                  go_wp2
                  exact ⟨_, rfl, Below.refl _ _, rfl⟩
                (try simp only [List.cons_append, List.nil_append, Act.put, List.setIfInBounds_toArray, List.set_cons_zero, List.set_cons_succ])
                refine inv_cons (fun wx hg hd => ?_) (fun v11 => ?_)
                · have hx := ((Below.refl w1.heap.size w1).drew).trans hg
                  (try (have ee : v8 = (.bool true : Value) := hd 8 (by simp) (by decide); subst ee))
                  (try (have ee : v10 = (.int .i64 x : Value) := hd 10 (by simp) (by decide); subst ee))
                  clear hd hg
                  go_wp2
                  exact ⟨_, rfl, Below.refl _ _, rfl⟩
                (try simp only [List.cons_append, List.nil_append, Act.put, List.setIfInBounds_toArray, List.set_cons_zero, List.set_cons_succ])
                refine inv_cons (fun wx hg hd => ?_) (fun v12 => ?_)
                · have hx := ((Below.refl w1.heap.size w1).drew).trans hg
                  (try (have ee : v8 = (.bool true : Value) := hd 8 (by simp) (by decide); subst ee))
                  (try (have ee : v11 = (.bool true : Value) := hd 11 (by simp) (by decide); subst ee))
                  clear hd hg
                  go_wp2
                  exact ⟨_, rfl, Below.refl _ _, rfl⟩
                (try simp only [List.cons_append, List.nil_append, Act.put, List.setIfInBounds_toArray, List.set_cons_zero, List.set_cons_succ])
                refine inv_cons (fun wx hg hd => ?_) (fun v13 => ?_)
                · have hx := ((Below.refl w1.heap.size w1).drew).trans hg
                  (try (have ee : v12 = (.bool true : Value) := hd 12 (by simp) (by decide); subst ee))
                  clear hd hg
                  go_wp2
                  exact ⟨_, rfl, Below.refl _ _, rfl⟩
                (try simp only [List.cons_append, List.nil_append, Act.put, List.setIfInBounds_toArray, List.set_cons_zero, List.set_cons_succ])
                refine inv_cons (fun wx hg hd => ?_) (fun v14 => ?_)
                · have hx := ((Below.refl w1.heap.size w1).drew).trans hg
                  (try (have ee : v13 = (.bool true : Value) := hd 13 (by simp) (by decide); subst ee))
                  clear hd hg
                  go_wp2
                  exact ⟨_, rfl, Below.refl _ _, rfl⟩
                (try simp only [List.cons_append, List.nil_append, Act.put, List.setIfInBounds_toArray, List.set_cons_zero, List.set_cons_succ])
                refine inv_cons (fun wx hg hd => ?_) (fun v15 => ?_)
                · have hx := ((Below.refl w1.heap.size w1).drew).trans hg
                  (try (have ee : v13 = (.bool true : Value) := hd 13 (by simp) (by decide); subst ee))
                  (try (have ee : v14 = (.pointer (some ⟨w.heap.size, 1, none⟩) : Value) := hd 14 (by simp) (by decide); subst ee))
                  clear hd hg
                  obtain ⟨k0, k1, k2, k3⟩ := HT1.out _ hx
                  have hsx : w.heap.size < wx.heap.size := Nat.lt_of_lt_of_le hs hx.size
                  go_wp2
                  exact ⟨_, rfl, Below.refl _ _, rfl⟩
                (try simp only [List.cons_append, List.nil_append, Act.put, List.setIfInBounds_toArray, List.set_cons_zero, List.set_cons_succ])
                refine inv_cons (fun wx hg hd => ?_) (fun v16 => ?_)
                · have hx := ((Below.refl w1.heap.size w1).drew).trans hg
                  (try (have ee : v13 = (.bool true : Value) := hd 13 (by simp) (by decide); subst ee))
                  clear hd hg
                  go_wp2
                  exact ⟨_, rfl, Below.refl _ _, rfl⟩
                (try simp only [List.cons_append, List.nil_append, Act.put, List.setIfInBounds_toArray, List.set_cons_zero, List.set_cons_succ])
                refine inv_cons (fun wx hg hd => ?_) (fun v17 => ?_)
                · have hx := ((Below.refl w1.heap.size w1).drew).trans hg
                  (try (have ee : v13 = (.bool true : Value) := hd 13 (by simp) (by decide); subst ee))
                  (try (have ee : v16 = (.pointer (some ⟨w.heap.size, 0, none⟩) : Value) := hd 16 (by simp) (by decide); subst ee))
                  clear hd hg
                  obtain ⟨k0, k1, k2, k3⟩ := HT1.out _ hx
                  have hsx : w.heap.size < wx.heap.size := Nat.lt_of_lt_of_le hs hx.size
                  go_wp2
                  exact ⟨_, rfl, Below.refl _ _, rfl⟩
                (try simp only [List.cons_append, List.nil_append, Act.put, List.setIfInBounds_toArray, List.set_cons_zero, List.set_cons_succ])
                refine inv_cons (fun wx hg hd => ?_) (fun v18 => ?_)
                · have hx := ((Below.refl w1.heap.size w1).drew).trans hg
                  (try (have ee : v13 = (.bool true : Value) := hd 13 (by simp) (by decide); subst ee))
                  (try (have ee : v17 = (.int .i64 z : Value) := hd 17 (by simp) (by decide); subst ee))
                  clear hd hg
                  go_wp2_with fail
                  refine (HSH.out _).mono ?_
                  rintro e w' ⟨rfl, hb⟩
                  go_wp2
                  exact ⟨_, rfl, hb, rfl⟩
                (try simp only [List.cons_append, List.nil_append, Act.put, List.setIfInBounds_toArray, List.set_cons_zero, List.set_cons_succ])
                refine inv_cons (fun wx hg hd => ?_) (fun v19 => ?_)
                · have hx := ((Below.refl w1.heap.size w1).drew).trans hg
                  (try (have ee : v13 = (.bool true : Value) := hd 13 (by simp) (by decide); subst ee))
                  (try (have ee : v15 = (.int .i64 x : Value) := hd 15 (by simp) (by decide); subst ee))
                  (try (have ee : v18 = (.int .i64 P : Value) := hd 18 (by simp) (by decide); subst ee))
                  clear hd hg
                  go_wp2
                  exact ⟨_, rfl, Below.refl _ _, rfl⟩
                (try simp only [List.cons_append, List.nil_append, Act.put, List.setIfInBounds_toArray, List.set_cons_zero, List.set_cons_succ])
                refine inv_cons (fun wx hg hd => ?_) (fun v20 => ?_)
                · have hx := ((Below.refl w1.heap.size w1).drew).trans hg
                  (try (have ee : v13 = (.bool true : Value) := hd 13 (by simp) (by decide); subst ee))
                  (try (have ee : v19 = (.bool true : Value) := hd 19 (by simp) (by decide); subst ee))
                  clear hd hg
                  go_wp2
                  exact ⟨_, rfl, Below.refl _ _, rfl⟩
                (try simp only [List.cons_append, List.nil_append, Act.put, List.setIfInBounds_toArray, List.set_cons_zero, List.set_cons_succ])
                refine inv_cons (fun wx hg hd => ?_) (fun v21 => ?_)
                · have hx := ((Below.refl w1.heap.size w1).drew).trans hg
                  (try (have ee : v20 = (.bool true : Value) := hd 20 (by simp) (by decide); subst ee))
                  clear hd hg
                  go_wp2
                  exact ⟨_, rfl, Below.refl _ _, rfl⟩
                (try simp only [List.cons_append, List.nil_append, Act.put, List.setIfInBounds_toArray, List.set_cons_zero, List.set_cons_succ])
                refine inv_cons (fun wx hg hd => ?_) (fun v22 => ?_)
                · have hx := ((Below.refl w1.heap.size w1).drew).trans hg
                  (try (have ee : v21 = (.bool true : Value) := hd 21 (by simp) (by decide); subst ee))
                  clear hd hg
                  go_wp2
                  exact ⟨_, rfl, Below.refl _ _, rfl⟩
                (try simp only [List.cons_append, List.nil_append, Act.put, List.setIfInBounds_toArray, List.set_cons_zero, List.set_cons_succ])
                refine inv_cons (fun wx hg hd => ?_) (fun v23 => ?_)
                · have hx := ((Below.refl w1.heap.size w1).drew).trans hg
                  (try (have ee : v21 = (.bool true : Value) := hd 21 (by simp) (by decide); subst ee))
                  (try (have ee : v22 = (.pointer (some ⟨w.heap.size, 2, none⟩) : Value) := hd 22 (by simp) (by decide); subst ee))
                  clear hd hg
                  obtain ⟨k0, k1, k2, k3⟩ := HT1.out _ hx
                  have hsx : w.heap.size < wx.heap.size := Nat.lt_of_lt_of_le hs hx.size
                  go_wp2
                  exact ⟨_, rfl, Below.refl _ _, rfl⟩
                (try simp only [List.cons_append, List.nil_append, Act.put, List.setIfInBounds_toArray, List.set_cons_zero, List.set_cons_succ])
                refine inv_cons (fun wx hg hd => ?_) (fun v24 => ?_)
                · have hx := ((Below.refl w1.heap.size w1).drew).trans hg
                  (try (have ee : v21 = (.bool true : Value) := hd 21 (by simp) (by decide); subst ee))
                  (try (have ee : v23 = (.int .i64 y : Value) := hd 23 (by simp) (by decide); subst ee))
                  clear hd hg
                  go_wp2
                  exact ⟨_, rfl, Below.refl _ _, rfl⟩
                (try simp only [List.cons_append, List.nil_append, Act.put, List.setIfInBounds_toArray, List.set_cons_zero, List.set_cons_succ])
                refine inv_cons (fun wx hg hd => ?_) (fun v25 => ?_)
                · have hx := ((Below.refl w1.heap.size w1).drew).trans hg
                  (try (have ee : v21 = (.bool true : Value) := hd 21 (by simp) (by decide); subst ee))
                  (try (have ee : v24 = (.bool true : Value) := hd 24 (by simp) (by decide); subst ee))
                  clear hd hg
                  go_wp2
                  exact ⟨_, rfl, Below.refl _ _, rfl⟩
                (try simp only [List.cons_append, List.nil_append, Act.put, List.setIfInBounds_toArray, List.set_cons_zero, List.set_cons_succ])
                refine inv_cons (fun wx hg hd => ?_) (fun v26 => ?_)
                · have hx := ((Below.refl w1.heap.size w1).drew).trans hg
                  (try (have ee : v25 = (.bool true : Value) := hd 25 (by simp) (by decide); subst ee))
                  clear hd hg
                  go_wp2
                  exact ⟨_, rfl, Below.refl _ _, rfl⟩
                (try simp only [List.cons_append, List.nil_append, Act.put, List.setIfInBounds_toArray, List.set_cons_zero, List.set_cons_succ])
                refine inv_cons (fun wx hg hd => ?_) (fun v27 => ?_)
                · have hx := ((Below.refl w1.heap.size w1).drew).trans hg
                  (try (have ee : v26 = (.bool true : Value) := hd 26 (by simp) (by decide); subst ee))
                  clear hd hg
                  go_wp2
                  exact ⟨_, rfl, Below.refl _ _, rfl⟩
                (try simp only [List.cons_append, List.nil_append, Act.put, List.setIfInBounds_toArray, List.set_cons_zero, List.set_cons_succ])
                refine inv_cons (fun wx hg hd => ?_) (fun v28 => ?_)
                · have hx := ((Below.refl w1.heap.size w1).drew).trans hg
                  (try (have ee : v26 = (.bool true : Value) := hd 26 (by simp) (by decide); subst ee))
                  (try (have ee : v27 = (.pointer (some ⟨w.heap.size, 2, none⟩) : Value) := hd 27 (by simp) (by decide); subst ee))
                  clear hd hg
                  obtain ⟨k0, k1, k2, k3⟩ := HT1.out _ hx
                  have hsx : w.heap.size < wx.heap.size := Nat.lt_of_lt_of_le hs hx.size
                  go_wp2
                  exact ⟨_, rfl, Below.refl _ _, rfl⟩
                (try simp only [List.cons_append, List.nil_append, Act.put, List.setIfInBounds_toArray, List.set_cons_zero, List.set_cons_succ])
                refine inv_cons (fun wx hg hd => ?_) (fun v29 => ?_)
                · have hx := ((Below.refl w1.heap.size w1).drew).trans hg
                  (try (have ee : v26 = (.bool true : Value) := hd 26 (by simp) (by decide); subst ee))
                  clear hd hg
                  go_wp2
                  exact ⟨_, rfl, Below.refl _ _, rfl⟩
                (try simp only [List.cons_append, List.nil_append, Act.put, List.setIfInBounds_toArray, List.set_cons_zero, List.set_cons_succ])
                refine inv_cons (fun wx hg hd => ?_) (fun v30 => ?_)
                · have hx := ((Below.refl w1.heap.size w1).drew).trans hg
                  (try (have ee : v26 = (.bool true : Value) := hd 26 (by simp) (by decide); subst ee))
                  (try (have ee : v29 = (.pointer (some ⟨w.heap.size, 0, none⟩) : Value) := hd 29 (by simp) (by decide); subst ee))
                  clear hd hg
                  obtain ⟨k0, k1, k2, k3⟩ := HT1.out _ hx
                  have hsx : w.heap.size < wx.heap.size := Nat.lt_of_lt_of_le hs hx.size
                  go_wp2
                  exact ⟨_, rfl, Below.refl _ _, rfl⟩
                (try simp only [List.cons_append, List.nil_append, Act.put, List.setIfInBounds_toArray, List.set_cons_zero, List.set_cons_succ])
                refine inv_cons (fun wx hg hd => ?_) (fun v31 => ?_)
                · have hx := ((Below.refl w1.heap.size w1).drew).trans hg
                  (try (have ee : v26 = (.bool true : Value) := hd 26 (by simp) (by decide); subst ee))
                  (try (have ee : v30 = (.int .i64 z : Value) := hd 30 (by simp) (by decide); subst ee))
                  clear hd hg
                  go_wp2_with fail
                  refine (HSH.out _).mono ?_
                  rintro e w' ⟨rfl, hb⟩
                  go_wp2
                  exact ⟨_, rfl, hb, rfl⟩
                (try simp only [List.cons_append, List.nil_append, Act.put, List.setIfInBounds_toArray, List.set_cons_zero, List.set_cons_succ])
                refine inv_cons (fun wx hg hd => ?_) (fun v32 => ?_)
                · have hx := ((Below.refl w1.heap.size w1).drew).trans hg
                  (try (have ee : v26 = (.bool true : Value) := hd 26 (by simp) (by decide); subst ee))
                  (try (have ee : v28 = (.int .i64 y : Value) := hd 28 (by simp) (by decide); subst ee))
                  (try (have ee : v31 = (.int .i64 P : Value) := hd 31 (by simp) (by decide); subst ee))
                  clear hd hg
                  go_wp2
                  exact ⟨_, rfl, Below.refl _ _, rfl⟩
                (try simp only [List.cons_append, List.nil_append, Act.put, List.setIfInBounds_toArray, List.set_cons_zero, List.set_cons_succ])
                refine inv_cons (fun wx hg hd => ?_) (fun v33 => ?_)
                · have hx := ((Below.refl w1.heap.size w1).drew).trans hg
                  (try (have ee : v26 = (.bool true : Value) := hd 26 (by simp) (by decide); subst ee))
                  (try (have ee : v32 = (.bool true : Value) := hd 32 (by simp) (by decide); subst ee))
                  clear hd hg
                  go_wp2
                  exact ⟨_, rfl, Below.refl _ _, rfl⟩
                (try simp only [List.cons_append, List.nil_append, Act.put, List.setIfInBounds_toArray, List.set_cons_zero, List.set_cons_succ])
                refine inv_cons (fun wx hg hd => ?_) (fun v34 => ?_)
                · have hx := ((Below.refl w1.heap.size w1).drew).trans hg
                  (try (have ee : v33 = (.bool true : Value) := hd 33 (by simp) (by decide); subst ee))
                  clear hd hg
                  go_wp2
                  exact ⟨_, rfl, Below.refl _ _, rfl⟩
                (try simp only [List.cons_append, List.nil_append, Act.put, List.setIfInBounds_toArray, List.set_cons_zero, List.set_cons_succ])
                refine inv_cons (fun wx hg hd => ?_) (fun v35 => ?_)
                · have hx := ((Below.refl w1.heap.size w1).drew).trans hg
                  (try (have ee : v34 = (.bool true : Value) := hd 34 (by simp) (by decide); subst ee))
                  clear hd hg
                  go_wp2
                  exact ⟨_, rfl, Below.refl _ _, rfl⟩
                (try simp only [List.cons_append, List.nil_append, Act.put, List.setIfInBounds_toArray, List.set_cons_zero, List.set_cons_succ])
                refine inv_cons (fun wx hg hd => ?_) (fun v36 => ?_)
                · have hx := ((Below.refl w1.heap.size w1).drew).trans hg
                  (try (have ee : v34 = (.bool true : Value) := hd 34 (by simp) (by decide); subst ee))
                  (try (have ee : v35 = (.pointer (some ⟨w.heap.size, 3, none⟩) : Value) := hd 35 (by simp) (by decide); subst ee))
                  clear hd hg
                  obtain ⟨k0, k1, k2, k3⟩ := HT1.out _ hx
                  have hsx : w.heap.size < wx.heap.size := Nat.lt_of_lt_of_le hs hx.size
                  go_wp2
                  exact ⟨_, rfl, Below.refl _ _, rfl⟩
                (try simp only [List.cons_append, List.nil_append, Act.put, List.setIfInBounds_toArray, List.set_cons_zero, List.set_cons_succ])
                refine inv_cons (fun wx hg hd => ?_) (fun v37 => ?_)
                · have hx := ((Below.refl w1.heap.size w1).drew).trans hg
                  (try (have ee : v34 = (.bool true : Value) := hd 34 (by simp) (by decide); subst ee))
                  (try (have ee : v36 = (.int .i64 r : Value) := hd 36 (by simp) (by decide); subst ee))
                  clear hd hg
                  go_wp2
                  exact ⟨_, rfl, Below.refl _ _, rfl⟩
                (try simp only [List.cons_append, List.nil_append, Act.put, List.setIfInBounds_toArray, List.set_cons_zero, List.set_cons_succ])
                refine inv_cons (fun wx hg hd => ?_) (fun v38 => ?_)
                · have hx := ((Below.refl w1.heap.size w1).drew).trans hg
                  (try (have ee : v34 = (.bool true : Value) := hd 34 (by simp) (by decide); subst ee))
                  (try (have ee : v37 = (.bool false : Value) := hd 37 (by simp) (by decide); subst ee))
                  clear hd hg
                  go_wp2
                  exact ⟨_, rfl, Below.refl _ _, rfl⟩
                (try simp only [List.cons_append, List.nil_append, Act.put, List.setIfInBounds_toArray, List.set_cons_zero, List.set_cons_succ])
                refine inv_cons (fun wx hg hd => ?_) (fun v39 => ?_)
                · have hx := ((Below.refl w1.heap.size w1).drew).trans hg
                  (try (have ee : v38 = (.bool false : Value) := hd 38 (by simp) (by decide); subst ee))
                  clear hd hg
                  go_wp2
                  exact ⟨_, rfl, Below.refl _ _, rfl⟩
                (try simp only [List.cons_append, List.nil_append, Act.put, List.setIfInBounds_toArray, List.set_cons_zero, List.set_cons_succ])
                refine inv_cons (fun wx hg hd => ?_) (fun v40 => ?_)
                · have hx := ((Below.refl w1.heap.size w1).drew).trans hg
                  (try (have ee : v39 = (.bool false : Value) := hd 39 (by simp) (by decide); subst ee))
                  clear hd hg
                  go_wp2
                  exact ⟨_, rfl, Below.refl _ _, rfl⟩
                (try simp only [List.cons_append, List.nil_append, Act.put, List.setIfInBounds_toArray, List.set_cons_zero, List.set_cons_succ])
                refine inv_cons (fun wx hg hd => ?_) (fun v41 => ?_)
                · have hx := ((Below.refl w1.heap.size w1).drew).trans hg
                  (try (have ee : v39 = (.bool false : Value) := hd 39 (by simp) (by decide); subst ee))
                  (try (have ee : v40 = (undef : Value) := hd 40 (by simp) (by decide); subst ee))
                  clear hd hg
                  go_wp2
                  exact ⟨_, rfl, Below.refl _ _, rfl⟩
                (try simp only [List.cons_append, List.nil_append, Act.put, List.setIfInBounds_toArray, List.set_cons_zero, List.set_cons_succ])
                refine inv_cons (fun wx hg hd => ?_) (fun v42 => ?_)
                · have hx := ((Below.refl w1.heap.size w1).drew).trans hg
                  (try (have ee : v39 = (.bool false : Value) := hd 39 (by simp) (by decide); subst ee))
                  (try (have ee : v41 = (undef : Value) := hd 41 (by simp) (by decide); subst ee))
                  clear hd hg
                  go_wp2
                  exact ⟨_, rfl, Below.refl _ _, rfl⟩
                (try simp only [List.cons_append, List.nil_append, Act.put, List.setIfInBounds_toArray, List.set_cons_zero, List.set_cons_succ])
                refine inv_cons (fun wx hg hd => ?_) (fun v43 => ?_)
                · have hx := ((Below.refl w1.heap.size w1).drew).trans hg
                  (try (have ee : v39 = (.bool false : Value) := hd 39 (by simp) (by decide); subst ee))
                  (try (have ee : v42 = (undef : Value) := hd 42 (by simp) (by decide); subst ee))
                  clear hd hg
                  go_wp2
                  exact ⟨_, rfl, Below.refl _ _, rfl⟩
                (try simp only [List.cons_append, List.nil_append, Act.put, List.setIfInBounds_toArray, List.set_cons_zero, List.set_cons_succ])
                refine inv_cons (fun wx hg hd => ?_) (fun v44 => ?_)
                · have hx := ((Below.refl w1.heap.size w1).drew).trans hg
                  (try (have ee : v43 = (.bool false : Value) := hd 43 (by simp) (by decide); subst ee))
                  clear hd hg
                  go_wp2
                  exact ⟨_, rfl, Below.refl _ _, rfl⟩
                (try simp only [List.cons_append, List.nil_append, Act.put, List.setIfInBounds_toArray, List.set_cons_zero, List.set_cons_succ])
                refine inv_done (fun wx hg hd => ?_)
                have hx := ((Below.refl w1.heap.size w1).drew).trans hg
                (have ee : v0 = (.pointer (some ⟨w.heap.size, 0, none⟩) : Value) := hd 0 (by simp); subst ee)
                (have ee : v1 = (.int .i64 z : Value) := hd 1 (by simp); subst ee)
                (have ee : v2 = (.bool true : Value) := hd 2 (by simp); subst ee)
                (have ee : v3 = (.bool true : Value) := hd 3 (by simp); subst ee)
                (have ee : v4 = (.pointer (some ⟨w.heap.size, 0, none⟩) : Value) := hd 4 (by simp); subst ee)
                (have ee : v5 = (.int .i64 z : Value) := hd 5 (by simp); subst ee)
                (have ee : v6 = (.bool true : Value) := hd 6 (by simp); subst ee)
                (have ee : v7 = (.bool true : Value) := hd 7 (by simp); subst ee)
                (have ee : v8 = (.bool true : Value) := hd 8 (by simp); subst ee)
                (have ee : v9 = (.pointer (some ⟨w.heap.size, 1, none⟩) : Value) := hd 9 (by simp); subst ee)
                (have ee : v10 = (.int .i64 x : Value) := hd 10 (by simp); subst ee)
                (have ee : v11 = (.bool true : Value) := hd 11 (by simp); subst ee)
                (have ee : v12 = (.bool true : Value) := hd 12 (by simp); subst ee)
                (have ee : v13 = (.bool true : Value) := hd 13 (by simp); subst ee)
                (have ee : v14 = (.pointer (some ⟨w.heap.size, 1, none⟩) : Value) := hd 14 (by simp); subst ee)
                (have ee : v15 = (.int .i64 x : Value) := hd 15 (by simp); subst ee)
                (have ee : v16 = (.pointer (some ⟨w.heap.size, 0, none⟩) : Value) := hd 16 (by simp); subst ee)
                (have ee : v17 = (.int .i64 z : Value) := hd 17 (by simp); subst ee)
                (have ee : v18 = (.int .i64 P : Value) := hd 18 (by simp); subst ee)
                (have ee : v19 = (.bool true : Value) := hd 19 (by simp); subst ee)
                (have ee : v20 = (.bool true : Value) := hd 20 (by simp); subst ee)
                (have ee : v21 = (.bool true : Value) := hd 21 (by simp); subst ee)
                (have ee : v22 = (.pointer (some ⟨w.heap.size, 2, none⟩) : Value) := hd 22 (by simp); subst ee)
                (have ee : v23 = (.int .i64 y : Value) := hd 23 (by simp); subst ee)
                (have ee : v24 = (.bool true : Value) := hd 24 (by simp); subst ee)
                (have ee : v25 = (.bool true : Value) := hd 25 (by simp); subst ee)
                (have ee : v26 = (.bool true : Value) := hd 26 (by simp); subst ee)
                (have ee : v27 = (.pointer (some ⟨w.heap.size, 2, none⟩) : Value) := hd 27 (by simp); subst ee)
                (have ee : v28 = (.int .i64 y : Value) := hd 28 (by simp); subst ee)
                (have ee : v29 = (.pointer (some ⟨w.heap.size, 0, none⟩) : Value) := hd 29 (by simp); subst ee)
                (have ee : v30 = (.int .i64 z : Value) := hd 30 (by simp); subst ee)
                (have ee : v31 = (.int .i64 P : Value) := hd 31 (by simp); subst ee)
                (have ee : v32 = (.bool true : Value) := hd 32 (by simp); subst ee)
                (have ee : v33 = (.bool true : Value) := hd 33 (by simp); subst ee)
                (have ee : v34 = (.bool true : Value) := hd 34 (by simp); subst ee)
                (have ee : v35 = (.pointer (some ⟨w.heap.size, 3, none⟩) : Value) := hd 35 (by simp); subst ee)
                (have ee : v36 = (.int .i64 r : Value) := hd 36 (by simp); subst ee)
                (have ee : v37 = (.bool false : Value) := hd 37 (by simp); subst ee)
                (have ee : v38 = (.bool false : Value) := hd 38 (by simp); subst ee)
                (have ee : v39 = (.bool false : Value) := hd 39 (by simp); subst ee)
                (have ee : v40 = (undef : Value) := hd 40 (by simp); subst ee)
                (have ee : v41 = (undef : Value) := hd 41 (by simp); subst ee)
                (have ee : v42 = (undef : Value) := hd 42 (by simp); subst ee)
                (have ee : v43 = (.bool false : Value) := hd 43 (by simp); subst ee)
                (have ee : v44 = (.bool false : Value) := hd 44 (by simp); subst ee)
                clear hd hg
                (try go_simp)
                go_wp2
                go_ret
                exact ⟨by rw [HR.out]; rfl, HB.out.trans (hx.mono HB.out.size)⟩
            · have HR : Hid (res = false) := by show _ = _; rw [HI.out, decide_eq_false g6]; simp
              have q6 : decide (y < P) = false := decide_eq_false g6
              have HSH := Lib.hid (HP.out g1 g2)
              clear HP
              clear HI
              go_enter Tryz.func37, Tryz.ntmps37
              go_upto_region 1 with (rw [HW1.out])
              first | rw [HW1.out] | skip
              refine wp_region_inv (fun w w' => Below w.heap.size w w') (fun qi_ qv_ _ => qv_ = ([.pointer (some ⟨w.heap.size, 0, none⟩), .int .i64 z, .bool true, .bool true, .pointer (some ⟨w.heap.size, 0, none⟩), .int .i64 z, .bool true, .bool true, .bool true, .pointer (some ⟨w.heap.size, 1, none⟩), .int .i64 x, .bool true, .bool true, .bool true, .pointer (some ⟨w.heap.size, 1, none⟩), .int .i64 x, .pointer (some ⟨w.heap.size, 0, none⟩), .int .i64 z, .int .i64 P, .bool true, .bool true, .bool true, .pointer (some ⟨w.heap.size, 2, none⟩), .int .i64 y, .bool true, .bool true, .bool true, .pointer (some ⟨w.heap.size, 2, none⟩), .int .i64 y, .pointer (some ⟨w.heap.size, 0, none⟩), .int .i64 z, .int .i64 P, .bool false, .bool false, .bool false, undef, undef, undef, .bool false, .bool false, undef, undef, undef, .bool false, .bool false] : List Value).getD qi_ undef) (by kernel_rfl) (by kernel_rfl) (fun _ => Below.refl _ _) (fun _ _ _ h1 h2 => below_later h1 h1.size h2) (fun _ _ _ _ _ _ h => h) ?_
              refine inv_cons (fun wx hg hd => ?_) (fun v0 => ?_)
              · have hx := ((Below.refl w1.heap.size w1).drew).trans hg
                clear hd hg
                go_wp2
                exact ⟨_, rfl, Below.refl _ _, rfl⟩
              (try simp only [List.nil_append, Act.put, List.setIfInBounds_toArray, List.set_cons_zero, List.set_cons_succ])
              refine inv_cons (fun wx hg hd => ?_) (fun v1 => ?_)
              · have hx := ((Below.refl w1.heap.size w1).drew).trans hg
                (try (have ee : v0 = (.pointer (some ⟨w.heap.size, 0, none⟩) : Value) := hd 0 (by simp) (by decide); subst ee))
                clear hd hg
                obtain ⟨k0, k1, k2, k3⟩ := HT1.out _ hx
                have hsx : w.heap.size < wx.heap.size := Nat.lt_of_lt_of_le hs hx.size
                go_wp2
                exact ⟨_, rfl, Below.refl _ _, rfl⟩
              (try simp only [List.cons_append, List.nil_append, Act.put, List.setIfInBounds_toArray, List.set_cons_zero, List.set_cons_succ])
              refine inv_cons (fun wx hg hd => ?_) (fun v2 => ?_)
              · have hx := ((Below.refl w1.heap.size w1).drew).trans hg
                (try (have ee : v1 = (.int .i64 z : Value) := hd 1 (by simp) (by decide); subst ee))
                clear hd hg
                go_wp2
                exact ⟨_, rfl, Below.refl _ _, rfl⟩
              (try simp only [List.cons_append, List.nil_append, Act.put, List.setIfInBounds_toArray, List.set_cons_zero, List.set_cons_succ])
              refine inv_cons (fun wx hg hd => ?_) (fun v3 => ?_)
              · have hx := ((Below.refl w1.heap.size w1).drew).trans hg
                (try (have ee : v2 = (.bool true : Value) := hd 2 (by simp) (by decide); subst ee))
                clear hd hg
                go_wp2
                exact ⟨_, rfl, Below.refl _ _, rfl⟩
              (try simp only [List.cons_append, List.nil_append, Act.put, List.setIfInBounds_toArray, List.set_cons_zero, List.set_cons_succ])
              refine inv_cons (fun wx hg hd => ?_) (fun v4 => ?_)
              · have hx := ((Below.refl w1.heap.size w1).drew).trans hg
                (try (have ee : v3 = (.bool true : Value) := hd 3 (by simp) (by decide); subst ee))
                clear hd hg
                go_wp2
                exact ⟨_, rfl, Below.refl _ _, rfl⟩
              (try simp only [List.cons_append, List.nil_append, Act.put, List.setIfInBounds_toArray, List.set_cons_zero, List.set_cons_succ])
              refine inv_cons (fun wx hg hd => ?_) (fun v5 => ?_)
              · have hx := ((Below.refl w1.heap.size w1).drew).trans hg
                (try (have ee : v3 = (.bool true : Value) := hd 3 (by simp) (by decide); subst ee))
                (try (have ee : v4 = (.pointer (some ⟨w.heap.size, 0, none⟩) : Value) := hd 4 (by simp) (by decide); subst ee))
                clear hd hg
                obtain ⟨k0, k1, k2, k3⟩ := HT1.out _ hx
                have hsx : w.heap.size < wx.heap.size := Nat.lt_of_lt_of_le hs hx.size
                go_wp2
                exact ⟨_, rfl, Below.refl _ _, rfl⟩
              (try simp only [List.cons_append, List.nil_append, Act.put, List.setIfInBounds_toArray, List.set_cons_zero, List.set_cons_succ])
              refine inv_cons (fun wx hg hd => ?_) (fun v6 => ?_)
              · have hx := ((Below.refl w1.heap.size w1).drew).trans hg
                (try (have ee : v3 = (.bool true : Value) := hd 3 (by simp) (by decide); subst ee))
                (try (have ee : v5 = (.int .i64 z : Value) := hd 5 (by simp) (by decide); subst ee))
                clear hd hg
                go_wp2
                exact ⟨_, rfl, Below.refl _ _, rfl⟩
              (try simp only [List.cons_append, List.nil_append, Act.put, List.setIfInBounds_toArray, List.set_cons_zero, List.set_cons_succ])
              refine inv_cons (fun wx hg hd => ?_) (fun v7 => ?_)
              · have hx := ((Below.refl w1.heap.size w1).drew).trans hg
                (try (have ee : v3 = (.bool true : Value) := hd 3 (by simp) (by decide); subst ee))
                (try (have ee : v6 = (.bool true : Value) := hd 6 (by simp) (by decide); subst ee))
                clear hd hg
                go_wp2
                exact ⟨_, rfl, Below.refl _ _, rfl⟩
              (try simp only [List.cons_append, List.nil_append, Act.put, List.setIfInBounds_toArray, List.set_cons_zero, List.set_cons_succ])
              refine inv_cons (fun wx hg hd => ?_) (fun v8 => ?_)
              · have hx := ((Below.refl w1.heap.size w1).drew).trans hg
                (try (have ee : v7 = (.bool true : Value) := hd 7 (by simp) (by decide); subst ee))
                clear hd hg
                go_wp2
                exact ⟨_, rfl, Below.refl _ _, rfl⟩
              (try simp only [List.cons_append, List.nil_append, Act.put, List.setIfInBounds_toArray, List.set_cons_zero, List.set_cons_succ])
              refine inv_cons (fun wx hg hd => ?_) (fun v9 => ?_)
              · have hx := ((Below.refl w1.heap.size w1).drew).trans hg
                (try (have ee : v8 = (.bool true : Value) := hd 8 (by simp) (by decide); subst ee))
                clear hd hg
                go_wp2
                exact ⟨_, rfl, Below.refl _ _, rfl⟩
              (try simp only [List.cons_append, List.nil_append, Act.put, List.setIfInBounds_toArray, List.set_cons_zero, List.set_cons_succ])
              refine inv_cons (fun wx hg hd => ?_) (fun v10 => ?_)
              · have hx := ((Below.refl w1.heap.size w1).drew).trans hg
                (try (have ee : v8 = (.bool true : Value) := hd 8 (by simp) (by decide); subst ee))
                (try (have ee : v9 = (.pointer (some ⟨w.heap.size, 1, none⟩) : Value) := hd 9 (by simp) (by decide); subst ee))
                clear hd hg
                obtain ⟨k0, k1, k2, k3⟩ := HT1.out _ hx
                have hsx : w.heap.size < wx.heap.size := Nat.lt_of_lt_of_le hs hx.size
                go_wp2
                exact ⟨_, rfl, Below.refl _ _, rfl⟩
              (try simp only [List.cons_append, List.nil_append, Act.put, List.setIfInBounds_toArray, List.set_cons_zero, List.set_cons_succ])
              refine inv_cons (fun wx hg hd => ?_) (fun v11 => ?_)
              · have hx := ((Below.refl w1.heap.size w1).drew).trans hg
                (try (have ee : v8 = (.bool true : Value) := hd 8 (by simp) (by decide); subst ee))
                (try (have ee : v10 = (.int .i64 x : Value) := hd 10 (by simp) (by decide); subst ee))
                clear hd hg
                go_wp2
                exact ⟨_, rfl, Below.refl _ _, rfl⟩
              (try simp only [List.cons_append, List.nil_append, Act.put, List.setIfInBounds_toArray, List.set_cons_zero, List.set_cons_succ])
              refine inv_cons (fun wx hg hd => ?_) (fun v12 => ?_)
              · have hx := ((Below.refl w1.heap.size w1).drew).trans hg
                (try (have ee : v8 = (.bool true : Value) := hd 8 (by simp) (by decide); subst ee))
                (try (have ee : v11 = (.bool true : Value) := hd 11 (by simp) (by decide); subst ee))
                clear hd hg
                go_wp2
                exact ⟨_, rfl, Below.refl _ _, rfl⟩
              (try simp only [List.cons_append, List.nil_append, Act.put, List.setIfInBounds_toArray, List.set_cons_zero, List.set_cons_succ])
              refine inv_cons (fun wx hg hd => ?_) (fun v13 => ?_)
              · have hx := ((Below.refl w1.heap.size w1).drew).trans hg
                (try (have ee : v12 = (.bool true : Value) := hd 12 (by simp) (by decide); subst ee))
                clear hd hg
                go_wp2
                exact ⟨_, rfl, Below.refl _ _, rfl⟩
              (try simp only [List.cons_append, List.nil_append, Act.put, List.setIfInBounds_toArray, List.set_cons_zero, List.set_cons_succ])
              refine inv_cons (fun wx hg hd => ?_) (fun v14 => ?_)
              · have hx := ((Below.refl w1.heap.size w1).drew).trans hg
                (try (have ee : v13 = (.bool true : Value) := hd 13 (by simp) (by decide); subst ee))
                clear hd hg
                go_wp2
                exact ⟨_, rfl, Below.refl _ _, rfl⟩
              (try simp only [List.cons_append, List.nil_append, Act.put, List.setIfInBounds_toArray, List.set_cons_zero, List.set_cons_succ])
              refine inv_cons (fun wx hg hd => ?_) (fun v15 => ?_)
              · have hx := ((Below.refl w1.heap.size w1).drew).trans hg
                (try (have ee : v13 = (.bool true : Value) := hd 13 (by simp) (by decide); subst ee))
                (try (have ee : v14 = (.pointer (some ⟨w.heap.size, 1, none⟩) : Value) := hd 14 (by simp) (by decide); subst ee))
                clear hd hg
                obtain ⟨k0, k1, k2, k3⟩ := HT1.out _ hx
                have hsx : w.heap.size < wx.heap.size := Nat.lt_of_lt_of_le hs hx.size
                go_wp2
                exact ⟨_, rfl, Below.refl _ _, rfl⟩
              (try simp only [List.cons_append, List.nil_append, Act.put, List.setIfInBounds_toArray, List.set_cons_zero, List.set_cons_succ])
              refine inv_cons (fun wx hg hd => ?_) (fun v16 => ?_)
              · have hx := ((Below.refl w1.heap.size w1).drew).trans hg
                (try (have ee : v13 = (.bool true : Value) := hd 13 (by simp) (by decide); subst ee))
                clear hd hg
                go_wp2
                exact ⟨_, rfl, Below.refl _ _, rfl⟩
              (try simp only [List.cons_append, List.nil_append, Act.put, List.setIfInBounds_toArray, List.set_cons_zero, List.set_cons_succ])
              refine inv_cons (fun wx hg hd => ?_) (fun v17 => ?_)
              · have hx := ((Below.refl w1.heap.size w1).drew).trans hg
                (try (have ee : v13 = (.bool true : Value) := hd 13 (by simp) (by decide); subst ee))
                (try (have ee : v16 = (.pointer (some ⟨w.heap.size, 0, none⟩) : Value) := hd 16 (by simp) (by decide); subst ee))
                clear hd hg
                obtain ⟨k0, k1, k2, k3⟩ := HT1.out _ hx
                have hsx : w.heap.size < wx.heap.size := Nat.lt_of_lt_of_le hs hx.size
                go_wp2
                exact ⟨_, rfl, Below.refl _ _, rfl⟩
              (try simp only [List.cons_append, List.nil_append, Act.put, List.setIfInBounds_toArray, List.set_cons_zero, List.set_cons_succ])
              refine inv_cons (fun wx hg hd => ?_) (fun v18 => ?_)
              · have hx := ((Below.refl w1.heap.size w1).drew).trans hg
                (try (have ee : v13 = (.bool true : Value) := hd 13 (by simp) (by decide); subst ee))
                (try (have ee : v17 = (.int .i64 z : Value) := hd 17 (by simp) (by decide); subst ee))
                clear hd hg
                go_wp2_with fail
                refine (HSH.out _).mono ?_
                rintro e w' ⟨rfl, hb⟩
                go_wp2
                exact ⟨_, rfl, hb, rfl⟩
              (try simp only [List.cons_append, List.nil_append, Act.put, List.setIfInBounds_toArray, List.set_cons_zero, List.set_cons_succ])
              refine inv_cons (fun wx hg hd => ?_) (fun v19 => ?_)
              · have hx := ((Below.refl w1.heap.size w1).drew).trans hg
                (try (have ee : v13 = (.bool true : Value) := hd 13 (by simp) (by decide); subst ee))
                (try (have ee : v15 = (.int .i64 x : Value) := hd 15 (by simp) (by decide); subst ee))
                (try (have ee : v18 = (.int .i64 P : Value) := hd 18 (by simp) (by decide); subst ee))
                clear hd hg
                go_wp2
                exact ⟨_, rfl, Below.refl _ _, rfl⟩
              (try simp only [List.cons_append, List.nil_append, Act.put, List.setIfInBounds_toArray, List.set_cons_zero, List.set_cons_succ])
              refine inv_cons (fun wx hg hd => ?_) (fun v20 => ?_)
              · have hx := ((Below.refl w1.heap.size w1).drew).trans hg
                (try (have ee : v13 = (.bool true : Value) := hd 13 (by simp) (by decide); subst ee))
                (try (have ee : v19 = (.bool true : Value) := hd 19 (by simp) (by decide); subst ee))
                clear hd hg
                go_wp2
                exact ⟨_, rfl, Below.refl _ _, rfl⟩
              (try simp only [List.cons_append, List.nil_append, Act.put, List.setIfInBounds_toArray, List.set_cons_zero, List.set_cons_succ])
              refine inv_cons (fun wx hg hd => ?_) (fun v21 => ?_)
              · have hx := ((Below.refl w1.heap.size w1).drew).trans hg
                (try (have ee : v20 = (.bool true : Value) := hd 20 (by simp) (by decide); subst ee))
                clear hd hg
                go_wp2
                exact ⟨_, rfl, Below.refl _ _, rfl⟩
              (try simp only [List.cons_append, List.nil_append, Act.put, List.setIfInBounds_toArray, List.set_cons_zero, List.set_cons_succ])
              refine inv_cons (fun wx hg hd => ?_) (fun v22 => ?_)
              · have hx := ((Below.refl w1.heap.size w1).drew).trans hg
                (try (have ee : v21 = (.bool true : Value) := hd 21 (by simp) (by decide); subst ee))
                clear hd hg
                go_wp2
                exact ⟨_, rfl, Below.refl _ _, rfl⟩
              (try simp only [List.cons_append, List.nil_append, Act.put, List.setIfInBounds_toArray, List.set_cons_zero, List.set_cons_succ])
              refine inv_cons (fun wx hg hd => ?_) (fun v23 => ?_)
              · have hx := ((Below.refl w1.heap.size w1).drew).trans hg
                (try (have ee : v21 = (.bool true : Value) := hd 21 (by simp) (by decide); subst ee))
                (try (have ee : v22 = (.pointer (some ⟨w.heap.size, 2, none⟩) : Value) := hd 22 (by simp) (by decide); subst ee))
                clear hd hg
                obtain ⟨k0, k1, k2, k3⟩ := HT1.out _ hx
                have hsx : w.heap.size < wx.heap.size := Nat.lt_of_lt_of_le hs hx.size
                go_wp2
                exact ⟨_, rfl, Below.refl _ _, rfl⟩
              (try simp only [List.cons_append, List.nil_append, Act.put, List.setIfInBounds_toArray, List.set_cons_zero, List.set_cons_succ])
              refine inv_cons (fun wx hg hd => ?_) (fun v24 => ?_)
              · have hx := ((Below.refl w1.heap.size w1).drew).trans hg
                (try (have ee : v21 = (.bool true : Value) := hd 21 (by simp) (by decide); subst ee))
                (try (have ee : v23 = (.int .i64 y : Value) := hd 23 (by simp) (by decide); subst ee))
                clear hd hg
                go_wp2
                exact ⟨_, rfl, Below.refl _ _, rfl⟩
              (try simp only [List.cons_append, List.nil_append, Act.put, List.setIfInBounds_toArray, List.set_cons_zero, List.set_cons_succ])
              refine inv_cons (fun wx hg hd => ?_) (fun v25 => ?_)
              · have hx := ((Below.refl w1.heap.size w1).drew).trans hg
                (try (have ee : v21 = (.bool true : Value) := hd 21 (by simp) (by decide); subst ee))
                (try (have ee : v24 = (.bool true : Value) := hd 24 (by simp) (by decide); subst ee))
                clear hd hg
                go_wp2
                exact ⟨_, rfl, Below.refl _ _, rfl⟩
              (try simp only [List.cons_append, List.nil_append, Act.put, List.setIfInBounds_toArray, List.set_cons_zero, List.set_cons_succ])
              refine inv_cons (fun wx hg hd => ?_) (fun v26 => ?_)
              · have hx := ((Below.refl w1.heap.size w1).drew).trans hg
                (try (have ee : v25 = (.bool true : Value) := hd 25 (by simp) (by decide); subst ee))
                clear hd hg
                go_wp2
                exact ⟨_, rfl, Below.refl _ _, rfl⟩
              (try simp only [List.cons_append, List.nil_append, Act.put, List.setIfInBounds_toArray, List.set_cons_zero, List.set_cons_succ])
              refine inv_cons (fun wx hg hd => ?_) (fun v27 => ?_)
              · have hx := ((Below.refl w1.heap.size w1).drew).trans hg
                (try (have ee : v26 = (.bool true : Value) := hd 26 (by simp) (by decide); subst ee))
                clear hd hg
                go_wp2
                exact ⟨_, rfl, Below.refl _ _, rfl⟩
              (try simp only [List.cons_append, List.nil_append, Act.put, List.setIfInBounds_toArray, List.set_cons_zero, List.set_cons_succ])
              refine inv_cons (fun wx hg hd => ?_) (fun v28 => ?_)
              · have hx := ((Below.refl w1.heap.size w1).drew).trans hg
                (try (have ee : v26 = (.bool true : Value) := hd 26 (by simp) (by decide); subst ee))
                (try (have ee : v27 = (.pointer (some ⟨w.heap.size, 2, none⟩) : Value) := hd 27 (by simp) (by decide); subst ee))
                clear hd hg
                obtain ⟨k0, k1, k2, k3⟩ := HT1.out _ hx
                have hsx : w.heap.size < wx.heap.size := Nat.lt_of_lt_of_le hs hx.size
                go_wp2
                exact ⟨_, rfl, Below.refl _ _, rfl⟩
              (try simp only [List.cons_append, List.nil_append, Act.put, List.setIfInBounds_toArray, List.set_cons_zero, List.set_cons_succ])
              refine inv_cons (fun wx hg hd => ?_) (fun v29 => ?_)
              · have hx := ((Below.refl w1.heap.size w1).drew).trans hg
                (try (have ee : v26 = (.bool true : Value) := hd 26 (by simp) (by decide); subst ee))
                clear hd hg
                go_wp2
                exact ⟨_, rfl, Below.refl _ _, rfl⟩
              (try simp only [List.cons_append, List.nil_append, Act.put, List.setIfInBounds_toArray, List.set_cons_zero, List.set_cons_succ])
              refine inv_cons (fun wx hg hd => ?_) (fun v30 => ?_)
              · have hx := ((Below.refl w1.heap.size w1).drew).trans hg
                (try (have ee : v26 = (.bool true : Value) := hd 26 (by simp) (by decide); subst ee))
                (try (have ee : v29 = (.pointer (some ⟨w.heap.size, 0, none⟩) : Value) := hd 29 (by simp) (by decide); subst ee))
                clear hd hg
                obtain ⟨k0, k1, k2, k3⟩ := HT1.out _ hx
                have hsx : w.heap.size < wx.heap.size := Nat.lt_of_lt_of_le hs hx.size
                go_wp2
                exact ⟨_, rfl, Below.refl _ _, rfl⟩
              (try simp only [List.cons_append, List.nil_append, Act.put, List.setIfInBounds_toArray, List.set_cons_zero, List.set_cons_succ])
              refine inv_cons (fun wx hg hd => ?_) (fun v31 => ?_)
              · have hx := ((Below.refl w1.heap.size w1).drew).trans hg
                (try (have ee : v26 = (.bool true : Value) := hd 26 (by simp) (by decide); subst ee))
                (try (have ee : v30 = (.int .i64 z : Value) := hd 30 (by simp) (by decide); subst ee))
                clear hd hg
                go_wp2_with fail
                refine (HSH.out _).mono ?_
                rintro e w' ⟨rfl, hb⟩
                go_wp2
                exact ⟨_, rfl, hb, rfl⟩
              (try simp only [List.cons_append, List.nil_append, Act.put, List.setIfInBounds_toArray, List.set_cons_zero, List.set_cons_succ])
              refine inv_cons (fun wx hg hd => ?_) (fun v32 => ?_)
              · have hx := ((Below.refl w1.heap.size w1).drew).trans hg
                (try (have ee : v26 = (.bool true : Value) := hd 26 (by simp) (by decide); subst ee))
                (try (have ee : v28 = (.int .i64 y : Value) := hd 28 (by simp) (by decide); subst ee))
                (try (have ee : v31 = (.int .i64 P : Value) := hd 31 (by simp) (by decide); subst ee))
                clear hd hg
                go_wp2
                exact ⟨_, rfl, Below.refl _ _, rfl⟩
              (try simp only [List.cons_append, List.nil_append, Act.put, List.setIfInBounds_toArray, List.set_cons_zero, List.set_cons_succ])
              refine inv_cons (fun wx hg hd => ?_) (fun v33 => ?_)
              · have hx := ((Below.refl w1.heap.size w1).drew).trans hg
                (try (have ee : v26 = (.bool true : Value) := hd 26 (by simp) (by decide); subst ee))
                (try (have ee : v32 = (.bool false : Value) := hd 32 (by simp) (by decide); subst ee))
                clear hd hg
                go_wp2
                exact ⟨_, rfl, Below.refl _ _, rfl⟩
              (try simp only [List.cons_append, List.nil_append, Act.put, List.setIfInBounds_toArray, List.set_cons_zero, List.set_cons_succ])
              refine inv_cons (fun wx hg hd => ?_) (fun v34 => ?_)
              · have hx := ((Below.refl w1.heap.size w1).drew).trans hg
                (try (have ee : v33 = (.bool false : Value) := hd 33 (by simp) (by decide); subst ee))
                clear hd hg
                go_wp2
                exact ⟨_, rfl, Below.refl _ _, rfl⟩
              (try simp only [List.cons_append, List.nil_append, Act.put, List.setIfInBounds_toArray, List.set_cons_zero, List.set_cons_succ])
              refine inv_cons (fun wx hg hd => ?_) (fun v35 => ?_)
              · have hx := ((Below.refl w1.heap.size w1).drew).trans hg
                (try (have ee : v34 = (.bool false : Value) := hd 34 (by simp) (by decide); subst ee))
                clear hd hg
                go_wp2
                exact ⟨_, rfl, Below.refl _ _, rfl⟩
              (try simp only [List.cons_append, List.nil_append, Act.put, List.setIfInBounds_toArray, List.set_cons_zero, List.set_cons_succ])
              refine inv_cons (fun wx hg hd => ?_) (fun v36 => ?_)
              · have hx := ((Below.refl w1.heap.size w1).drew).trans hg
                (try (have ee : v34 = (.bool false : Value) := hd 34 (by simp) (by decide); subst ee))
                (try (have ee : v35 = (undef : Value) := hd 35 (by simp) (by decide); subst ee))
                clear hd hg
                go_wp2
                exact ⟨_, rfl, Below.refl _ _, rfl⟩
              (try simp only [List.cons_append, List.nil_append, Act.put, List.setIfInBounds_toArray, List.set_cons_zero, List.set_cons_succ])
              refine inv_cons (fun wx hg hd => ?_) (fun v37 => ?_)
              · have hx := ((Below.refl w1.heap.size w1).drew).trans hg
                (try (have ee : v34 = (.bool false : Value) := hd 34 (by simp) (by decide); subst ee))
                (try (have ee : v36 = (undef : Value) := hd 36 (by simp) (by decide); subst ee))
                clear hd hg
                go_wp2
                exact ⟨_, rfl, Below.refl _ _, rfl⟩
              (try simp only [List.cons_append, List.nil_append, Act.put, List.setIfInBounds_toArray, List.set_cons_zero, List.set_cons_succ])
              refine inv_cons (fun wx hg hd => ?_) (fun v38 => ?_)
              · have hx := ((Below.refl w1.heap.size w1).drew).trans hg
                (try (have ee : v34 = (.bool false : Value) := hd 34 (by simp) (by decide); subst ee))
                (try (have ee : v37 = (undef : Value) := hd 37 (by simp) (by decide); subst ee))
                clear hd hg
                go_wp2
                exact ⟨_, rfl, Below.refl _ _, rfl⟩
              (try simp only [List.cons_append, List.nil_append, Act.put, List.setIfInBounds_toArray, List.set_cons_zero, List.set_cons_succ])
              refine inv_cons (fun wx hg hd => ?_) (fun v39 => ?_)
              · have hx := ((Below.refl w1.heap.size w1).drew).trans hg
                (try (have ee : v38 = (.bool false : Value) := hd 38 (by simp) (by decide); subst ee))
                clear hd hg
                go_wp2
                exact ⟨_, rfl, Below.refl _ _, rfl⟩
              (try simp only [List.cons_append, List.nil_append, Act.put, List.setIfInBounds_toArray, List.set_cons_zero, List.set_cons_succ])
              refine inv_cons (fun wx hg hd => ?_) (fun v40 => ?_)
              · have hx := ((Below.refl w1.heap.size w1).drew).trans hg
                (try (have ee : v39 = (.bool false : Value) := hd 39 (by simp) (by decide); subst ee))
                clear hd hg
                go_wp2
                exact ⟨_, rfl, Below.refl _ _, rfl⟩
              (try simp only [List.cons_append, List.nil_append, Act.put, List.setIfInBounds_toArray, List.set_cons_zero, List.set_cons_succ])
              refine inv_cons (fun wx hg hd => ?_) (fun v41 => ?_)
              · have hx := ((Below.refl w1.heap.size w1).drew).trans hg
                (try (have ee : v39 = (.bool false : Value) := hd 39 (by simp) (by decide); subst ee))
                (try (have ee : v40 = (undef : Value) := hd 40 (by simp) (by decide); subst ee))
                clear hd hg
                go_wp2
                exact ⟨_, rfl, Below.refl _ _, rfl⟩
              (try simp only [List.cons_append, List.nil_append, Act.put, List.setIfInBounds_toArray, List.set_cons_zero, List.set_cons_succ])
              refine inv_cons (fun wx hg hd => ?_) (fun v42 => ?_)
              · have hx := ((Below.refl w1.heap.size w1).drew).trans hg
                (try (have ee : v39 = (.bool false : Value) := hd 39 (by simp) (by decide); subst ee))
                (try (have ee : v41 = (undef : Value) := hd 41 (by simp) (by decide); subst ee))
                clear hd hg
                go_wp2
                exact ⟨_, rfl, Below.refl _ _, rfl⟩
              (try simp only [List.cons_append, List.nil_append, Act.put, List.setIfInBounds_toArray, List.set_cons_zero, List.set_cons_succ])
              refine inv_cons (fun wx hg hd => ?_) (fun v43 => ?_)
              · have hx := ((Below.refl w1.heap.size w1).drew).trans hg
                (try (have ee : v39 = (.bool false : Value) := hd 39 (by simp) (by decide); subst ee))
                (try (have ee : v42 = (undef : Value) := hd 42 (by simp) (by decide); subst ee))
                clear hd hg
                go_wp2
                exact ⟨_, rfl, Below.refl _ _, rfl⟩
              (try simp only [List.cons_append, List.nil_append, Act.put, List.setIfInBounds_toArray, List.set_cons_zero, List.set_cons_succ])
              refine inv_cons (fun wx hg hd => ?_) (fun v44 => ?_)
              · have hx := ((Below.refl w1.heap.size w1).drew).trans hg
                (try (have ee : v43 = (.bool false : Value) := hd 43 (by simp) (by decide); subst ee))
                clear hd hg
                go_wp2
                exact ⟨_, rfl, Below.refl _ _, rfl⟩
              (try simp only [List.cons_append, List.nil_append, Act.put, List.setIfInBounds_toArray, List.set_cons_zero, List.set_cons_succ])
              refine inv_done (fun wx hg hd => ?_)
              have hx := ((Below.refl w1.heap.size w1).drew).trans hg
              (have ee : v0 = (.pointer (some ⟨w.heap.size, 0, none⟩) : Value) := hd 0 (by simp); subst ee)
              (have ee : v1 = (.int .i64 z : Value) := hd 1 (by simp); subst ee)
              (have ee : v2 = (.bool true : Value) := hd 2 (by simp); subst ee)
              (have ee : v3 = (.bool true : Value) := hd 3 (by simp); subst ee)
              (have ee : v4 = (.pointer (some ⟨w.heap.size, 0, none⟩) : Value) := hd 4 (by simp); subst ee)
              (have ee : v5 = (.int .i64 z : Value) := hd 5 (by simp); subst ee)
              (have ee : v6 = (.bool true : Value) := hd 6 (by simp); subst ee)
              (have ee : v7 = (.bool true : Value) := hd 7 (by simp); subst ee)
              (have ee : v8 = (.bool true : Value) := hd 8 (by simp); subst ee)
              (have ee : v9 = (.pointer (some ⟨w.heap.size, 1, none⟩) : Value) := hd 9 (by simp); subst ee)
              (have ee : v10 = (.int .i64 x : Value) := hd 10 (by simp); subst ee)
              (have ee : v11 = (.bool true : Value) := hd 11 (by simp); subst ee)
              (have ee : v12 = (.bool true : Value) := hd 12 (by simp); subst ee)
              (have ee : v13 = (.bool true : Value) := hd 13 (by simp); subst ee)
              (have ee : v14 = (.pointer (some ⟨w.heap.size, 1, none⟩) : Value) := hd 14 (by simp); subst ee)
              (have ee : v15 = (.int .i64 x : Value) := hd 15 (by simp); subst ee)
              (have ee : v16 = (.pointer (some ⟨w.heap.size, 0, none⟩) : Value) := hd 16 (by simp); subst ee)
              (have ee : v17 = (.int .i64 z : Value) := hd 17 (by simp); subst ee)
              (have ee : v18 = (.int .i64 P : Value) := hd 18 (by simp); subst ee)
              (have ee : v19 = (.bool true : Value) := hd 19 (by simp); subst ee)
              (have ee : v20 = (.bool true : Value) := hd 20 (by simp); subst ee)
              (have ee : v21 = (.bool true : Value) := hd 21 (by simp); subst ee)
              (have ee : v22 = (.pointer (some ⟨w.heap.size, 2, none⟩) : Value) := hd 22 (by simp); subst ee)
              (have ee : v23 = (.int .i64 y : Value) := hd 23 (by simp); subst ee)
              (have ee : v24 = (.bool true : Value) := hd 24 (by simp); subst ee)
              (have ee : v25 = (.bool true : Value) := hd 25 (by simp); subst ee)
              (have ee : v26 = (.bool true : Value) := hd 26 (by simp); subst ee)
              (have ee : v27 = (.pointer (some ⟨w.heap.size, 2, none⟩) : Value) := hd 27 (by simp); subst ee)
              (have ee : v28 = (.int .i64 y : Value) := hd 28 (by simp); subst ee)
              (have ee : v29 = (.pointer (some ⟨w.heap.size, 0, none⟩) : Value) := hd 29 (by simp); subst ee)
              (have ee : v30 = (.int .i64 z : Value) := hd 30 (by simp); subst ee)
              (have ee : v31 = (.int .i64 P : Value) := hd 31 (by simp); subst ee)
              (have ee : v32 = (.bool false : Value) := hd 32 (by simp); subst ee)
              (have ee : v33 = (.bool false : Value) := hd 33 (by simp); subst ee)
              (have ee : v34 = (.bool false : Value) := hd 34 (by simp); subst ee)
              (have ee : v35 = (undef : Value) := hd 35 (by simp); subst ee)
              (have ee : v36 = (undef : Value) := hd 36 (by simp); subst ee)
              (have ee : v37 = (undef : Value) := hd 37 (by simp); subst ee)
              (have ee : v38 = (.bool false : Value) := hd 38 (by simp); subst ee)
              (have ee : v39 = (.bool false : Value) := hd 39 (by simp); subst ee)
              (have ee : v40 = (undef : Value) := hd 40 (by simp); subst ee)
              (have ee : v41 = (undef : Value) := hd 41 (by simp); subst ee)
              (have ee : v42 = (undef : Value) := hd 42 (by simp); subst ee)
              (have ee : v43 = (.bool false : Value) := hd 43 (by simp); subst ee)
              (have ee : v44 = (.bool false : Value) := hd 44 (by simp); subst ee)
              clear hd hg
              (try go_simp)
              go_wp2
              go_ret
              exact ⟨by rw [HR.out]; rfl, HB.out.trans (hx.mono HB.out.size)⟩
          · have HR : Hid (res = false) := by show _ = _; rw [HI.out, decide_eq_false g5]; simp
            have q5 : decide (0 ≤ y) = false := decide_eq_false g5
            have HSH := Lib.hid (HP.out g1 g2)
            clear HP
            clear HI
            go_enter Tryz.func37, Tryz.ntmps37
            go_upto_region 1 with (rw [HW1.out])
            first | rw [HW1.out] | skip
            refine wp_region_inv (fun w w' => Below w.heap.size w w') (fun qi_ qv_ _ => qv_ = ([.pointer (some ⟨w.heap.size, 0, none⟩), .int .i64 z, .bool true, .bool true, .pointer (some ⟨w.heap.size, 0, none⟩), .int .i64 z, .bool true, .bool true, .bool true, .pointer (some ⟨w.heap.size, 1, none⟩), .int .i64 x, .bool true, .bool true, .bool true, .pointer (some ⟨w.heap.size, 1, none⟩), .int .i64 x, .pointer (some ⟨w.heap.size, 0, none⟩), .int .i64 z, .int .i64 P, .bool true, .bool true, .bool true, .pointer (some ⟨w.heap.size, 2, none⟩), .int .i64 y, .bool false, .bool false, .bool false, undef, undef, undef, undef, undef, undef, .bool false, .bool false, undef, undef, undef, .bool false, .bool false, undef, undef, undef, .bool false, .bool false] : List Value).getD qi_ undef) (by kernel_rfl) (by kernel_rfl) (fun _ => Below.refl _ _) (fun _ _ _ h1 h2 => below_later h1 h1.size h2) (fun _ _ _ _ _ _ h => h) ?_
            refine inv_cons (fun wx hg hd => ?_) (fun v0 => ?_)
            · have hx := ((Below.refl w1.heap.size w1).drew).trans hg
              clear hd hg
              go_wp2
              exact ⟨_, rfl, Below.refl _ _, rfl⟩
            (try simp only [List.nil_append, Act.put, List.setIfInBounds_toArray, List.set_cons_zero, List.set_cons_succ])
            refine inv_cons (fun wx hg hd => ?_) (fun v1 => ?_)
            · have hx := ((Below.refl w1.heap.size w1).drew).trans hg
              (try (have ee : v0 = (.pointer (some ⟨w.heap.size, 0, none⟩) : Value) := hd 0 (by simp) (by decide); subst ee))
              clear hd hg
              obtain ⟨k0, k1, k2, k3⟩ := HT1.out _ hx
              have hsx : w.heap.size < wx.heap.size := Nat.lt_of_lt_of_le hs hx.size
              go_wp2
              exact ⟨_, rfl, Below.refl _ _, rfl⟩
            (try simp only [List.cons_append, List.nil_append, Act.put, List.setIfInBounds_toArray, List.set_cons_zero, List.set_cons_succ])
            refine inv_cons (fun wx hg hd => ?_) (fun v2 => ?_)
            · have hx := ((Below.refl w1.heap.size w1).drew).trans hg
              (try (have ee : v1 = (.int .i64 z : Value) := hd 1 (by simp) (by decide); subst ee))
              clear hd hg
              go_wp2
              exact ⟨_, rfl, Below.refl _ _, rfl⟩
            (try simp only [List.cons_append, List.nil_append, Act.put, List.setIfInBounds_toArray, List.set_cons_zero, List.set_cons_succ])
            refine inv_cons (fun wx hg hd => ?_) (fun v3 => ?_)
            · have hx := ((Below.refl w1.heap.size w1).drew).trans hg
              (try (have ee : v2 = (.bool true : Value) := hd 2 (by simp) (by decide); subst ee))
              clear hd hg
              go_wp2
              exact ⟨_, rfl, Below.refl _ _, rfl⟩
            (try simp only [List.cons_append, List.nil_append, Act.put, List.setIfInBounds_toArray, List.set_cons_zero, List.set_cons_succ])
            refine inv_cons (fun wx hg hd => ?_) (fun v4 => ?_)
            · have hx := ((Below.refl w1.heap.size w1).drew).trans hg
              (try (have ee : v3 = (.bool true : Value) := hd 3 (by simp) (by decide); subst ee))
              clear hd hg
              go_wp2
              exact ⟨_, rfl, Below.refl _ _, rfl⟩
            (try simp only [List.cons_append, List.nil_append, Act.put, List.setIfInBounds_toArray, List.set_cons_zero, List.set_cons_succ])
            refine inv_cons (fun wx hg hd => ?_) (fun v5 => ?_)
            · have hx := ((Below.refl w1.heap.size w1).drew).trans hg
              (try (have ee : v3 = (.bool true : Value) := hd 3 (by simp) (by decide); subst ee))
              (try (have ee : v4 = (.pointer (some ⟨w.heap.size, 0, none⟩) : Value) := hd 4 (by simp) (by decide); subst ee))
              clear hd hg
              obtain ⟨k0, k1, k2, k3⟩ := HT1.out _ hx
              have hsx : w.heap.size < wx.heap.size := Nat.lt_of_lt_of_le hs hx.size
              go_wp2
              exact ⟨_, rfl, Below.refl _ _, rfl⟩
            (try simp only [List.cons_append, List.nil_append, Act.put, List.setIfInBounds_toArray, List.set_cons_zero, List.set_cons_succ])
            refine inv_cons (fun wx hg hd => ?_) (fun v6 => ?_)
            · have hx := ((Below.refl w1.heap.size w1).drew).trans hg
              (try (have ee : v3 = (.bool true : Value) := hd 3 (by simp) (by decide); subst ee))
              (try (have ee : v5 = (.int .i64 z : Value) := hd 5 (by simp) (by decide); subst ee))
              clear hd hg
              go_wp2
              exact ⟨_, rfl, Below.refl _ _, rfl⟩
            (try simp only [List.cons_append, List.nil_append, Act.put, List.setIfInBounds_toArray, List.set_cons_zero, List.set_cons_succ])
            refine inv_cons (fun wx hg hd => ?_) (fun v7 => ?_)
            · have hx := ((Below.refl w1.heap.size w1).drew).trans hg
              (try (have ee : v3 = (.bool true : Value) := hd 3 (by simp) (by decide); subst ee))
              (try (have ee : v6 = (.bool true : Value) := hd 6 (by simp) (by decide); subst ee))
              clear hd hg
              go_wp2
              exact ⟨_, rfl, Below.refl _ _, rfl⟩
            (try simp only [List.cons_append, List.nil_append, Act.put, List.setIfInBounds_toArray, List.set_cons_zero, List.set_cons_succ])
            refine inv_cons (fun wx hg hd => ?_) (fun v8 => ?_)
            · have hx := ((Below.refl w1.heap.size w1).drew).trans hg
              (try (have ee : v7 = (.bool true : Value) := hd 7 (by simp) (by decide); subst ee))
              clear hd hg
              go_wp2
              exact ⟨_, rfl, Below.refl _ _, rfl⟩
            (try simp only [List.cons_append, List.nil_append, Act.put, List.setIfInBounds_toArray, List.set_cons_zero, List.set_cons_succ])
            refine inv_cons (fun wx hg hd => ?_) (fun v9 => ?_)
            · have hx := ((Below.refl w1.heap.size w1).drew).trans hg
              (try (have ee : v8 = (.bool true : Value) := hd 8 (by simp) (by decide); subst ee))
              clear hd hg
              go_wp2
              exact ⟨_, rfl, Below.refl _ _, rfl⟩
            (try simp only [List.cons_append, List.nil_append, Act.put, List.setIfInBounds_toArray, List.set_cons_zero, List.set_cons_succ])
            refine inv_cons (fun wx hg hd => ?_) (fun v10 => ?_)
            · have hx := ((Below.refl w1.heap.size w1).drew).trans hg
              (try (have ee : v8 = (.bool true : Value) := hd 8 (by simp) (by decide); subst ee))
              (try (have ee : v9 = (.pointer (some ⟨w.heap.size, 1, none⟩) : Value) := hd 9 (by simp) (by decide); subst ee))
              clear hd hg
              obtain ⟨k0, k1, k2, k3⟩ := HT1.out _ hx
              have hsx : w.heap.size < wx.heap.size := Nat.lt_of_lt_of_le hs hx.size
              go_wp2
              exact ⟨_, rfl, Below.refl _ _, rfl⟩
            (try simp only [List.cons_append, List.nil_append, Act.put, List.setIfInBounds_toArray, List.set_cons_zero, List.set_cons_succ])
            refine inv_cons (fun wx hg hd => ?_) (fun v11 => ?_)
            · have hx := ((Below.refl w1.heap.size w1).drew).trans hg
              (try (have ee : v8 = (.bool true : Value) := hd 8 (by simp) (by decide); subst ee))
              (try (have ee : v10 = (.int .i64 x : Value) := hd 10 (by simp) (by decide); subst ee))
              clear hd hg
              go_wp2
              exact ⟨_, rfl, Below.refl _ _, rfl⟩
            (try simp only [List.cons_append, List.nil_append, Act.put, List.setIfInBounds_toArray, List.set_cons_zero, List.set_cons_succ])
            refine inv_cons (fun wx hg hd => ?_) (fun v12 => ?_)
            · have hx := ((Below.refl w1.heap.size w1).drew).trans hg
              (try (have ee : v8 = (.bool true : Value) := hd 8 (by simp) (by decide); subst ee))
              (try (have ee : v11 = (.bool true : Value) := hd 11 (by simp) (by decide); subst ee))
              clear hd hg
              go_wp2
              exact ⟨_, rfl, Below.refl _ _, rfl⟩
            (try simp only [List.cons_append, List.nil_append, Act.put, List.setIfInBounds_toArray, List.set_cons_zero, List.set_cons_succ])
            refine inv_cons (fun wx hg hd => ?_) (fun v13 => ?_)
            · have hx := ((Below.refl w1.heap.size w1).drew).trans hg
              (try (have ee : v12 = (.bool true : Value) := hd 12 (by simp) (by decide); subst ee))
              clear hd hg
              go_wp2
              exact ⟨_, rfl, Below.refl _ _, rfl⟩
            (try simp only [List.cons_append, List.nil_append, Act.put, List.setIfInBounds_toArray, List.set_cons_zero, List.set_cons_succ])
            refine inv_cons (fun wx hg hd => ?_) (fun v14 => ?_)
            · have hx := ((Below.refl w1.heap.size w1).drew).trans hg
              (try (have ee : v13 = (.bool true : Value) := hd 13 (by simp) (by decide); subst ee))
              clear hd hg
              go_wp2
              exact ⟨_, rfl, Below.refl _ _, rfl⟩
            (try simp only [List.cons_append, List.nil_append, Act.put, List.setIfInBounds_toArray, List.set_cons_zero, List.set_cons_succ])
            refine inv_cons (fun wx hg hd => ?_) (fun v15 => ?_)
            · have hx := ((Below.refl w1.heap.size w1).drew).trans hg
              (try (have ee : v13 = (.bool true : Value) := hd 13 (by simp) (by decide); subst ee))
              (try (have ee : v14 = (.pointer (some ⟨w.heap.size, 1, none⟩) : Value) := hd 14 (by simp) (by decide); subst ee))
              clear hd hg
              obtain ⟨k0, k1, k2, k3⟩ := HT1.out _ hx
              have hsx : w.heap.size < wx.heap.size := Nat.lt_of_lt_of_le hs hx.size
              go_wp2
              exact ⟨_, rfl, Below.refl _ _, rfl⟩
            (try simp only [List.cons_append, List.nil_append, Act.put, List.setIfInBounds_toArray, List.set_cons_zero, List.set_cons_succ])
            refine inv_cons (fun wx hg hd => ?_) (fun v16 => ?_)
            · have hx := ((Below.refl w1.heap.size w1).drew).trans hg
              (try (have ee : v13 = (.bool true : Value) := hd 13 (by simp) (by decide); subst ee))
              clear hd hg
              go_wp2
              exact ⟨_, rfl, Below.refl _ _, rfl⟩
            (try simp only [List.cons_append, List.nil_append, Act.put, List.setIfInBounds_toArray, List.set_cons_zero, List.set_cons_succ])
            refine inv_cons (fun wx hg hd => ?_) (fun v17 => ?_)
            · have hx := ((Below.refl w1.heap.size w1).drew).trans hg
              (try (have ee : v13 = (.bool true : Value) := hd 13 (by simp) (by decide); subst ee))
              (try (have ee : v16 = (.pointer (some ⟨w.heap.size, 0, none⟩) : Value) := hd 16 (by simp) (by decide); subst ee))
              clear hd hg
              obtain ⟨k0, k1, k2, k3⟩ := HT1.out _ hx
              have hsx : w.heap.size < wx.heap.size := Nat.lt_of_lt_of_le hs hx.size
              go_wp2
              exact ⟨_, rfl, Below.refl _ _, rfl⟩
            (try simp only [List.cons_append, List.nil_append, Act.put, List.setIfInBounds_toArray, List.set_cons_zero, List.set_cons_succ])
            refine inv_cons (fun wx hg hd => ?_) (fun v18 => ?_)
            · have hx := ((Below.refl w1.heap.size w1).drew).trans hg
              (try (have ee : v13 = (.bool true : Value) := hd 13 (by simp) (by decide); subst ee))
              (try (have ee : v17 = (.int .i64 z : Value) := hd 17 (by simp) (by decide); subst ee))
              clear hd hg
              go_wp2_with fail
              refine (HSH.out _).mono ?_
              rintro e w' ⟨rfl, hb⟩
              go_wp2
              exact ⟨_, rfl, hb, rfl⟩
            (try simp only [List.cons_append, List.nil_append, Act.put, List.setIfInBounds_toArray, List.set_cons_zero, List.set_cons_succ])
            refine inv_cons (fun wx hg hd => ?_) (fun v19 => ?_)
            · have hx := ((Below.refl w1.heap.size w1).drew).trans hg
              (try (have ee : v13 = (.bool true : Value) := hd 13 (by simp) (by decide); subst ee))
              (try (have ee : v15 = (.int .i64 x : Value) := hd 15 (by simp) (by decide); subst ee))
              (try (have ee : v18 = (.int .i64 P : Value) := hd 18 (by simp) (by decide); subst ee))
              clear hd hg
              go_wp2
              exact ⟨_, rfl, Below.refl _ _, rfl⟩
            (try simp only [List.cons_append, List.nil_append, Act.put, List.setIfInBounds_toArray, List.set_cons_zero, List.set_cons_succ])
            refine inv_cons (fun wx hg hd => ?_) (fun v20 => ?_)
            · have hx := ((Below.refl w1.heap.size w1).drew).trans hg
              (try (have ee : v13 = (.bool true : Value) := hd 13 (by simp) (by decide); subst ee))
              (try (have ee : v19 = (.bool true : Value) := hd 19 (by simp) (by decide); subst ee))
              clear hd hg
              go_wp2
              exact ⟨_, rfl, Below.refl _ _, rfl⟩
            (try simp only [List.cons_append, List.nil_append, Act.put, List.setIfInBounds_toArray, List.set_cons_zero, List.set_cons_succ])
            refine inv_cons (fun wx hg hd => ?_) (fun v21 => ?_)
            · have hx := ((Below.refl w1.heap.size w1).drew).trans hg
              (try (have ee : v20 = (.bool true : Value) := hd 20 (by simp) (by decide); subst ee))
              clear hd hg
              go_wp2
              exact ⟨_, rfl, Below.refl _ _, rfl⟩
            (try simp only [List.cons_append, List.nil_append, Act.put, List.setIfInBounds_toArray, List.set_cons_zero, List.set_cons_succ])
            refine inv_cons (fun wx hg hd => ?_) (fun v22 => ?_)
            · have hx := ((Below.refl w1.heap.size w1).drew).trans hg
              (try (have ee : v21 = (.bool true : Value) := hd 21 (by simp) (by decide); subst ee))
              clear hd hg
              go_wp2
              exact ⟨_, rfl, Below.refl _ _, rfl⟩
            (try simp only [List.cons_append, List.nil_append, Act.put, List.setIfInBounds_toArray, List.set_cons_zero, List.set_cons_succ])
            refine inv_cons (fun wx hg hd => ?_) (fun v23 => ?_)
            · have hx := ((Below.refl w1.heap.size w1).drew).trans hg
              (try (have ee : v21 = (.bool true : Value) := hd 21 (by simp) (by decide); subst ee))
              (try (have ee : v22 = (.pointer (some ⟨w.heap.size, 2, none⟩) : Value) := hd 22 (by simp) (by decide); subst ee))
              clear hd hg
              obtain ⟨k0, k1, k2, k3⟩ := HT1.out _ hx
              have hsx : w.heap.size < wx.heap.size := Nat.lt_of_lt_of_le hs hx.size
              go_wp2
              exact ⟨_, rfl, Below.refl _ _, rfl⟩
            (try simp only [List.cons_append, List.nil_append, Act.put, List.setIfInBounds_toArray, List.set_cons_zero, List.set_cons_succ])
            refine inv_cons (fun wx hg hd => ?_) (fun v24 => ?_)
            · have hx := ((Below.refl w1.heap.size w1).drew).trans hg
              (try (have ee : v21 = (.bool true : Value) := hd 21 (by simp) (by decide); subst ee))
              (try (have ee : v23 = (.int .i64 y : Value) := hd 23 (by simp) (by decide); subst ee))
              clear hd hg
              go_wp2
              exact ⟨_, rfl, Below.refl _ _, rfl⟩
            (try simp only [List.cons_append, List.nil_append, Act.put, List.setIfInBounds_toArray, List.set_cons_zero, List.set_cons_succ])
            refine inv_cons (fun wx hg hd => ?_) (fun v25 => ?_)
            · have hx := ((Below.refl w1.heap.size w1).drew).trans hg
              (try (have ee : v21 = (.bool true : Value) := hd 21 (by simp) (by decide); subst ee))
              (try (have ee : v24 = (.bool false : Value) := hd 24 (by simp) (by decide); subst ee))
              clear hd hg
              go_wp2
              exact ⟨_, rfl, Below.refl _ _, rfl⟩
            (try simp only [List.cons_append, List.nil_append, Act.put, List.setIfInBounds_toArray, List.set_cons_zero, List.set_cons_succ])
            refine inv_cons (fun wx hg hd => ?_) (fun v26 => ?_)
            · have hx := ((Below.refl w1.heap.size w1).drew).trans hg
              (try (have ee : v25 = (.bool false : Value) := hd 25 (by simp) (by decide); subst ee))
              clear hd hg
              go_wp2
              exact ⟨_, rfl, Below.refl _ _, rfl⟩
            (try simp only [List.cons_append, List.nil_append, Act.put, List.setIfInBounds_toArray, List.set_cons_zero, List.set_cons_succ])
            refine inv_cons (fun wx hg hd => ?_) (fun v27 => ?_)
            · have hx := ((Below.refl w1.heap.size w1).drew).trans hg
              (try (have ee : v26 = (.bool false : Value) := hd 26 (by simp) (by decide); subst ee))
              clear hd hg
              go_wp2
              exact ⟨_, rfl, Below.refl _ _, rfl⟩
            (try simp only [List.cons_append, List.nil_append, Act.put, List.setIfInBounds_toArray, List.set_cons_zero, List.set_cons_succ])
            refine inv_cons (fun wx hg hd => ?_) (fun v28 => ?_)
            · have hx := ((Below.refl w1.heap.size w1).drew).trans hg
              (try (have ee : v26 = (.bool false : Value) := hd 26 (by simp) (by decide); subst ee))
              (try (have ee : v27 = (undef : Value) := hd 27 (by simp) (by decide); subst ee))
              clear hd hg
              go_wp2
              exact ⟨_, rfl, Below.refl _ _, rfl⟩
            (try simp only [List.cons_append, List.nil_append, Act.put, List.setIfInBounds_toArray, List.set_cons_zero, List.set_cons_succ])
            refine inv_cons (fun wx hg hd => ?_) (fun v29 => ?_)
            · have hx := ((Below.refl w1.heap.size w1).drew).trans hg
              (try (have ee : v26 = (.bool false : Value) := hd 26 (by simp) (by decide); subst ee))
              clear hd hg
              go_wp2
              exact ⟨_, rfl, Below.refl _ _, rfl⟩
            (try simp only [List.cons_append, List.nil_append, Act.put, List.setIfInBounds_toArray, List.set_cons_zero, List.set_cons_succ])
            refine inv_cons (fun wx hg hd => ?_) (fun v30 => ?_)
            · have hx := ((Below.refl w1.heap.size w1).drew).trans hg
              (try (have ee : v26 = (.bool false : Value) := hd 26 (by simp) (by decide); subst ee))
              (try (have ee : v29 = (undef : Value) := hd 29 (by simp) (by decide); subst ee))
              clear hd hg
              go_wp2
              exact ⟨_, rfl, Below.refl _ _, rfl⟩
            (try simp only [List.cons_append, List.nil_append, Act.put, List.setIfInBounds_toArray, List.set_cons_zero, List.set_cons_succ])
            refine inv_cons (fun wx hg hd => ?_) (fun v31 => ?_)
            · have hx := ((Below.refl w1.heap.size w1).drew).trans hg
              (try (have ee : v26 = (.bool false : Value) := hd 26 (by simp) (by decide); subst ee))
              (try (have ee : v30 = (undef : Value) := hd 30 (by simp) (by decide); subst ee))
              clear hd hg
              go_wp2
              exact ⟨_, rfl, Below.refl _ _, rfl⟩
            (try simp only [List.cons_append, List.nil_append, Act.put, List.setIfInBounds_toArray, List.set_cons_zero, List.set_cons_succ])
            refine inv_cons (fun wx hg hd => ?_) (fun v32 => ?_)
            · have hx := ((Below.refl w1.heap.size w1).drew).trans hg
              (try (have ee : v26 = (.bool false : Value) := hd 26 (by simp) (by decide); subst ee))
              (try (have ee : v28 = (undef : Value) := hd 28 (by simp) (by decide); subst ee))
              (try (have ee : v31 = (undef : Value) := hd 31 (by simp) (by decide); subst ee))
              clear hd hg
              go_wp2
              exact ⟨_, rfl, Below.refl _ _, rfl⟩
            (try simp only [List.cons_append, List.nil_append, Act.put, List.setIfInBounds_toArray, List.set_cons_zero, List.set_cons_succ])
            refine inv_cons (fun wx hg hd => ?_) (fun v33 => ?_)
            · have hx := ((Below.refl w1.heap.size w1).drew).trans hg
              (try (have ee : v26 = (.bool false : Value) := hd 26 (by simp) (by decide); subst ee))
              (try (have ee : v32 = (undef : Value) := hd 32 (by simp) (by decide); subst ee))
              clear hd hg
              go_wp2
              exact ⟨_, rfl, Below.refl _ _, rfl⟩
            (try simp only [List.cons_append, List.nil_append, Act.put, List.setIfInBounds_toArray, List.set_cons_zero, List.set_cons_succ])
            refine inv_cons (fun wx hg hd => ?_) (fun v34 => ?_)
            · have hx := ((Below.refl w1.heap.size w1).drew).trans hg
              (try (have ee : v33 = (.bool false : Value) := hd 33 (by simp) (by decide); subst ee))
              clear hd hg
              go_wp2
              exact ⟨_, rfl, Below.refl _ _, rfl⟩
            (try simp only [List.cons_append, List.nil_append, Act.put, List.setIfInBounds_toArray, List.set_cons_zero, List.set_cons_succ])
            refine inv_cons (fun wx hg hd => ?_) (fun v35 => ?_)
            · have hx := ((Below.refl w1.heap.size w1).drew).trans hg
              (try (have ee : v34 = (.bool false : Value) := hd 34 (by simp) (by decide); subst ee))
              clear hd hg
              go_wp2
              exact ⟨_, rfl, Below.refl _ _, rfl⟩
            (try simp only [List.cons_append, List.nil_append, Act.put, List.setIfInBounds_toArray, List.set_cons_zero, List.set_cons_succ])
            refine inv_cons (fun wx hg hd => ?_) (fun v36 => ?_)
            · have hx := ((Below.refl w1.heap.size w1).drew).trans hg
              (try (have ee : v34 = (.bool false : Value) := hd 34 (by simp) (by decide); subst ee))
              (try (have ee : v35 = (undef : Value) := hd 35 (by simp) (by decide); subst ee))
              clear hd hg
              go_wp2
              exact ⟨_, rfl, Below.refl _ _, rfl⟩
            (try simp only [List.cons_append, List.nil_append, Act.put, List.setIfInBounds_toArray, List.set_cons_zero, List.set_cons_succ])
            refine inv_cons (fun wx hg hd => ?_) (fun v37 => ?_)
            · have hx := ((Below.refl w1.heap.size w1).drew).trans hg
              (try (have ee : v34 = (.bool false : Value) := hd 34 (by simp) (by decide); subst ee))
              (try (have ee : v36 = (undef : Value) := hd 36 (by simp) (by decide); subst ee))
              clear hd hg
              go_wp2
              exact ⟨_, rfl, Below.refl _ _, rfl⟩
            (try simp only [List.cons_append, List.nil_append, Act.put, List.setIfInBounds_toArray, List.set_cons_zero, List.set_cons_succ])
            refine inv_cons (fun wx hg hd => ?_) (fun v38 => ?_)
            · have hx := ((Below.refl w1.heap.size w1).drew).trans hg
              (try (have ee : v34 = (.bool false : Value) := hd 34 (by simp) (by decide); subst ee))
              (try (have ee : v37 = (undef : Value) := hd 37 (by simp) (by decide); subst ee))
              clear hd hg
              go_wp2
              exact ⟨_, rfl, Below.refl _ _, rfl⟩
            (try simp only [List.cons_append, List.nil_append, Act.put, List.setIfInBounds_toArray, List.set_cons_zero, List.set_cons_succ])
            refine inv_cons (fun wx hg hd => ?_) (fun v39 => ?_)
            · have hx := ((Below.refl w1.heap.size w1).drew).trans hg
              (try (have ee : v38 = (.bool false : Value) := hd 38 (by simp) (by decide); subst ee))
              clear hd hg
              go_wp2
              exact ⟨_, rfl, Below.refl _ _, rfl⟩
            (try simp only [List.cons_append, List.nil_append, Act.put, List.setIfInBounds_toArray, List.set_cons_zero, List.set_cons_succ])
            refine inv_cons (fun wx hg hd => ?_) (fun v40 => ?_)
            · have hx := ((Below.refl w1.heap.size w1).drew).trans hg
              (try (have ee : v39 = (.bool false : Value) := hd 39 (by simp) (by decide); subst ee))
              clear hd hg
              go_wp2
              exact ⟨_, rfl, Below.refl _ _, rfl⟩
            (try simp only [List.cons_append, List.nil_append, Act.put, List.setIfInBounds_toArray, List.set_cons_zero, List.set_cons_succ])
            refine inv_cons (fun wx hg hd => ?_) (fun v41 => ?_)
            · have hx := ((Below.refl w1.heap.size w1).drew).trans hg
              (try (have ee : v39 = (.bool false : Value) := hd 39 (by simp) (by decide); subst ee))
              (try (have ee : v40 = (undef : Value) := hd 40 (by simp) (by decide); subst ee))
              clear hd hg
              go_wp2
              exact ⟨_, rfl, Below.refl _ _, rfl⟩
            (try simp only [List.cons_append, List.nil_append, Act.put, List.setIfInBounds_toArray, List.set_cons_zero, List.set_cons_succ])
            refine inv_cons (fun wx hg hd => ?_) (fun v42 => ?_)
            · have hx := ((Below.refl w1.heap.size w1).drew).trans hg
              (try (have ee : v39 = (.bool false : Value) := hd 39 (by simp) (by decide); subst ee))
              (try (have ee : v41 = (undef : Value) := hd 41 (by simp) (by decide); subst ee))
              clear hd hg
              go_wp2
              exact ⟨_, rfl, Below.refl _ _, rfl⟩
            (try simp only [List.cons_append, List.nil_append, Act.put, List.setIfInBounds_toArray, List.set_cons_zero, List.set_cons_succ])
            refine inv_cons (fun wx hg hd => ?_) (fun v43 => ?_)
            · have hx := ((Below.refl w1.heap.size w1).drew).trans hg
              (try (have ee : v39 = (.bool false : Value) := hd 39 (by simp) (by decide); subst ee))
              (try (have ee : v42 = (undef : Value) := hd 42 (by simp) (by decide); subst ee))
              clear hd hg
              go_wp2
              exact ⟨_, rfl, Below.refl _ _, rfl⟩
            (try simp only [List.cons_append, List.nil_append, Act.put, List.setIfInBounds_toArray, List.set_cons_zero, List.set_cons_succ])
            refine inv_cons (fun wx hg hd => ?_) (fun v44 => ?_)
            · have hx := ((Below.refl w1.heap.size w1).drew).trans hg
              (try (have ee : v43 = (.bool false : Value) := hd 43 (by simp) (by decide); subst ee))
              clear hd hg
              go_wp2
              exact ⟨_, rfl, Below.refl _ _, rfl⟩
            (try simp only [List.cons_append, List.nil_append, Act.put, List.setIfInBounds_toArray, List.set_cons_zero, List.set_cons_succ])
            refine inv_done (fun wx hg hd => ?_)
            have hx := ((Below.refl w1.heap.size w1).drew).trans hg
            (have ee : v0 = (.pointer (some ⟨w.heap.size, 0, none⟩) : Value) := hd 0 (by simp); subst ee)
            (have ee : v1 = (.int .i64 z : Value) := hd 1 (by simp); subst ee)
            (have ee : v2 = (.bool true : Value) := hd 2 (by simp); subst ee)
            (have ee : v3 = (.bool true : Value) := hd 3 (by simp); subst ee)
            (have ee : v4 = (.pointer (some ⟨w.heap.size, 0, none⟩) : Value) := hd 4 (by simp); subst ee)
            (have ee : v5 = (.int .i64 z : Value) := hd 5 (by simp); subst ee)
            (have ee : v6 = (.bool true : Value) := hd 6 (by simp); subst ee)
            (have ee : v7 = (.bool true : Value) := hd 7 (by simp); subst ee)
            (have ee : v8 = (.bool true : Value) := hd 8 (by simp); subst ee)
            (have ee : v9 = (.pointer (some ⟨w.heap.size, 1, none⟩) : Value) := hd 9 (by simp); subst ee)
            (have ee : v10 = (.int .i64 x : Value) := hd 10 (by simp); subst ee)
            (have ee : v11 = (.bool true : Value) := hd 11 (by simp); subst ee)
            (have ee : v12 = (.bool true : Value) := hd 12 (by simp); subst ee)
            (have ee : v13 = (.bool true : Value) := hd 13 (by simp); subst ee)
            (have ee : v14 = (.pointer (some ⟨w.heap.size, 1, none⟩) : Value) := hd 14 (by simp); subst ee)
            (have ee : v15 = (.int .i64 x : Value) := hd 15 (by simp); subst ee)
            (have ee : v16 = (.pointer (some ⟨w.heap.size, 0, none⟩) : Value) := hd 16 (by simp); subst ee)
            (have ee : v17 = (.int .i64 z : Value) := hd 17 (by simp); subst ee)
            (have ee : v18 = (.int .i64 P : Value) := hd 18 (by simp); subst ee)
            (have ee : v19 = (.bool true : Value) := hd 19 (by simp); subst ee)
            (have ee : v20 = (.bool true : Value) := hd 20 (by simp); subst ee)
            (have ee : v21 = (.bool true : Value) := hd 21 (by simp); subst ee)
            (have ee : v22 = (.pointer (some ⟨w.heap.size, 2, none⟩) : Value) := hd 22 (by simp); subst ee)
            (have ee : v23 = (.int .i64 y : Value) := hd 23 (by simp); subst ee)
            (have ee : v24 = (.bool false : Value) := hd 24 (by simp); subst ee)
            (have ee : v25 = (.bool false : Value) := hd 25 (by simp); subst ee)
            (have ee : v26 = (.bool false : Value) := hd 26 (by simp); subst ee)
            (have ee : v27 = (undef : Value) := hd 27 (by simp); subst ee)
            (have ee : v28 = (undef : Value) := hd 28 (by simp); subst ee)
            (have ee : v29 = (undef : Value) := hd 29 (by simp); subst ee)
            (have ee : v30 = (undef : Value) := hd 30 (by simp); subst ee)
            (have ee : v31 = (undef : Value) := hd 31 (by simp); subst ee)
            (have ee : v32 = (undef : Value) := hd 32 (by simp); subst ee)
            (have ee : v33 = (.bool false : Value) := hd 33 (by simp); subst ee)
            (have ee : v34 = (.bool false : Value) := hd 34 (by simp); subst ee)
            (have ee : v35 = (undef : Value) := hd 35 (by simp); subst ee)
            (have ee : v36 = (undef : Value) := hd 36 (by simp); subst ee)
            (have ee : v37 = (undef : Value) := hd 37 (by simp); subst ee)
            (have ee : v38 = (.bool false : Value) := hd 38 (by simp); subst ee)
            (have ee : v39 = (.bool false : Value) := hd 39 (by simp); subst ee)
            (have ee : v40 = (undef : Value) := hd 40 (by simp); subst ee)
            (have ee : v41 = (undef : Value) := hd 41 (by simp); subst ee)
            (have ee : v42 = (undef : Value) := hd 42 (by simp); subst ee)
            (have ee : v43 = (.bool false : Value) := hd 43 (by simp); subst ee)
            (have ee : v44 = (.bool false : Value) := hd 44 (by simp); subst ee)
            clear hd hg
            (try go_simp)
            go_wp2
            go_ret
            exact ⟨by rw [HR.out]; rfl, HB.out.trans (hx.mono HB.out.size)⟩
        · have HR : Hid (res = false) := by show _ = _; rw [HI.out, decide_eq_false g4]; simp
          have q4 : decide (x < P) = false := decide_eq_false g4
          have HSH := Lib.hid (HP.out g1 g2)
          clear HP
          clear HI
          go_enter Tryz.func37, Tryz.ntmps37
          go_upto_region 1 with (rw [HW1.out])
          first | rw [HW1.out] | skip
          refine wp_region_inv (fun w w' => Below w.heap.size w w') (fun qi_ qv_ _ => qv_ = ([.pointer (some ⟨w.heap.size, 0, none⟩), .int .i64 z, .bool true, .bool true, .pointer (some ⟨w.heap.size, 0, none⟩), .int .i64 z, .bool true, .bool true, .bool true, .pointer (some ⟨w.heap.size, 1, none⟩), .int .i64 x, .bool true, .bool true, .bool true, .pointer (some ⟨w.heap.size, 1, none⟩), .int .i64 x, .pointer (some ⟨w.heap.size, 0, none⟩), .int .i64 z, .int .i64 P, .bool false, .bool false, .bool false, undef, undef, undef, .bool false, .bool false, undef, undef, undef, undef, undef, undef, .bool false, .bool false, undef, undef, undef, .bool false, .bool false, undef, undef, undef, .bool false, .bool false] : List Value).getD qi_ undef) (by kernel_rfl) (by kernel_rfl) (fun _ => Below.refl _ _) (fun _ _ _ h1 h2 => below_later h1 h1.size h2) (fun _ _ _ _ _ _ h => h) ?_
          refine inv_cons (fun wx hg hd => ?_) (fun v0 => ?_)
          · have hx := ((Below.refl w1.heap.size w1).drew).trans hg
            clear hd hg
            go_wp2
            exact ⟨_, rfl, Below.refl _ _, rfl⟩
          (try simp only [List.nil_append, Act.put, List.setIfInBounds_toArray, List.set_cons_zero, List.set_cons_succ])
          refine inv_cons (fun wx hg hd => ?_) (fun v1 => ?_)
          · have hx := ((Below.refl w1.heap.size w1).drew).trans hg
            (try (have ee : v0 = (.pointer (some ⟨w.heap.size, 0, none⟩) : Value) := hd 0 (by simp) (by decide); subst ee))
            clear hd hg
            obtain ⟨k0, k1, k2, k3⟩ := HT1.out _ hx
            have hsx : w.heap.size < wx.heap.size := Nat.lt_of_lt_of_le hs hx.size
            go_wp2
            exact ⟨_, rfl, Below.refl _ _, rfl⟩
          (try simp only [List.cons_append, List.nil_append, Act.put, List.setIfInBounds_toArray, List.set_cons_zero, List.set_cons_succ])
          refine inv_cons (fun wx hg hd => ?_) (fun v2 => ?_)
          · have hx := ((Below.refl w1.heap.size w1).drew).trans hg
            (try (have ee : v1 = (.int .i64 z : Value) := hd 1 (by simp) (by decide); subst ee))
            clear hd hg
            go_wp2
            exact ⟨_, rfl, Below.refl _ _, rfl⟩
          (try simp only [List.cons_append, List.nil_append, Act.put, List.setIfInBounds_toArray, List.set_cons_zero, List.set_cons_succ])
          refine inv_cons (fun wx hg hd => ?_) (fun v3 => ?_)
          · have hx := ((Below.refl w1.heap.size w1).drew).trans hg
            (try (have ee : v2 = (.bool true : Value) := hd 2 (by simp) (by decide); subst ee))
            clear hd hg
            go_wp2
            exact ⟨_, rfl, Below.refl _ _, rfl⟩
          (try simp only [List.cons_append, List.nil_append, Act.put, List.setIfInBounds_toArray, List.set_cons_zero, List.set_cons_succ])
          refine inv_cons (fun wx hg hd => ?_) (fun v4 => ?_)
          · have hx := ((Below.refl w1.heap.size w1).drew).trans hg
            (try (have ee : v3 = (.bool true : Value) := hd 3 (by simp) (by decide); subst ee))
            clear hd hg
            go_wp2
            exact ⟨_, rfl, Below.refl _ _, rfl⟩
          (try simp only [List.cons_append, List.nil_append, Act.put, List.setIfInBounds_toArray, List.set_cons_zero, List.set_cons_succ])
          refine inv_cons (fun wx hg hd => ?_) (fun v5 => ?_)
          · have hx := ((Below.refl w1.heap.size w1).drew).trans hg
            (try (have ee : v3 = (.bool true : Value) := hd 3 (by simp) (by decide); subst ee))
            (try (have ee : v4 = (.pointer (some ⟨w.heap.size, 0, none⟩) : Value) := hd 4 (by simp) (by decide); subst ee))
            clear hd hg
            obtain ⟨k0, k1, k2, k3⟩ := HT1.out _ hx
            have hsx : w.heap.size < wx.heap.size := Nat.lt_of_lt_of_le hs hx.size
            go_wp2
            exact ⟨_, rfl, Below.refl _ _, rfl⟩
          (try simp only [List.cons_append, List.nil_append, Act.put, List.setIfInBounds_toArray, List.set_cons_zero, List.set_cons_succ])
          refine inv_cons (fun wx hg hd => ?_) (fun v6 => ?_)
          · have hx := ((Below.refl w1.heap.size w1).drew).trans hg
            (try (have ee : v3 = (.bool true : Value) := hd 3 (by simp) (by decide); subst ee))
            (try (have ee : v5 = (.int .i64 z : Value) := hd 5 (by simp) (by decide); subst ee))
            clear hd hg
            go_wp2
            exact ⟨_, rfl, Below.refl _ _, rfl⟩
          (try simp only [List.cons_append, List.nil_append, Act.put, List.setIfInBounds_toArray, List.set_cons_zero, List.set_cons_succ])
          refine inv_cons (fun wx hg hd => ?_) (fun v7 => ?_)
          · have hx := ((Below.refl w1.heap.size w1).drew).trans hg
            (try (have ee : v3 = (.bool true : Value) := hd 3 (by simp) (by decide); subst ee))
            (try (have ee : v6 = (.bool true : Value) := hd 6 (by simp) (by decide); subst ee))
            clear hd hg
            go_wp2
            exact ⟨_, rfl, Below.refl _ _, rfl⟩
          (try simp only [List.cons_append, List.nil_append, Act.put, List.setIfInBounds_toArray, List.set_cons_zero, List.set_cons_succ])
          refine inv_cons (fun wx hg hd => ?_) (fun v8 => ?_)
          · have hx := ((Below.refl w1.heap.size w1).drew).trans hg
            (try (have ee : v7 = (.bool true : Value) := hd 7 (by simp) (by decide); subst ee))
            clear hd hg
            go_wp2
            exact ⟨_, rfl, Below.refl _ _, rfl⟩
          (try simp only [List.cons_append, List.nil_append, Act.put, List.setIfInBounds_toArray, List.set_cons_zero, List.set_cons_succ])
          refine inv_cons (fun wx hg hd => ?_) (fun v9 => ?_)
          · have hx := ((Below.refl w1.heap.size w1).drew).trans hg
            (try (have ee : v8 = (.bool true : Value) := hd 8 (by simp) (by decide); subst ee))
            clear hd hg
            go_wp2
            exact ⟨_, rfl, Below.refl _ _, rfl⟩
          (try simp only [List.cons_append, List.nil_append, Act.put, List.setIfInBounds_toArray, List.set_cons_zero, List.set_cons_succ])
          refine inv_cons (fun wx hg hd => ?_) (fun v10 => ?_)
          · have hx := ((Below.refl w1.heap.size w1).drew).trans hg
            (try (have ee : v8 = (.bool true : Value) := hd 8 (by simp) (by decide); subst ee))
            (try (have ee : v9 = (.pointer (some ⟨w.heap.size, 1, none⟩) : Value) := hd 9 (by simp) (by decide); subst ee))
            clear hd hg
            obtain ⟨k0, k1, k2, k3⟩ := HT1.out _ hx
            have hsx : w.heap.size < wx.heap.size := Nat.lt_of_lt_of_le hs hx.size
            go_wp2
            exact ⟨_, rfl, Below.refl _ _, rfl⟩
          (try simp only [List.cons_append, List.nil_append, Act.put, List.setIfInBounds_toArray, List.set_cons_zero, List.set_cons_succ])
          refine inv_cons (fun wx hg hd => ?_) (fun v11 => ?_)
          · have hx := ((Below.refl w1.heap.size w1).drew).trans hg
            (try (have ee : v8 = (.bool true : Value) := hd 8 (by simp) (by decide); subst ee))
            (try (have ee : v10 = (.int .i64 x : Value) := hd 10 (by simp) (by decide); subst ee))
            clear hd hg
            go_wp2
            exact ⟨_, rfl, Below.refl _ _, rfl⟩
          (try simp only [List.cons_append, List.nil_append, Act.put, List.setIfInBounds_toArray, List.set_cons_zero, List.set_cons_succ])
          refine inv_cons (fun wx hg hd => ?_) (fun v12 => ?_)
          · have hx := ((Below.refl w1.heap.size w1).drew).trans hg
            (try (have ee : v8 = (.bool true : Value) := hd 8 (by simp) (by decide); subst ee))
            (try (have ee : v11 = (.bool true : Value) := hd 11 (by simp) (by decide); subst ee))
            clear hd hg
            go_wp2
            exact ⟨_, rfl, Below.refl _ _, rfl⟩
          (try simp only [List.cons_append, List.nil_append, Act.put, List.setIfInBounds_toArray, List.set_cons_zero, List.set_cons_succ])
          refine inv_cons (fun wx hg hd => ?_) (fun v13 => ?_)
          · have hx := ((Below.refl w1.heap.size w1).drew).trans hg
            (try (have ee : v12 = (.bool true : Value) := hd 12 (by simp) (by decide); subst ee))
            clear hd hg
            go_wp2
            exact ⟨_, rfl, Below.refl _ _, rfl⟩
          (try simp only [List.cons_append, List.nil_append, Act.put, List.setIfInBounds_toArray, List.set_cons_zero, List.set_cons_succ])
          refine inv_cons (fun wx hg hd => ?_) (fun v14 => ?_)
          · have hx := ((Below.refl w1.heap.size w1).drew).trans hg
            (try (have ee : v13 = (.bool true : Value) := hd 13 (by simp) (by decide); subst ee))
            clear hd hg
            go_wp2
            exact ⟨_, rfl, Below.refl _ _, rfl⟩
          (try simp only [List.cons_append, List.nil_append, Act.put, List.setIfInBounds_toArray, List.set_cons_zero, List.set_cons_succ])
          refine inv_cons (fun wx hg hd => ?_) (fun v15 => ?_)
          · have hx := ((Below.refl w1.heap.size w1).drew).trans hg
            (try (have ee : v13 = (.bool true : Value) := hd 13 (by simp) (by decide); subst ee))
            (try (have ee : v14 = (.pointer (some ⟨w.heap.size, 1, none⟩) : Value) := hd 14 (by simp) (by decide); subst ee))
            clear hd hg
            obtain ⟨k0, k1, k2, k3⟩ := HT1.out _ hx
            have hsx : w.heap.size < wx.heap.size := Nat.lt_of_lt_of_le hs hx.size
            go_wp2
            exact ⟨_, rfl, Below.refl _ _, rfl⟩
          (try simp only [List.cons_append, List.nil_append, Act.put, List.setIfInBounds_toArray, List.set_cons_zero, List.set_cons_succ])
          refine inv_cons (fun wx hg hd => ?_) (fun v16 => ?_)
          · have hx := ((Below.refl w1.heap.size w1).drew).trans hg
            (try (have ee : v13 = (.bool true : Value) := hd 13 (by simp) (by decide); subst ee))
            clear hd hg
            go_wp2
            exact ⟨_, rfl, Below.refl _ _, rfl⟩
          (try simp only [List.cons_append, List.nil_append, Act.put, List.setIfInBounds_toArray, List.set_cons_zero, List.set_cons_succ])
          refine inv_cons (fun wx hg hd => ?_) (fun v17 => ?_)
          · have hx := ((Below.refl w1.heap.size w1).drew).trans hg
            (try (have ee : v13 = (.bool true : Value) := hd 13 (by simp) (by decide); subst ee))
            (try (have ee : v16 = (.pointer (some ⟨w.heap.size, 0, none⟩) : Value) := hd 16 (by simp) (by decide); subst ee))
            clear hd hg
            obtain ⟨k0, k1, k2, k3⟩ := HT1.out _ hx
            have hsx : w.heap.size < wx.heap.size := Nat.lt_of_lt_of_le hs hx.size
            go_wp2
            exact ⟨_, rfl, Below.refl _ _, rfl⟩
          (try simp only [List.cons_append, List.nil_append, Act.put, List.setIfInBounds_toArray, List.set_cons_zero, List.set_cons_succ])
          refine inv_cons (fun wx hg hd => ?_) (fun v18 => ?_)
          · have hx := ((Below.refl w1.heap.size w1).drew).trans hg
            (try (have ee : v13 = (.bool true : Value) := hd 13 (by simp) (by decide); subst ee))
            (try (have ee : v17 = (.int .i64 z : Value) := hd 17 (by simp) (by decide); subst ee))
            clear hd hg
            go_wp2_with fail
            refine (HSH.out _).mono ?_
            rintro e w' ⟨rfl, hb⟩
            go_wp2
            exact ⟨_, rfl, hb, rfl⟩
          (try simp only [List.cons_append, List.nil_append, Act.put, List.setIfInBounds_toArray, List.set_cons_zero, List.set_cons_succ])
          refine inv_cons (fun wx hg hd => ?_) (fun v19 => ?_)
          · have hx := ((Below.refl w1.heap.size w1).drew).trans hg
            (try (have ee : v13 = (.bool true : Value) := hd 13 (by simp) (by decide); subst ee))
            (try (have ee : v15 = (.int .i64 x : Value) := hd 15 (by simp) (by decide); subst ee))
            (try (have ee : v18 = (.int .i64 P : Value) := hd 18 (by simp) (by decide); subst ee))
            clear hd hg
            go_wp2
            exact ⟨_, rfl, Below.refl _ _, rfl⟩
          (try simp only [List.cons_append, List.nil_append, Act.put, List.setIfInBounds_toArray, List.set_cons_zero, List.set_cons_succ])
          refine inv_cons (fun wx hg hd => ?_) (fun v20 => ?_)
          · have hx := ((Below.refl w1.heap.size w1).drew).trans hg
            (try (have ee : v13 = (.bool true : Value) := hd 13 (by simp) (by decide); subst ee))
            (try (have ee : v19 = (.bool false : Value) := hd 19 (by simp) (by decide); subst ee))
            clear hd hg
            go_wp2
            exact ⟨_, rfl, Below.refl _ _, rfl⟩
          (try simp only [List.cons_append, List.nil_append, Act.put, List.setIfInBounds_toArray, List.set_cons_zero, List.set_cons_succ])
          refine inv_cons (fun wx hg hd => ?_) (fun v21 => ?_)
          · have hx := ((Below.refl w1.heap.size w1).drew).trans hg
            (try (have ee : v20 = (.bool false : Value) := hd 20 (by simp) (by decide); subst ee))
            clear hd hg
            go_wp2
            exact ⟨_, rfl, Below.refl _ _, rfl⟩
          (try simp only [List.cons_append, List.nil_append, Act.put, List.setIfInBounds_toArray, List.set_cons_zero, List.set_cons_succ])
          refine inv_cons (fun wx hg hd => ?_) (fun v22 => ?_)
          · have hx := ((Below.refl w1.heap.size w1).drew).trans hg
            (try (have ee : v21 = (.bool false : Value) := hd 21 (by simp) (by decide); subst ee))
            clear hd hg
            go_wp2
            exact ⟨_, rfl, Below.refl _ _, rfl⟩
          (try simp only [List.cons_append, List.nil_append, Act.put, List.setIfInBounds_toArray, List.set_cons_zero, List.set_cons_succ])
          refine inv_cons (fun wx hg hd => ?_) (fun v23 => ?_)
          · have hx := ((Below.refl w1.heap.size w1).drew).trans hg
            (try (have ee : v21 = (.bool false : Value) := hd 21 (by simp) (by decide); subst ee))
            (try (have ee : v22 = (undef : Value) := hd 22 (by simp) (by decide); subst ee))
            clear hd hg
            go_wp2
            exact ⟨_, rfl, Below.refl _ _, rfl⟩
          (try simp only [List.cons_append, List.nil_append, Act.put, List.setIfInBounds_toArray, List.set_cons_zero, List.set_cons_succ])
          refine inv_cons (fun wx hg hd => ?_) (fun v24 => ?_)
          · have hx := ((Below.refl w1.heap.size w1).drew).trans hg
            (try (have ee : v21 = (.bool false : Value) := hd 21 (by simp) (by decide); subst ee))
            (try (have ee : v23 = (undef : Value) := hd 23 (by simp) (by decide); subst ee))
            clear hd hg
            go_wp2
            exact ⟨_, rfl, Below.refl _ _, rfl⟩
          (try simp only [List.cons_append, List.nil_append, Act.put, List.setIfInBounds_toArray, List.set_cons_zero, List.set_cons_succ])
          refine inv_cons (fun wx hg hd => ?_) (fun v25 => ?_)
          · have hx := ((Below.refl w1.heap.size w1).drew).trans hg
            (try (have ee : v21 = (.bool false : Value) := hd 21 (by simp) (by decide); subst ee))
            (try (have ee : v24 = (undef : Value) := hd 24 (by simp) (by decide); subst ee))
            clear hd hg
            go_wp2
            exact ⟨_, rfl, Below.refl _ _, rfl⟩
          (try simp only [List.cons_append, List.nil_append, Act.put, List.setIfInBounds_toArray, List.set_cons_zero, List.set_cons_succ])
          refine inv_cons (fun wx hg hd => ?_) (fun v26 => ?_)
          · have hx := ((Below.refl w1.heap.size w1).drew).trans hg
            (try (have ee : v25 = (.bool false : Value) := hd 25 (by simp) (by decide); subst ee))
            clear hd hg
            go_wp2
            exact ⟨_, rfl, Below.refl _ _, rfl⟩
          (try simp only [List.cons_append, List.nil_append, Act.put, List.setIfInBounds_toArray, List.set_cons_zero, List.set_cons_succ])
          refine inv_cons (fun wx hg hd => ?_) (fun v27 => ?_)
          · have hx := ((Below.refl w1.heap.size w1).drew).trans hg
            (try (have ee : v26 = (.bool false : Value) := hd 26 (by simp) (by decide); subst ee))
            clear hd hg
            go_wp2
            exact ⟨_, rfl, Below.refl _ _, rfl⟩
          (try simp only [List.cons_append, List.nil_append, Act.put, List.setIfInBounds_toArray, List.set_cons_zero, List.set_cons_succ])
          refine inv_cons (fun wx hg hd => ?_) (fun v28 => ?_)
          · have hx := ((Below.refl w1.heap.size w1).drew).trans hg
            (try (have ee : v26 = (.bool false : Value) := hd 26 (by simp) (by decide); subst ee))
            (try (have ee : v27 = (undef : Value) := hd 27 (by simp) (by decide); subst ee))
            clear hd hg
            go_wp2
            exact ⟨_, rfl, Below.refl _ _, rfl⟩
          (try simp only [List.cons_append, List.nil_append, Act.put, List.setIfInBounds_toArray, List.set_cons_zero, List.set_cons_succ])
          refine inv_cons (fun wx hg hd => ?_) (fun v29 => ?_)
          · have hx := ((Below.refl w1.heap.size w1).drew).trans hg
            (try (have ee : v26 = (.bool false : Value) := hd 26 (by simp) (by decide); subst ee))
            clear hd hg
            go_wp2
            exact ⟨_, rfl, Below.refl _ _, rfl⟩
          (try simp only [List.cons_append, List.nil_append, Act.put, List.setIfInBounds_toArray, List.set_cons_zero, List.set_cons_succ])
          refine inv_cons (fun wx hg hd => ?_) (fun v30 => ?_)
          · have hx := ((Below.refl w1.heap.size w1).drew).trans hg
            (try (have ee : v26 = (.bool false : Value) := hd 26 (by simp) (by decide); subst ee))
            (try (have ee : v29 = (undef : Value) := hd 29 (by simp) (by decide); subst ee))
            clear hd hg
            go_wp2
            exact ⟨_, rfl, Below.refl _ _, rfl⟩
          (try simp only [List.cons_append, List.nil_append, Act.put, List.setIfInBounds_toArray, List.set_cons_zero, List.set_cons_succ])
          refine inv_cons (fun wx hg hd => ?_) (fun v31 => ?_)
          · have hx := ((Below.refl w1.heap.size w1).drew).trans hg
            (try (have ee : v26 = (.bool false : Value) := hd 26 (by simp) (by decide); subst ee))
            (try (have ee : v30 = (undef : Value) := hd 30 (by simp) (by decide); subst ee))
            clear hd hg
            go_wp2
            exact ⟨_, rfl, Below.refl _ _, rfl⟩
          (try simp only [List.cons_append, List.nil_append, Act.put, List.setIfInBounds_toArray, List.set_cons_zero, List.set_cons_succ])
          refine inv_cons (fun wx hg hd => ?_) (fun v32 => ?_)
          · have hx := ((Below.refl w1.heap.size w1).drew).trans hg
            (try (have ee : v26 = (.bool false : Value) := hd 26 (by simp) (by decide); subst ee))
            (try (have ee : v28 = (undef : Value) := hd 28 (by simp) (by decide); subst ee))
            (try (have ee : v31 = (undef : Value) := hd 31 (by simp) (by decide); subst ee))
            clear hd hg
            go_wp2
            exact ⟨_, rfl, Below.refl _ _, rfl⟩
          (try simp only [List.cons_append, List.nil_append, Act.put, List.setIfInBounds_toArray, List.set_cons_zero, List.set_cons_succ])
          refine inv_cons (fun wx hg hd => ?_) (fun v33 => ?_)
          · have hx := ((Below.refl w1.heap.size w1).drew).trans hg
            (try (have ee : v26 = (.bool false : Value) := hd 26 (by simp) (by decide); subst ee))
            (try (have ee : v32 = (undef : Value) := hd 32 (by simp) (by decide); subst ee))
            clear hd hg
            go_wp2
            exact ⟨_, rfl, Below.refl _ _, rfl⟩
          (try simp only [List.cons_append, List.nil_append, Act.put, List.setIfInBounds_toArray, List.set_cons_zero, List.set_cons_succ])
          refine inv_cons (fun wx hg hd => ?_) (fun v34 => ?_)
          · have hx := ((Below.refl w1.heap.size w1).drew).trans hg
            (try (have ee : v33 = (.bool false : Value) := hd 33 (by simp) (by decide); subst ee))
            clear hd hg
            go_wp2
            exact ⟨_, rfl, Below.refl _ _, rfl⟩
          (try simp only [List.cons_append, List.nil_append, Act.put, List.setIfInBounds_toArray, List.set_cons_zero, List.set_cons_succ])
          refine inv_cons (fun wx hg hd => ?_) (fun v35 => ?_)
          · have hx := ((Below.refl w1.heap.size w1).drew).trans hg
            (try (have ee : v34 = (.bool false : Value) := hd 34 (by simp) (by decide); subst ee))
            clear hd hg
            go_wp2
            exact ⟨_, rfl, Below.refl _ _, rfl⟩
          (try simp only [List.cons_append, List.nil_append, Act.put, List.setIfInBounds_toArray, List.set_cons_zero, List.set_cons_succ])
          refine inv_cons (fun wx hg hd => ?_) (fun v36 => ?_)
          · have hx := ((Below.refl w1.heap.size w1).drew).trans hg
            (try (have ee : v34 = (.bool false : Value) := hd 34 (by simp) (by decide); subst ee))
            (try (have ee : v35 = (undef : Value) := hd 35 (by simp) (by decide); subst ee))
            clear hd hg
            go_wp2
            exact ⟨_, rfl, Below.refl _ _, rfl⟩
          (try simp only [List.cons_append, List.nil_append, Act.put, List.setIfInBounds_toArray, List.set_cons_zero, List.set_cons_succ])
          refine inv_cons (fun wx hg hd => ?_) (fun v37 => ?_)
          · have hx := ((Below.refl w1.heap.size w1).drew).trans hg
            (try (have ee : v34 = (.bool false : Value) := hd 34 (by simp) (by decide); subst ee))
            (try (have ee : v36 = (undef : Value) := hd 36 (by simp) (by decide); subst ee))
            clear hd hg
            go_wp2
            exact ⟨_, rfl, Below.refl _ _, rfl⟩
          (try simp only [List.cons_append, List.nil_append, Act.put, List.setIfInBounds_toArray, List.set_cons_zero, List.set_cons_succ])
          refine inv_cons (fun wx hg hd => ?_) (fun v38 => ?_)
          · have hx := ((Below.refl w1.heap.size w1).drew).trans hg
            (try (have ee : v34 = (.bool false : Value) := hd 34 (by simp) (by decide); subst ee))
            (try (have ee : v37 = (undef : Value) := hd 37 (by simp) (by decide); subst ee))
            clear hd hg
            go_wp2
            exact ⟨_, rfl, Below.refl _ _, rfl⟩
          (try simp only [List.cons_append, List.nil_append, Act.put, List.setIfInBounds_toArray, List.set_cons_zero, List.set_cons_succ])
          refine inv_cons (fun wx hg hd => ?_) (fun v39 => ?_)
          · have hx := ((Below.refl w1.heap.size w1).drew).trans hg
            (try (have ee : v38 = (.bool false : Value) := hd 38 (by simp) (by decide); subst ee))
            clear hd hg
            go_wp2
            exact ⟨_, rfl, Below.refl _ _, rfl⟩
          (try simp only [List.cons_append, List.nil_append, Act.put, List.setIfInBounds_toArray, List.set_cons_zero, List.set_cons_succ])
          refine inv_cons (fun wx hg hd => ?_) (fun v40 => ?_)
          · have hx := ((Below.refl w1.heap.size w1).drew).trans hg
            (try (have ee : v39 = (.bool false : Value) := hd 39 (by simp) (by decide); subst ee))
            clear hd hg
            go_wp2
            exact ⟨_, rfl, Below.refl _ _, rfl⟩
          (try simp only [List.cons_append, List.nil_append, Act.put, List.setIfInBounds_toArray, List.set_cons_zero, List.set_cons_succ])
          refine inv_cons (fun wx hg hd => ?_) (fun v41 => ?_)
          · have hx := ((Below.refl w1.heap.size w1).drew).trans hg
            (try (have ee : v39 = (.bool false : Value) := hd 39 (by simp) (by decide); subst ee))
            (try (have ee : v40 = (undef : Value) := hd 40 (by simp) (by decide); subst ee))
            clear hd hg
            go_wp2
            exact ⟨_, rfl, Below.refl _ _, rfl⟩
          (try simp only [List.cons_append, List.nil_append, Act.put, List.setIfInBounds_toArray, List.set_cons_zero, List.set_cons_succ])
          refine inv_cons (fun wx hg hd => ?_) (fun v42 => ?_)
          · have hx := ((Below.refl w1.heap.size w1).drew).trans hg
            (try (have ee : v39 = (.bool false : Value) := hd 39 (by simp) (by decide); subst ee))
            (try (have ee : v41 = (undef : Value) := hd 41 (by simp) (by decide); subst ee))
            clear hd hg
            go_wp2
            exact ⟨_, rfl, Below.refl _ _, rfl⟩
          (try simp only [List.cons_append, List.nil_append, Act.put, List.setIfInBounds_toArray, List.set_cons_zero, List.set_cons_succ])
          refine inv_cons (fun wx hg hd => ?_) (fun v43 => ?_)
          · have hx := ((Below.refl w1.heap.size w1).drew).trans hg
            (try (have ee : v39 = (.bool false : Value) := hd 39 (by simp) (by decide); subst ee))
            (try (have ee : v42 = (undef : Value) := hd 42 (by simp) (by decide); subst ee))
            clear hd hg
            go_wp2
            exact ⟨_, rfl, Below.refl _ _, rfl⟩
          (try simp only [List.cons_append, List.nil_append, Act.put, List.setIfInBounds_toArray, List.set_cons_zero, List.set_cons_succ])
          refine inv_cons (fun wx hg hd => ?_) (fun v44 => ?_)
          · have hx := ((Below.refl w1.heap.size w1).drew).trans hg
            (try (have ee : v43 = (.bool false : Value) := hd 43 (by simp) (by decide); subst ee))
            clear hd hg
            go_wp2
            exact ⟨_, rfl, Below.refl _ _, rfl⟩
          (try simp only [List.cons_append, List.nil_append, Act.put, List.setIfInBounds_toArray, List.set_cons_zero, List.set_cons_succ])
          refine inv_done (fun wx hg hd => ?_)
          have hx := ((Below.refl w1.heap.size w1).drew).trans hg
          (have ee : v0 = (.pointer (some ⟨w.heap.size, 0, none⟩) : Value) := hd 0 (by simp); subst ee)
          (have ee : v1 = (.int .i64 z : Value) := hd 1 (by simp); subst ee)
          (have ee : v2 = (.bool true : Value) := hd 2 (by simp); subst ee)
          (have ee : v3 = (.bool true : Value) := hd 3 (by simp); subst ee)
          (have ee : v4 = (.pointer (some ⟨w.heap.size, 0, none⟩) : Value) := hd 4 (by simp); subst ee)
          (have ee : v5 = (.int .i64 z : Value) := hd 5 (by simp); subst ee)
          (have ee : v6 = (.bool true : Value) := hd 6 (by simp); subst ee)
          (have ee : v7 = (.bool true : Value) := hd 7 (by simp); subst ee)
          (have ee : v8 = (.bool true : Value) := hd 8 (by simp); subst ee)
          (have ee : v9 = (.pointer (some ⟨w.heap.size, 1, none⟩) : Value) := hd 9 (by simp); subst ee)
          (have ee : v10 = (.int .i64 x : Value) := hd 10 (by simp); subst ee)
          (have ee : v11 = (.bool true : Value) := hd 11 (by simp); subst ee)
          (have ee : v12 = (.bool true : Value) := hd 12 (by simp); subst ee)
          (have ee : v13 = (.bool true : Value) := hd 13 (by simp); subst ee)
          (have ee : v14 = (.pointer (some ⟨w.heap.size, 1, none⟩) : Value) := hd 14 (by simp); subst ee)
          (have ee : v15 = (.int .i64 x : Value) := hd 15 (by simp); subst ee)
          (have ee : v16 = (.pointer (some ⟨w.heap.size, 0, none⟩) : Value) := hd 16 (by simp); subst ee)
          (have ee : v17 = (.int .i64 z : Value) := hd 17 (by simp); subst ee)
          (have ee : v18 = (.int .i64 P : Value) := hd 18 (by simp); subst ee)
          (have ee : v19 = (.bool false : Value) := hd 19 (by simp); subst ee)
          (have ee : v20 = (.bool false : Value) := hd 20 (by simp); subst ee)
          (have ee : v21 = (.bool false : Value) := hd 21 (by simp); subst ee)
          (have ee : v22 = (undef : Value) := hd 22 (by simp); subst ee)
          (have ee : v23 = (undef : Value) := hd 23 (by simp); subst ee)
          (have ee : v24 = (undef : Value) := hd 24 (by simp); subst ee)
          (have ee : v25 = (.bool false : Value) := hd 25 (by simp); subst ee)
          (have ee : v26 = (.bool false : Value) := hd 26 (by simp); subst ee)
          (have ee : v27 = (undef : Value) := hd 27 (by simp); subst ee)
          (have ee : v28 = (undef : Value) := hd 28 (by simp); subst ee)
          (have ee : v29 = (undef : Value) := hd 29 (by simp); subst ee)
          (have ee : v30 = (undef : Value) := hd 30 (by simp); subst ee)
          (have ee : v31 = (undef : Value) := hd 31 (by simp); subst ee)
          (have ee : v32 = (undef : Value) := hd 32 (by simp); subst ee)
          (have ee : v33 = (.bool false : Value) := hd 33 (by simp); subst ee)
          (have ee : v34 = (.bool false : Value) := hd 34 (by simp); subst ee)
          (have ee : v35 = (undef : Value) := hd 35 (by simp); subst ee)
          (have ee : v36 = (undef : Value) := hd 36 (by simp); subst ee)
          (have ee : v37 = (undef : Value) := hd 37 (by simp); subst ee)
          (have ee : v38 = (.bool false : Value) := hd 38 (by simp); subst ee)
          (have ee : v39 = (.bool false : Value) := hd 39 (by simp); subst ee)
          (have ee : v40 = (undef : Value) := hd 40 (by simp); subst ee)
          (have ee : v41 = (undef : Value) := hd 41 (by simp); subst ee)
          (have ee : v42 = (undef : Value) := hd 42 (by simp); subst ee)
          (have ee : v43 = (.bool false : Value) := hd 43 (by simp); subst ee)
          (have ee : v44 = (.bool false : Value) := hd 44 (by simp); subst ee)
          clear hd hg
          (try go_simp)
          go_wp2
          go_ret
          exact ⟨by rw [HR.out]; rfl, HB.out.trans (hx.mono HB.out.size)⟩
      · have HR : Hid (res = false) := by show _ = _; rw [HI.out, decide_eq_false g3]; simp
        have q3 : decide (0 ≤ x) = false := decide_eq_false g3
        clear HP
        clear HI
        go_enter Tryz.func37, Tryz.ntmps37
        go_upto_region 1 with (rw [HW1.out])
        first | rw [HW1.out] | skip
        refine wp_region_inv (fun w w' => Below w.heap.size w w') (fun qi_ qv_ _ => qv_ = ([.pointer (some ⟨w.heap.size, 0, none⟩), .int .i64 z, .bool true, .bool true, .pointer (some ⟨w.heap.size, 0, none⟩), .int .i64 z, .bool true, .bool true, .bool true, .pointer (some ⟨w.heap.size, 1, none⟩), .int .i64 x, .bool false, .bool false, .bool false, undef, undef, undef, undef, undef, undef, .bool false, .bool false, undef, undef, undef, .bool false, .bool false, undef, undef, undef, undef, undef, undef, .bool false, .bool false, undef, undef, undef, .bool false, .bool false, undef, undef, undef, .bool false, .bool false] : List Value).getD qi_ undef) (by kernel_rfl) (by kernel_rfl) (fun _ => Below.refl _ _) (fun _ _ _ h1 h2 => below_later h1 h1.size h2) (fun _ _ _ _ _ _ h => h) ?_
        refine inv_cons (fun wx hg hd => ?_) (fun v0 => ?_)
        · have hx := ((Below.refl w1.heap.size w1).drew).trans hg
          clear hd hg
          go_wp2
          exact ⟨_, rfl, Below.refl _ _, rfl⟩
        (try simp only [List.nil_append, Act.put, List.setIfInBounds_toArray, List.set_cons_zero, List.set_cons_succ])
        refine inv_cons (fun wx hg hd => ?_) (fun v1 => ?_)
        · have hx := ((Below.refl w1.heap.size w1).drew).trans hg
          (try (have ee : v0 = (.pointer (some ⟨w.heap.size, 0, none⟩) : Value) := hd 0 (by simp) (by decide); subst ee))
          clear hd hg
          obtain ⟨k0, k1, k2, k3⟩ := HT1.out _ hx
          have hsx : w.heap.size < wx.heap.size := Nat.lt_of_lt_of_le hs hx.size
          go_wp2
          exact ⟨_, rfl, Below.refl _ _, rfl⟩
        (try simp only [List.cons_append, List.nil_append, Act.put, List.setIfInBounds_toArray, List.set_cons_zero, List.set_cons_succ])
        refine inv_cons (fun wx hg hd => ?_) (fun v2 => ?_)
        · have hx := ((Below.refl w1.heap.size w1).drew).trans hg
          (try (have ee : v1 = (.int .i64 z : Value) := hd 1 (by simp) (by decide); subst ee))
          clear hd hg
          go_wp2
          exact ⟨_, rfl, Below.refl _ _, rfl⟩
        (try simp only [List.cons_append, List.nil_append, Act.put, List.setIfInBounds_toArray, List.set_cons_zero, List.set_cons_succ])
        refine inv_cons (fun wx hg hd => ?_) (fun v3 => ?_)
        · have hx := ((Below.refl w1.heap.size w1).drew).trans hg
          (try (have ee : v2 = (.bool true : Value) := hd 2 (by simp) (by decide); subst ee))
          clear hd hg
          go_wp2
          exact ⟨_, rfl, Below.refl _ _, rfl⟩
        (try simp only [List.cons_append, List.nil_append, Act.put, List.setIfInBounds_toArray, List.set_cons_zero, List.set_cons_succ])
        refine inv_cons (fun wx hg hd => ?_) (fun v4 => ?_)
        · have hx := ((Below.refl w1.heap.size w1).drew).trans hg
          (try (have ee : v3 = (.bool true : Value) := hd 3 (by simp) (by decide); subst ee))
          clear hd hg
          go_wp2
          exact ⟨_, rfl, Below.refl _ _, rfl⟩
        (try simp only [List.cons_append, List.nil_append, Act.put, List.setIfInBounds_toArray, List.set_cons_zero, List.set_cons_succ])
        refine inv_cons (fun wx hg hd => ?_) (fun v5 => ?_)
        · have hx := ((Below.refl w1.heap.size w1).drew).trans hg
          (try (have ee : v3 = (.bool true : Value) := hd 3 (by simp) (by decide); subst ee))
          (try (have ee : v4 = (.pointer (some ⟨w.heap.size, 0, none⟩) : Value) := hd 4 (by simp) (by decide); subst ee))
          clear hd hg
          obtain ⟨k0, k1, k2, k3⟩ := HT1.out _ hx
          have hsx : w.heap.size < wx.heap.size := Nat.lt_of_lt_of_le hs hx.size
          go_wp2
          exact ⟨_, rfl, Below.refl _ _, rfl⟩
        (try simp only [List.cons_append, List.nil_append, Act.put, List.setIfInBounds_toArray, List.set_cons_zero, List.set_cons_succ])
        refine inv_cons (fun wx hg hd => ?_) (fun v6 => ?_)
        · have hx := ((Below.refl w1.heap.size w1).drew).trans hg
          (try (have ee : v3 = (.bool true : Value) := hd 3 (by simp) (by decide); subst ee))
          (try (have ee : v5 = (.int .i64 z : Value) := hd 5 (by simp) (by decide); subst ee))
          clear hd hg
          go_wp2
          exact ⟨_, rfl, Below.refl _ _, rfl⟩
        (try simp only [List.cons_append, List.nil_append, Act.put, List.setIfInBounds_toArray, List.set_cons_zero, List.set_cons_succ])
        refine inv_cons (fun wx hg hd => ?_) (fun v7 => ?_)
        · have hx := ((Below.refl w1.heap.size w1).drew).trans hg
          (try (have ee : v3 = (.bool true : Value) := hd 3 (by simp) (by decide); subst ee))
          (try (have ee : v6 = (.bool true : Value) := hd 6 (by simp) (by decide); subst ee))
          clear hd hg
          go_wp2
          exact ⟨_, rfl, Below.refl _ _, rfl⟩
        (try simp only [List.cons_append, List.nil_append, Act.put, List.setIfInBounds_toArray, List.set_cons_zero, List.set_cons_succ])
        refine inv_cons (fun wx hg hd => ?_) (fun v8 => ?_)
        · have hx := ((Below.refl w1.heap.size w1).drew).trans hg
          (try (have ee : v7 = (.bool true : Value) := hd 7 (by simp) (by decide); subst ee))
          clear hd hg
          go_wp2
          exact ⟨_, rfl, Below.refl _ _, rfl⟩
        (try simp only [List.cons_append, List.nil_append, Act.put, List.setIfInBounds_toArray, List.set_cons_zero, List.set_cons_succ])
        refine inv_cons (fun wx hg hd => ?_) (fun v9 => ?_)
        · have hx := ((Below.refl w1.heap.size w1).drew).trans hg
          (try (have ee : v8 = (.bool true : Value) := hd 8 (by simp) (by decide); subst ee))
          clear hd hg
          go_wp2
          exact ⟨_, rfl, Below.refl _ _, rfl⟩
        (try simp only [List.cons_append, List.nil_append, Act.put, List.setIfInBounds_toArray, List.set_cons_zero, List.set_cons_succ])
        refine inv_cons (fun wx hg hd => ?_) (fun v10 => ?_)
        · have hx := ((Below.refl w1.heap.size w1).drew).trans hg
          (try (have ee : v8 = (.bool true : Value) := hd 8 (by simp) (by decide); subst ee))
          (try (have ee : v9 = (.pointer (some ⟨w.heap.size, 1, none⟩) : Value) := hd 9 (by simp) (by decide); subst ee))
          clear hd hg
          obtain ⟨k0, k1, k2, k3⟩ := HT1.out _ hx
          have hsx : w.heap.size < wx.heap.size := Nat.lt_of_lt_of_le hs hx.size
          go_wp2
          exact ⟨_, rfl, Below.refl _ _, rfl⟩
        (try simp only [List.cons_append, List.nil_append, Act.put, List.setIfInBounds_toArray, List.set_cons_zero, List.set_cons_succ])
        refine inv_cons (fun wx hg hd => ?_) (fun v11 => ?_)
        · have hx := ((Below.refl w1.heap.size w1).drew).trans hg
          (try (have ee : v8 = (.bool true : Value) := hd 8 (by simp) (by decide); subst ee))
          (try (have ee : v10 = (.int .i64 x : Value) := hd 10 (by simp) (by decide); subst ee))
          clear hd hg
          go_wp2
          exact ⟨_, rfl, Below.refl _ _, rfl⟩
        (try simp only [List.cons_append, List.nil_append, Act.put, List.setIfInBounds_toArray, List.set_cons_zero, List.set_cons_succ])
        refine inv_cons (fun wx hg hd => ?_) (fun v12 => ?_)
        · have hx := ((Below.refl w1.heap.size w1).drew).trans hg
          (try (have ee : v8 = (.bool true : Value) := hd 8 (by simp) (by decide); subst ee))
          (try (have ee : v11 = (.bool false : Value) := hd 11 (by simp) (by decide); subst ee))
          clear hd hg
          go_wp2
          exact ⟨_, rfl, Below.refl _ _, rfl⟩
        (try simp only [List.cons_append, List.nil_append, Act.put, List.setIfInBounds_toArray, List.set_cons_zero, List.set_cons_succ])
        refine inv_cons (fun wx hg hd => ?_) (fun v13 => ?_)
        · have hx := ((Below.refl w1.heap.size w1).drew).trans hg
          (try (have ee : v12 = (.bool false : Value) := hd 12 (by simp) (by decide); subst ee))
          clear hd hg
          go_wp2
          exact ⟨_, rfl, Below.refl _ _, rfl⟩
        (try simp only [List.cons_append, List.nil_append, Act.put, List.setIfInBounds_toArray, List.set_cons_zero, List.set_cons_succ])
        refine inv_cons (fun wx hg hd => ?_) (fun v14 => ?_)
        · have hx := ((Below.refl w1.heap.size w1).drew).trans hg
          (try (have ee : v13 = (.bool false : Value) := hd 13 (by simp) (by decide); subst ee))
          clear hd hg
          go_wp2
          exact ⟨_, rfl, Below.refl _ _, rfl⟩
        (try simp only [List.cons_append, List.nil_append, Act.put, List.setIfInBounds_toArray, List.set_cons_zero, List.set_cons_succ])
        refine inv_cons (fun wx hg hd => ?_) (fun v15 => ?_)
        · have hx := ((Below.refl w1.heap.size w1).drew).trans hg
          (try (have ee : v13 = (.bool false : Value) := hd 13 (by simp) (by decide); subst ee))
          (try (have ee : v14 = (undef : Value) := hd 14 (by simp) (by decide); subst ee))
          clear hd hg
          go_wp2
          exact ⟨_, rfl, Below.refl _ _, rfl⟩
        (try simp only [List.cons_append, List.nil_append, Act.put, List.setIfInBounds_toArray, List.set_cons_zero, List.set_cons_succ])
        refine inv_cons (fun wx hg hd => ?_) (fun v16 => ?_)
        · have hx := ((Below.refl w1.heap.size w1).drew).trans hg
          (try (have ee : v13 = (.bool false : Value) := hd 13 (by simp) (by decide); subst ee))
          clear hd hg
          go_wp2
          exact ⟨_, rfl, Below.refl _ _, rfl⟩
        (try simp only [List.cons_append, List.nil_append, Act.put, List.setIfInBounds_toArray, List.set_cons_zero, List.set_cons_succ])
        refine inv_cons (fun wx hg hd => ?_) (fun v17 => ?_)
        · have hx := ((Below.refl w1.heap.size w1).drew).trans hg
          (try (have ee : v13 = (.bool false : Value) := hd 13 (by simp) (by decide); subst ee))
          (try (have ee : v16 = (undef : Value) := hd 16 (by simp) (by decide); subst ee))
          clear hd hg
          go_wp2
          exact ⟨_, rfl, Below.refl _ _, rfl⟩
        (try simp only [List.cons_append, List.nil_append, Act.put, List.setIfInBounds_toArray, List.set_cons_zero, List.set_cons_succ])
        refine inv_cons (fun wx hg hd => ?_) (fun v18 => ?_)
        · have hx := ((Below.refl w1.heap.size w1).drew).trans hg
          (try (have ee : v13 = (.bool false : Value) := hd 13 (by simp) (by decide); subst ee))
          (try (have ee : v17 = (undef : Value) := hd 17 (by simp) (by decide); subst ee))
          clear hd hg
          go_wp2
          exact ⟨_, rfl, Below.refl _ _, rfl⟩
        (try simp only [List.cons_append, List.nil_append, Act.put, List.setIfInBounds_toArray, List.set_cons_zero, List.set_cons_succ])
        refine inv_cons (fun wx hg hd => ?_) (fun v19 => ?_)
        · have hx := ((Below.refl w1.heap.size w1).drew).trans hg
          (try (have ee : v13 = (.bool false : Value) := hd 13 (by simp) (by decide); subst ee))
          (try (have ee : v15 = (undef : Value) := hd 15 (by simp) (by decide); subst ee))
          (try (have ee : v18 = (undef : Value) := hd 18 (by simp) (by decide); subst ee))
          clear hd hg
          go_wp2
          exact ⟨_, rfl, Below.refl _ _, rfl⟩
        (try simp only [List.cons_append, List.nil_append, Act.put, List.setIfInBounds_toArray, List.set_cons_zero, List.set_cons_succ])
        refine inv_cons (fun wx hg hd => ?_) (fun v20 => ?_)
        · have hx := ((Below.refl w1.heap.size w1).drew).trans hg
          (try (have ee : v13 = (.bool false : Value) := hd 13 (by simp) (by decide); subst ee))
          (try (have ee : v19 = (undef : Value) := hd 19 (by simp) (by decide); subst ee))
          clear hd hg
          go_wp2
          exact ⟨_, rfl, Below.refl _ _, rfl⟩
        (try simp only [List.cons_append, List.nil_append, Act.put, List.setIfInBounds_toArray, List.set_cons_zero, List.set_cons_succ])
        refine inv_cons (fun wx hg hd => ?_) (fun v21 => ?_)
        · have hx := ((Below.refl w1.heap.size w1).drew).trans hg
          (try (have ee : v20 = (.bool false : Value) := hd 20 (by simp) (by decide); subst ee))
          clear hd hg
          go_wp2
          exact ⟨_, rfl, Below.refl _ _, rfl⟩
        (try simp only [List.cons_append, List.nil_append, Act.put, List.setIfInBounds_toArray, List.set_cons_zero, List.set_cons_succ])
        refine inv_cons (fun wx hg hd => ?_) (fun v22 => ?_)
        · have hx := ((Below.refl w1.heap.size w1).drew).trans hg
          (try (have ee : v21 = (.bool false : Value) := hd 21 (by simp) (by decide); subst ee))
          clear hd hg
          go_wp2
          exact ⟨_, rfl, Below.refl _ _, rfl⟩
        (try simp only [List.cons_append, List.nil_append, Act.put, List.setIfInBounds_toArray, List.set_cons_zero, List.set_cons_succ])
        refine inv_cons (fun wx hg hd => ?_) (fun v23 => ?_)
        · have hx := ((Below.refl w1.heap.size w1).drew).trans hg
          (try (have ee : v21 = (.bool false : Value) := hd 21 (by simp) (by decide); subst ee))
          (try (have ee : v22 = (undef : Value) := hd 22 (by simp) (by decide); subst ee))
          clear hd hg
          go_wp2
          exact ⟨_, rfl, Below.refl _ _, rfl⟩
        (try simp only [List.cons_append, List.nil_append, Act.put, List.setIfInBounds_toArray, List.set_cons_zero, List.set_cons_succ])
        refine inv_cons (fun wx hg hd => ?_) (fun v24 => ?_)
        · have hx := ((Below.refl w1.heap.size w1).drew).trans hg
          (try (have ee : v21 = (.bool false : Value) := hd 21 (by simp) (by decide); subst ee))
          (try (have ee : v23 = (undef : Value) := hd 23 (by simp) (by decide); subst ee))
          clear hd hg
          go_wp2
          exact ⟨_, rfl, Below.refl _ _, rfl⟩
        (try simp only [List.cons_append, List.nil_append, Act.put, List.setIfInBounds_toArray, List.set_cons_zero, List.set_cons_succ])
        refine inv_cons (fun wx hg hd => ?_) (fun v25 => ?_)
        · have hx := ((Below.refl w1.heap.size w1).drew).trans hg
          (try (have ee : v21 = (.bool false : Value) := hd 21 (by simp) (by decide); subst ee))
          (try (have ee : v24 = (undef : Value) := hd 24 (by simp) (by decide); subst ee))
          clear hd hg
          go_wp2
          exact ⟨_, rfl, Below.refl _ _, rfl⟩
        (try simp only [List.cons_append, List.nil_append, Act.put, List.setIfInBounds_toArray, List.set_cons_zero, List.set_cons_succ])
        refine inv_cons (fun wx hg hd => ?_) (fun v26 => ?_)
        · have hx := ((Below.refl w1.heap.size w1).drew).trans hg
          (try (have ee : v25 = (.bool false : Value) := hd 25 (by simp) (by decide); subst ee))
          clear hd hg
          go_wp2
          exact ⟨_, rfl, Below.refl _ _, rfl⟩
        (try simp only [List.cons_append, List.nil_append, Act.put, List.setIfInBounds_toArray, List.set_cons_zero, List.set_cons_succ])
        refine inv_cons (fun wx hg hd => ?_) (fun v27 => ?_)
        · have hx := ((Below.refl w1.heap.size w1).drew).trans hg
          (try (have ee : v26 = (.bool false : Value) := hd 26 (by simp) (by decide); subst ee))
          clear hd hg
          go_wp2
          exact ⟨_, rfl, Below.refl _ _, rfl⟩
        (try simp only [List.cons_append, List.nil_append, Act.put, List.setIfInBounds_toArray, List.set_cons_zero, List.set_cons_succ])
        refine inv_cons (fun wx hg hd => ?_) (fun v28 => ?_)
        · have hx := ((Below.refl w1.heap.size w1).drew).trans hg
          (try (have ee : v26 = (.bool false : Value) := hd 26 (by simp) (by decide); subst ee))
          (try (have ee : v27 = (undef : Value) := hd 27 (by simp) (by decide); subst ee))
          clear hd hg
          go_wp2
          exact ⟨_, rfl, Below.refl _ _, rfl⟩
        (try simp only [List.cons_append, List.nil_append, Act.put, List.setIfInBounds_toArray, List.set_cons_zero, List.set_cons_succ])
        refine inv_cons (fun wx hg hd => ?_) (fun v29 => ?_)
        · have hx := ((Below.refl w1.heap.size w1).drew).trans hg
          (try (have ee : v26 = (.bool false : Value) := hd 26 (by simp) (by decide); subst ee))
          clear hd hg
          go_wp2
          exact ⟨_, rfl, Below.refl _ _, rfl⟩
        (try simp only [List.cons_append, List.nil_append, Act.put, List.setIfInBounds_toArray, List.set_cons_zero, List.set_cons_succ])
        refine inv_cons (fun wx hg hd => ?_) (fun v30 => ?_)
        · have hx := ((Below.refl w1.heap.size w1).drew).trans hg
          (try (have ee : v26 = (.bool false : Value) := hd 26 (by simp) (by decide); subst ee))
          (try (have ee : v29 = (undef : Value) := hd 29 (by simp) (by decide); subst ee))
          clear hd hg
          go_wp2
          exact ⟨_, rfl, Below.refl _ _, rfl⟩
        (try simp only [List.cons_append, List.nil_append, Act.put, List.setIfInBounds_toArray, List.set_cons_zero, List.set_cons_succ])
        refine inv_cons (fun wx hg hd => ?_) (fun v31 => ?_)
        · have hx := ((Below.refl w1.heap.size w1).drew).trans hg
          (try (have ee : v26 = (.bool false : Value) := hd 26 (by simp) (by decide); subst ee))
          (try (have ee : v30 = (undef : Value) := hd 30 (by simp) (by decide); subst ee))
          clear hd hg
          go_wp2
          exact ⟨_, rfl, Below.refl _ _, rfl⟩
        (try simp only [List.cons_append, List.nil_append, Act.put, List.setIfInBounds_toArray, List.set_cons_zero, List.set_cons_succ])
        refine inv_cons (fun wx hg hd => ?_) (fun v32 => ?_)
        · have hx := ((Below.refl w1.heap.size w1).drew).trans hg
          (try (have ee : v26 = (.bool false : Value) := hd 26 (by simp) (by decide); subst ee))
          (try (have ee : v28 = (undef : Value) := hd 28 (by simp) (by decide); subst ee))
          (try (have ee : v31 = (undef : Value) := hd 31 (by simp) (by decide); subst ee))
          clear hd hg
          go_wp2
          exact ⟨_, rfl, Below.refl _ _, rfl⟩
        (try simp only [List.cons_append, List.nil_append, Act.put, List.setIfInBounds_toArray, List.set_cons_zero, List.set_cons_succ])
        refine inv_cons (fun wx hg hd => ?_) (fun v33 => ?_)
        · have hx := ((Below.refl w1.heap.size w1).drew).trans hg
          (try (have ee : v26 = (.bool false : Value) := hd 26 (by simp) (by decide); subst ee))
          (try (have ee : v32 = (undef : Value) := hd 32 (by simp) (by decide); subst ee))
          clear hd hg
          go_wp2
          exact ⟨_, rfl, Below.refl _ _, rfl⟩
        (try simp only [List.cons_append, List.nil_append, Act.put, List.setIfInBounds_toArray, List.set_cons_zero, List.set_cons_succ])
        refine inv_cons (fun wx hg hd => ?_) (fun v34 => ?_)
        · have hx := ((Below.refl w1.heap.size w1).drew).trans hg
          (try (have ee : v33 = (.bool false : Value) := hd 33 (by simp) (by decide); subst ee))
          clear hd hg
          go_wp2
          exact ⟨_, rfl, Below.refl _ _, rfl⟩
        (try simp only [List.cons_append, List.nil_append, Act.put, List.setIfInBounds_toArray, List.set_cons_zero, List.set_cons_succ])
        refine inv_cons (fun wx hg hd => ?_) (fun v35 => ?_)
        · have hx := ((Below.refl w1.heap.size w1).drew).trans hg
          (try (have ee : v34 = (.bool false : Value) := hd 34 (by simp) (by decide); subst ee))
          clear hd hg
          go_wp2
          exact ⟨_, rfl, Below.refl _ _, rfl⟩
        (try simp only [List.cons_append, List.nil_append, Act.put, List.setIfInBounds_toArray, List.set_cons_zero, List.set_cons_succ])
        refine inv_cons (fun wx hg hd => ?_) (fun v36 => ?_)
        · have hx := ((Below.refl w1.heap.size w1).drew).trans hg
          (try (have ee : v34 = (.bool false : Value) := hd 34 (by simp) (by decide); subst ee))
          (try (have ee : v35 = (undef : Value) := hd 35 (by simp) (by decide); subst ee))
          clear hd hg
          go_wp2
          exact ⟨_, rfl, Below.refl _ _, rfl⟩
        (try simp only [List.cons_append, List.nil_append, Act.put, List.setIfInBounds_toArray, List.set_cons_zero, List.set_cons_succ])
        refine inv_cons (fun wx hg hd => ?_) (fun v37 => ?_)
        · have hx := ((Below.refl w1.heap.size w1).drew).trans hg
          (try (have ee : v34 = (.bool false : Value) := hd 34 (by simp) (by decide); subst ee))
          (try (have ee : v36 = (undef : Value) := hd 36 (by simp) (by decide); subst ee))
          clear hd hg
          go_wp2
          exact ⟨_, rfl, Below.refl _ _, rfl⟩
        (try simp only [List.cons_append, List.nil_append, Act.put, List.setIfInBounds_toArray, List.set_cons_zero, List.set_cons_succ])
        refine inv_cons (fun wx hg hd => ?_) (fun v38 => ?_)
        · have hx := ((Below.refl w1.heap.size w1).drew).trans hg
          (try (have ee : v34 = (.bool false : Value) := hd 34 (by simp) (by decide); subst ee))
          (try (have ee : v37 = (undef : Value) := hd 37 (by simp) (by decide); subst ee))
          clear hd hg
          go_wp2
          exact ⟨_, rfl, Below.refl _ _, rfl⟩
        (try simp only [List.cons_append, List.nil_append, Act.put, List.setIfInBounds_toArray, List.set_cons_zero, List.set_cons_succ])
        refine inv_cons (fun wx hg hd => ?_) (fun v39 => ?_)
        · have hx := ((Below.refl w1.heap.size w1).drew).trans hg
          (try (have ee : v38 = (.bool false : Value) := hd 38 (by simp) (by decide); subst ee))
          clear hd hg
          go_wp2
          exact ⟨_, rfl, Below.refl _ _, rfl⟩
        (try simp only [List.cons_append, List.nil_append, Act.put, List.setIfInBounds_toArray, List.set_cons_zero, List.set_cons_succ])
        refine inv_cons (fun wx hg hd => ?_) (fun v40 => ?_)
        · have hx := ((Below.refl w1.heap.size w1).drew).trans hg
          (try (have ee : v39 = (.bool false : Value) := hd 39 (by simp) (by decide); subst ee))
          clear hd hg
          go_wp2
          exact ⟨_, rfl, Below.refl _ _, rfl⟩
        (try simp only [List.cons_append, List.nil_append, Act.put, List.setIfInBounds_toArray, List.set_cons_zero, List.set_cons_succ])
        refine inv_cons (fun wx hg hd => ?_) (fun v41 => ?_)
        · have hx := ((Below.refl w1.heap.size w1).drew).trans hg
          (try (have ee : v39 = (.bool false : Value) := hd 39 (by simp) (by decide); subst ee))
          (try (have ee : v40 = (undef : Value) := hd 40 (by simp) (by decide); subst ee))
          clear hd hg
          go_wp2
          exact ⟨_, rfl, Below.refl _ _, rfl⟩
        (try simp only [List.cons_append, List.nil_append, Act.put, List.setIfInBounds_toArray, List.set_cons_zero, List.set_cons_succ])
        refine inv_cons (fun wx hg hd => ?_) (fun v42 => ?_)
        · have hx := ((Below.refl w1.heap.size w1).drew).trans hg
          (try (have ee : v39 = (.bool false : Value) := hd 39 (by simp) (by decide); subst ee))
          (try (have ee : v41 = (undef : Value) := hd 41 (by simp) (by decide); subst ee))
          clear hd hg
          go_wp2
          exact ⟨_, rfl, Below.refl _ _, rfl⟩
        (try simp only [List.cons_append, List.nil_append, Act.put, List.setIfInBounds_toArray, List.set_cons_zero, List.set_cons_succ])
        refine inv_cons (fun wx hg hd => ?_) (fun v43 => ?_)
        · have hx := ((Below.refl w1.heap.size w1).drew).trans hg
          (try (have ee : v39 = (.bool false : Value) := hd 39 (by simp) (by decide); subst ee))
          (try (have ee : v42 = (undef : Value) := hd 42 (by simp) (by decide); subst ee))
          clear hd hg
          go_wp2
          exact ⟨_, rfl, Below.refl _ _, rfl⟩
        (try simp only [List.cons_append, List.nil_append, Act.put, List.setIfInBounds_toArray, List.set_cons_zero, List.set_cons_succ])
        refine inv_cons (fun wx hg hd => ?_) (fun v44 => ?_)
        · have hx := ((Below.refl w1.heap.size w1).drew).trans hg
          (try (have ee : v43 = (.bool false : Value) := hd 43 (by simp) (by decide); subst ee))
          clear hd hg
          go_wp2
          exact ⟨_, rfl, Below.refl _ _, rfl⟩
        (try simp only [List.cons_append, List.nil_append, Act.put, List.setIfInBounds_toArray, List.set_cons_zero, List.set_cons_succ])
        refine inv_done (fun wx hg hd => ?_)
        have hx := ((Below.refl w1.heap.size w1).drew).trans hg
        (have ee : v0 = (.pointer (some ⟨w.heap.size, 0, none⟩) : Value) := hd 0 (by simp); subst ee)
        (have ee : v1 = (.int .i64 z : Value) := hd 1 (by simp); subst ee)
        (have ee : v2 = (.bool true : Value) := hd 2 (by simp); subst ee)
        (have ee : v3 = (.bool true : Value) := hd 3 (by simp); subst ee)
        (have ee : v4 = (.pointer (some ⟨w.heap.size, 0, none⟩) : Value) := hd 4 (by simp); subst ee)
        (have ee : v5 = (.int .i64 z : Value) := hd 5 (by simp); subst ee)
        (have ee : v6 = (.bool true : Value) := hd 6 (by simp); subst ee)
        (have ee : v7 = (.bool true : Value) := hd 7 (by simp); subst ee)
        (have ee : v8 = (.bool true : Value) := hd 8 (by simp); subst ee)
        (have ee : v9 = (.pointer (some ⟨w.heap.size, 1, none⟩) : Value) := hd 9 (by simp); subst ee)
        (have ee : v10 = (.int .i64 x : Value) := hd 10 (by simp); subst ee)
        (have ee : v11 = (.bool false : Value) := hd 11 (by simp); subst ee)
        (have ee : v12 = (.bool false : Value) := hd 12 (by simp); subst ee)
        (have ee : v13 = (.bool false : Value) := hd 13 (by simp); subst ee)
        (have ee : v14 = (undef : Value) := hd 14 (by simp); subst ee)
        (have ee : v15 = (undef : Value) := hd 15 (by simp); subst ee)
        (have ee : v16 = (undef : Value) := hd 16 (by simp); subst ee)
        (have ee : v17 = (undef : Value) := hd 17 (by simp); subst ee)
        (have ee : v18 = (undef : Value) := hd 18 (by simp); subst ee)
        (have ee : v19 = (undef : Value) := hd 19 (by simp); subst ee)
        (have ee : v20 = (.bool false : Value) := hd 20 (by simp); subst ee)
        (have ee : v21 = (.bool false : Value) := hd 21 (by simp); subst ee)
        (have ee : v22 = (undef : Value) := hd 22 (by simp); subst ee)
        (have ee : v23 = (undef : Value) := hd 23 (by simp); subst ee)
        (have ee : v24 = (undef : Value) := hd 24 (by simp); subst ee)
        (have ee : v25 = (.bool false : Value) := hd 25 (by simp); subst ee)
        (have ee : v26 = (.bool false : Value) := hd 26 (by simp); subst ee)
        (have ee : v27 = (undef : Value) := hd 27 (by simp); subst ee)
        (have ee : v28 = (undef : Value) := hd 28 (by simp); subst ee)
        (have ee : v29 = (undef : Value) := hd 29 (by simp); subst ee)
        (have ee : v30 = (undef : Value) := hd 30 (by simp); subst ee)
        (have ee : v31 = (undef : Value) := hd 31 (by simp); subst ee)
        (have ee : v32 = (undef : Value) := hd 32 (by simp); subst ee)
        (have ee : v33 = (.bool false : Value) := hd 33 (by simp); subst ee)
        (have ee : v34 = (.bool false : Value) := hd 34 (by simp); subst ee)
        (have ee : v35 = (undef : Value) := hd 35 (by simp); subst ee)
        (have ee : v36 = (undef : Value) := hd 36 (by simp); subst ee)
        (have ee : v37 = (undef : Value) := hd 37 (by simp); subst ee)
        (have ee : v38 = (.bool false : Value) := hd 38 (by simp); subst ee)
        (have ee : v39 = (.bool false : Value) := hd 39 (by simp); subst ee)
        (have ee : v40 = (undef : Value) := hd 40 (by simp); subst ee)
        (have ee : v41 = (undef : Value) := hd 41 (by simp); subst ee)
        (have ee : v42 = (undef : Value) := hd 42 (by simp); subst ee)
        (have ee : v43 = (.bool false : Value) := hd 43 (by simp); subst ee)
        (have ee : v44 = (.bool false : Value) := hd 44 (by simp); subst ee)
        clear hd hg
        (try go_simp)
        go_wp2
        go_ret
        exact ⟨by rw [HR.out]; rfl, HB.out.trans (hx.mono HB.out.size)⟩
    · have HR : Hid (res = false) := by show _ = _; rw [HI.out, decide_eq_false g2]; simp
      have q2 : decide (z ≤ 18) = false := decide_eq_false g2
      clear HP
      clear HI
      go_enter Tryz.func37, Tryz.ntmps37
      go_upto_region 1 with (rw [HW1.out])
      first | rw [HW1.out] | skip
      refine wp_region_inv (fun w w' => Below w.heap.size w w') (fun qi_ qv_ _ => qv_ = ([.pointer (some ⟨w.heap.size, 0, none⟩), .int .i64 z, .bool true, .bool true, .pointer (some ⟨w.heap.size, 0, none⟩), .int .i64 z, .bool false, .bool false, .bool false, undef, undef, undef, .bool false, .bool false, undef, undef, undef, undef, undef, undef, .bool false, .bool false, undef, undef, undef, .bool false, .bool false, undef, undef, undef, undef, undef, undef, .bool false, .bool false, undef, undef, undef, .bool false, .bool false, undef, undef, undef, .bool false, .bool false] : List Value).getD qi_ undef) (by kernel_rfl) (by kernel_rfl) (fun _ => Below.refl _ _) (fun _ _ _ h1 h2 => below_later h1 h1.size h2) (fun _ _ _ _ _ _ h => h) ?_
      refine inv_cons (fun wx hg hd => ?_) (fun v0 => ?_)
      · have hx := ((Below.refl w1.heap.size w1).drew).trans hg
        clear hd hg
        go_wp2
        exact ⟨_, rfl, Below.refl _ _, rfl⟩
      (try simp only [List.nil_append, Act.put, List.setIfInBounds_toArray, List.set_cons_zero, List.set_cons_succ])
      refine inv_cons (fun wx hg hd => ?_) (fun v1 => ?_)
      · have hx := ((Below.refl w1.heap.size w1).drew).trans hg
        (try (have ee : v0 = (.pointer (some ⟨w.heap.size, 0, none⟩) : Value) := hd 0 (by simp) (by decide); subst ee))
        clear hd hg
        obtain ⟨k0, k1, k2, k3⟩ := HT1.out _ hx
        have hsx : w.heap.size < wx.heap.size := Nat.lt_of_lt_of_le hs hx.size
        go_wp2
        exact ⟨_, rfl, Below.refl _ _, rfl⟩
      (try simp only [List.cons_append, List.nil_append, Act.put, List.setIfInBounds_toArray, List.set_cons_zero, List.set_cons_succ])
      refine inv_cons (fun wx hg hd => ?_) (fun v2 => ?_)
      · have hx := ((Below.refl w1.heap.size w1).drew).trans hg
        (try (have ee : v1 = (.int .i64 z : Value) := hd 1 (by simp) (by decide); subst ee))
        clear hd hg
        go_wp2
        exact ⟨_, rfl, Below.refl _ _, rfl⟩
      (try simp only [List.cons_append, List.nil_append, Act.put, List.setIfInBounds_toArray, List.set_cons_zero, List.set_cons_succ])
      refine inv_cons (fun wx hg hd => ?_) (fun v3 => ?_)
      · have hx := ((Below.refl w1.heap.size w1).drew).trans hg
        (try (have ee : v2 = (.bool true : Value) := hd 2 (by simp) (by decide); subst ee))
        clear hd hg
        go_wp2
        exact ⟨_, rfl, Below.refl _ _, rfl⟩
      (try simp only [List.cons_append, List.nil_append, Act.put, List.setIfInBounds_toArray, List.set_cons_zero, List.set_cons_succ])
      refine inv_cons (fun wx hg hd => ?_) (fun v4 => ?_)
      · have hx := ((Below.refl w1.heap.size w1).drew).trans hg
        (try (have ee : v3 = (.bool true : Value) := hd 3 (by simp) (by decide); subst ee))
        clear hd hg
        go_wp2
        exact ⟨_, rfl, Below.refl _ _, rfl⟩
      (try simp only [List.cons_append, List.nil_append, Act.put, List.setIfInBounds_toArray, List.set_cons_zero, List.set_cons_succ])
      refine inv_cons (fun wx hg hd => ?_) (fun v5 => ?_)
      · have hx := ((Below.refl w1.heap.size w1).drew).trans hg
        (try (have ee : v3 = (.bool true : Value) := hd 3 (by simp) (by decide); subst ee))
        (try (have ee : v4 = (.pointer (some ⟨w.heap.size, 0, none⟩) : Value) := hd 4 (by simp) (by decide); subst ee))
        clear hd hg
        obtain ⟨k0, k1, k2, k3⟩ := HT1.out _ hx
        have hsx : w.heap.size < wx.heap.size := Nat.lt_of_lt_of_le hs hx.size
        go_wp2
        exact ⟨_, rfl, Below.refl _ _, rfl⟩
      (try simp only [List.cons_append, List.nil_append, Act.put, List.setIfInBounds_toArray, List.set_cons_zero, List.set_cons_succ])
      refine inv_cons (fun wx hg hd => ?_) (fun v6 => ?_)
      · have hx := ((Below.refl w1.heap.size w1).drew).trans hg
        (try (have ee : v3 = (.bool true : Value) := hd 3 (by simp) (by decide); subst ee))
        (try (have ee : v5 = (.int .i64 z : Value) := hd 5 (by simp) (by decide); subst ee))
        clear hd hg
        go_wp2
        exact ⟨_, rfl, Below.refl _ _, rfl⟩
      (try simp only [List.cons_append, List.nil_append, Act.put, List.setIfInBounds_toArray, List.set_cons_zero, List.set_cons_succ])
      refine inv_cons (fun wx hg hd => ?_) (fun v7 => ?_)
      · have hx := ((Below.refl w1.heap.size w1).drew).trans hg
        (try (have ee : v3 = (.bool true : Value) := hd 3 (by simp) (by decide); subst ee))
        (try (have ee : v6 = (.bool false : Value) := hd 6 (by simp) (by decide); subst ee))
        clear hd hg
        go_wp2
        exact ⟨_, rfl, Below.refl _ _, rfl⟩
      (try simp only [List.cons_append, List.nil_append, Act.put, List.setIfInBounds_toArray, List.set_cons_zero, List.set_cons_succ])
      refine inv_cons (fun wx hg hd => ?_) (fun v8 => ?_)
      · have hx := ((Below.refl w1.heap.size w1).drew).trans hg
        (try (have ee : v7 = (.bool false : Value) := hd 7 (by simp) (by decide); subst ee))
        clear hd hg
        go_wp2
        exact ⟨_, rfl, Below.refl _ _, rfl⟩
      (try simp only [List.cons_append, List.nil_append, Act.put, List.setIfInBounds_toArray, List.set_cons_zero, List.set_cons_succ])
      refine inv_cons (fun wx hg hd => ?_) (fun v9 => ?_)
      · have hx := ((Below.refl w1.heap.size w1).drew).trans hg
        (try (have ee : v8 = (.bool false : Value) := hd 8 (by simp) (by decide); subst ee))
        clear hd hg
        go_wp2
        exact ⟨_, rfl, Below.refl _ _, rfl⟩
      (try simp only [List.cons_append, List.nil_append, Act.put, List.setIfInBounds_toArray, List.set_cons_zero, List.set_cons_succ])
      refine inv_cons (fun wx hg hd => ?_) (fun v10 => ?_)
      · have hx := ((Below.refl w1.heap.size w1).drew).trans hg
        (try (have ee : v8 = (.bool false : Value) := hd 8 (by simp) (by decide); subst ee))
        (try (have ee : v9 = (undef : Value) := hd 9 (by simp) (by decide); subst ee))
        clear hd hg
        go_wp2
        exact ⟨_, rfl, Below.refl _ _, rfl⟩
      (try simp only [List.cons_append, List.nil_append, Act.put, List.setIfInBounds_toArray, List.set_cons_zero, List.set_cons_succ])
      refine inv_cons (fun wx hg hd => ?_) (fun v11 => ?_)
      · have hx := ((Below.refl w1.heap.size w1).drew).trans hg
        (try (have ee : v8 = (.bool false : Value) := hd 8 (by simp) (by decide); subst ee))
        (try (have ee : v10 = (undef : Value) := hd 10 (by simp) (by decide); subst ee))
        clear hd hg
        go_wp2
        exact ⟨_, rfl, Below.refl _ _, rfl⟩
      (try simp only [List.cons_append, List.nil_append, Act.put, List.setIfInBounds_toArray, List.set_cons_zero, List.set_cons_succ])
      refine inv_cons (fun wx hg hd => ?_) (fun v12 => ?_)
      · have hx := ((Below.refl w1.heap.size w1).drew).trans hg
        (try (have ee : v8 = (.bool false : Value) := hd 8 (by simp) (by decide); subst ee))
        (try (have ee : v11 = (undef : Value) := hd 11 (by simp) (by decide); subst ee))
        clear hd hg
        go_wp2
        exact ⟨_, rfl, Below.refl _ _, rfl⟩
      (try simp only [List.cons_append, List.nil_append, Act.put, List.setIfInBounds_toArray, List.set_cons_zero, List.set_cons_succ])
      refine inv_cons (fun wx hg hd => ?_) (fun v13 => ?_)
      · have hx := ((Below.refl w1.heap.size w1).drew).trans hg
        (try (have ee : v12 = (.bool false : Value) := hd 12 (by simp) (by decide); subst ee))
        clear hd hg
        go_wp2
        exact ⟨_, rfl, Below.refl _ _, rfl⟩
      (try simp only [List.cons_append, List.nil_append, Act.put, List.setIfInBounds_toArray, List.set_cons_zero, List.set_cons_succ])
      refine inv_cons (fun wx hg hd => ?_) (fun v14 => ?_)
      · have hx := ((Below.refl w1.heap.size w1).drew).trans hg
        (try (have ee : v13 = (.bool false : Value) := hd 13 (by simp) (by decide); subst ee))
        clear hd hg
        go_wp2
        exact ⟨_, rfl, Below.refl _ _, rfl⟩
      (try simp only [List.cons_append, List.nil_append, Act.put, List.setIfInBounds_toArray, List.set_cons_zero, List.set_cons_succ])
      refine inv_cons (fun wx hg hd => ?_) (fun v15 => ?_)
      · have hx := ((Below.refl w1.heap.size w1).drew).trans hg
        (try (have ee : v13 = (.bool false : Value) := hd 13 (by simp) (by decide); subst ee))
        (try (have ee : v14 = (undef : Value) := hd 14 (by simp) (by decide); subst ee))
        clear hd hg
        go_wp2
        exact ⟨_, rfl, Below.refl _ _, rfl⟩
      (try simp only [List.cons_append, List.nil_append, Act.put, List.setIfInBounds_toArray, List.set_cons_zero, List.set_cons_succ])
      refine inv_cons (fun wx hg hd => ?_) (fun v16 => ?_)
      · have hx := ((Below.refl w1.heap.size w1).drew).trans hg
        (try (have ee : v13 = (.bool false : Value) := hd 13 (by simp) (by decide); subst ee))
        clear hd hg
        go_wp2
        exact ⟨_, rfl, Below.refl _ _, rfl⟩
      (try simp only [List.cons_append, List.nil_append, Act.put, List.setIfInBounds_toArray, List.set_cons_zero, List.set_cons_succ])
      refine inv_cons (fun wx hg hd => ?_) (fun v17 => ?_)
      · have hx := ((Below.refl w1.heap.size w1).drew).trans hg
        (try (have ee : v13 = (.bool false : Value) := hd 13 (by simp) (by decide); subst ee))
        (try (have ee : v16 = (undef : Value) := hd 16 (by simp) (by decide); subst ee))
        clear hd hg
        go_wp2
        exact ⟨_, rfl, Below.refl _ _, rfl⟩
      (try simp only [List.cons_append, List.nil_append, Act.put, List.setIfInBounds_toArray, List.set_cons_zero, List.set_cons_succ])
      refine inv_cons (fun wx hg hd => ?_) (fun v18 => ?_)
      · have hx := ((Below.refl w1.heap.size w1).drew).trans hg
        (try (have ee : v13 = (.bool false : Value) := hd 13 (by simp) (by decide); subst ee))
        (try (have ee : v17 = (undef : Value) := hd 17 (by simp) (by decide); subst ee))
        clear hd hg
        go_wp2
        exact ⟨_, rfl, Below.refl _ _, rfl⟩
      (try simp only [List.cons_append, List.nil_append, Act.put, List.setIfInBounds_toArray, List.set_cons_zero, List.set_cons_succ])
      refine inv_cons (fun wx hg hd => ?_) (fun v19 => ?_)
      · have hx := ((Below.refl w1.heap.size w1).drew).trans hg
        (try (have ee : v13 = (.bool false : Value) := hd 13 (by simp) (by decide); subst ee))
        (try (have ee : v15 = (undef : Value) := hd 15 (by simp) (by decide); subst ee))
        (try (have ee : v18 = (undef : Value) := hd 18 (by simp) (by decide); subst ee))
        clear hd hg
        go_wp2
        exact ⟨_, rfl, Below.refl _ _, rfl⟩
      (try simp only [List.cons_append, List.nil_append, Act.put, List.setIfInBounds_toArray, List.set_cons_zero, List.set_cons_succ])
      refine inv_cons (fun wx hg hd => ?_) (fun v20 => ?_)
      · have hx := ((Below.refl w1.heap.size w1).drew).trans hg
        (try (have ee : v13 = (.bool false : Value) := hd 13 (by simp) (by decide); subst ee))
        (try (have ee : v19 = (undef : Value) := hd 19 (by simp) (by decide); subst ee))
        clear hd hg
        go_wp2
        exact ⟨_, rfl, Below.refl _ _, rfl⟩
      (try simp only [List.cons_append, List.nil_append, Act.put, List.setIfInBounds_toArray, List.set_cons_zero, List.set_cons_succ])
      refine inv_cons (fun wx hg hd => ?_) (fun v21 => ?_)
      · have hx := ((Below.refl w1.heap.size w1).drew).trans hg
        (try (have ee : v20 = (.bool false : Value) := hd 20 (by simp) (by decide); subst ee))
        clear hd hg
        go_wp2
        exact ⟨_, rfl, Below.refl _ _, rfl⟩
      (try simp only [List.cons_append, List.nil_append, Act.put, List.setIfInBounds_toArray, List.set_cons_zero, List.set_cons_succ])
      refine inv_cons (fun wx hg hd => ?_) (fun v22 => ?_)
      · have hx := ((Below.refl w1.heap.size w1).drew).trans hg
        (try (have ee : v21 = (.bool false : Value) := hd 21 (by simp) (by decide); subst ee))
        clear hd hg
        go_wp2
        exact ⟨_, rfl, Below.refl _ _, rfl⟩
      (try simp only [List.cons_append, List.nil_append, Act.put, List.setIfInBounds_toArray, List.set_cons_zero, List.set_cons_succ])
      refine inv_cons (fun wx hg hd => ?_) (fun v23 => ?_)
      · have hx := ((Below.refl w1.heap.size w1).drew).trans hg
        (try (have ee : v21 = (.bool false : Value) := hd 21 (by simp) (by decide); subst ee))
        (try (have ee : v22 = (undef : Value) := hd 22 (by simp) (by decide); subst ee))
        clear hd hg
        go_wp2
        exact ⟨_, rfl, Below.refl _ _, rfl⟩
      (try simp only [List.cons_append, List.nil_append, Act.put, List.setIfInBounds_toArray, List.set_cons_zero, List.set_cons_succ])
      refine inv_cons (fun wx hg hd => ?_) (fun v24 => ?_)
      · have hx := ((Below.refl w1.heap.size w1).drew).trans hg
        (try (have ee : v21 = (.bool false : Value) := hd 21 (by simp) (by decide); subst ee))
        (try (have ee : v23 = (undef : Value) := hd 23 (by simp) (by decide); subst ee))
        clear hd hg
        go_wp2
        exact ⟨_, rfl, Below.refl _ _, rfl⟩
      (try simp only [List.cons_append, List.nil_append, Act.put, List.setIfInBounds_toArray, List.set_cons_zero, List.set_cons_succ])
      refine inv_cons (fun wx hg hd => ?_) (fun v25 => ?_)
      · have hx := ((Below.refl w1.heap.size w1).drew).trans hg
        (try (have ee : v21 = (.bool false : Value) := hd 21 (by simp) (by decide); subst ee))
        (try (have ee : v24 = (undef : Value) := hd 24 (by simp) (by decide); subst ee))
        clear hd hg
        go_wp2
        exact ⟨_, rfl, Below.refl _ _, rfl⟩
      (try simp only [List.cons_append, List.nil_append, Act.put, List.setIfInBounds_toArray, List.set_cons_zero, List.set_cons_succ])
      refine inv_cons (fun wx hg hd => ?_) (fun v26 => ?_)
      · have hx := ((Below.refl w1.heap.size w1).drew).trans hg
        (try (have ee : v25 = (.bool false : Value) := hd 25 (by simp) (by decide); subst ee))
        clear hd hg
        go_wp2
        exact ⟨_, rfl, Below.refl _ _, rfl⟩
      (try simp only [List.cons_append, List.nil_append, Act.put, List.setIfInBounds_toArray, List.set_cons_zero, List.set_cons_succ])
      refine inv_cons (fun wx hg hd => ?_) (fun v27 => ?_)
      · have hx := ((Below.refl w1.heap.size w1).drew).trans hg
        (try (have ee : v26 = (.bool false : Value) := hd 26 (by simp) (by decide); subst ee))
        clear hd hg
        go_wp2
        exact ⟨_, rfl, Below.refl _ _, rfl⟩
      (try simp only [List.cons_append, List.nil_append, Act.put, List.setIfInBounds_toArray, List.set_cons_zero, List.set_cons_succ])
      refine inv_cons (fun wx hg hd => ?_) (fun v28 => ?_)
      · have hx := ((Below.refl w1.heap.size w1).drew).trans hg
        (try (have ee : v26 = (.bool false : Value) := hd 26 (by simp) (by decide); subst ee))
        (try (have ee : v27 = (undef : Value) := hd 27 (by simp) (by decide); subst ee))
        clear hd hg
        go_wp2
        exact ⟨_, rfl, Below.refl _ _, rfl⟩
      (try simp only [List.cons_append, List.nil_append, Act.put, List.setIfInBounds_toArray, List.set_cons_zero, List.set_cons_succ])
      refine inv_cons (fun wx hg hd => ?_) (fun v29 => ?_)
      · have hx := ((Below.refl w1.heap.size w1).drew).trans hg
        (try (have ee : v26 = (.bool false : Value) := hd 26 (by simp) (by decide); subst ee))
        clear hd hg
        go_wp2
        exact ⟨_, rfl, Below.refl _ _, rfl⟩
      (try simp only [List.cons_append, List.nil_append, Act.put, List.setIfInBounds_toArray, List.set_cons_zero, List.set_cons_succ])
      refine inv_cons (fun wx hg hd => ?_) (fun v30 => ?_)
      · have hx := ((Below.refl w1.heap.size w1).drew).trans hg
        (try (have ee : v26 = (.bool false : Value) := hd 26 (by simp) (by decide); subst ee))
        (try (have ee : v29 = (undef : Value) := hd 29 (by simp) (by decide); subst ee))
        clear hd hg
        go_wp2
        exact ⟨_, rfl, Below.refl _ _, rfl⟩
      (try simp only [List.cons_append, List.nil_append, Act.put, List.setIfInBounds_toArray, List.set_cons_zero, List.set_cons_succ])
      refine inv_cons (fun wx hg hd => ?_) (fun v31 => ?_)
      · have hx := ((Below.refl w1.heap.size w1).drew).trans hg
        (try (have ee : v26 = (.bool false : Value) := hd 26 (by simp) (by decide); subst ee))
        (try (have ee : v30 = (undef : Value) := hd 30 (by simp) (by decide); subst ee))
        clear hd hg
        go_wp2
        exact ⟨_, rfl, Below.refl _ _, rfl⟩
      (try simp only [List.cons_append, List.nil_append, Act.put, List.setIfInBounds_toArray, List.set_cons_zero, List.set_cons_succ])
      refine inv_cons (fun wx hg hd => ?_) (fun v32 => ?_)
      · have hx := ((Below.refl w1.heap.size w1).drew).trans hg
        (try (have ee : v26 = (.bool false : Value) := hd 26 (by simp) (by decide); subst ee))
        (try (have ee : v28 = (undef : Value) := hd 28 (by simp) (by decide); subst ee))
        (try (have ee : v31 = (undef : Value) := hd 31 (by simp) (by decide); subst ee))
        clear hd hg
        go_wp2
        exact ⟨_, rfl, Below.refl _ _, rfl⟩
      (try simp only [List.cons_append, List.nil_append, Act.put, List.setIfInBounds_toArray, List.set_cons_zero, List.set_cons_succ])
      refine inv_cons (fun wx hg hd => ?_) (fun v33 => ?_)
      · have hx := ((Below.refl w1.heap.size w1).drew).trans hg
        (try (have ee : v26 = (.bool false : Value) := hd 26 (by simp) (by decide); subst ee))
        (try (have ee : v32 = (undef : Value) := hd 32 (by simp) (by decide); subst ee))
        clear hd hg
        go_wp2
        exact ⟨_, rfl, Below.refl _ _, rfl⟩
      (try simp only [List.cons_append, List.nil_append, Act.put, List.setIfInBounds_toArray, List.set_cons_zero, List.set_cons_succ])
      refine inv_cons (fun wx hg hd => ?_) (fun v34 => ?_)
      · have hx := ((Below.refl w1.heap.size w1).drew).trans hg
        (try (have ee : v33 = (.bool false : Value) := hd 33 (by simp) (by decide); subst ee))
        clear hd hg
        go_wp2
        exact ⟨_, rfl, Below.refl _ _, rfl⟩
      (try simp only [List.cons_append, List.nil_append, Act.put, List.setIfInBounds_toArray, List.set_cons_zero, List.set_cons_succ])
      refine inv_cons (fun wx hg hd => ?_) (fun v35 => ?_)
      · have hx := ((Below.refl w1.heap.size w1).drew).trans hg
        (try (have ee : v34 = (.bool false : Value) := hd 34 (by simp) (by decide); subst ee))
        clear hd hg
        go_wp2
        exact ⟨_, rfl, Below.refl _ _, rfl⟩
      (try simp only [List.cons_append, List.nil_append, Act.put, List.setIfInBounds_toArray, List.set_cons_zero, List.set_cons_succ])
      refine inv_cons (fun wx hg hd => ?_) (fun v36 => ?_)
      · have hx := ((Below.refl w1.heap.size w1).drew).trans hg
        (try (have ee : v34 = (.bool false : Value) := hd 34 (by simp) (by decide); subst ee))
        (try (have ee : v35 = (undef : Value) := hd 35 (by simp) (by decide); subst ee))
        clear hd hg
        go_wp2
        exact ⟨_, rfl, Below.refl _ _, rfl⟩
      (try simp only [List.cons_append, List.nil_append, Act.put, List.setIfInBounds_toArray, List.set_cons_zero, List.set_cons_succ])
      refine inv_cons (fun wx hg hd => ?_) (fun v37 => ?_)
      · have hx := ((Below.refl w1.heap.size w1).drew).trans hg
        (try (have ee : v34 = (.bool false : Value) := hd 34 (by simp) (by decide); subst ee))
        (try (have ee : v36 = (undef : Value) := hd 36 (by simp) (by decide); subst ee))
        clear hd hg
        go_wp2
        exact ⟨_, rfl, Below.refl _ _, rfl⟩
      (try simp only [List.cons_append, List.nil_append, Act.put, List.setIfInBounds_toArray, List.set_cons_zero, List.set_cons_succ])
      refine inv_cons (fun wx hg hd => ?_) (fun v38 => ?_)
      · have hx := ((Below.refl w1.heap.size w1).drew).trans hg
        (try (have ee : v34 = (.bool false : Value) := hd 34 (by simp) (by decide); subst ee))
        (try (have ee : v37 = (undef : Value) := hd 37 (by simp) (by decide); subst ee))
        clear hd hg
        go_wp2
        exact ⟨_, rfl, Below.refl _ _, rfl⟩
      (try simp only [List.cons_append, List.nil_append, Act.put, List.setIfInBounds_toArray, List.set_cons_zero, List.set_cons_succ])
      refine inv_cons (fun wx hg hd => ?_) (fun v39 => ?_)
      · have hx := ((Below.refl w1.heap.size w1).drew).trans hg
        (try (have ee : v38 = (.bool false : Value) := hd 38 (by simp) (by decide); subst ee))
        clear hd hg
        go_wp2
        exact ⟨_, rfl, Below.refl _ _, rfl⟩
      (try simp only [List.cons_append, List.nil_append, Act.put, List.setIfInBounds_toArray, List.set_cons_zero, List.set_cons_succ])
      refine inv_cons (fun wx hg hd => ?_) (fun v40 => ?_)
      · have hx := ((Below.refl w1.heap.size w1).drew).trans hg
        (try (have ee : v39 = (.bool false : Value) := hd 39 (by simp) (by decide); subst ee))
        clear hd hg
        go_wp2
        exact ⟨_, rfl, Below.refl _ _, rfl⟩
      (try simp only [List.cons_append, List.nil_append, Act.put, List.setIfInBounds_toArray, List.set_cons_zero, List.set_cons_succ])
      refine inv_cons (fun wx hg hd => ?_) (fun v41 => ?_)
      · have hx := ((Below.refl w1.heap.size w1).drew).trans hg
        (try (have ee : v39 = (.bool false : Value) := hd 39 (by simp) (by decide); subst ee))
        (try (have ee : v40 = (undef : Value) := hd 40 (by simp) (by decide); subst ee))
        clear hd hg
        go_wp2
        exact ⟨_, rfl, Below.refl _ _, rfl⟩
      (try simp only [List.cons_append, List.nil_append, Act.put, List.setIfInBounds_toArray, List.set_cons_zero, List.set_cons_succ])
      refine inv_cons (fun wx hg hd => ?_) (fun v42 => ?_)
      · have hx := ((Below.refl w1.heap.size w1).drew).trans hg
        (try (have ee : v39 = (.bool false : Value) := hd 39 (by simp) (by decide); subst ee))
        (try (have ee : v41 = (undef : Value) := hd 41 (by simp) (by decide); subst ee))
        clear hd hg
        go_wp2
        exact ⟨_, rfl, Below.refl _ _, rfl⟩
      (try simp only [List.cons_append, List.nil_append, Act.put, List.setIfInBounds_toArray, List.set_cons_zero, List.set_cons_succ])
      refine inv_cons (fun wx hg hd => ?_) (fun v43 => ?_)
      · have hx := ((Below.refl w1.heap.size w1).drew).trans hg
        (try (have ee : v39 = (.bool false : Value) := hd 39 (by simp) (by decide); subst ee))
        (try (have ee : v42 = (undef : Value) := hd 42 (by simp) (by decide); subst ee))
        clear hd hg
        go_wp2
        exact ⟨_, rfl, Below.refl _ _, rfl⟩
      (try simp only [List.cons_append, List.nil_append, Act.put, List.setIfInBounds_toArray, List.set_cons_zero, List.set_cons_succ])
      refine inv_cons (fun wx hg hd => ?_) (fun v44 => ?_)
      · have hx := ((Below.refl w1.heap.size w1).drew).trans hg
        (try (have ee : v43 = (.bool false : Value) := hd 43 (by simp) (by decide); subst ee))
        clear hd hg
        go_wp2
        exact ⟨_, rfl, Below.refl _ _, rfl⟩
      (try simp only [List.cons_append, List.nil_append, Act.put, List.setIfInBounds_toArray, List.set_cons_zero, List.set_cons_succ])
      refine inv_done (fun wx hg hd => ?_)
      have hx := ((Below.refl w1.heap.size w1).drew).trans hg
      (have ee : v0 = (.pointer (some ⟨w.heap.size, 0, none⟩) : Value) := hd 0 (by simp); subst ee)
      (have ee : v1 = (.int .i64 z : Value) := hd 1 (by simp); subst ee)
      (have ee : v2 = (.bool true : Value) := hd 2 (by simp); subst ee)
      (have ee : v3 = (.bool true : Value) := hd 3 (by simp); subst ee)
      (have ee : v4 = (.pointer (some ⟨w.heap.size, 0, none⟩) : Value) := hd 4 (by simp); subst ee)
      (have ee : v5 = (.int .i64 z : Value) := hd 5 (by simp); subst ee)
      (have ee : v6 = (.bool false : Value) := hd 6 (by simp); subst ee)
      (have ee : v7 = (.bool false : Value) := hd 7 (by simp); subst ee)
      (have ee : v8 = (.bool false : Value) := hd 8 (by simp); subst ee)
      (have ee : v9 = (undef : Value) := hd 9 (by simp); subst ee)
      (have ee : v10 = (undef : Value) := hd 10 (by simp); subst ee)
      (have ee : v11 = (undef : Value) := hd 11 (by simp); subst ee)
      (have ee : v12 = (.bool false : Value) := hd 12 (by simp); subst ee)
      (have ee : v13 = (.bool false : Value) := hd 13 (by simp); subst ee)
      (have ee : v14 = (undef : Value) := hd 14 (by simp); subst ee)
      (have ee : v15 = (undef : Value) := hd 15 (by simp); subst ee)
      (have ee : v16 = (undef : Value) := hd 16 (by simp); subst ee)
      (have ee : v17 = (undef : Value) := hd 17 (by simp); subst ee)
      (have ee : v18 = (undef : Value) := hd 18 (by simp); subst ee)
      (have ee : v19 = (undef : Value) := hd 19 (by simp); subst ee)
      (have ee : v20 = (.bool false : Value) := hd 20 (by simp); subst ee)
      (have ee : v21 = (.bool false : Value) := hd 21 (by simp); subst ee)
      (have ee : v22 = (undef : Value) := hd 22 (by simp); subst ee)
      (have ee : v23 = (undef : Value) := hd 23 (by simp); subst ee)
      (have ee : v24 = (undef : Value) := hd 24 (by simp); subst ee)
      (have ee : v25 = (.bool false : Value) := hd 25 (by simp); subst ee)
      (have ee : v26 = (.bool false : Value) := hd 26 (by simp); subst ee)
      (have ee : v27 = (undef : Value) := hd 27 (by simp); subst ee)
      (have ee : v28 = (undef : Value) := hd 28 (by simp); subst ee)
      (have ee : v29 = (undef : Value) := hd 29 (by simp); subst ee)
      (have ee : v30 = (undef : Value) := hd 30 (by simp); subst ee)
      (have ee : v31 = (undef : Value) := hd 31 (by simp); subst ee)
      (have ee : v32 = (undef : Value) := hd 32 (by simp); subst ee)
      (have ee : v33 = (.bool false : Value) := hd 33 (by simp); subst ee)
      (have ee : v34 = (.bool false : Value) := hd 34 (by simp); subst ee)
      (have ee : v35 = (undef : Value) := hd 35 (by simp); subst ee)
      (have ee : v36 = (undef : Value) := hd 36 (by simp); subst ee)
      (have ee : v37 = (undef : Value) := hd 37 (by simp); subst ee)
      (have ee : v38 = (.bool false : Value) := hd 38 (by simp); subst ee)
      (have ee : v39 = (.bool false : Value) := hd 39 (by simp); subst ee)
      (have ee : v40 = (undef : Value) := hd 40 (by simp); subst ee)
      (have ee : v41 = (undef : Value) := hd 41 (by simp); subst ee)
      (have ee : v42 = (undef : Value) := hd 42 (by simp); subst ee)
      (have ee : v43 = (.bool false : Value) := hd 43 (by simp); subst ee)
      (have ee : v44 = (.bool false : Value) := hd 44 (by simp); subst ee)
      clear hd hg
      (try go_simp)
      go_wp2
      go_ret
      exact ⟨by rw [HR.out]; rfl, HB.out.trans (hx.mono HB.out.size)⟩
  · have HR : Hid (res = false) := by show _ = _; rw [HI.out, decide_eq_false g1]; simp
    have q1 : decide (0 ≤ z) = false := decide_eq_false g1
    clear HP
    clear HI
    go_enter Tryz.func37, Tryz.ntmps37
    go_upto_region 1 with (rw [HW1.out])
    first | rw [HW1.out] | skip
    refine wp_region_inv (fun w w' => Below w.heap.size w w') (fun qi_ qv_ _ => qv_ = ([.pointer (some ⟨w.heap.size, 0, none⟩), .int .i64 z, .bool false, .bool false, undef, undef, undef, .bool false, .bool false, undef, undef, undef, .bool false, .bool false, undef, undef, undef, undef, undef, undef, .bool false, .bool false, undef, undef, undef, .bool false, .bool false, undef, undef, undef, undef, undef, undef, .bool false, .bool false, undef, undef, undef, .bool false, .bool false, undef, undef, undef, .bool false, .bool false] : List Value).getD qi_ undef) (by kernel_rfl) (by kernel_rfl) (fun _ => Below.refl _ _) (fun _ _ _ h1 h2 => below_later h1 h1.size h2) (fun _ _ _ _ _ _ h => h) ?_
    refine inv_cons (fun wx hg hd => ?_) (fun v0 => ?_)
    · have hx := ((Below.refl w1.heap.size w1).drew).trans hg
      clear hd hg
      go_wp2
      exact ⟨_, rfl, Below.refl _ _, rfl⟩
    (try simp only [List.nil_append, Act.put, List.setIfInBounds_toArray, List.set_cons_zero, List.set_cons_succ])
    refine inv_cons (fun wx hg hd => ?_) (fun v1 => ?_)
    · have hx := ((Below.refl w1.heap.size w1).drew).trans hg
      (try (have ee : v0 = (.pointer (some ⟨w.heap.size, 0, none⟩) : Value) := hd 0 (by simp) (by decide); subst ee))
      clear hd hg
      obtain ⟨k0, k1, k2, k3⟩ := HT1.out _ hx
      have hsx : w.heap.size < wx.heap.size := Nat.lt_of_lt_of_le hs hx.size
      go_wp2
      exact ⟨_, rfl, Below.refl _ _, rfl⟩
    (try simp only [List.cons_append, List.nil_append, Act.put, List.setIfInBounds_toArray, List.set_cons_zero, List.set_cons_succ])
    refine inv_cons (fun wx hg hd => ?_) (fun v2 => ?_)
    · have hx := ((Below.refl w1.heap.size w1).drew).trans hg
      (try (have ee : v1 = (.int .i64 z : Value) := hd 1 (by simp) (by decide); subst ee))
      clear hd hg
      go_wp2
      exact ⟨_, rfl, Below.refl _ _, rfl⟩
    (try simp only [List.cons_append, List.nil_append, Act.put, List.setIfInBounds_toArray, List.set_cons_zero, List.set_cons_succ])
    refine inv_cons (fun wx hg hd => ?_) (fun v3 => ?_)
    · have hx := ((Below.refl w1.heap.size w1).drew).trans hg
      (try (have ee : v2 = (.bool false : Value) := hd 2 (by simp) (by decide); subst ee))
      clear hd hg
      go_wp2
      exact ⟨_, rfl, Below.refl _ _, rfl⟩
    (try simp only [List.cons_append, List.nil_append, Act.put, List.setIfInBounds_toArray, List.set_cons_zero, List.set_cons_succ])
    refine inv_cons (fun wx hg hd => ?_) (fun v4 => ?_)
    · have hx := ((Below.refl w1.heap.size w1).drew).trans hg
      (try (have ee : v3 = (.bool false : Value) := hd 3 (by simp) (by decide); subst ee))
      clear hd hg
      go_wp2
      exact ⟨_, rfl, Below.refl _ _, rfl⟩
    (try simp only [List.cons_append, List.nil_append, Act.put, List.setIfInBounds_toArray, List.set_cons_zero, List.set_cons_succ])
    refine inv_cons (fun wx hg hd => ?_) (fun v5 => ?_)
    · have hx := ((Below.refl w1.heap.size w1).drew).trans hg
      (try (have ee : v3 = (.bool false : Value) := hd 3 (by simp) (by decide); subst ee))
      (try (have ee : v4 = (undef : Value) := hd 4 (by simp) (by decide); subst ee))
      clear hd hg
      go_wp2
      exact ⟨_, rfl, Below.refl _ _, rfl⟩
    (try simp only [List.cons_append, List.nil_append, Act.put, List.setIfInBounds_toArray, List.set_cons_zero, List.set_cons_succ])
    refine inv_cons (fun wx hg hd => ?_) (fun v6 => ?_)
    · have hx := ((Below.refl w1.heap.size w1).drew).trans hg
      (try (have ee : v3 = (.bool false : Value) := hd 3 (by simp) (by decide); subst ee))
      (try (have ee : v5 = (undef : Value) := hd 5 (by simp) (by decide); subst ee))
      clear hd hg
      go_wp2
      exact ⟨_, rfl, Below.refl _ _, rfl⟩
    (try simp only [List.cons_append, List.nil_append, Act.put, List.setIfInBounds_toArray, List.set_cons_zero, List.set_cons_succ])
    refine inv_cons (fun wx hg hd => ?_) (fun v7 => ?_)
    · have hx := ((Below.refl w1.heap.size w1).drew).trans hg
      (try (have ee : v3 = (.bool false : Value) := hd 3 (by simp) (by decide); subst ee))
      (try (have ee : v6 = (undef : Value) := hd 6 (by simp) (by decide); subst ee))
      clear hd hg
      go_wp2
      exact ⟨_, rfl, Below.refl _ _, rfl⟩
    (try simp only [List.cons_append, List.nil_append, Act.put, List.setIfInBounds_toArray, List.set_cons_zero, List.set_cons_succ])
    refine inv_cons (fun wx hg hd => ?_) (fun v8 => ?_)
    · have hx := ((Below.refl w1.heap.size w1).drew).trans hg
      (try (have ee : v7 = (.bool false : Value) := hd 7 (by simp) (by decide); subst ee))
      clear hd hg
      go_wp2
      exact ⟨_, rfl, Below.refl _ _, rfl⟩
    (try simp only [List.cons_append, List.nil_append, Act.put, List.setIfInBounds_toArray, List.set_cons_zero, List.set_cons_succ])
    refine inv_cons (fun wx hg hd => ?_) (fun v9 => ?_)
    · have hx := ((Below.refl w1.heap.size w1).drew).trans hg
      (try (have ee : v8 = (.bool false : Value) := hd 8 (by simp) (by decide); subst ee))
      clear hd hg
      go_wp2
      exact ⟨_, rfl, Below.refl _ _, rfl⟩
    (try simp only [List.cons_append, List.nil_append, Act.put, List.setIfInBounds_toArray, List.set_cons_zero, List.set_cons_succ])
    refine inv_cons (fun wx hg hd => ?_) (fun v10 => ?_)
    · have hx := ((Below.refl w1.heap.size w1).drew).trans hg
      (try (have ee : v8 = (.bool false : Value) := hd 8 (by simp) (by decide); subst ee))
      (try (have ee : v9 = (undef : Value) := hd 9 (by simp) (by decide); subst ee))
      clear hd hg
      go_wp2
      exact ⟨_, rfl, Below.refl _ _, rfl⟩
    (try simp only [List.cons_append, List.nil_append, Act.put, List.setIfInBounds_toArray, List.set_cons_zero, List.set_cons_succ])
    refine inv_cons (fun wx hg hd => ?_) (fun v11 => ?_)
    · have hx := ((Below.refl w1.heap.size w1).drew).trans hg
      (try (have ee : v8 = (.bool false : Value) := hd 8 (by simp) (by decide); subst ee))
      (try (have ee : v10 = (undef : Value) := hd 10 (by simp) (by decide); subst ee))
      clear hd hg
      go_wp2
      exact ⟨_, rfl, Below.refl _ _, rfl⟩
    (try simp only [List.cons_append, List.nil_append, Act.put, List.setIfInBounds_toArray, List.set_cons_zero, List.set_cons_succ])
    refine inv_cons (fun wx hg hd => ?_) (fun v12 => ?_)
    · have hx := ((Below.refl w1.heap.size w1).drew).trans hg
      (try (have ee : v8 = (.bool false : Value) := hd 8 (by simp) (by decide); subst ee))
      (try (have ee : v11 = (undef : Value) := hd 11 (by simp) (by decide); subst ee))
      clear hd hg
      go_wp2
      exact ⟨_, rfl, Below.refl _ _, rfl⟩
    (try simp only [List.cons_append, List.nil_append, Act.put, List.setIfInBounds_toArray, List.set_cons_zero, List.set_cons_succ])
    refine inv_cons (fun wx hg hd => ?_) (fun v13 => ?_)
    · have hx := ((Below.refl w1.heap.size w1).drew).trans hg
      (try (have ee : v12 = (.bool false : Value) := hd 12 (by simp) (by decide); subst ee))
      clear hd hg
      go_wp2
      exact ⟨_, rfl, Below.refl _ _, rfl⟩
    (try simp only [List.cons_append, List.nil_append, Act.put, List.setIfInBounds_toArray, List.set_cons_zero, List.set_cons_succ])
    refine inv_cons (fun wx hg hd => ?_) (fun v14 => ?_)
    · have hx := ((Below.refl w1.heap.size w1).drew).trans hg
      (try (have ee : v13 = (.bool false : Value) := hd 13 (by simp) (by decide); subst ee))
      clear hd hg
      go_wp2
      exact ⟨_, rfl, Below.refl _ _, rfl⟩
    (try simp only [List.cons_append, List.nil_append, Act.put, List.setIfInBounds_toArray, List.set_cons_zero, List.set_cons_succ])
    refine inv_cons (fun wx hg hd => ?_) (fun v15 => ?_)
    · have hx := ((Below.refl w1.heap.size w1).drew).trans hg
      (try (have ee : v13 = (.bool false : Value) := hd 13 (by simp) (by decide); subst ee))
      (try (have ee : v14 = (undef : Value) := hd 14 (by simp) (by decide); subst ee))
      clear hd hg
      go_wp2
      exact ⟨_, rfl, Below.refl _ _, rfl⟩
    (try simp only [List.cons_append, List.nil_append, Act.put, List.setIfInBounds_toArray, List.set_cons_zero, List.set_cons_succ])
    refine inv_cons (fun wx hg hd => ?_) (fun v16 => ?_)
    · have hx := ((Below.refl w1.heap.size w1).drew).trans hg
      (try (have ee : v13 = (.bool false : Value) := hd 13 (by simp) (by decide); subst ee))
      clear hd hg
      go_wp2
      exact ⟨_, rfl, Below.refl _ _, rfl⟩
    (try simp only [List.cons_append, List.nil_append, Act.put, List.setIfInBounds_toArray, List.set_cons_zero, List.set_cons_succ])
    refine inv_cons (fun wx hg hd => ?_) (fun v17 => ?_)
    · have hx := ((Below.refl w1.heap.size w1).drew).trans hg
      (try (have ee : v13 = (.bool false : Value) := hd 13 (by simp) (by decide); subst ee))
      (try (have ee : v16 = (undef : Value) := hd 16 (by simp) (by decide); subst ee))
      clear hd hg
      go_wp2
      exact ⟨_, rfl, Below.refl _ _, rfl⟩
    (try simp only [List.cons_append, List.nil_append, Act.put, List.setIfInBounds_toArray, List.set_cons_zero, List.set_cons_succ])
    refine inv_cons (fun wx hg hd => ?_) (fun v18 => ?_)
    · have hx := ((Below.refl w1.heap.size w1).drew).trans hg
      (try (have ee : v13 = (.bool false : Value) := hd 13 (by simp) (by decide); subst ee))
      (try (have ee : v17 = (undef : Value) := hd 17 (by simp) (by decide); subst ee))
      clear hd hg
      go_wp2
      exact ⟨_, rfl, Below.refl _ _, rfl⟩
    (try simp only [List.cons_append, List.nil_append, Act.put, List.setIfInBounds_toArray, List.set_cons_zero, List.set_cons_succ])
    refine inv_cons (fun wx hg hd => ?_) (fun v19 => ?_)
    · have hx := ((Below.refl w1.heap.size w1).drew).trans hg
      (try (have ee : v13 = (.bool false : Value) := hd 13 (by simp) (by decide); subst ee))
      (try (have ee : v15 = (undef : Value) := hd 15 (by simp) (by decide); subst ee))
      (try (have ee : v18 = (undef : Value) := hd 18 (by simp) (by decide); subst ee))
      clear hd hg
      go_wp2
      exact ⟨_, rfl, Below.refl _ _, rfl⟩
    (try simp only [List.cons_append, List.nil_append, Act.put, List.setIfInBounds_toArray, List.set_cons_zero, List.set_cons_succ])
    refine inv_cons (fun wx hg hd => ?_) (fun v20 => ?_)
    · have hx := ((Below.refl w1.heap.size w1).drew).trans hg
      (try (have ee : v13 = (.bool false : Value) := hd 13 (by simp) (by decide); subst ee))
      (try (have ee : v19 = (undef : Value) := hd 19 (by simp) (by decide); subst ee))
      clear hd hg
      go_wp2
      exact ⟨_, rfl, Below.refl _ _, rfl⟩
    (try simp only [List.cons_append, List.nil_append, Act.put, List.setIfInBounds_toArray, List.set_cons_zero, List.set_cons_succ])
    refine inv_cons (fun wx hg hd => ?_) (fun v21 => ?_)
    · have hx := ((Below.refl w1.heap.size w1).drew).trans hg
      (try (have ee : v20 = (.bool false : Value) := hd 20 (by simp) (by decide); subst ee))
      clear hd hg
      go_wp2
      exact ⟨_, rfl, Below.refl _ _, rfl⟩
    (try simp only [List.cons_append, List.nil_append, Act.put, List.setIfInBounds_toArray, List.set_cons_zero, List.set_cons_succ])
    refine inv_cons (fun wx hg hd => ?_) (fun v22 => ?_)
    · have hx := ((Below.refl w1.heap.size w1).drew).trans hg
      (try (have ee : v21 = (.bool false : Value) := hd 21 (by simp) (by decide); subst ee))
      clear hd hg
      go_wp2
      exact ⟨_, rfl, Below.refl _ _, rfl⟩
    (try simp only [List.cons_append, List.nil_append, Act.put, List.setIfInBounds_toArray, List.set_cons_zero, List.set_cons_succ])
    refine inv_cons (fun wx hg hd => ?_) (fun v23 => ?_)
    · have hx := ((Below.refl w1.heap.size w1).drew).trans hg
      (try (have ee : v21 = (.bool false : Value) := hd 21 (by simp) (by decide); subst ee))
      (try (have ee : v22 = (undef : Value) := hd 22 (by simp) (by decide); subst ee))
      clear hd hg
      go_wp2
      exact ⟨_, rfl, Below.refl _ _, rfl⟩
    (try simp only [List.cons_append, List.nil_append, Act.put, List.setIfInBounds_toArray, List.set_cons_zero, List.set_cons_succ])
    refine inv_cons (fun wx hg hd => ?_) (fun v24 => ?_)
    · have hx := ((Below.refl w1.heap.size w1).drew).trans hg
      (try (have ee : v21 = (.bool false : Value) := hd 21 (by simp) (by decide); subst ee))
      (try (have ee : v23 = (undef : Value) := hd 23 (by simp) (by decide); subst ee))
      clear hd hg
      go_wp2
      exact ⟨_, rfl, Below.refl _ _, rfl⟩
    (try simp only [List.cons_append, List.nil_append, Act.put, List.setIfInBounds_toArray, List.set_cons_zero, List.set_cons_succ])
    refine inv_cons (fun wx hg hd => ?_) (fun v25 => ?_)
    · have hx := ((Below.refl w1.heap.size w1).drew).trans hg
      (try (have ee : v21 = (.bool false : Value) := hd 21 (by simp) (by decide); subst ee))
      (try (have ee : v24 = (undef : Value) := hd 24 (by simp) (by decide); subst ee))
      clear hd hg
      go_wp2
      exact ⟨_, rfl, Below.refl _ _, rfl⟩
    (try simp only [List.cons_append, List.nil_append, Act.put, List.setIfInBounds_toArray, List.set_cons_zero, List.set_cons_succ])
    refine inv_cons (fun wx hg hd => ?_) (fun v26 => ?_)
    · have hx := ((Below.refl w1.heap.size w1).drew).trans hg
      (try (have ee : v25 = (.bool false : Value) := hd 25 (by simp) (by decide); subst ee))
      clear hd hg
      go_wp2
      exact ⟨_, rfl, Below.refl _ _, rfl⟩
    (try simp only [List.cons_append, List.nil_append, Act.put, List.setIfInBounds_toArray, List.set_cons_zero, List.set_cons_succ])
    refine inv_cons (fun wx hg hd => ?_) (fun v27 => ?_)
    · have hx := ((Below.refl w1.heap.size w1).drew).trans hg
      (try (have ee : v26 = (.bool false : Value) := hd 26 (by simp) (by decide); subst ee))
      clear hd hg
      go_wp2
      exact ⟨_, rfl, Below.refl _ _, rfl⟩
    (try simp only [List.cons_append, List.nil_append, Act.put, List.setIfInBounds_toArray, List.set_cons_zero, List.set_cons_succ])
    refine inv_cons (fun wx hg hd => ?_) (fun v28 => ?_)
    · have hx := ((Below.refl w1.heap.size w1).drew).trans hg
      (try (have ee : v26 = (.bool false : Value) := hd 26 (by simp) (by decide); subst ee))
      (try (have ee : v27 = (undef : Value) := hd 27 (by simp) (by decide); subst ee))
      clear hd hg
      go_wp2
      exact ⟨_, rfl, Below.refl _ _, rfl⟩
    (try simp only [List.cons_append, List.nil_append, Act.put, List.setIfInBounds_toArray, List.set_cons_zero, List.set_cons_succ])
    refine inv_cons (fun wx hg hd => ?_) (fun v29 => ?_)
    · have hx := ((Below.refl w1.heap.size w1).drew).trans hg
      (try (have ee : v26 = (.bool false : Value) := hd 26 (by simp) (by decide); subst ee))
      clear hd hg
      go_wp2
      exact ⟨_, rfl, Below.refl _ _, rfl⟩
    (try simp only [List.cons_append, List.nil_append, Act.put, List.setIfInBounds_toArray, List.set_cons_zero, List.set_cons_succ])
    refine inv_cons (fun wx hg hd => ?_) (fun v30 => ?_)
    · have hx := ((Below.refl w1.heap.size w1).drew).trans hg
      (try (have ee : v26 = (.bool false : Value) := hd 26 (by simp) (by decide); subst ee))
      (try (have ee : v29 = (undef : Value) := hd 29 (by simp) (by decide); subst ee))
      clear hd hg
      go_wp2
      exact ⟨_, rfl, Below.refl _ _, rfl⟩
    (try simp only [List.cons_append, List.nil_append, Act.put, List.setIfInBounds_toArray, List.set_cons_zero, List.set_cons_succ])
    refine inv_cons (fun wx hg hd => ?_) (fun v31 => ?_)
    · have hx := ((Below.refl w1.heap.size w1).drew).trans hg
      (try (have ee : v26 = (.bool false : Value) := hd 26 (by simp) (by decide); subst ee))
      (try (have ee : v30 = (undef : Value) := hd 30 (by simp) (by decide); subst ee))
      clear hd hg
      go_wp2
      exact ⟨_, rfl, Below.refl _ _, rfl⟩
    (try simp only [List.cons_append, List.nil_append, Act.put, List.setIfInBounds_toArray, List.set_cons_zero, List.set_cons_succ])
    refine inv_cons (fun wx hg hd => ?_) (fun v32 => ?_)
    · have hx := ((Below.refl w1.heap.size w1).drew).trans hg
      (try (have ee : v26 = (.bool false : Value) := hd 26 (by simp) (by decide); subst ee))
      (try (have ee : v28 = (undef : Value) := hd 28 (by simp) (by decide); subst ee))
      (try (have ee : v31 = (undef : Value) := hd 31 (by simp) (by decide); subst ee))
      clear hd hg
      go_wp2
      exact ⟨_, rfl, Below.refl _ _, rfl⟩
    (try simp only [List.cons_append, List.nil_append, Act.put, List.setIfInBounds_toArray, List.set_cons_zero, List.set_cons_succ])
    refine inv_cons (fun wx hg hd => ?_) (fun v33 => ?_)
    · have hx := ((Below.refl w1.heap.size w1).drew).trans hg
      (try (have ee : v26 = (.bool false : Value) := hd 26 (by simp) (by decide); subst ee))
      (try (have ee : v32 = (undef : Value) := hd 32 (by simp) (by decide); subst ee))
      clear hd hg
      go_wp2
      exact ⟨_, rfl, Below.refl _ _, rfl⟩
    (try simp only [List.cons_append, List.nil_append, Act.put, List.setIfInBounds_toArray, List.set_cons_zero, List.set_cons_succ])
    refine inv_cons (fun wx hg hd => ?_) (fun v34 => ?_)
    · have hx := ((Below.refl w1.heap.size w1).drew).trans hg
      (try (have ee : v33 = (.bool false : Value) := hd 33 (by simp) (by decide); subst ee))
      clear hd hg
      go_wp2
      exact ⟨_, rfl, Below.refl _ _, rfl⟩
    (try simp only [List.cons_append, List.nil_append, Act.put, List.setIfInBounds_toArray, List.set_cons_zero, List.set_cons_succ])
    refine inv_cons (fun wx hg hd => ?_) (fun v35 => ?_)
    · have hx := ((Below.refl w1.heap.size w1).drew).trans hg
      (try (have ee : v34 = (.bool false : Value) := hd 34 (by simp) (by decide); subst ee))
      clear hd hg
      go_wp2
      exact ⟨_, rfl, Below.refl _ _, rfl⟩
    (try simp only [List.cons_append, List.nil_append, Act.put, List.setIfInBounds_toArray, List.set_cons_zero, List.set_cons_succ])
    refine inv_cons (fun wx hg hd => ?_) (fun v36 => ?_)
    · have hx := ((Below.refl w1.heap.size w1).drew).trans hg
      (try (have ee : v34 = (.bool false : Value) := hd 34 (by simp) (by decide); subst ee))
      (try (have ee : v35 = (undef : Value) := hd 35 (by simp) (by decide); subst ee))
      clear hd hg
      go_wp2
      exact ⟨_, rfl, Below.refl _ _, rfl⟩
    (try simp only [List.cons_append, List.nil_append, Act.put, List.setIfInBounds_toArray, List.set_cons_zero, List.set_cons_succ])
    refine inv_cons (fun wx hg hd => ?_) (fun v37 => ?_)
    · have hx := ((Below.refl w1.heap.size w1).drew).trans hg
      (try (have ee : v34 = (.bool false : Value) := hd 34 (by simp) (by decide); subst ee))
      (try (have ee : v36 = (undef : Value) := hd 36 (by simp) (by decide); subst ee))
      clear hd hg
      go_wp2
      exact ⟨_, rfl, Below.refl _ _, rfl⟩
    (try simp only [List.cons_append, List.nil_append, Act.put, List.setIfInBounds_toArray, List.set_cons_zero, List.set_cons_succ])
    refine inv_cons (fun wx hg hd => ?_) (fun v38 => ?_)
    · have hx := ((Below.refl w1.heap.size w1).drew).trans hg
      (try (have ee : v34 = (.bool false : Value) := hd 34 (by simp) (by decide); subst ee))
      (try (have ee : v37 = (undef : Value) := hd 37 (by simp) (by decide); subst ee))
      clear hd hg
      go_wp2
      exact ⟨_, rfl, Below.refl _ _, rfl⟩
    (try simp only [List.cons_append, List.nil_append, Act.put, List.setIfInBounds_toArray, List.set_cons_zero, List.set_cons_succ])
    refine inv_cons (fun wx hg hd => ?_) (fun v39 => ?_)
    · have hx := ((Below.refl w1.heap.size w1).drew).trans hg
      (try (have ee : v38 = (.bool false : Value) := hd 38 (by simp) (by decide); subst ee))
      clear hd hg
      go_wp2
      exact ⟨_, rfl, Below.refl _ _, rfl⟩
    (try simp only [List.cons_append, List.nil_append, Act.put, List.setIfInBounds_toArray, List.set_cons_zero, List.set_cons_succ])
    refine inv_cons (fun wx hg hd => ?_) (fun v40 => ?_)
    · have hx := ((Below.refl w1.heap.size w1).drew).trans hg
      (try (have ee : v39 = (.bool false : Value) := hd 39 (by simp) (by decide); subst ee))
      clear hd hg
      go_wp2
      exact ⟨_, rfl, Below.refl _ _, rfl⟩
    (try simp only [List.cons_append, List.nil_append, Act.put, List.setIfInBounds_toArray, List.set_cons_zero, List.set_cons_succ])
    refine inv_cons (fun wx hg hd => ?_) (fun v41 => ?_)
    · have hx := ((Below.refl w1.heap.size w1).drew).trans hg
      (try (have ee : v39 = (.bool false : Value) := hd 39 (by simp) (by decide); subst ee))
      (try (have ee : v40 = (undef : Value) := hd 40 (by simp) (by decide); subst ee))
      clear hd hg
      go_wp2
      exact ⟨_, rfl, Below.refl _ _, rfl⟩
    (try simp only [List.cons_append, List.nil_append, Act.put, List.setIfInBounds_toArray, List.set_cons_zero, List.set_cons_succ])
    refine inv_cons (fun wx hg hd => ?_) (fun v42 => ?_)
    · have hx := ((Below.refl w1.heap.size w1).drew).trans hg
      (try (have ee : v39 = (.bool false : Value) := hd 39 (by simp) (by decide); subst ee))
      (try (have ee : v41 = (undef : Value) := hd 41 (by simp) (by decide); subst ee))
      clear hd hg
      go_wp2
      exact ⟨_, rfl, Below.refl _ _, rfl⟩
    (try simp only [List.cons_append, List.nil_append, Act.put, List.setIfInBounds_toArray, List.set_cons_zero, List.set_cons_succ])
    refine inv_cons (fun wx hg hd => ?_) (fun v43 => ?_)
    · have hx := ((Below.refl w1.heap.size w1).drew).trans hg
      (try (have ee : v39 = (.bool false : Value) := hd 39 (by simp) (by decide); subst ee))
      (try (have ee : v42 = (undef : Value) := hd 42 (by simp) (by decide); subst ee))
      clear hd hg
      go_wp2
      exact ⟨_, rfl, Below.refl _ _, rfl⟩
    (try simp only [List.cons_append, List.nil_append, Act.put, List.setIfInBounds_toArray, List.set_cons_zero, List.set_cons_succ])
    refine inv_cons (fun wx hg hd => ?_) (fun v44 => ?_)
    · have hx := ((Below.refl w1.heap.size w1).drew).trans hg
      (try (have ee : v43 = (.bool false : Value) := hd 43 (by simp) (by decide); subst ee))
      clear hd hg
      go_wp2
      exact ⟨_, rfl, Below.refl _ _, rfl⟩
    (try simp only [List.cons_append, List.nil_append, Act.put, List.setIfInBounds_toArray, List.set_cons_zero, List.set_cons_succ])
    refine inv_done (fun wx hg hd => ?_)
    have hx := ((Below.refl w1.heap.size w1).drew).trans hg
    (have ee : v0 = (.pointer (some ⟨w.heap.size, 0, none⟩) : Value) := hd 0 (by simp); subst ee)
    (have ee : v1 = (.int .i64 z : Value) := hd 1 (by simp); subst ee)
    (have ee : v2 = (.bool false : Value) := hd 2 (by simp); subst ee)
    (have ee : v3 = (.bool false : Value) := hd 3 (by simp); subst ee)
    (have ee : v4 = (undef : Value) := hd 4 (by simp); subst ee)
    (have ee : v5 = (undef : Value) := hd 5 (by simp); subst ee)
    (have ee : v6 = (undef : Value) := hd 6 (by simp); subst ee)
    (have ee : v7 = (.bool false : Value) := hd 7 (by simp); subst ee)
    (have ee : v8 = (.bool false : Value) := hd 8 (by simp); subst ee)
    (have ee : v9 = (undef : Value) := hd 9 (by simp); subst ee)
    (have ee : v10 = (undef : Value) := hd 10 (by simp); subst ee)
    (have ee : v11 = (undef : Value) := hd 11 (by simp); subst ee)
    (have ee : v12 = (.bool false : Value) := hd 12 (by simp); subst ee)
    (have ee : v13 = (.bool false : Value) := hd 13 (by simp); subst ee)
    (have ee : v14 = (undef : Value) := hd 14 (by simp); subst ee)
    (have ee : v15 = (undef : Value) := hd 15 (by simp); subst ee)
    (have ee : v16 = (undef : Value) := hd 16 (by simp); subst ee)
    (have ee : v17 = (undef : Value) := hd 17 (by simp); subst ee)
    (have ee : v18 = (undef : Value) := hd 18 (by simp); subst ee)
    (have ee : v19 = (undef : Value) := hd 19 (by simp); subst ee)
    (have ee : v20 = (.bool false : Value) := hd 20 (by simp); subst ee)
    (have ee : v21 = (.bool false : Value) := hd 21 (by simp); subst ee)
    (have ee : v22 = (undef : Value) := hd 22 (by simp); subst ee)
    (have ee : v23 = (undef : Value) := hd 23 (by simp); subst ee)
    (have ee : v24 = (undef : Value) := hd 24 (by simp); subst ee)
    (have ee : v25 = (.bool false : Value) := hd 25 (by simp); subst ee)
    (have ee : v26 = (.bool false : Value) := hd 26 (by simp); subst ee)
    (have ee : v27 = (undef : Value) := hd 27 (by simp); subst ee)
    (have ee : v28 = (undef : Value) := hd 28 (by simp); subst ee)
    (have ee : v29 = (undef : Value) := hd 29 (by simp); subst ee)
    (have ee : v30 = (undef : Value) := hd 30 (by simp); subst ee)
    (have ee : v31 = (undef : Value) := hd 31 (by simp); subst ee)
    (have ee : v32 = (undef : Value) := hd 32 (by simp); subst ee)
    (have ee : v33 = (.bool false : Value) := hd 33 (by simp); subst ee)
    (have ee : v34 = (.bool false : Value) := hd 34 (by simp); subst ee)
    (have ee : v35 = (undef : Value) := hd 35 (by simp); subst ee)
    (have ee : v36 = (undef : Value) := hd 36 (by simp); subst ee)
    (have ee : v37 = (undef : Value) := hd 37 (by simp); subst ee)
    (have ee : v38 = (.bool false : Value) := hd 38 (by simp); subst ee)
    (have ee : v39 = (.bool false : Value) := hd 39 (by simp); subst ee)
    (have ee : v40 = (undef : Value) := hd 40 (by simp); subst ee)
    (have ee : v41 = (undef : Value) := hd 41 (by simp); subst ee)
    (have ee : v42 = (undef : Value) := hd 42 (by simp); subst ee)
    (have ee : v43 = (.bool false : Value) := hd 43 (by simp); subst ee)
    (have ee : v44 = (.bool false : Value) := hd 44 (by simp); subst ee)
    clear hd hg
    (try go_simp)
    go_wp2
    go_ret
    exact ⟨by rw [HR.out]; rfl, HB.out.trans (hx.mono HB.out.size)⟩
end Go.Proofs.YtjimcjhgjfhbiaaGreat
