/- The walk of the law CoverTouches. -/
import Derived.Test.YtdbfimdcaacjhaaGreatPackAI
import Derived.Test.YtdbfimdcaacjhaaGreatPackAJ
namespace Go.Proofs.YtdbfimdcaacjhaaGreat.coverTouches
open Go.RowKit Go.Lib Wd

theorem pow_three {i R : Nat} (h : i - R ≤ 12) : 3 ^ (i - R) ≤ 531441 := Nat.le_trans (Nat.pow_le_pow_right (by decide) h) (by decide)
theorem cel3 {wx : World} {b : Nat} {t : TypeId} {u v s : Int} (h : wx.heap[b]? = some (.cells #[.int .i64 u, .int .i64 v, .int .i64 s] t (0, 0))) : wx.cell? ⟨b, 0, none⟩ = some (.int .i64 u) ∧ wx.cell? ⟨b, 1, none⟩ = some (.int .i64 v) ∧ wx.cell? ⟨b, 2, none⟩ = some (.int .i64 s) ∧ b < wx.heap.size := ⟨cell_of_row _ _ 0 _ _ _ h, cell_of_row _ _ 1 _ _ _ h, cell_of_row _ _ 2 _ _ _ h, (Array.getElem?_eq_some_iff.1 h).1⟩
theorem cel2 {wx : World} {b : Nat} {t : TypeId} {u v : Int} (h : wx.heap[b]? = some (.cells #[.int .i64 u, .int .i64 v] t (0, 0))) : wx.cell? ⟨b, 0, none⟩ = some (.int .i64 u) ∧ wx.cell? ⟨b, 1, none⟩ = some (.int .i64 v) ∧ b < wx.heap.size := ⟨cell_of_row _ _ 0 _ _ _ h, cell_of_row _ _ 1 _ _ _ h, (Array.getElem?_eq_some_iff.1 h).1⟩
theorem cel4 {wx : World} {b : Nat} {t : TypeId} {u v s r : Int} (h : wx.heap[b]? = some (.cells #[.int .i64 u, .int .i64 v, .int .i64 s, .int .i64 r] t (0, 0))) : (wx.cell? ⟨b, 0, none⟩ = some (.int .i64 u) ∧ wx.cell? ⟨b, 1, none⟩ = some (.int .i64 v)) ∧ (wx.cell? ⟨b, 2, none⟩ = some (.int .i64 s) ∧ wx.cell? ⟨b, 3, none⟩ = some (.int .i64 r)) ∧ b < wx.heap.size := ⟨⟨cell_of_row _ _ 0 _ _ _ h, cell_of_row _ _ 1 _ _ _ h⟩, ⟨cell_of_row _ _ 2 _ _ _ h, cell_of_row _ _ 3 _ _ _ h⟩, (Array.getElem?_eq_some_iff.1 h).1⟩
set_option maxRecDepth 100000 in
set_option maxHeartbeats 16000000 in
theorem walk {w : World} (c1 c2 c3 l1 l2 h1 h2 x : Int) (_wx : (Lit.int .i64 x).wf = true) (y : Int) (_wy : (Lit.int .i64 y).wf = true) (r : Int) (_wr : (Lit.int .i64 r).wf = true) (q0 q1 q2 q3 : Int) :
    Calls Tryz.prog 4 #[.agg #[.int .i64 c1, .int .i64 c2, .int .i64 c3], .agg #[.int .i64 l1, .int .i64 l2], .agg #[.int .i64 h1, .int .i64 h2], .int .i64 x, .int .i64 y, .int .i64 r, .agg #[.int .i64 q0, .int .i64 q1, .int .i64 q2, .int .i64 q3]] w fun e w' => e = .returned (.bool true) ∧ Below w.heap.size w w' := by
  have HSO := Lib.hid (fun w => some_any x y r w)
  obtain ⟨R, hR⟩ : ∃ R : Nat, r % 13 = (R : Int) := ⟨(r % 13).toNat, by omega⟩
  have hR12 : R ≤ 12 := by omega
  rw [hR, Int.toNat_natCast] at HSO
  obtain ⟨g1, g2, g3⟩ := ok_near (some_ok x y hR12)
  have HCE := Lib.hid (fun w => rcentre_in (someE x y R) g2 R g1 w)
  have HC1 := Lib.hid (fun w => ctouch_any c1 (c2, c3) (l1, l2) (h1, h2) w)
  have HD1 := Lib.hid (fun w => rtouch_any c1 (c2, c3) (l1, l2) (h1, h2) w)
  have HC2 := Lib.hid (fun w => ctouch_any R (someE x y R) (l1, l2) (h1, h2) w)
  have HD2 := Lib.hid (fun w => rtouch_any R (someE x y R) (l1, l2) (h1, h2) w)
  have HC3 := Lib.hid (fun a b w => ctouch_any R (someE x y R) a b w)
  have HD3 := Lib.hid (fun a b w => rtouch_any R (someE x y R) a b w)
  have HAW := Lib.hid awake10_any
  generalize ctB c1 (c2, c3) (l1, l2) (h1, h2) = t1 at *
  generalize ctB R (someE x y R) (l1, l2) (h1, h2) = t2 at *
  generalize ctB R (someE x y R) = t3 at *
  generalize atE (12 - R) (someE x y R) = uv at *
  generalize someE x y R = z at *
  simp only [vC, vE] at *
  obtain ⟨w1, hw1⟩ : ∃ W, (((w.alloc (.cells #[.int .i64 c1, .int .i64 c2, .int .i64 c3] 27)).alloc (.cells #[.int .i64 l1, .int .i64 l2] 30)).alloc (.cells #[.int .i64 h1, .int .i64 h2] 30)).alloc (.cells #[.int .i64 q0, .int .i64 q1, .int .i64 q2, .int .i64 q3] 42) = W := ⟨_, rfl⟩
  have hb1 : Below w.heap.size w w1 := by rw [← hw1]; exact ((((Below.refl _ _).alloc (Nat.le_refl _) _).alloc (by simp) _).alloc (by simp only [World.size_alloc]; omega) _).alloc (by simp only [World.size_alloc]; omega) _
  have x0 : w1.heap[w.heap.size]? = some (.cells #[.int .i64 c1, .int .i64 c2, .int .i64 c3] 27 (0, 0)) := by
    rw [← hw1, Below.heap_alloc _ _ _ (by simp only [World.size_alloc]; omega), Below.heap_alloc _ _ _ (by simp only [World.size_alloc]; omega), Below.heap_alloc _ _ _ (by simp)]; exact heap_new _ _ _ rfl
  have x1 : w1.heap[w.heap.size + 1]? = some (.cells #[.int .i64 l1, .int .i64 l2] 30 (0, 0)) := by
    rw [← hw1, Below.heap_alloc _ _ _ (by simp only [World.size_alloc]; omega), Below.heap_alloc _ _ _ (by simp)]; exact heap_new _ _ _ (by simp)
  have x2 : w1.heap[w.heap.size + 1 + 1]? = some (.cells #[.int .i64 h1, .int .i64 h2] 30 (0, 0)) := by
    rw [← hw1, Below.heap_alloc _ _ _ (by simp)]; exact heap_new _ _ _ (by simp)
  have x3 : w1.heap[w.heap.size + 1 + 1 + 1]? = some (.cells #[.int .i64 q0, .int .i64 q1, .int .i64 q2, .int .i64 q3] 42 (0, 0)) := by
    rw [← hw1]; exact heap_new _ _ _ (by simp)
  have lt : ∀ {k : Nat} {o : Obj}, w1.heap[k]? = some o → k < w1.heap.size := fun h => (Array.getElem?_eq_some_iff.1 h).1
  have HA : Hid (∀ wx, Below w1.heap.size w1 wx → (wx.heap[w.heap.size]? = some (.cells #[.int .i64 c1, .int .i64 c2, .int .i64 c3] 27 (0, 0)) ∧ wx.heap[w.heap.size + 1]? = some (.cells #[.int .i64 l1, .int .i64 l2] 30 (0, 0)) ∧ wx.heap[w.heap.size + 1 + 1]? = some (.cells #[.int .i64 h1, .int .i64 h2] 30 (0, 0))) ∧ wx.heap[w.heap.size + 1 + 1 + 1]? = some (.cells #[.int .i64 q0, .int .i64 q1, .int .i64 q2, .int .i64 q3] 42 (0, 0))) := fun wx hx =>
    ⟨⟨(hx.block _ (lt x0)).trans x0, (hx.block _ (lt x1)).trans x1, (hx.block _ (lt x2)).trans x2⟩, (hx.block _ (lt x3)).trans x3⟩
  have HB := Lib.hid hb1
  have HW1 := Lib.hid hw1
  clear hw1 hb1 x0 x1 x2 x3 lt g1 g2 g3
  go_enter Tryz.func4, Tryz.ntmps4
  go_upto_region 1 with (fail)
  rw [HW1.out]
  clear HW1
  refine wp_region_inv (fun w w' => Below w.heap.size w w') (fun qi_ qv_ _ => qv_ = ([.agg #[.int .i64 c1, .int .i64 c2, .int .i64 c3], .agg #[.int .i64 l1, .int .i64 l2], .agg #[.int .i64 h1, .int .i64 h2], .bool t1, .agg #[.int .i64 c1, .int .i64 c2, .int .i64 c3], .agg #[.int .i64 l1, .int .i64 l2], .agg #[.int .i64 h1, .int .i64 h2], .bool t1, .bool false] : List Value).getD qi_ undef) (by kernel_rfl) (by kernel_rfl) (fun _ => Below.refl _ _) (fun _ _ _ h1 h2 => below_later h1 h1.size h2) (fun _ _ _ _ _ _ h => h) ?_
  refine inv_cons (fun wx hg hd => ?_) (fun v0 => ?_)
  · have hx := ((Below.refl w1.heap.size w1).drew).trans hg
    clear hd hg
    obtain ⟨k1, k2, k3, k4⟩ := cel3 (HA.out _ hx).1.1
    go_wp2
    exact ⟨_, rfl, Below.refl _ _, rfl⟩
  (try simp only [List.nil_append, Act.put, List.setIfInBounds_toArray, List.set_cons_zero, List.set_cons_succ])
  refine inv_cons (fun wx hg hd => ?_) (fun v1 => ?_)
  · have hx := ((Below.refl w1.heap.size w1).drew).trans hg
    clear hd hg
    obtain ⟨k1, k2, k3⟩ := cel2 (HA.out _ hx).1.2.1
    go_wp2
    exact ⟨_, rfl, Below.refl _ _, rfl⟩
  (try simp only [List.cons_append, List.nil_append, Act.put, List.setIfInBounds_toArray, List.set_cons_zero, List.set_cons_succ])
  refine inv_cons (fun wx hg hd => ?_) (fun v2 => ?_)
  · have hx := ((Below.refl w1.heap.size w1).drew).trans hg
    clear hd hg
    obtain ⟨k1, k2, k3⟩ := cel2 (HA.out _ hx).1.2.2
    go_wp2
    exact ⟨_, rfl, Below.refl _ _, rfl⟩
  (try simp only [List.cons_append, List.nil_append, Act.put, List.setIfInBounds_toArray, List.set_cons_zero, List.set_cons_succ])
  refine inv_cons (fun wx hg hd => ?_) (fun v3 => ?_)
  · have hx := ((Below.refl w1.heap.size w1).drew).trans hg
    (try (have ee : v0 = (.agg #[.int .i64 c1, .int .i64 c2, .int .i64 c3] : Value) := hd 0 (by simp) (by decide); subst ee))
    (try (have ee : v1 = (.agg #[.int .i64 l1, .int .i64 l2] : Value) := hd 1 (by simp) (by decide); subst ee))
    (try (have ee : v2 = (.agg #[.int .i64 h1, .int .i64 h2] : Value) := hd 2 (by simp) (by decide); subst ee))
    clear hd hg
    go_wp2_with fail
    refine (HC1.out _).mono ?_
    rintro e w' ⟨rfl, hb⟩
    go_wp2
    exact ⟨_, rfl, hb, rfl⟩
  (try simp only [List.cons_append, List.nil_append, Act.put, List.setIfInBounds_toArray, List.set_cons_zero, List.set_cons_succ])
  refine inv_cons (fun wx hg hd => ?_) (fun v4 => ?_)
  · have hx := ((Below.refl w1.heap.size w1).drew).trans hg
    clear hd hg
    obtain ⟨k1, k2, k3, k4⟩ := cel3 (HA.out _ hx).1.1
    go_wp2
    exact ⟨_, rfl, Below.refl _ _, rfl⟩
  (try simp only [List.cons_append, List.nil_append, Act.put, List.setIfInBounds_toArray, List.set_cons_zero, List.set_cons_succ])
  refine inv_cons (fun wx hg hd => ?_) (fun v5 => ?_)
  · have hx := ((Below.refl w1.heap.size w1).drew).trans hg
    clear hd hg
    obtain ⟨k1, k2, k3⟩ := cel2 (HA.out _ hx).1.2.1
    go_wp2
    exact ⟨_, rfl, Below.refl _ _, rfl⟩
  (try simp only [List.cons_append, List.nil_append, Act.put, List.setIfInBounds_toArray, List.set_cons_zero, List.set_cons_succ])
  refine inv_cons (fun wx hg hd => ?_) (fun v6 => ?_)
  · have hx := ((Below.refl w1.heap.size w1).drew).trans hg
    clear hd hg
    obtain ⟨k1, k2, k3⟩ := cel2 (HA.out _ hx).1.2.2
    go_wp2
    exact ⟨_, rfl, Below.refl _ _, rfl⟩
  (try simp only [List.cons_append, List.nil_append, Act.put, List.setIfInBounds_toArray, List.set_cons_zero, List.set_cons_succ])
  refine inv_cons (fun wx hg hd => ?_) (fun v7 => ?_)
  · have hx := ((Below.refl w1.heap.size w1).drew).trans hg
    (try (have ee : v4 = (.agg #[.int .i64 c1, .int .i64 c2, .int .i64 c3] : Value) := hd 4 (by simp) (by decide); subst ee))
    (try (have ee : v5 = (.agg #[.int .i64 l1, .int .i64 l2] : Value) := hd 5 (by simp) (by decide); subst ee))
    (try (have ee : v6 = (.agg #[.int .i64 h1, .int .i64 h2] : Value) := hd 6 (by simp) (by decide); subst ee))
    clear hd hg
    go_wp2_with fail
    refine (HD1.out _).mono ?_
    rintro e w' ⟨rfl, hb⟩
    go_wp2
    exact ⟨_, rfl, hb, rfl⟩
  (try simp only [List.cons_append, List.nil_append, Act.put, List.setIfInBounds_toArray, List.set_cons_zero, List.set_cons_succ])
  refine inv_cons (fun wx hg hd => ?_) (fun v8 => ?_)
  · have hx := ((Below.refl w1.heap.size w1).drew).trans hg
    (try (have ee : v3 = (.bool t1 : Value) := hd 3 (by simp) (by decide); subst ee))
    (try (have ee : v7 = (.bool t1 : Value) := hd 7 (by simp) (by decide); subst ee))
    clear hd hg
    go_wp2
    exact ⟨_, rfl, Below.refl _ _, by simp⟩
  (try simp only [List.cons_append, List.nil_append, Act.put, List.setIfInBounds_toArray, List.set_cons_zero, List.set_cons_succ])
  refine inv_done (fun wx hg hd => ?_)
  have hx := ((Below.refl w1.heap.size w1).drew).trans hg
  (have ee : v0 = (.agg #[.int .i64 c1, .int .i64 c2, .int .i64 c3] : Value) := hd 0 (by simp); subst ee)
  (have ee : v1 = (.agg #[.int .i64 l1, .int .i64 l2] : Value) := hd 1 (by simp); subst ee)
  (have ee : v2 = (.agg #[.int .i64 h1, .int .i64 h2] : Value) := hd 2 (by simp); subst ee)
  (have ee : v3 = (.bool t1 : Value) := hd 3 (by simp); subst ee)
  (have ee : v4 = (.agg #[.int .i64 c1, .int .i64 c2, .int .i64 c3] : Value) := hd 4 (by simp); subst ee)
  (have ee : v5 = (.agg #[.int .i64 l1, .int .i64 l2] : Value) := hd 5 (by simp); subst ee)
  (have ee : v6 = (.agg #[.int .i64 h1, .int .i64 h2] : Value) := hd 6 (by simp); subst ee)
  (have ee : v7 = (.bool t1 : Value) := hd 7 (by simp); subst ee)
  (have ee : v8 = (.bool false : Value) := hd 8 (by simp); subst ee)
  clear hd hg
  (try go_simp)
  have HX2 := Lib.hid hx
  have HB2 := Lib.hid (HB.out.trans (hx.mono HB.out.size))
  have hbs := HB.out.size
  clear hx HC1 HD1
  as_aux_lemma =>
    go_wp2_with fail
    refine (HSO.out _).mono ?_
    rintro e w3 ⟨rfl, hb3⟩
    have HX3 := Lib.hid (HX2.out.trans (hb3.mono HX2.out.size))
    clear hb3 HX2
    go_upto_region 4 with (fail)
    have K4 : Below w3.heap.size w3 (w3.alloc (.cells #[.int .i64 R, .int .i64 z.1, .int .i64 z.2] 27)) := (Below.refl _ _).alloc (Nat.le_refl _) _
    have x4 : (w3.alloc (.cells #[.int .i64 R, .int .i64 z.1, .int .i64 z.2] 27)).heap[w3.heap.size]? = some (.cells #[.int .i64 R, .int .i64 z.1, .int .i64 z.2] 27 (0, 0)) := heap_new _ _ _ rfl
    have hs3 := HX3.out.size
    generalize w3.alloc (.cells #[.int .i64 R, .int .i64 z.1, .int .i64 z.2] 27) = w4 at *
    have HX4 := Lib.hid (HX3.out.trans (K4.mono hs3))
    generalize w3.heap.size = d at *
    have hd : d < w4.heap.size := (Array.getElem?_eq_some_iff.1 x4).1
    have HDD : Hid (∀ wx, Below w4.heap.size w4 wx → wx.heap[d]? = some (.cells #[.int .i64 R, .int .i64 z.1, .int .i64 z.2] 27 (0, 0))) := fun wx hx => (hx.block d hd).trans x4
    have HA4 : Hid (∀ wx, Below w4.heap.size w4 wx → _) := fun wx hx => HA.out wx (HX4.out.trans (hx.mono HX4.out.size))
    clear K4 x4 HX3 hs3 HSO HA
    refine wp_region_inv (fun w w' => Below w.heap.size w w') (fun qi_ qv_ _ => qv_ = ([.agg #[.int .i64 R, .int .i64 z.1, .int .i64 z.2], .agg #[.int .i64 l1, .int .i64 l2], .agg #[.int .i64 h1, .int .i64 h2], .bool t2, .agg #[.int .i64 R, .int .i64 z.1, .int .i64 z.2], .agg #[.int .i64 l1, .int .i64 l2], .agg #[.int .i64 h1, .int .i64 h2], .bool t2, .bool false] : List Value).getD qi_ undef) (by kernel_rfl) (by kernel_rfl) (fun _ => Below.refl _ _) (fun _ _ _ h1 h2 => below_later h1 h1.size h2) (fun _ _ _ _ _ _ h => h) ?_
    refine inv_cons (fun wx hg hd => ?_) (fun v0 => ?_)
    · have hx := ((Below.refl w4.heap.size w4).drew).trans hg
      clear hd hg
      obtain ⟨k1, k2, k3, k4⟩ := cel3 (HDD.out _ hx)
      go_wp2
      exact ⟨_, rfl, Below.refl _ _, rfl⟩
    (try simp only [List.nil_append, Act.put, List.setIfInBounds_toArray, List.set_cons_zero, List.set_cons_succ])
    refine inv_cons (fun wx hg hd => ?_) (fun v1 => ?_)
    · have hx := ((Below.refl w4.heap.size w4).drew).trans hg
      clear hd hg
      obtain ⟨k1, k2, k3⟩ := cel2 (HA4.out _ hx).1.2.1
      go_wp2
      exact ⟨_, rfl, Below.refl _ _, rfl⟩
    (try simp only [List.cons_append, List.nil_append, Act.put, List.setIfInBounds_toArray, List.set_cons_zero, List.set_cons_succ])
    refine inv_cons (fun wx hg hd => ?_) (fun v2 => ?_)
    · have hx := ((Below.refl w4.heap.size w4).drew).trans hg
      clear hd hg
      obtain ⟨k1, k2, k3⟩ := cel2 (HA4.out _ hx).1.2.2
      go_wp2
      exact ⟨_, rfl, Below.refl _ _, rfl⟩
    (try simp only [List.cons_append, List.nil_append, Act.put, List.setIfInBounds_toArray, List.set_cons_zero, List.set_cons_succ])
    refine inv_cons (fun wx hg hd => ?_) (fun v3 => ?_)
    · have hx := ((Below.refl w4.heap.size w4).drew).trans hg
      (try (have ee : v0 = (.agg #[.int .i64 R, .int .i64 z.1, .int .i64 z.2] : Value) := hd 0 (by simp) (by decide); subst ee))
      (try (have ee : v1 = (.agg #[.int .i64 l1, .int .i64 l2] : Value) := hd 1 (by simp) (by decide); subst ee))
      (try (have ee : v2 = (.agg #[.int .i64 h1, .int .i64 h2] : Value) := hd 2 (by simp) (by decide); subst ee))
      clear hd hg
      go_wp2_with fail
      refine (HC2.out _).mono ?_
      rintro e w' ⟨rfl, hb⟩
      go_wp2
      exact ⟨_, rfl, hb, rfl⟩
    (try simp only [List.cons_append, List.nil_append, Act.put, List.setIfInBounds_toArray, List.set_cons_zero, List.set_cons_succ])
    refine inv_cons (fun wx hg hd => ?_) (fun v4 => ?_)
    · have hx := ((Below.refl w4.heap.size w4).drew).trans hg
      clear hd hg
      obtain ⟨k1, k2, k3, k4⟩ := cel3 (HDD.out _ hx)
      go_wp2
      exact ⟨_, rfl, Below.refl _ _, rfl⟩
    (try simp only [List.cons_append, List.nil_append, Act.put, List.setIfInBounds_toArray, List.set_cons_zero, List.set_cons_succ])
    refine inv_cons (fun wx hg hd => ?_) (fun v5 => ?_)
    · have hx := ((Below.refl w4.heap.size w4).drew).trans hg
      clear hd hg
      obtain ⟨k1, k2, k3⟩ := cel2 (HA4.out _ hx).1.2.1
      go_wp2
      exact ⟨_, rfl, Below.refl _ _, rfl⟩
    (try simp only [List.cons_append, List.nil_append, Act.put, List.setIfInBounds_toArray, List.set_cons_zero, List.set_cons_succ])
    refine inv_cons (fun wx hg hd => ?_) (fun v6 => ?_)
    · have hx := ((Below.refl w4.heap.size w4).drew).trans hg
      clear hd hg
      obtain ⟨k1, k2, k3⟩ := cel2 (HA4.out _ hx).1.2.2
      go_wp2
      exact ⟨_, rfl, Below.refl _ _, rfl⟩
    (try simp only [List.cons_append, List.nil_append, Act.put, List.setIfInBounds_toArray, List.set_cons_zero, List.set_cons_succ])
    refine inv_cons (fun wx hg hd => ?_) (fun v7 => ?_)
    · have hx := ((Below.refl w4.heap.size w4).drew).trans hg
      (try (have ee : v4 = (.agg #[.int .i64 R, .int .i64 z.1, .int .i64 z.2] : Value) := hd 4 (by simp) (by decide); subst ee))
      (try (have ee : v5 = (.agg #[.int .i64 l1, .int .i64 l2] : Value) := hd 5 (by simp) (by decide); subst ee))
      (try (have ee : v6 = (.agg #[.int .i64 h1, .int .i64 h2] : Value) := hd 6 (by simp) (by decide); subst ee))
      clear hd hg
      go_wp2_with fail
      refine (HD2.out _).mono ?_
      rintro e w' ⟨rfl, hb⟩
      go_wp2
      exact ⟨_, rfl, hb, rfl⟩
    (try simp only [List.cons_append, List.nil_append, Act.put, List.setIfInBounds_toArray, List.set_cons_zero, List.set_cons_succ])
    refine inv_cons (fun wx hg hd => ?_) (fun v8 => ?_)
    · have hx := ((Below.refl w4.heap.size w4).drew).trans hg
      (try (have ee : v3 = (.bool t2 : Value) := hd 3 (by simp) (by decide); subst ee))
      (try (have ee : v7 = (.bool t2 : Value) := hd 7 (by simp) (by decide); subst ee))
      clear hd hg
      go_wp2
      exact ⟨_, rfl, Below.refl _ _, by simp⟩
    (try simp only [List.cons_append, List.nil_append, Act.put, List.setIfInBounds_toArray, List.set_cons_zero, List.set_cons_succ])
    refine inv_done (fun wx hg hd => ?_)
    have hx := ((Below.refl w4.heap.size w4).drew).trans hg
    (have ee : v0 = (.agg #[.int .i64 R, .int .i64 z.1, .int .i64 z.2] : Value) := hd 0 (by simp); subst ee)
    (have ee : v1 = (.agg #[.int .i64 l1, .int .i64 l2] : Value) := hd 1 (by simp); subst ee)
    (have ee : v2 = (.agg #[.int .i64 h1, .int .i64 h2] : Value) := hd 2 (by simp); subst ee)
    (have ee : v3 = (.bool t2 : Value) := hd 3 (by simp); subst ee)
    (have ee : v4 = (.agg #[.int .i64 R, .int .i64 z.1, .int .i64 z.2] : Value) := hd 4 (by simp); subst ee)
    (have ee : v5 = (.agg #[.int .i64 l1, .int .i64 l2] : Value) := hd 5 (by simp); subst ee)
    (have ee : v6 = (.agg #[.int .i64 h1, .int .i64 h2] : Value) := hd 6 (by simp); subst ee)
    (have ee : v7 = (.bool t2 : Value) := hd 7 (by simp); subst ee)
    (have ee : v8 = (.bool false : Value) := hd 8 (by simp); subst ee)
    clear hd hg
    (try go_simp)
    obtain ⟨k1, k2, k3, k4⟩ := cel3 (HDD.out _ hx)
    have HX5 := Lib.hid hx
    clear hx HC2 HD2
    go_wp2_with fail
    refine (HCE.out _).mono ?_
    rintro e w6 ⟨rfl, hb6⟩
    have HX6 := Lib.hid (HX5.out.trans (hb6.mono HX5.out.size))
    clear hb6 HX5 k1 k2 k3 k4 HCE
    obtain ⟨k1, k2, k3, k4⟩ := cel3 (HDD.out _ HX6.out)
    as_aux_lemma =>
      go_upto_region 9 with (fail)
      go_loopw [19, 20] (fun sv iv wr => ∃ (i s : Nat), R ≤ i ∧ i ≤ 12 ∧ sv = .int .i64 s ∧ iv = .int .i64 i ∧ wr = w6 ∧ Hid (100 ≤ s ∧ s ≤ 100 * 3 ^ (i - R))) (fun _ iv _ => 12 - (intOf iv).toNat)
      case atStart => exact ⟨R, 100, Nat.le_refl _, hR12, rfl, rfl, rfl, by omega, by rw [Nat.sub_self]; decide⟩
      case round =>
        obtain ⟨i, s, hRi, hi12, rfl, rfl, rfl, HS⟩ := hrel
        have hp := pow_three (i := i) (R := R) (by omega)
        obtain ⟨hs1, hs2⟩ := HS.out
        have hs3 : s ≤ 53144100 := by omega
        by_cases hlt : i < 12
        · have hN : Hid (100 ≤ s * 8 / 3 ∧ s * 8 / 3 ≤ 100 * 3 ^ (i + 1 - R)) := by
            have e : i + 1 - R = (i - R) + 1 := by omega
            rw [e, Nat.pow_succ]
            exact ⟨by omega, by omega⟩
          have hi0 : (i : Int) < 12 := by omega
          clear hs2 hp HS
          go_wp2
          refine ⟨⟨i + 1, s * 8 / 3, by omega, by omega, by rw [show ((s * 8 / 3 : Nat) : Int) = (s : Int) * 8 / 3 by omega], by rw [show ((i + 1 : Nat) : Int) = (i : Int) + 1 by omega], trivial, hN.out⟩, by simp [intOf]; omega⟩
        · clear hs2 hp HS hRi
          obtain ⟨⟨m0, m1⟩, ⟨m2, m3⟩, m4⟩ := cel4 (HA4.out _ HX6.out).2
          have q0' : ((s : Int) == 0) = false := by simp; omega
          have hsI : (100 : Int) ≤ (s : Int) := by omega
          have hsI2 : (s : Int) ≤ 53144100 := by omega
          as_aux_lemma =>
            go_upto_region 12 with (fail)
            go_region
            generalize q0.tmod s = M0
            generalize q1.tmod s = M1
            generalize wrap64 (uv.1 + M0) = A1
            generalize wrap64 (uv.2 + M1) = A2
            have KA : Below wr.heap.size wr (wr.alloc (.cells #[.int .i64 A1, .int .i64 A2] 30)).drew := ((Below.refl _ _).alloc (Nat.le_refl _) _).drew
            have xA : (wr.alloc (.cells #[.int .i64 A1, .int .i64 A2] 30)).drew.heap[wr.heap.size]? = some (.cells #[.int .i64 A1, .int .i64 A2] 30 (0, 0)) := heap_new wr _ _ rfl
            generalize (wr.alloc (.cells #[.int .i64 A1, .int .i64 A2] 30)).drew = w7 at *
            have HX7 := Lib.hid (HX6.out.trans (KA.mono HX6.out.size))
            generalize wr.heap.size = ab at *
            clear KA m0 m1 m2 m3 m4 k1 k2 k3 k4 HX6
            obtain ⟨⟨m0, m1⟩, ⟨m2, m3⟩, m4⟩ := cel4 (HA4.out _ HX7.out).2
            obtain ⟨n0, n1, n2⟩ := cel2 xA
            go_upto_region 13 with (fail)
            go_region
            generalize bits BinOp.and IntKind.i64 q2 4294967295 = Q2
            generalize bits BinOp.and IntKind.i64 q3 4294967295 = Q3
            generalize Q2.tmod s = M2
            generalize Q3.tmod s = M3
            generalize wrap64 (A1 + M2) = B1
            generalize wrap64 (A2 + M3) = B2
            have KB : Below w7.heap.size w7 (w7.alloc (.cells #[.int .i64 B1, .int .i64 B2] 30)).drew := ((Below.refl _ _).alloc (Nat.le_refl _) _).drew
            have xB : (w7.alloc (.cells #[.int .i64 B1, .int .i64 B2] 30)).drew.heap[w7.heap.size]? = some (.cells #[.int .i64 B1, .int .i64 B2] 30 (0, 0)) := heap_new w7 _ _ rfl
            have hab : ab < w7.heap.size := n2
            generalize (w7.alloc (.cells #[.int .i64 B1, .int .i64 B2] 30)).drew = w8 at *
            have xA8 : w8.heap[ab]? = some (.cells #[.int .i64 A1, .int .i64 A2] 30 (0, 0)) := (KB.block ab hab).trans xA
            have HX8 := Lib.hid (HX7.out.trans (KB.mono HX7.out.size))
            generalize w7.heap.size = bb at *
            have ha8 := (cel2 xA8).2.2
            have hb8 := (cel2 xB).2.2
            have HE8 : Hid (∀ wx, Below w8.heap.size w8 wx → (wx.heap[ab]? = some (.cells #[.int .i64 A1, .int .i64 A2] 30 (0, 0)) ∧ wx.heap[bb]? = some (.cells #[.int .i64 B1, .int .i64 B2] 30 (0, 0))) ∧ wx.heap[d]? = some (.cells #[.int .i64 R, .int .i64 z.1, .int .i64 z.2] 27 (0, 0))) := fun wx hx =>
              ⟨⟨(hx.block ab ha8).trans xA8, (hx.block bb hb8).trans xB⟩, HDD.out wx (HX8.out.trans (hx.mono HX8.out.size))⟩
            have HCC := Lib.hid (HC3.out (A1, A2) (B1, B2))
            have HDD3 := Lib.hid (HD3.out (A1, A2) (B1, B2))
            generalize t3 (A1, A2) (B1, B2) = tt at *
            have B8 := Lib.hid (HB.out.trans ((HX4.out.trans (HX8.out.mono HX4.out.size)).mono HB.out.size))
            clear KB xA xB xA8 HX7 m0 m1 m2 m3 m4 n0 n1 n2 hab HDD HA4 HC3 HD3 hsI hsI2 q0' HX8
            simp only at HCC HDD3
            as_aux_lemma =>
              go_upto_region 14 with (fail)
              as_aux_lemma =>
                refine wp_region_inv (fun w w' => Below w.heap.size w w') (fun qi_ qv_ _ => qv_ = ([.agg #[.int .i64 R, .int .i64 z.1, .int .i64 z.2], .agg #[.int .i64 A1, .int .i64 A2], .agg #[.int .i64 B1, .int .i64 B2], .bool tt, .agg #[.int .i64 R, .int .i64 z.1, .int .i64 z.2], .agg #[.int .i64 A1, .int .i64 A2], .agg #[.int .i64 B1, .int .i64 B2], .bool tt, .bool true, .bool true, .bool true, .bool true, .bool true] : List Value).getD qi_ undef) (by kernel_rfl) (by kernel_rfl) (fun _ => Below.refl _ _) (fun _ _ _ h1 h2 => below_later h1 h1.size h2) (fun _ _ _ _ _ _ h => h) ?_
                refine inv_cons (fun wx hg hd => ?_) (fun v0 => ?_)
                · have hx := ((Below.refl w8.heap.size w8).drew).trans hg
                  clear hd hg
                  obtain ⟨k1, k2, k3, k4⟩ := cel3 (HE8.out _ hx).2
                  go_wp2
                  exact ⟨_, rfl, Below.refl _ _, rfl⟩
                (try simp only [List.nil_append, Act.put, List.setIfInBounds_toArray, List.set_cons_zero, List.set_cons_succ])
                refine inv_cons (fun wx hg hd => ?_) (fun v1 => ?_)
                · have hx := ((Below.refl w8.heap.size w8).drew).trans hg
                  clear hd hg
                  obtain ⟨k1, k2, k3⟩ := cel2 (HE8.out _ hx).1.1
                  go_wp2
                  exact ⟨_, rfl, Below.refl _ _, rfl⟩
                (try simp only [List.cons_append, List.nil_append, Act.put, List.setIfInBounds_toArray, List.set_cons_zero, List.set_cons_succ])
                refine inv_cons (fun wx hg hd => ?_) (fun v2 => ?_)
                · have hx := ((Below.refl w8.heap.size w8).drew).trans hg
                  clear hd hg
                  obtain ⟨k1, k2, k3⟩ := cel2 (HE8.out _ hx).1.2
                  go_wp2
                  exact ⟨_, rfl, Below.refl _ _, rfl⟩
                (try simp only [List.cons_append, List.nil_append, Act.put, List.setIfInBounds_toArray, List.set_cons_zero, List.set_cons_succ])
                refine inv_cons (fun wx hg hd => ?_) (fun v3 => ?_)
                · have hx := ((Below.refl w8.heap.size w8).drew).trans hg
                  (try (have ee : v0 = (.agg #[.int .i64 R, .int .i64 z.1, .int .i64 z.2] : Value) := hd 0 (by simp) (by decide); subst ee))
                  (try (have ee : v1 = (.agg #[.int .i64 A1, .int .i64 A2] : Value) := hd 1 (by simp) (by decide); subst ee))
                  (try (have ee : v2 = (.agg #[.int .i64 B1, .int .i64 B2] : Value) := hd 2 (by simp) (by decide); subst ee))
                  clear hd hg
                  go_wp2_with fail
                  refine (HCC.out _).mono ?_
                  rintro e w' ⟨rfl, hb⟩
                  go_wp2
                  exact ⟨_, rfl, hb, rfl⟩
                (try simp only [List.cons_append, List.nil_append, Act.put, List.setIfInBounds_toArray, List.set_cons_zero, List.set_cons_succ])
                refine inv_cons (fun wx hg hd => ?_) (fun v4 => ?_)
                · have hx := ((Below.refl w8.heap.size w8).drew).trans hg
                  clear hd hg
                  obtain ⟨k1, k2, k3, k4⟩ := cel3 (HE8.out _ hx).2
                  go_wp2
                  exact ⟨_, rfl, Below.refl _ _, rfl⟩
                (try simp only [List.cons_append, List.nil_append, Act.put, List.setIfInBounds_toArray, List.set_cons_zero, List.set_cons_succ])
                refine inv_cons (fun wx hg hd => ?_) (fun v5 => ?_)
                · have hx := ((Below.refl w8.heap.size w8).drew).trans hg
                  clear hd hg
                  obtain ⟨k1, k2, k3⟩ := cel2 (HE8.out _ hx).1.1
                  go_wp2
                  exact ⟨_, rfl, Below.refl _ _, rfl⟩
                (try simp only [List.cons_append, List.nil_append, Act.put, List.setIfInBounds_toArray, List.set_cons_zero, List.set_cons_succ])
                refine inv_cons (fun wx hg hd => ?_) (fun v6 => ?_)
                · have hx := ((Below.refl w8.heap.size w8).drew).trans hg
                  clear hd hg
                  obtain ⟨k1, k2, k3⟩ := cel2 (HE8.out _ hx).1.2
                  go_wp2
                  exact ⟨_, rfl, Below.refl _ _, rfl⟩
                (try simp only [List.cons_append, List.nil_append, Act.put, List.setIfInBounds_toArray, List.set_cons_zero, List.set_cons_succ])
                refine inv_cons (fun wx hg hd => ?_) (fun v7 => ?_)
                · have hx := ((Below.refl w8.heap.size w8).drew).trans hg
                  (try (have ee : v4 = (.agg #[.int .i64 R, .int .i64 z.1, .int .i64 z.2] : Value) := hd 4 (by simp) (by decide); subst ee))
                  (try (have ee : v5 = (.agg #[.int .i64 A1, .int .i64 A2] : Value) := hd 5 (by simp) (by decide); subst ee))
                  (try (have ee : v6 = (.agg #[.int .i64 B1, .int .i64 B2] : Value) := hd 6 (by simp) (by decide); subst ee))
                  clear hd hg
                  go_wp2_with fail
                  refine (HDD3.out _).mono ?_
                  rintro e w' ⟨rfl, hb⟩
                  go_wp2
                  exact ⟨_, rfl, hb, rfl⟩
                (try simp only [List.cons_append, List.nil_append, Act.put, List.setIfInBounds_toArray, List.set_cons_zero, List.set_cons_succ])
                refine inv_cons (fun wx hg hd => ?_) (fun v8 => ?_)
                · have hx := ((Below.refl w8.heap.size w8).drew).trans hg
                  (try (have ee : v3 = (.bool tt : Value) := hd 3 (by simp) (by decide); subst ee))
                  (try (have ee : v7 = (.bool tt : Value) := hd 7 (by simp) (by decide); subst ee))
                  clear hd hg
                  go_wp2
                  exact ⟨_, rfl, Below.refl _ _, by simp⟩
                (try simp only [List.cons_append, List.nil_append, Act.put, List.setIfInBounds_toArray, List.set_cons_zero, List.set_cons_succ])
                refine inv_cons (fun wx hg hd => ?_) (fun v9 => ?_)
                · have hx := ((Below.refl w8.heap.size w8).drew).trans hg
                  (try (have ee : v8 = (.bool true : Value) := hd 8 (by simp) (by decide); subst ee))
                  clear hd hg
                  go_wp2
                  exact ⟨_, rfl, Below.refl _ _, rfl⟩
                (try simp only [List.cons_append, List.nil_append, Act.put, List.setIfInBounds_toArray, List.set_cons_zero, List.set_cons_succ])
                refine inv_cons (fun wx hg hd => ?_) (fun v10 => ?_)
                · have hx := ((Below.refl w8.heap.size w8).drew).trans hg
                  (try (have ee : v9 = (.bool true : Value) := hd 9 (by simp) (by decide); subst ee))
                  clear hd hg
                  go_wp2_with fail
                  refine (HAW.out _).mono ?_
                  rintro e w' ⟨rfl, hb⟩
                  go_wp2
                  exact ⟨_, rfl, hb, rfl⟩
                (try simp only [List.cons_append, List.nil_append, Act.put, List.setIfInBounds_toArray, List.set_cons_zero, List.set_cons_succ])
                refine inv_cons (fun wx hg hd => ?_) (fun v11 => ?_)
                · have hx := ((Below.refl w8.heap.size w8).drew).trans hg
                  (try (have ee : v9 = (.bool true : Value) := hd 9 (by simp) (by decide); subst ee))
                  (try (have ee : v10 = (.bool true : Value) := hd 10 (by simp) (by decide); subst ee))
                  clear hd hg
                  go_wp2
                  exact ⟨_, rfl, Below.refl _ _, rfl⟩
                (try simp only [List.cons_append, List.nil_append, Act.put, List.setIfInBounds_toArray, List.set_cons_zero, List.set_cons_succ])
                refine inv_cons (fun wx hg hd => ?_) (fun v12 => ?_)
                · have hx := ((Below.refl w8.heap.size w8).drew).trans hg
                  (try (have ee : v11 = (.bool true : Value) := hd 11 (by simp) (by decide); subst ee))
                  clear hd hg
                  go_wp2
                  exact ⟨_, rfl, Below.refl _ _, rfl⟩
                (try simp only [List.cons_append, List.nil_append, Act.put, List.setIfInBounds_toArray, List.set_cons_zero, List.set_cons_succ])
                refine inv_done (fun wx hg hd => ?_)
                have hx := ((Below.refl w8.heap.size w8).drew).trans hg
                (have ee : v0 = (.agg #[.int .i64 R, .int .i64 z.1, .int .i64 z.2] : Value) := hd 0 (by simp); subst ee)
                (have ee : v1 = (.agg #[.int .i64 A1, .int .i64 A2] : Value) := hd 1 (by simp); subst ee)
                (have ee : v2 = (.agg #[.int .i64 B1, .int .i64 B2] : Value) := hd 2 (by simp); subst ee)
                (have ee : v3 = (.bool tt : Value) := hd 3 (by simp); subst ee)
                (have ee : v4 = (.agg #[.int .i64 R, .int .i64 z.1, .int .i64 z.2] : Value) := hd 4 (by simp); subst ee)
                (have ee : v5 = (.agg #[.int .i64 A1, .int .i64 A2] : Value) := hd 5 (by simp); subst ee)
                (have ee : v6 = (.agg #[.int .i64 B1, .int .i64 B2] : Value) := hd 6 (by simp); subst ee)
                (have ee : v7 = (.bool tt : Value) := hd 7 (by simp); subst ee)
                (have ee : v8 = (.bool true : Value) := hd 8 (by simp); subst ee)
                (have ee : v9 = (.bool true : Value) := hd 9 (by simp); subst ee)
                (have ee : v10 = (.bool true : Value) := hd 10 (by simp); subst ee)
                (have ee : v11 = (.bool true : Value) := hd 11 (by simp); subst ee)
                (have ee : v12 = (.bool true : Value) := hd 12 (by simp); subst ee)
                clear hd hg
                (try go_simp)
                have HF := Lib.hid (B8.out.trans (hx.mono B8.out.size))
                clear hx HE8 HCC HDD3 HAW B8
                go_wp2
                go_ret
                exact ⟨rfl, HF.out⟩
end Go.Proofs.YtdbfimdcaacjhaaGreat.coverTouches
