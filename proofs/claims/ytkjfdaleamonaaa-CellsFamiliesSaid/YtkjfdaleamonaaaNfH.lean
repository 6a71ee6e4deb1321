/- The contract of apiaryref1.Near. -/
import Derived.Test.YtkjfdaleamonaaaNfG
import Derived.Test.YtkjfdaleamonaaaNfD
namespace Go.Proofs.Ytkjfdaleamonaaa
open Go.RowKit Go.Lib Wd

theorem near_mul_sm {x y : Int} (hx : 0 ≤ x ∧ x < 1073741824) (hy : 0 ≤ y ∧ y < 1073741824) {m : Nat} (hm : m ≤ 12) : Sm 1152921504606846976 (mulE (ptE x y) (conjE (bE m))) := by
  obtain ⟨q0, q1, q2, q3, q4, q5, q6, q7, q8, q9, q10, q11, q12⟩ := bE_tab
  unfold Sm mulE ptE conjE
  rcases upto12 hm with rfl | rfl | rfl | rfl | rfl | rfl | rfl | rfl | rfl | rfl | rfl | rfl | rfl <;> simp only [q0, q1, q2, q3, q4, q5, q6, q7, q8, q9, q10, q11, q12] <;> omega
theorem conj_sm {m : Nat} (hm : m ≤ 12) : Sm 4194304 (conjE (bE m)) := by
  have := bE_sm hm
  unfold Sm at this
  unfold Sm conjE
  simp only
  omega
set_option maxRecDepth 100000 in
set_option maxHeartbeats 4000000 in
theorem rnear_in (x y : Int) (hx : 0 ≤ x ∧ x < 1073741824) (hy : 0 ≤ y ∧ y < 1073741824) (r : Nat) (hr : r ≤ 12) (w : World) :
    Calls Try.prog 29 #[.int .i64 x, .int .i64 y, .int .i64 r] w fun e w' => e = .returned (.tuple #[vE (nearE x y r), .bool true]) ∧ Below w.heap.size w w' := by
  have HWO := Lib.hid (rworld_in x y hx hy)
  have q1 : decide ((r : Int) < 0) = false := decide_eq_false (by omega)
  have q2 : decide (12 < (r : Int)) = false := decide_eq_false (by omega)
  have hm : (12 : Int) - (r : Int) = ((12 - r : Nat) : Int) := by omega
  have hm12 : 12 - r ≤ 12 := by omega
  have HN : Hid (nearE x y r = roundE (mulE (ptE x y) (conjE (bE (12 - r)))) (dN (12 - r))) := rfl
  have hms := near_mul_sm hx hy hm12
  have HCO := Lib.hid (rconj_in (12 - r) hm12)
  have HMU := Lib.hid (rmul_in (ptE x y) (conjE (bE (12 - r))) (by unfold Sm ptE; simp only; omega) ((conj_sm hm12).mono (by decide)) (hms.mono (by decide)))
  have HSE := Lib.hid (rseven_in (12 - r) hm12)
  obtain ⟨hp1, hp2⟩ := pow7_in hm12
  have HRO := Lib.hid (rround_in (mulE (ptE x y) (conjE (bE (12 - r)))) (dN (12 - r)) (by unfold dN; omega) (by unfold dN; omega) hms)
  rw [← HN.out] at HRO
  have hdn : dN (12 - r) = 2340 * 7 ^ (12 - r) := rfl
  rw [hdn] at HRO
  have hpt : ptE x y = (45 * x - 26 * y, 52 * y) := rfl
  clear HN hdn hms
  generalize (7 : Int) ^ (12 - r) = s at *
  generalize nearE x y r = z at *
  generalize 12 - r = m at *
  generalize mulE (ptE x y) (conjE (bE m)) = u at *
  generalize conjE (bE m) = c at *
  rw [hpt] at HMU
  simp only [vE] at *
  clear hpt
  obtain ⟨hx1, hx2⟩ := hx
  obtain ⟨hy1, hy2⟩ := hy
  go_enter Try.func29, Try.ntmps29
  go_wp2_with fail
  refine (HWO.out _).mono ?_
  rintro e w0 ⟨rfl, rfl⟩
  go_wp2_with fail
  refine (HCO.out _).mono ?_
  rintro e w1 ⟨rfl, hb1⟩
  have hz := hb1.size
  simp at hz
  have H1 : Hid (Two2 w1 w.heap.size (.int .i64 0) (.int .i64 0)) := (Two2.of_row (t := 27) (heap_new _ _ _ rfl)).later (by simp) hb1
  have HQ : Hid (Below w.heap.size w w1) := ((Below.refl _ _).alloc (Nat.le_refl _) _).trans (hb1.mono (by simp))
  clear hb1
  go_wp2_with fail
  refine (HMU.out _).mono ?_
  rintro e w2 ⟨rfl, hb2⟩
  have hz2 := hb2.size
  have H2 := H1.out.later (by omega) hb2
  have HQ2 : Hid (Below w.heap.size w w2) := HQ.out.trans (hb2.mono (by omega))
  have HT : Hid (Two (w2.alloc (.cells #[.int .i64 u.1, .int .i64 u.2] 27)) w2.heap.size (.int .i64 u.1) (.int .i64 u.2)) := Two.of_row (t := 27) (f := _) (heap_new _ _ _ rfl)
  have H2 := Lib.hid (H2.alloc (by omega) (.cells #[.int .i64 u.1, .int .i64 u.2] 27))
  have HQ3 : Hid (Below w.heap.size w (w2.alloc (.cells #[.int .i64 u.1, .int .i64 u.2] 27))) := HQ2.out.alloc (by omega) _
  have hs : w2.heap.size < (w2.alloc (.cells #[.int .i64 u.1, .int .i64 u.2] 27)).heap.size := by simp
  clear hb2 HQ HQ2 H1
  go_upto_region 4 with (fail)
  generalize w2.alloc (.cells #[.int .i64 u.1, .int .i64 u.2] 27) = w4 at *
  have HC : Hid (∀ wx, Below w4.heap.size w4 wx → Two wx w2.heap.size (.int .i64 u.1) (.int .i64 u.2) ∧ Two2 wx w.heap.size (.int .i64 0) (.int .i64 0)) := fun wx hx => ⟨HT.out.later (by omega) hx, H2.out.later (by omega) hx⟩
  clear HT H2
  refine wp_region_part 6 4 #[true, true, true, true, true, true, false, false, false, false] (fun w w' => Below w.heap.size w w') (fun qi_ qv_ _ => qv_ = ([.agg #[.int .i64 u.1, .int .i64 u.2], .int .i64 r, .int .i64 m, .int .i64 s, .int .i64 (2340 * s), .tuple #[.agg #[.int .i64 z.1, .int .i64 z.2], .bool true]] : List Value).getD qi_ undef) rfl rfl (by kernel_rfl) (by kernel_rfl) (by kernel_rfl) (fun _ => Below.refl _ _) (fun _ _ _ h1 h2 => below_later h1 h1.size h2) (fun _ _ _ _ _ _ h => h) ?_
  simp only [List.take_succ_cons, List.take_zero]
  refine inv_cons (fun wx hg hd => ?_) (fun v0 => ?_)
  · have hx := ((Below.refl w4.heap.size w4).drew).trans hg
    clear hd hg
    obtain ⟨⟨k1, k2⟩, _⟩ := HC.out _ hx
    go_wp2
    exact ⟨_, rfl, Below.refl _ _, rfl⟩
  (try simp only [List.nil_append, Act.put, List.setIfInBounds_toArray, List.set_cons_zero, List.set_cons_succ])
  refine inv_cons (fun wx hg hd => ?_) (fun v1 => ?_)
  · have hx := ((Below.refl w4.heap.size w4).drew).trans hg
    clear hd hg
    go_wp2
    exact ⟨_, rfl, Below.refl _ _, rfl⟩
  (try simp only [List.cons_append, List.nil_append, Act.put, List.setIfInBounds_toArray, List.set_cons_zero, List.set_cons_succ])
  refine inv_cons (fun wx hg hd => ?_) (fun v2 => ?_)
  · have hx := ((Below.refl w4.heap.size w4).drew).trans hg
    (try (have ee : v1 = (.int .i64 r : Value) := hd 1 (by simp) (by decide); subst ee))
    clear hd hg
    go_wp2
    exact ⟨_, rfl, Below.refl _ _, rfl⟩
  (try simp only [List.cons_append, List.nil_append, Act.put, List.setIfInBounds_toArray, List.set_cons_zero, List.set_cons_succ])
  refine inv_cons (fun wx hg hd => ?_) (fun v3 => ?_)
  · have hx := ((Below.refl w4.heap.size w4).drew).trans hg
    (try (have ee : v2 = (.int .i64 m : Value) := hd 2 (by simp) (by decide); subst ee))
    clear hd hg
    go_wp2_with fail
    refine (HSE.out _).mono ?_
    rintro e w' ⟨rfl, hb⟩
    go_wp2
    exact ⟨_, rfl, hb, rfl⟩
  (try simp only [List.cons_append, List.nil_append, Act.put, List.setIfInBounds_toArray, List.set_cons_zero, List.set_cons_succ])
  refine inv_cons (fun wx hg hd => ?_) (fun v4 => ?_)
  · have hx := ((Below.refl w4.heap.size w4).drew).trans hg
    (try (have ee : v3 = (.int .i64 s : Value) := hd 3 (by simp) (by decide); subst ee))
    clear hd hg
    go_wp2
    exact ⟨_, rfl, Below.refl _ _, rfl⟩
  (try simp only [List.cons_append, List.nil_append, Act.put, List.setIfInBounds_toArray, List.set_cons_zero, List.set_cons_succ])
  refine inv_cons (fun wx hg hd => ?_) (fun v5 => ?_)
  · have hx := ((Below.refl w4.heap.size w4).drew).trans hg
    (try (have ee : v0 = (.agg #[.int .i64 u.1, .int .i64 u.2] : Value) := hd 0 (by simp) (by decide); subst ee))
    (try (have ee : v4 = (.int .i64 (2340 * s) : Value) := hd 4 (by simp) (by decide); subst ee))
    clear hd hg
    go_wp2_with fail
    refine (HRO.out _).mono ?_
    rintro e w' ⟨rfl, hb⟩
    go_wp2
    exact ⟨_, rfl, hb, rfl⟩
  (try simp only [List.cons_append, List.nil_append, Act.put, List.setIfInBounds_toArray, List.set_cons_zero, List.set_cons_succ])
  refine inv_done (fun wx hg hd => ?_)
  have hx := ((Below.refl w4.heap.size w4).drew).trans hg
  (have ee : v0 = (.agg #[.int .i64 u.1, .int .i64 u.2] : Value) := hd 0 (by simp); subst ee)
  (have ee : v1 = (.int .i64 r : Value) := hd 1 (by simp); subst ee)
  (have ee : v2 = (.int .i64 m : Value) := hd 2 (by simp); subst ee)
  (have ee : v3 = (.int .i64 s : Value) := hd 3 (by simp); subst ee)
  (have ee : v4 = (.int .i64 (2340 * s) : Value) := hd 4 (by simp); subst ee)
  (have ee : v5 = (.tuple #[.agg #[.int .i64 z.1, .int .i64 z.2], .bool true] : Value) := hd 5 (by simp); subst ee)
  clear hd hg
  have HF : Hid (Below w.heap.size w wx) := HQ3.out.trans (hx.mono HQ3.out.size)
  obtain ⟨-, ⟨c0, c1⟩, f0, f1⟩ := HC.out _ hx
  have hzx := hx.size
  clear hx HC
  refine wpAny_take (i := 6) (v := .agg #[.int .i64 z.1, .int .i64 z.2]) rfl (by kernel_rfl) (by kernel_rfl) (by kernel_rfl) (fun _ _ _ h => h) (Or.inl ⟨by rfl, ?_⟩) ?_
  · intro w
    go_simp
  (try simp only [Act.put, List.setIfInBounds_toArray, List.set_cons_zero, List.set_cons_succ])
  refine wpAny_take (i := 7) (v := .bool true) rfl (by kernel_rfl) (by kernel_rfl) (by kernel_rfl) (fun _ _ _ h => h) (Or.inl ⟨by rfl, ?_⟩) ?_
  · intro w
    go_simp
  (try simp only [Act.put, List.setIfInBounds_toArray, List.set_cons_zero, List.set_cons_succ])
  refine wpAny_ready (rs := [8]) (by kernel_rfl) (by simp) ?_
  refine AllReady.cons rfl (fun K hK => ?_) AllReady.nil
  go_simp
  refine hK _ _ ?_
  clear hK K
  refine wpAny_ready (rs := [9]) (by kernel_rfl) (by simp) ?_
  refine AllReady.cons rfl (fun K hK => ?_) AllReady.nil
  go_simp
  refine hK _ _ ?_
  clear hK K
  refine wpAny_done (by kernel_rfl) ?_ _
  refine only_done ?_
  go_wp2
  exact bodyPost_ret (v := .tuple #[.agg #[.int .i64 z.1, .int .i64 z.2], .bool true]) (by simp [results, Try.results29, go_sem, *]) rfl ⟨rfl, (HF.out.setCell (p := ⟨w.heap.size, 0, none⟩) (Nat.le_refl _) _).setCell (p := ⟨w.heap.size, 1, none⟩) (Nat.le_refl _) _⟩
end Go.Proofs.Ytkjfdaleamonaaa
