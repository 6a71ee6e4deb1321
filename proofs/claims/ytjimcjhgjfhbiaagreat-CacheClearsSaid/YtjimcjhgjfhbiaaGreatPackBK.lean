/- Joined: RtB, VwE, VwF, CcP: contracts and plain laws, each with its own heading below. -/
import Derived.Lib.MinMax
import Derived.Test.YtjimcjhgjfhbiaaGreatPackBI
import Derived.Test.YtjimcjhgjfhbiaaGreatPackBG
import Derived.Test.YtjimcjhgjfhbiaaGreatPackBJ
/- The contract of apiaryref9.Touches: as the program tells it. -/
namespace Go.Proofs.YtjimcjhgjfhbiaaGreat
open Go.RowKit Go.Lib Wd

theorem bx_far (lo hi : E2) : bxOk lo hi = !(farB lo.1 lo.2 || (farB hi.1 hi.2 || (decide (hi.1 < lo.1) || decide (hi.2 < lo.2)))) := by
  rw [Bool.eq_iff_iff]
  unfold bxOk axOk axG farB
  simp
  omega
theorem cross_small {p q c : E2} (hp : Sm 100000000000 p) (hq : Sm 16777216 (subE q p)) (hc : Sm 100000000000 c) : crossF p.1 p.2 q.1 q.2 c.1 c.2 = if crossE p q c < 0 then -1 else if 0 < crossE p q c then 1 else 0 := by
  obtain ⟨p1, p2⟩ := p
  obtain ⟨q1, q2⟩ := q
  obtain ⟨c1, c2⟩ := c
  unfold Sm subE at *
  simp only at *
  have hw : ∀ {x : Int}, -9223372036854775808 ≤ x → x ≤ 9223372036854775807 → wrap64 x = x := fun h1 h2 => by unfold wrap64; omega
  unfold crossF crossE
  simp only
  rw [hw (by omega) (by omega), hw (by omega) (by omega), hw (by omega) (by omega), hw (by omega) (by omega)]
  generalize (q1 - p1) * (c2 - p2) = a
  generalize (q2 - p2) * (c1 - p1) = b
  (repeat' split) <;> omega
/-- The corner on the other side lies left of an edge. -/
theorem cross_opp {m : Nat} (hm : m ≤ 12) (z : E2) {k : Nat} (hk : k < 6) : 0 < crossE (hexC m z k) (hexC m z ((k + 1) % 6)) (hexC m z ((k + 3) % 6)) := by
  obtain ⟨h0, h1, h2, h3, h4, h5⟩ := hexC_eq m z
  have hd := det_d hm
  have hA := aN_pos m
  have c := cross_six hm z
  rcases (show k = 0 ∨ k = 1 ∨ k = 2 ∨ k = 3 ∨ k = 4 ∨ k = 5 by omega) with rfl | rfl | rfl | rfl | rfl | rfl
  · rw [show (0 + 1) % 6 = 1 from rfl, show (0 + 3) % 6 = 3 from rfl, (c _).1, h3]
    generalize d0E m = d at *
    generalize d1E m = e at *
    unfold subE; simp only; grind
  · rw [show (1 + 1) % 6 = 2 from rfl, show (1 + 3) % 6 = 4 from rfl, (c _).2.1, h4]
    generalize d0E m = d at *
    generalize d1E m = e at *
    unfold subE; simp only; grind
  · rw [show (2 + 1) % 6 = 3 from rfl, show (2 + 3) % 6 = 5 from rfl, (c _).2.2.1, h5]
    generalize d0E m = d at *
    generalize d1E m = e at *
    unfold subE; simp only; grind
  · rw [show (3 + 1) % 6 = 4 from rfl, show (3 + 3) % 6 = 0 from rfl, (c _).2.2.2.1, h0]
    generalize d0E m = d at *
    generalize d1E m = e at *
    unfold addE; simp only; grind
  · rw [show (4 + 1) % 6 = 5 from rfl, show (4 + 3) % 6 = 1 from rfl, (c _).2.2.2.2.1, h1]
    generalize d0E m = d at *
    generalize d1E m = e at *
    unfold addE; simp only; grind
  · rw [show (5 + 1) % 6 = 0 from rfl, show (5 + 3) % 6 = 2 from rfl, (c _).2.2.2.2.2, h2]
    generalize d0E m = d at *
    generalize d1E m = e at *
    unfold addE subE; simp only; grind
theorem ring_far {l : List E2} (h : RingSm l) {k : Nat} (hk : k < 6) : Sm 100000000000 (prG l k) := (h k hk).1
theorem two_pts (w : World) (p q : E2) (t : TypeId) :
    Two (((w.alloc (.cells #[.int .i64 p.1, .int .i64 p.2] t)).alloc (.cells #[.int .i64 q.1, .int .i64 q.2] t)).drew) w.heap.size (.int .i64 p.1) (.int .i64 p.2) ∧ Two (((w.alloc (.cells #[.int .i64 p.1, .int .i64 p.2] t)).alloc (.cells #[.int .i64 q.1, .int .i64 q.2] t)).drew) (w.heap.size + 1) (.int .i64 q.1) (.int .i64 q.2) ∧
    Below w.heap.size w (((w.alloc (.cells #[.int .i64 p.1, .int .i64 p.2] t)).alloc (.cells #[.int .i64 q.1, .int .i64 q.2] t)).drew) ∧ w.heap.size + 1 < (((w.alloc (.cells #[.int .i64 p.1, .int .i64 p.2] t)).alloc (.cells #[.int .i64 q.1, .int .i64 q.2] t)).drew).heap.size :=
  ⟨(Two.of_row (t := t) (f := _) (heap_new _ _ _ rfl)).later (by simp) ((Below.refl _ _).alloc (Nat.le_refl _) _).drew, Two.of_row (t := t) (f := _) (heap_new _ _ _ (by simp)), (((Below.refl _ w).alloc (Nat.le_refl _) _).alloc (by simp) _).drew, by show _ < ((w.alloc _).alloc _).heap.size; simp⟩
set_option maxRecDepth 100000 in
set_option maxHeartbeats 16000000 in
theorem rtouch_any (r : Int) (z lo hi : E2) (w : World) :
    Calls Tryz.prog 29 #[vC r z, vE lo, vE hi] w fun e w' => e = .returned (.bool (ctB r z lo hi)) ∧ Below w.heap.size w w' := by
  have HOK := Lib.hid (rok_any r z)
  have HF1 := Lib.hid (far_any lo.1 lo.2)
  have HF2 := Lib.hid (far_any hi.1 hi.2)
  have HV : Hid (ctB r z lo hi = (!(farB lo.1 lo.2 || (farB hi.1 hi.2 || (decide (hi.1 < lo.1) || decide (hi.2 < lo.2)))) && (okB r z && touchB (prG (hexL (12 - r.toNat) z)) (triE lo) (triE hi)))) := by show _ = _; rw [← bx_far]; rfl
  obtain ⟨X, hX⟩ : ∃ X, ctB r z lo hi = X := ⟨_, rfl⟩
  rw [hX] at HV ⊢
  clear hX
  have T0 : Hid (Tri (((w.alloc (.cells #[.int .i64 r, .int .i64 z.1, .int .i64 z.2] 72)).alloc (.cells #[.int .i64 lo.1, .int .i64 lo.2] 24)).alloc (.cells #[.int .i64 hi.1, .int .i64 hi.2] 24)) w.heap.size r z) := (show Tri (w.alloc (.cells #[.int .i64 r, .int .i64 z.1, .int .i64 z.2] 72)) w.heap.size r z from heap_new _ _ _ rfl).later (((Below.refl _ _).alloc (Nat.le_refl _) _).alloc (by simp) _)
  have L0 : Hid (Two (((w.alloc (.cells #[.int .i64 r, .int .i64 z.1, .int .i64 z.2] 72)).alloc (.cells #[.int .i64 lo.1, .int .i64 lo.2] 24)).alloc (.cells #[.int .i64 hi.1, .int .i64 hi.2] 24)) (w.heap.size + 1) (.int .i64 lo.1) (.int .i64 lo.2)) := (Two.of_row (t := 24) (f := _) (heap_new _ _ _ (by simp))).later (by simp) ((Below.refl _ _).alloc (Nat.le_refl _) _)
  have H0 : Hid (Two (((w.alloc (.cells #[.int .i64 r, .int .i64 z.1, .int .i64 z.2] 72)).alloc (.cells #[.int .i64 lo.1, .int .i64 lo.2] 24)).alloc (.cells #[.int .i64 hi.1, .int .i64 hi.2] 24)) (w.heap.size + 1 + 1) (.int .i64 hi.1) (.int .i64 hi.2)) := Two.of_row (t := 24) (f := _) (heap_new _ _ _ (by simp))
  have B0 : Hid (Below w.heap.size w (((w.alloc (.cells #[.int .i64 r, .int .i64 z.1, .int .i64 z.2] 72)).alloc (.cells #[.int .i64 lo.1, .int .i64 lo.2] 24)).alloc (.cells #[.int .i64 hi.1, .int .i64 hi.2] 24))) := (((Below.refl w.heap.size w).alloc (Nat.le_refl _) _).alloc (by simp) _).alloc (by simp <;> omega) _
  have s0 : w.heap.size + 3 ≤ (((w.alloc (.cells #[.int .i64 r, .int .i64 z.1, .int .i64 z.2] 72)).alloc (.cells #[.int .i64 lo.1, .int .i64 lo.2] 24)).alloc (.cells #[.int .i64 hi.1, .int .i64 hi.2] 24)).heap.size := by simp
  simp only [vE, vC] at *
  go_enter Tryz.func29, Tryz.ntmps29
  go_upto_region 1 with (fail)
  generalize ((w.alloc (.cells #[.int .i64 r, .int .i64 z.1, .int .i64 z.2] 72)).alloc (.cells #[.int .i64 lo.1, .int .i64 lo.2] 24)).alloc (.cells #[.int .i64 hi.1, .int .i64 hi.2] 24) = w1 at *
  obtain ⟨t0, t1, t2, -, -, -, -⟩ := T0.out.cells
  go_wp2_with fail
  refine (HOK.out _).mono ?_
  rintro e w2 ⟨rfl, hb2⟩
  have T2 := Lib.hid (T0.out.later hb2)
  have L2 := Lib.hid (L0.out.later (by omega) hb2)
  have H2 := Lib.hid (H0.out.later (by omega) hb2)
  have B2 := Lib.hid (B0.out.trans (hb2.mono B0.out.size))
  have s2 : w.heap.size + 3 ≤ w2.heap.size := by have := hb2.size; omega
  clear hb2 T0 L0 H0 B0 t0 t1 t2 HOK
  obtain ⟨l0, l1⟩ := L2.out
  obtain ⟨h0, h1⟩ := H2.out
  cases hok : okB r z with
  | false =>
    have HXF : Hid (X = false) := by show _ = _; rw [HV.out, hok]; simp
    clear HV hok
    go_wp2
    go_ret
    rw [HXF.out]
    exact ⟨rfl, B2.out⟩
  | true =>
  rw [hok] at HV
  cases hf1 : farB lo.1 lo.2 with
  | true =>
    have HXF : Hid (X = false) := by show _ = _; rw [HV.out, hf1]; rfl
    rw [hf1] at HF1
    clear HV hok hf1
    go_wp2_with fail
    refine (HF1.out _).mono ?_
    rintro e wq ⟨rfl, rfl⟩
    go_wp2
    go_ret
    rw [HXF.out]
    exact ⟨rfl, B2.out⟩
  | false =>
  rw [hf1] at HV HF1
  cases hf2 : farB hi.1 hi.2 with
  | true =>
    have HXF : Hid (X = false) := by show _ = _; rw [HV.out, hf2]; rfl
    rw [hf2] at HF2
    clear HV hok hf1 hf2
    go_wp2_with fail
    refine (HF1.out _).mono ?_
    rintro e wq ⟨rfl, rfl⟩
    go_wp2_with fail
    refine (HF2.out _).mono ?_
    rintro e wq ⟨rfl, rfl⟩
    go_wp2
    go_ret
    rw [HXF.out]
    exact ⟨rfl, B2.out⟩
  | false =>
  rw [hf2] at HV HF2
  cases hc1 : decide (hi.1 < lo.1) with
  | true =>
    have HXF : Hid (X = false) := by show _ = _; rw [HV.out, hc1]; rfl
    clear HV hok hf1 hf2
    go_wp2_with fail
    refine (HF1.out _).mono ?_
    rintro e wq ⟨rfl, rfl⟩
    go_wp2_with fail
    refine (HF2.out _).mono ?_
    rintro e wq ⟨rfl, rfl⟩
    go_wp2
    go_ret
    rw [HXF.out]
    exact ⟨rfl, B2.out⟩
  | false =>
  rw [hc1] at HV
  cases hc2 : decide (hi.2 < lo.2) with
  | true =>
    have HXF : Hid (X = false) := by show _ = _; rw [HV.out, hc2]; rfl
    clear HV hok hf1 hf2
    go_wp2_with fail
    refine (HF1.out _).mono ?_
    rintro e wq ⟨rfl, rfl⟩
    go_wp2_with fail
    refine (HF2.out _).mono ?_
    rintro e wq ⟨rfl, rfl⟩
    go_wp2
    go_ret
    rw [HXF.out]
    exact ⟨rfl, B2.out⟩
  | false =>
  rw [hc2] at HV
  have hbx : bxOk lo hi = true := by rw [bx_far, hf1, hf2, hc1, hc2]; rfl
  obtain ⟨k, rfl, hk12⟩ := okB_nat hok
  obtain ⟨g1, g2, g3⟩ := ok_near hok
  obtain ⟨n1, n2⟩ := tri_sm hbx
  rw [show ((k : Int)).toNat = k by omega] at HV
  have HXT : Hid (X = touchB (prG (hexL (12 - k) z)) (triE lo) (triE hi)) := by show _ = _; rw [HV.out]; simp
  have HHX := Lib.hid (rhex_in z g2 k g1)
  have hrs : RingSm (hexL (12 - k) z) := ring_sm (by omega) g3
  have HTP := Lib.hid (touch_parts (hexL (12 - k) z) (hexL_len _ _) (triE lo) (triE hi))
  have HAY : Hid (∀ i, i < 2 → ((∀ j, j < 6 → axG (prG (hexL (12 - k) z) j) i < 3 * axG lo i) ∨ (∀ j, j < 6 → 3 * axG hi i < axG (prG (hexL (12 - k) z) j) i)) → besB (hexL (12 - k) z) (triE lo) (triE hi) = true) := fun i hi2 hh => besB_yes _ _ _ hi2 (by
    rw [hexL_len]
    rcases (show i = 0 ∨ i = 1 by omega) with rfl | rfl
    · exact hh
    · exact hh)
  have HAN : Hid ((∀ i, i < 2 → (∃ j, j < 6 ∧ 3 * axG lo i ≤ axG (prG (hexL (12 - k) z) j) i) ∧ ∃ j, j < 6 ∧ axG (prG (hexL (12 - k) z) j) i ≤ 3 * axG hi i) → besB (hexL (12 - k) z) (triE lo) (triE hi) = false) := fun hh => besB_no _ _ _ (by
    rw [hexL_len]
    intro i hi2
    have := hh i hi2
    rcases (show i = 0 ∨ i = 1 by omega) with rfl | rfl
    · exact this
    · exact this)
  have HSD : Hid (∀ i, i < 6 → ∀ w, Calls Tryz.prog 56 #[vE (prG (hexL (12 - k) z) i), vE (prG (hexL (12 - k) z) ((i + 1) % 6)), .int .i64 (prG (hexL (12 - k) z) ((i + 3) % 6)).1, .int .i64 (prG (hexL (12 - k) z) ((i + 3) % 6)).2] w fun e w' => e = .returned (.int .i64 1) ∧ Below w.heap.size w w') := fun i hi6 w => by
    have h := cross_any (prG (hexL (12 - k) z) i).1 (prG (hexL (12 - k) z) i).2 (prG (hexL (12 - k) z) ((i + 1) % 6)).1 (prG (hexL (12 - k) z) ((i + 1) % 6)).2 (prG (hexL (12 - k) z) ((i + 3) % 6)).1 (prG (hexL (12 - k) z) ((i + 3) % 6)).2 w
    rw [cross_small (hrs i hi6).1 (hrs i hi6).2 (ring_far hrs (by omega))] at h
    have ho := cross_opp (show 12 - k ≤ 12 by omega) z hi6
    rw [← hexL_get _ _ hi6, ← hexL_get (12 - k) z (show (i + 1) % 6 < 6 by omega), ← hexL_get (12 - k) z (show (i + 3) % 6 < 6 by omega)] at ho
    rw [if_neg (by omega), if_pos ho] at h
    exact h
  have HCR : Hid (∀ i, i < 6 → ∀ j, j < 4 → ∀ w, Calls Tryz.prog 56 #[vE (prG (hexL (12 - k) z) i), vE (prG (hexL (12 - k) z) ((i + 1) % 6)), .int .i64 (prG (boxC (triE lo) (triE hi)) j).1, .int .i64 (prG (boxC (triE lo) (triE hi)) j).2] w fun e w' => e = .returned (.int .i64 (if crossE (prG (hexL (12 - k) z) i) (prG (hexL (12 - k) z) ((i + 1) % 6)) (prG (boxC (triE lo) (triE hi)) j) < 0 then -1 else if 0 < crossE (prG (hexL (12 - k) z) i) (prG (hexL (12 - k) z) ((i + 1) % 6)) (prG (boxC (triE lo) (triE hi)) j) then 1 else 0)) ∧ Below w.heap.size w w') := fun i hi6 j hj w => by
    have h := cross_any (prG (hexL (12 - k) z) i).1 (prG (hexL (12 - k) z) i).2 (prG (hexL (12 - k) z) ((i + 1) % 6)).1 (prG (hexL (12 - k) z) ((i + 1) % 6)).2 (prG (boxC (triE lo) (triE hi)) j).1 (prG (boxC (triE lo) (triE hi)) j).2 w
    rw [cross_small (hrs i hi6).1 (hrs i hi6).2 ((boxC_sm n1 n2 hj).mono (by decide))] at h
    exact h
  have HOY : Hid (∀ i, i < 6 → (∀ j, j < 4 → crossE (prG (hexL (12 - k) z) i) (prG (hexL (12 - k) z) ((i + 1) % 6)) (prG (boxC (triE lo) (triE hi)) j) < 0) → ((List.range 6).all fun k_1 => !outF (hexL (12 - k) z) (triE lo) (triE hi) k_1) = false) := fun i hi6 hh => by
    rw [List.all_eq_false]
    refine ⟨i, List.mem_range.2 hi6, ?_⟩
    unfold outF
    rw [Bool.not_not, Bool.not_eq_true, ← Bool.not_eq_true, any_four]
    rintro ⟨j, hj, h⟩
    have := hh j hj
    have := of_decide_eq_true h
    omega
  have HON : Hid ((∀ i, i < 6 → ∃ j, j < 4 ∧ 0 ≤ crossE (prG (hexL (12 - k) z) i) (prG (hexL (12 - k) z) ((i + 1) % 6)) (prG (boxC (triE lo) (triE hi)) j)) → ((List.range 6).all fun k_1 => !outF (hexL (12 - k) z) (triE lo) (triE hi) k_1) = true) := fun hh => by
    rw [List.all_eq_true]
    intro i hi6
    obtain ⟨j, hj, h⟩ := hh i (List.mem_range.1 hi6)
    unfold outF
    rw [Bool.not_not, any_four]
    exact ⟨j, hj, decide_eq_true h⟩
  have HCE : Hid (prV (boxC (triE lo) (triE hi)) = [.int .i64 (3 * lo.1), .int .i64 (3 * lo.2), .int .i64 (3 * hi.1), .int .i64 (3 * lo.2), .int .i64 (3 * hi.1), .int .i64 (3 * hi.2), .int .i64 (3 * lo.1), .int .i64 (3 * hi.2)] ∧ (boxC (triE lo) (triE hi)).length = 4) := ⟨rfl, rfl⟩
  have HL6 := Lib.hid (hexL_len (12 - k) z)
  have hbd : (-2147483648 ≤ lo.1 ∧ lo.1 ≤ 2147483648) ∧ (-2147483648 ≤ lo.2 ∧ lo.2 ≤ 2147483648) ∧ (-2147483648 ≤ hi.1 ∧ hi.1 ≤ 2147483648) ∧ (-2147483648 ≤ hi.2 ∧ hi.2 ≤ 2147483648) := by
    unfold farB at hf1 hf2
    simp at hf1 hf2
    omega
  generalize touchB (prG (hexL (12 - k) z)) (triE lo) (triE hi) = T at *
  generalize ((List.range 6).all fun k_1 => !outF (hexL (12 - k) z) (triE lo) (triE hi) k_1) = A at *
  generalize besB (hexL (12 - k) z) (triE lo) (triE hi) = bs at *
  generalize hexL (12 - k) z = l at *
  generalize boxC (triE lo) (triE hi) = C at *
  have HTT : Hid (T = (!bs && A)) := HTP.out
  clear HTP hrs g2 g3 n1 n2 hbx hf1 hf2 HV hok
  obtain ⟨⟨bl1, bl2⟩, ⟨bl3, bl4⟩, ⟨bh1, bh2⟩, bh3, bh4⟩ := hbd
  simp only [vE] at *
  go_wp2_with fail
  refine (HF1.out _).mono ?_
  rintro e wq ⟨rfl, rfl⟩
  go_wp2_with fail
  refine (HF2.out _).mono ?_
  rintro e wq ⟨rfl, rfl⟩
  obtain ⟨t0, t1, t2, -, -, -, -⟩ := T2.out.cells
  go_wp2_with fail
  refine (HHX.out _).mono ?_
  rintro e w3 ⟨ao, c, rfl, ho3, hb3⟩
  have HP3 := Lib.hid (prAt_own HL6.out.symm ho3)
  have L3 := Lib.hid (L2.out.later (by omega) hb3)
  have H3 := Lib.hid (H2.out.later (by omega) hb3)
  have B3 := Lib.hid (B2.out.trans (hb3.mono B2.out.size))
  have s3 : w.heap.size + 3 ≤ w3.heap.size := by have := hb3.size; omega
  clear ho3 hb3 T2 L2 H2 B2 t0 t1 t2 l0 l1 h0 h1 HHX HF1 HF2
  obtain ⟨l0, l1⟩ := L3.out
  obtain ⟨h0, h1⟩ := H3.out
  go_upto_region 5 with (fail)
  have hka := prAt_new w3 C 107
  rw [HCE.out.1] at hka
  have K4 := (Below.refl w3.heap.size w3).alloc (Nat.le_refl _) (.cells #[.int .i64 (3 * lo.1), .int .i64 (3 * lo.2), .int .i64 (3 * hi.1), .int .i64 (3 * lo.2), .int .i64 (3 * hi.1), .int .i64 (3 * hi.2), .int .i64 (3 * lo.1), .int .i64 (3 * hi.2)] 107)
  have HKA : Hid (PrAt (w3.alloc (.cells #[.int .i64 (3 * lo.1), .int .i64 (3 * lo.2), .int .i64 (3 * hi.1), .int .i64 (3 * lo.2), .int .i64 (3 * hi.1), .int .i64 (3 * hi.2), .int .i64 (3 * lo.1), .int .i64 (3 * hi.2)] 107)) (some ⟨w3.heap.size, 0, none⟩) C) := hka
  have L4 := Lib.hid (L3.out.later (by omega) K4)
  have H4 := Lib.hid (H3.out.later (by omega) K4)
  have HR4 := Lib.hid (HP3.out.below K4)
  have B4 := Lib.hid (B3.out.trans (K4.mono B3.out.size))
  have s4 : w.heap.size + 3 ≤ (w3.alloc (.cells #[.int .i64 (3 * lo.1), .int .i64 (3 * lo.2), .int .i64 (3 * hi.1), .int .i64 (3 * lo.2), .int .i64 (3 * hi.1), .int .i64 (3 * hi.2), .int .i64 (3 * lo.1), .int .i64 (3 * hi.2)] 107)).heap.size := by simp; omega
  clear hka K4 L3 H3 HP3 B3 l0 l1 h0 h1
  generalize w3.alloc (.cells #[.int .i64 (3 * lo.1), .int .i64 (3 * lo.2), .int .i64 (3 * hi.1), .int .i64 (3 * lo.2), .int .i64 (3 * hi.1), .int .i64 (3 * hi.2), .int .i64 (3 * lo.1), .int .i64 (3 * hi.2)] 107) = w4 at *
  obtain ⟨b, off, rfl, hb, hc⟩ := HR4.out (by rw [HL6.out]; omega)
  have HCC : Hid (∀ wx, Below w4.heap.size w4 wx → ∀ j, j < 6 → wx.cell? ⟨b, off + j * 2, none⟩ = some (.int .i64 (prG l j).1) ∧ wx.cell? ⟨b, off + j * 2 + 1, none⟩ = some (.int .i64 (prG l j).2)) := fun wx hx j hj => by
    obtain ⟨k0, k1⟩ := hc j (by rw [HL6.out]; exact hj)
    exact ⟨(hx.cell (p := ⟨b, _, none⟩) hb).trans k0, (hx.cell (p := ⟨b, _, none⟩) hb).trans k1⟩
  clear hc
  go_wp2
  go_loopw [9] (fun iv wr => ∃ (i : Nat), i ≤ 2 ∧ iv = .int .i64 i ∧ Hid ((∀ j, j < i → (∃ q, q < 6 ∧ 3 * axG lo j ≤ axG (prG l q) j) ∧ ∃ q, q < 6 ∧ axG (prG l q) j ≤ 3 * axG hi j) ∧ Below w4.heap.size w4 wr)) (fun i _ => 2 - (intOf i).toNat)
  case atStart => exact ⟨0, by omega, rfl, fun j hj => by omega, Below.refl _ _⟩
  case round =>
    obtain ⟨i, hi2, rfl, HI⟩ := hrel
    obtain ⟨wo, rfl⟩ : ∃ wo, wo = wr := ⟨_, rfl⟩
    have hso := HI.out.2.size
    have hbo : b < wo.heap.size := by omega
    rcases (show i = 0 ∨ i = 1 ∨ 2 ≤ i by omega) with rfl | rfl | hge
    · have p0 : decide (((0 : Nat) : Int) < 2) = true := by decide
      obtain ⟨c0, c1⟩ := HCC.out wo HI.out.2 0 (by omega)
      rw [Nat.zero_mul, Nat.add_zero] at c0 c1
      have BD : Hid (Below w4.heap.size w4 wo.drew) := HI.out.2.drew
      have HP := Lib.hid HI.out.1
      have A0 : Hid (∃ j, j < 6 ∧ (prG l 0).1 = axG (prG l j) 0) := ⟨0, by omega, rfl⟩
      generalize prG l 0 = y0 at *
      clear HI
      go_upto_region 8 with (fail)
      go_wp2_with (first | (with_reducible refine wp_region_lex (by kernel_rfl) (by kernel_rfl) ?_) | (with_reducible refine OnlyG.intro (by kernel_rfl) ?_))
      clear c0 c1
      generalize wo.drew = wd at *
      have hbd : b < wd.heap.size := by have := BD.out.size; omega
      go_loopw [10, 11, 12] (fun av zv kv wy => ∃ (k : Nat) (a z : Int), k ≤ 6 ∧ av = .int .i64 a ∧ zv = .int .i64 z ∧ kv = .int .i64 k ∧ Hid ((∃ j, j < 6 ∧ a = axG (prG l j) 0) ∧ (∀ j, j < k → a ≤ axG (prG l j) 0) ∧ (∃ j, j < 6 ∧ z = axG (prG l j) 0) ∧ (∀ j, j < k → axG (prG l j) 0 ≤ z)) ∧ Hid (Below w4.heap.size w4 wy)) (fun _ _ k _ => 6 - (intOf k).toNat)
      case atStart => exact ⟨0, y0.1, y0.1, by omega, rfl, rfl, rfl, ⟨A0.out, fun j hj => by omega, A0.out, fun j hj => by omega⟩, BD.out⟩
      case round =>
        obtain ⟨k, a, z, hk, rfl, rfl, rfl, HA, HJ⟩ := hrel
        obtain ⟨wy, rfl⟩ : ∃ wy, wy = wr := ⟨_, rfl⟩
        have hsy := HJ.out.size
        by_cases hlt2 : k < 6
        · have p1 : decide ((k : Int) < 6) = true := decide_eq_true (by omega)
          have hk0 : (0 : Int) ≤ (k : Int) := by omega
          have hk6 : (k : Int) < 6 := by omega
          obtain ⟨d0, d1⟩ := HCC.out wy HJ.out k hlt2
          have hby : b < wy.heap.size := by omega
          have HA2 : Hid ((∃ j, j < 6 ∧ min a (axG (prG l k) 0) = axG (prG l j) 0) ∧ (∀ j, j < k + 1 → min a (axG (prG l k) 0) ≤ axG (prG l j) 0) ∧ (∃ j, j < 6 ∧ max z (axG (prG l k) 0) = axG (prG l j) 0) ∧ (∀ j, j < k + 1 → axG (prG l j) 0 ≤ max z (axG (prG l k) 0))) := by
            obtain ⟨⟨j1, h1, e1⟩, h2, ⟨j3, h3, e3⟩, h4⟩ := HA.out
            refine ⟨?_, fun j hj => ?_, ?_, fun j hj => ?_⟩
            · by_cases hc : a ≤ axG (prG l k) 0
              · exact ⟨j1, h1, by omega⟩
              · exact ⟨k, hlt2, by omega⟩
            · by_cases e : j = k
              · rw [e]; omega
              · have := h2 j (by omega); omega
            · by_cases hc : axG (prG l k) 0 ≤ z
              · exact ⟨j3, h3, by omega⟩
              · exact ⟨k, hlt2, by omega⟩
            · by_cases e : j = k
              · rw [e]; omega
              · have := h4 j (by omega); omega
          have hax : axG (prG l k) 0 = (prG l k).1 := rfl
          rw [hax] at HA2
          generalize prG l k = y at *
          have HJ3 : Hid (Below w4.heap.size w4 wy.drew) := HJ.out.drew
          clear HA hax
          go_upto_region 12 with (fail)
          go_region
          go_wp2
          (try rw [imin_c, imax_c])
          go_roundw
          case rel => exact ⟨k + 1, _, _, by omega, rfl, rfl, by go_num, HA2.out, HJ3.out⟩
          case measure => simp [intOf]; omega
        · obtain rfl : k = 6 := by omega
          have p1 : decide (((6 : Nat) : Int) < 6) = false := by decide
          obtain ⟨l0, l1⟩ := L4.out.later (by omega) HJ.out
          obtain ⟨h0, h1⟩ := H4.out.later (by omega) HJ.out
          have HF := Lib.hid (B4.out.trans (HJ.out.mono B4.out.size))
          obtain ⟨q1, q2, q3, q4⟩ := HA.out
          have e0 : axG lo 0 = lo.1 := rfl
          have e1 : axG hi 0 = hi.1 := rfl
          by_cases hc3 : z < 3 * lo.1
          · have p2 : decide (z < 3 * lo.1) = true := decide_eq_true hc3
            have HBS := Lib.hid (HAY.out 0 (by decide) (.inl fun j hj => by have := q4 j hj; rw [e0]; omega))
            have HXF : Hid (X = false) := by show _ = _; rw [HXT.out, HTT.out, HBS.out]; rfl
            clear q1 q2 q3 q4 HA HAY HAN HP HBS e0 e1
            go_wp2
            go_ret
            rw [HXF.out]
            exact ⟨rfl, HF.out⟩
          · have p2 : decide (z < 3 * lo.1) = false := decide_eq_false hc3
            by_cases hc4 : 3 * hi.1 < a
            · have p3 : decide (3 * hi.1 < a) = true := decide_eq_true hc4
              have HBS := Lib.hid (HAY.out 0 (by decide) (.inr fun j hj => by have := q2 j hj; rw [e1]; omega))
              have HXF : Hid (X = false) := by show _ = _; rw [HXT.out, HTT.out, HBS.out]; rfl
              clear q1 q2 q3 q4 HA HAY HAN HP HBS e0 e1
              go_wp2
              go_ret
              rw [HXF.out]
              exact ⟨rfl, HF.out⟩
            · have p3 : decide (3 * hi.1 < a) = false := decide_eq_false hc4
              have HP2 : Hid (∀ j, j < 0 + 1 → (∃ q, q < 6 ∧ 3 * axG lo j ≤ axG (prG l q) j) ∧ ∃ q, q < 6 ∧ axG (prG l q) j ≤ 3 * axG hi j) := fun j hj => by
                by_cases e : j = 0
                · subst e
                  obtain ⟨j1, g1, f1⟩ := q1
                  obtain ⟨j3, g3, f3⟩ := q3
                  exact ⟨⟨j3, g3, by rw [← f3, e0]; omega⟩, j1, g1, by rw [← f1, e1]; omega⟩
                · exact HP.out j (by omega)
              have HJE := HJ
              clear q1 q2 q3 q4 HA HP e0 e1
              go_wp2
              go_roundw
              case rel => exact ⟨0 + 1, by omega, by go_num, HP2.out, HJE.out⟩
              case measure => simp [intOf]
    · have p0 : decide (((1 : Nat) : Int) < 2) = true := by decide
      obtain ⟨c0, c1⟩ := HCC.out wo HI.out.2 0 (by omega)
      rw [Nat.zero_mul, Nat.add_zero] at c0 c1
      have BD : Hid (Below w4.heap.size w4 wo.drew) := HI.out.2.drew
      have HP := Lib.hid HI.out.1
      have A0 : Hid (∃ j, j < 6 ∧ (prG l 0).2 = axG (prG l j) 1) := ⟨0, by omega, rfl⟩
      generalize prG l 0 = y0 at *
      clear HI
      go_upto_region 8 with (fail)
      go_wp2_with (first | (with_reducible refine wp_region_lex (by kernel_rfl) (by kernel_rfl) ?_) | (with_reducible refine OnlyG.intro (by kernel_rfl) ?_))
      clear c0 c1
      generalize wo.drew = wd at *
      have hbd : b < wd.heap.size := by have := BD.out.size; omega
      go_loopw [10, 11, 12] (fun av zv kv wy => ∃ (k : Nat) (a z : Int), k ≤ 6 ∧ av = .int .i64 a ∧ zv = .int .i64 z ∧ kv = .int .i64 k ∧ Hid ((∃ j, j < 6 ∧ a = axG (prG l j) 1) ∧ (∀ j, j < k → a ≤ axG (prG l j) 1) ∧ (∃ j, j < 6 ∧ z = axG (prG l j) 1) ∧ (∀ j, j < k → axG (prG l j) 1 ≤ z)) ∧ Hid (Below w4.heap.size w4 wy)) (fun _ _ k _ => 6 - (intOf k).toNat)
      case atStart => exact ⟨0, y0.2, y0.2, by omega, rfl, rfl, rfl, ⟨A0.out, fun j hj => by omega, A0.out, fun j hj => by omega⟩, BD.out⟩
      case round =>
        obtain ⟨k, a, z, hk, rfl, rfl, rfl, HA, HJ⟩ := hrel
        obtain ⟨wy, rfl⟩ : ∃ wy, wy = wr := ⟨_, rfl⟩
        have hsy := HJ.out.size
        by_cases hlt2 : k < 6
        · have p1 : decide ((k : Int) < 6) = true := decide_eq_true (by omega)
          have hk0 : (0 : Int) ≤ (k : Int) := by omega
          have hk6 : (k : Int) < 6 := by omega
          obtain ⟨d0, d1⟩ := HCC.out wy HJ.out k hlt2
          have hby : b < wy.heap.size := by omega
          have HA2 : Hid ((∃ j, j < 6 ∧ min a (axG (prG l k) 1) = axG (prG l j) 1) ∧ (∀ j, j < k + 1 → min a (axG (prG l k) 1) ≤ axG (prG l j) 1) ∧ (∃ j, j < 6 ∧ max z (axG (prG l k) 1) = axG (prG l j) 1) ∧ (∀ j, j < k + 1 → axG (prG l j) 1 ≤ max z (axG (prG l k) 1))) := by
            obtain ⟨⟨j1, h1, e1⟩, h2, ⟨j3, h3, e3⟩, h4⟩ := HA.out
            refine ⟨?_, fun j hj => ?_, ?_, fun j hj => ?_⟩
            · by_cases hc : a ≤ axG (prG l k) 1
              · exact ⟨j1, h1, by omega⟩
              · exact ⟨k, hlt2, by omega⟩
            · by_cases e : j = k
              · rw [e]; omega
              · have := h2 j (by omega); omega
            · by_cases hc : axG (prG l k) 1 ≤ z
              · exact ⟨j3, h3, by omega⟩
              · exact ⟨k, hlt2, by omega⟩
            · by_cases e : j = k
              · rw [e]; omega
              · have := h4 j (by omega); omega
          have hax : axG (prG l k) 1 = (prG l k).2 := rfl
          rw [hax] at HA2
          generalize prG l k = y at *
          have HJ3 : Hid (Below w4.heap.size w4 wy.drew) := HJ.out.drew
          clear HA hax
          go_upto_region 12 with (fail)
          go_region
          go_wp2
          (try rw [imin_c, imax_c])
          go_roundw
          case rel => exact ⟨k + 1, _, _, by omega, rfl, rfl, by go_num, HA2.out, HJ3.out⟩
          case measure => simp [intOf]; omega
        · obtain rfl : k = 6 := by omega
          have p1 : decide (((6 : Nat) : Int) < 6) = false := by decide
          obtain ⟨l0, l1⟩ := L4.out.later (by omega) HJ.out
          obtain ⟨h0, h1⟩ := H4.out.later (by omega) HJ.out
          have HF := Lib.hid (B4.out.trans (HJ.out.mono B4.out.size))
          obtain ⟨q1, q2, q3, q4⟩ := HA.out
          have e0 : axG lo 1 = lo.2 := rfl
          have e1 : axG hi 1 = hi.2 := rfl
          by_cases hc3 : z < 3 * lo.2
          · have p2 : decide (z < 3 * lo.2) = true := decide_eq_true hc3
            have HBS := Lib.hid (HAY.out 1 (by decide) (.inl fun j hj => by have := q4 j hj; rw [e0]; omega))
            have HXF : Hid (X = false) := by show _ = _; rw [HXT.out, HTT.out, HBS.out]; rfl
            clear q1 q2 q3 q4 HA HAY HAN HP HBS e0 e1
            go_wp2
            go_ret
            rw [HXF.out]
            exact ⟨rfl, HF.out⟩
          · have p2 : decide (z < 3 * lo.2) = false := decide_eq_false hc3
            by_cases hc4 : 3 * hi.2 < a
            · have p3 : decide (3 * hi.2 < a) = true := decide_eq_true hc4
              have HBS := Lib.hid (HAY.out 1 (by decide) (.inr fun j hj => by have := q2 j hj; rw [e1]; omega))
              have HXF : Hid (X = false) := by show _ = _; rw [HXT.out, HTT.out, HBS.out]; rfl
              clear q1 q2 q3 q4 HA HAY HAN HP HBS e0 e1
              go_wp2
              go_ret
              rw [HXF.out]
              exact ⟨rfl, HF.out⟩
            · have p3 : decide (3 * hi.2 < a) = false := decide_eq_false hc4
              have HP2 : Hid (∀ j, j < 1 + 1 → (∃ q, q < 6 ∧ 3 * axG lo j ≤ axG (prG l q) j) ∧ ∃ q, q < 6 ∧ axG (prG l q) j ≤ 3 * axG hi j) := fun j hj => by
                by_cases e : j = 1
                · subst e
                  obtain ⟨j1, g1, f1⟩ := q1
                  obtain ⟨j3, g3, f3⟩ := q3
                  exact ⟨⟨j3, g3, by rw [← f3, e0]; omega⟩, j1, g1, by rw [← f1, e1]; omega⟩
                · exact HP.out j (by omega)
              have HJE := HJ
              clear q1 q2 q3 q4 HA HP e0 e1
              go_wp2
              go_roundw
              case rel => exact ⟨1 + 1, by omega, by go_num, HP2.out, HJE.out⟩
              case measure => simp [intOf]
    · have p0 : decide ((i : Int) < 2) = false := decide_eq_false (by omega)
      have HBS := Lib.hid (HAN.out fun j hj => HI.out.1 j (by omega))
      have HXA : Hid (X = A) := by show _ = _; rw [HXT.out, HTT.out, HBS.out]; rfl
      have HI4 := Lib.hid HI.out.2
      clear HI HBS HAN HAY HXT HTT
      go_wp2
      go_loopw [13] (fun iv wr => ∃ (i : Nat), i ≤ 6 ∧ iv = .int .i64 i ∧ Hid ((∀ j, j < i → ∃ q, q < 4 ∧ 0 ≤ crossE (prG l j) (prG l ((j + 1) % 6)) (prG C q)) ∧ Below w4.heap.size w4 wr)) (fun i _ => 6 - (intOf i).toNat)
      case atStart => exact ⟨0, by omega, rfl, fun j hj => by omega, HI4.out⟩
      case round =>
        obtain ⟨e, hi6, rfl, HI⟩ := hrel
        obtain ⟨wi, rfl⟩ : ∃ wi, wi = wr := ⟨_, rfl⟩
        have hsi := HI.out.2.size
        by_cases hlt : e < 6
        · have p1 : decide ((e : Int) < 6) = true := decide_eq_true (by omega)
          obtain ⟨m, hm, hm6, hmk⟩ : ∃ m : Nat, ((e : Int) + 1).tmod 6 = m ∧ m < 6 ∧ (e + 1) % 6 = m := ⟨(e + 1) % 6, by rw [Int.tmod_eq_emod_of_nonneg (by omega)]; omega, by omega, rfl⟩
          obtain ⟨n, hn, hn6, hnk⟩ : ∃ n : Nat, ((e : Int) + 3).tmod 6 = n ∧ n < 6 ∧ (e + 3) % 6 = n := ⟨(e + 3) % 6, by rw [Int.tmod_eq_emod_of_nonneg (by omega)]; omega, by omega, rfl⟩
          have hsd := HSD.out e hlt
          rw [hmk, hnk] at hsd
          have hcr := HCR.out e hlt
          rw [hmk] at hcr
          have hoy := HOY.out e hlt
          rw [hmk] at hoy
          have HNX : Hid ((∃ q, q < 4 ∧ 0 ≤ crossE (prG l e) (prG l m) (prG C q)) → ∀ j, j < e + 1 → ∃ q, q < 4 ∧ 0 ≤ crossE (prG l j) (prG l ((j + 1) % 6)) (prG C q)) := fun h j hj => by
            by_cases ee : j = e
            · rw [ee, hmk]; exact h
            · exact HI.out.1 j (by omega)
          have HIB := Lib.hid HI.out.2
          obtain ⟨c0, c1⟩ := HCC.out wi HI.out.2 e hlt
          obtain ⟨d0, d1⟩ := HCC.out wi HI.out.2 m hm6
          have HOO : Hid (∀ wx, Below wi.heap.size wi wx → wx.cell? ⟨b, off + n * 2, none⟩ = some (.int .i64 (prG l n).1) ∧ wx.cell? ⟨b, off + n * 2 + 1, none⟩ = some (.int .i64 (prG l n).2)) := fun wx hx => HCC.out wx (HIB.out.trans (hx.mono hsi)) n hn6
          have hbi : b < wi.heap.size := by omega
          clear HI hmk hnk
          generalize prG l e = p at *
          generalize prG l m = q at *
          generalize prG l n = o at *
          have HSD1 := Lib.hid hsd
          have HCR1 := Lib.hid hcr
          have HOY1 := Lib.hid hoy
          have hi0 : (0 : Int) ≤ (e : Int) := by omega
          have hi6' : (e : Int) < 6 := by omega
          have hmI : (m : Int) < 6 := by omega
          have hnI : (n : Int) < 6 := by omega
          clear hsd hcr hoy
          go_upto_region 18 with (fail)
          go_cut [14, 15] from 137 to 146 (fun v14 v15 wx => ∃ g1 g2 : Nat, v14 = .pointer (some ⟨g1, 0, none⟩) ∧ v15 = .pointer (some ⟨g2, 0, none⟩) ∧ Hid (Two wx g1 (.int .i64 p.1) (.int .i64 p.2) ∧ Two wx g2 (.int .i64 q.1) (.int .i64 q.2) ∧ g1 < wx.heap.size ∧ g2 < wx.heap.size ∧ Below wi.heap.size wi wx))
          case first =>
            have T1 := Lib.hid (two_pts wi p q 24)
            have T2 := Lib.hid (two_pts wi q p 24)
            clear HSD1 HCR1 HOY1 HNX HOO
            go_region
            all_goals
              go_wp2
              go_meet
              first
                | exact ⟨_, _, rfl, rfl, T1.out.1, T1.out.2.1, Nat.lt_trans (Nat.lt_succ_self _) T1.out.2.2.2, T1.out.2.2.2, T1.out.2.2.1⟩
                | exact ⟨_, _, rfl, rfl, T2.out.2.1, T2.out.1, T2.out.2.2.2, Nat.lt_trans (Nat.lt_succ_self _) T2.out.2.2.2, T2.out.2.2.1⟩
          case rest =>
            obtain ⟨g1, g2, rfl, rfl, HT⟩ := hcut
            clear c0 c1 d0 d1
            have HCX : Hid (∀ wx, Below wc.heap.size wc wx → Two wx g1 (.int .i64 p.1) (.int .i64 p.2) ∧ Two wx g2 (.int .i64 q.1) (.int .i64 q.2) ∧ Below wi.heap.size wi wx) := fun wx hx => ⟨HT.out.1.later HT.out.2.2.1 hx, HT.out.2.1.later HT.out.2.2.2.1 hx, HT.out.2.2.2.2.trans (hx.mono HT.out.2.2.2.2.size)⟩
            have hsc := HT.out.2.2.2.2.size
            clear HT
            go_upto_region 19 with (fail)
            refine wp_region_inv (fun w w' => Below w.heap.size w w') (fun qi_ qv_ _ => qv_ = ([.agg #[.int .i64 p.1, .int .i64 p.2], .agg #[.int .i64 q.1, .int .i64 q.2], .slice (some ⟨b, off, none⟩) 6 c, .int .i64 e, .int .i64 ((e : Int) + 3), .int .i64 n, .pointer (some ⟨b, off + n * 2, none⟩), .pointer (some ⟨b, off + n * 2, none⟩), .int .i64 o.1, .slice (some ⟨b, off, none⟩) 6 c, .int .i64 e, .int .i64 ((e : Int) + 3), .int .i64 n, .pointer (some ⟨b, off + n * 2, none⟩), .pointer (some ⟨b, off + n * 2 + 1, none⟩), .int .i64 o.2, .int .i64 1, .int .i64 1] : List Value).getD qi_ undef) (by kernel_rfl) (by kernel_rfl) (fun _ => Below.refl _ _) (fun _ _ _ h1 h2 => below_later h1 h1.size h2) (fun _ _ _ _ _ _ h => h) ?_
            refine inv_cons (fun wx hg hd => ?_) (fun v0 => ?_)
            · have hx := ((Below.refl wc.heap.size wc).drew).trans hg
              clear hd hg
              obtain ⟨⟨k1, k2⟩, -⟩ := HCX.out _ hx
              go_wp2
              exact ⟨_, rfl, Below.refl _ _, rfl⟩
            (try simp only [List.nil_append, Act.put, List.setIfInBounds_toArray, List.set_cons_zero, List.set_cons_succ])
            refine inv_cons (fun wx hg hd => ?_) (fun v1 => ?_)
            · have hx := ((Below.refl wc.heap.size wc).drew).trans hg
              clear hd hg
              obtain ⟨-, ⟨k1, k2⟩, -⟩ := HCX.out _ hx
              go_wp2
              exact ⟨_, rfl, Below.refl _ _, rfl⟩
            (try simp only [List.cons_append, List.nil_append, Act.put, List.setIfInBounds_toArray, List.set_cons_zero, List.set_cons_succ])
            refine inv_cons (fun wx hg hd => ?_) (fun v2 => ?_)
            · have hx := ((Below.refl wc.heap.size wc).drew).trans hg
              clear hd hg
              go_wp2
              exact ⟨_, rfl, Below.refl _ _, rfl⟩
            (try simp only [List.cons_append, List.nil_append, Act.put, List.setIfInBounds_toArray, List.set_cons_zero, List.set_cons_succ])
            refine inv_cons (fun wx hg hd => ?_) (fun v3 => ?_)
            · have hx := ((Below.refl wc.heap.size wc).drew).trans hg
              clear hd hg
              go_wp2
              exact ⟨_, rfl, Below.refl _ _, rfl⟩
            (try simp only [List.cons_append, List.nil_append, Act.put, List.setIfInBounds_toArray, List.set_cons_zero, List.set_cons_succ])
            refine inv_cons (fun wx hg hd => ?_) (fun v4 => ?_)
            · have hx := ((Below.refl wc.heap.size wc).drew).trans hg
              (try (have ee : v3 = (.int .i64 e : Value) := hd 3 (by simp) (by decide); subst ee))
              clear hd hg
              go_wp2
              exact ⟨_, rfl, Below.refl _ _, rfl⟩
            (try simp only [List.cons_append, List.nil_append, Act.put, List.setIfInBounds_toArray, List.set_cons_zero, List.set_cons_succ])
            refine inv_cons (fun wx hg hd => ?_) (fun v5 => ?_)
            · have hx := ((Below.refl wc.heap.size wc).drew).trans hg
              (try (have ee : v4 = (.int .i64 ((e : Int) + 3) : Value) := hd 4 (by simp) (by decide); subst ee))
              clear hd hg
              go_wp2
              exact ⟨_, rfl, Below.refl _ _, rfl⟩
            (try simp only [List.cons_append, List.nil_append, Act.put, List.setIfInBounds_toArray, List.set_cons_zero, List.set_cons_succ])
            refine inv_cons (fun wx hg hd => ?_) (fun v6 => ?_)
            · have hx := ((Below.refl wc.heap.size wc).drew).trans hg
              (try (have ee : v2 = (.slice (some ⟨b, off, none⟩) 6 c : Value) := hd 2 (by simp) (by decide); subst ee))
              (try (have ee : v5 = (.int .i64 n : Value) := hd 5 (by simp) (by decide); subst ee))
              clear hd hg
              go_wp2
              exact ⟨_, rfl, Below.refl _ _, rfl⟩
            (try simp only [List.cons_append, List.nil_append, Act.put, List.setIfInBounds_toArray, List.set_cons_zero, List.set_cons_succ])
            refine inv_cons (fun wx hg hd => ?_) (fun v7 => ?_)
            · have hx := ((Below.refl wc.heap.size wc).drew).trans hg
              (try (have ee : v6 = (.pointer (some ⟨b, off + n * 2, none⟩) : Value) := hd 6 (by simp) (by decide); subst ee))
              clear hd hg
              go_wp2
              exact ⟨_, rfl, Below.refl _ _, rfl⟩
            (try simp only [List.cons_append, List.nil_append, Act.put, List.setIfInBounds_toArray, List.set_cons_zero, List.set_cons_succ])
            refine inv_cons (fun wx hg hd => ?_) (fun v8 => ?_)
            · have hx := ((Below.refl wc.heap.size wc).drew).trans hg
              (try (have ee : v7 = (.pointer (some ⟨b, off + n * 2, none⟩) : Value) := hd 7 (by simp) (by decide); subst ee))
              clear hd hg
              obtain ⟨k1, k2⟩ := HOO.out _ (HCX.out _ hx).2.2
              go_wp2
              exact ⟨_, rfl, Below.refl _ _, rfl⟩
            (try simp only [List.cons_append, List.nil_append, Act.put, List.setIfInBounds_toArray, List.set_cons_zero, List.set_cons_succ])
            refine inv_cons (fun wx hg hd => ?_) (fun v9 => ?_)
            · have hx := ((Below.refl wc.heap.size wc).drew).trans hg
              clear hd hg
              go_wp2
              exact ⟨_, rfl, Below.refl _ _, rfl⟩
            (try simp only [List.cons_append, List.nil_append, Act.put, List.setIfInBounds_toArray, List.set_cons_zero, List.set_cons_succ])
            refine inv_cons (fun wx hg hd => ?_) (fun v10 => ?_)
            · have hx := ((Below.refl wc.heap.size wc).drew).trans hg
              clear hd hg
              go_wp2
              exact ⟨_, rfl, Below.refl _ _, rfl⟩
            (try simp only [List.cons_append, List.nil_append, Act.put, List.setIfInBounds_toArray, List.set_cons_zero, List.set_cons_succ])
            refine inv_cons (fun wx hg hd => ?_) (fun v11 => ?_)
            · have hx := ((Below.refl wc.heap.size wc).drew).trans hg
              (try (have ee : v10 = (.int .i64 e : Value) := hd 10 (by simp) (by decide); subst ee))
              clear hd hg
              go_wp2
              exact ⟨_, rfl, Below.refl _ _, rfl⟩
            (try simp only [List.cons_append, List.nil_append, Act.put, List.setIfInBounds_toArray, List.set_cons_zero, List.set_cons_succ])
            refine inv_cons (fun wx hg hd => ?_) (fun v12 => ?_)
            · have hx := ((Below.refl wc.heap.size wc).drew).trans hg
              (try (have ee : v11 = (.int .i64 ((e : Int) + 3) : Value) := hd 11 (by simp) (by decide); subst ee))
              clear hd hg
              go_wp2
              exact ⟨_, rfl, Below.refl _ _, rfl⟩
            (try simp only [List.cons_append, List.nil_append, Act.put, List.setIfInBounds_toArray, List.set_cons_zero, List.set_cons_succ])
            refine inv_cons (fun wx hg hd => ?_) (fun v13 => ?_)
            · have hx := ((Below.refl wc.heap.size wc).drew).trans hg
              (try (have ee : v9 = (.slice (some ⟨b, off, none⟩) 6 c : Value) := hd 9 (by simp) (by decide); subst ee))
              (try (have ee : v12 = (.int .i64 n : Value) := hd 12 (by simp) (by decide); subst ee))
              clear hd hg
              go_wp2
              exact ⟨_, rfl, Below.refl _ _, rfl⟩
            (try simp only [List.cons_append, List.nil_append, Act.put, List.setIfInBounds_toArray, List.set_cons_zero, List.set_cons_succ])
            refine inv_cons (fun wx hg hd => ?_) (fun v14 => ?_)
            · have hx := ((Below.refl wc.heap.size wc).drew).trans hg
              (try (have ee : v13 = (.pointer (some ⟨b, off + n * 2, none⟩) : Value) := hd 13 (by simp) (by decide); subst ee))
              clear hd hg
              go_wp2
              exact ⟨_, rfl, Below.refl _ _, rfl⟩
            (try simp only [List.cons_append, List.nil_append, Act.put, List.setIfInBounds_toArray, List.set_cons_zero, List.set_cons_succ])
            refine inv_cons (fun wx hg hd => ?_) (fun v15 => ?_)
            · have hx := ((Below.refl wc.heap.size wc).drew).trans hg
              (try (have ee : v14 = (.pointer (some ⟨b, off + n * 2 + 1, none⟩) : Value) := hd 14 (by simp) (by decide); subst ee))
              clear hd hg
              obtain ⟨k1, k2⟩ := HOO.out _ (HCX.out _ hx).2.2
              go_wp2
              exact ⟨_, rfl, Below.refl _ _, rfl⟩
            (try simp only [List.cons_append, List.nil_append, Act.put, List.setIfInBounds_toArray, List.set_cons_zero, List.set_cons_succ])
            refine inv_cons (fun wx hg hd => ?_) (fun v16 => ?_)
            · have hx := ((Below.refl wc.heap.size wc).drew).trans hg
              (try (have ee : v0 = (.agg #[.int .i64 p.1, .int .i64 p.2] : Value) := hd 0 (by simp) (by decide); subst ee))
              (try (have ee : v1 = (.agg #[.int .i64 q.1, .int .i64 q.2] : Value) := hd 1 (by simp) (by decide); subst ee))
              (try (have ee : v8 = (.int .i64 o.1 : Value) := hd 8 (by simp) (by decide); subst ee))
              (try (have ee : v15 = (.int .i64 o.2 : Value) := hd 15 (by simp) (by decide); subst ee))
              clear hd hg
              go_wp2_with fail
              refine (HSD1.out _).mono ?_
              rintro e w' ⟨rfl, hb⟩
              go_wp2
              exact ⟨_, rfl, hb, rfl⟩
            (try simp only [List.cons_append, List.nil_append, Act.put, List.setIfInBounds_toArray, List.set_cons_zero, List.set_cons_succ])
            refine inv_cons (fun wx hg hd => ?_) (fun v17 => ?_)
            · have hx := ((Below.refl wc.heap.size wc).drew).trans hg
              (try (have ee : v16 = (.int .i64 1 : Value) := hd 16 (by simp) (by decide); subst ee))
              clear hd hg
              go_wp2
              exact ⟨_, rfl, Below.refl _ _, rfl⟩
            (try simp only [List.cons_append, List.nil_append, Act.put, List.setIfInBounds_toArray, List.set_cons_zero, List.set_cons_succ])
            refine inv_done (fun wx hg hd => ?_)
            have hx := ((Below.refl wc.heap.size wc).drew).trans hg
            (have ee : v0 = (.agg #[.int .i64 p.1, .int .i64 p.2] : Value) := hd 0 (by simp); subst ee)
            (have ee : v1 = (.agg #[.int .i64 q.1, .int .i64 q.2] : Value) := hd 1 (by simp); subst ee)
            (have ee : v2 = (.slice (some ⟨b, off, none⟩) 6 c : Value) := hd 2 (by simp); subst ee)
            (have ee : v3 = (.int .i64 e : Value) := hd 3 (by simp); subst ee)
            (have ee : v4 = (.int .i64 ((e : Int) + 3) : Value) := hd 4 (by simp); subst ee)
            (have ee : v5 = (.int .i64 n : Value) := hd 5 (by simp); subst ee)
            (have ee : v6 = (.pointer (some ⟨b, off + n * 2, none⟩) : Value) := hd 6 (by simp); subst ee)
            (have ee : v7 = (.pointer (some ⟨b, off + n * 2, none⟩) : Value) := hd 7 (by simp); subst ee)
            (have ee : v8 = (.int .i64 o.1 : Value) := hd 8 (by simp); subst ee)
            (have ee : v9 = (.slice (some ⟨b, off, none⟩) 6 c : Value) := hd 9 (by simp); subst ee)
            (have ee : v10 = (.int .i64 e : Value) := hd 10 (by simp); subst ee)
            (have ee : v11 = (.int .i64 ((e : Int) + 3) : Value) := hd 11 (by simp); subst ee)
            (have ee : v12 = (.int .i64 n : Value) := hd 12 (by simp); subst ee)
            (have ee : v13 = (.pointer (some ⟨b, off + n * 2, none⟩) : Value) := hd 13 (by simp); subst ee)
            (have ee : v14 = (.pointer (some ⟨b, off + n * 2 + 1, none⟩) : Value) := hd 14 (by simp); subst ee)
            (have ee : v15 = (.int .i64 o.2 : Value) := hd 15 (by simp); subst ee)
            (have ee : v16 = (.int .i64 1 : Value) := hd 16 (by simp); subst ee)
            (have ee : v17 = (.int .i64 1 : Value) := hd 17 (by simp); subst ee)
            clear hd hg
            (try go_simp)
            have HX9 := Lib.hid hx
            clear hx HSD1
            obtain ⟨w9, rfl⟩ : ∃ w9, w9 = wx := ⟨_, rfl⟩
            go_wp2
            go_loopw [17, 18] (fun av jv wz => ∃ (j : Nat) (ap : Bool), j ≤ 4 ∧ jv = .int .i64 j ∧ av = .bool ap ∧ Hid ((ap = true → ∀ q', q' < j → crossE p q (prG C q') < 0) ∧ (ap = false → ∃ q', q' < 4 ∧ 0 ≤ crossE p q (prG C q'))) ∧ Hid (Below wc.heap.size wc wz)) (fun _ j _ => 4 - (intOf j).toNat)
            case atStart => exact ⟨0, true, by omega, rfl, rfl, ⟨fun _ q' hq => by omega, fun h => by cases h⟩, HX9.out⟩
            case round =>
              obtain ⟨j, ap, hj, rfl, rfl, HAP, HZ⟩ := hrel
              obtain ⟨wz, rfl⟩ : ∃ wz, wz = wr := ⟨_, rfl⟩
              have hsz := HZ.out.size
              by_cases hlt4 : j < 4
              · have p2 : decide ((j : Int) < 4) = true := decide_eq_true (by omega)
                have hj0 : (0 : Int) ≤ (j : Int) := by omega
                have hj4 : (j : Int) < 4 := by omega
                have hcr := HCR1.out j hlt4
                obtain ⟨D, hD⟩ : ∃ D, crossE p q (prG C j) = D := ⟨_, rfl⟩
                have HST : Hid ((D < 0 → (ap = true → ∀ q', q' < j + 1 → crossE p q (prG C q') < 0) ∧ (ap = false → ∃ q', q' < 4 ∧ 0 ≤ crossE p q (prG C q'))) ∧ (0 ≤ D → (false = true → ∀ q', q' < j + 1 → crossE p q (prG C q') < 0) ∧ (false = false → ∃ q', q' < 4 ∧ 0 ≤ crossE p q (prG C q')))) := ⟨fun hneg => ⟨fun h q' hq => by
                    by_cases e9 : q' = j
                    · rw [e9, hD]; exact hneg
                    · exact HAP.out.1 h q' (by omega), HAP.out.2⟩, fun hpos => ⟨fun h => (by cases h), fun _ => ⟨j, hlt4, by rw [hD]; exact hpos⟩⟩⟩
                have HBC : Hid (∀ wx, Below wz.heap.size wz wx → wx.cell? ⟨w3.heap.size, j * 2, none⟩ = some (.int .i64 (prG C j).1) ∧ wx.cell? ⟨w3.heap.size, j * 2 + 1, none⟩ = some (.int .i64 (prG C j).2)) := fun wx hx => by
                  obtain ⟨g, off', e, hg, hcc⟩ := HKA.out.below (HIB.out.trans (((HCX.out _ (HZ.out.trans (hx.mono hsz))).2.2).mono hsi)) (by rw [HCE.out.2]; omega)
                  cases e
                  have := hcc j (by rw [HCE.out.2]; exact hlt4)
                  rw [Nat.zero_add] at this
                  exact this
                rw [hD] at hcr
                obtain ⟨S, hS, hSD⟩ : ∃ S : Int, (if D < 0 then (-1 : Int) else if 0 < D then 1 else 0) = S ∧ ((D < 0 ∧ S = -1) ∨ (0 ≤ D ∧ (S = 1 ∨ S = 0))) := by
                  by_cases h : D < 0
                  · exact ⟨-1, by rw [if_pos h], .inl ⟨h, rfl⟩⟩
                  · by_cases h2 : 0 < D
                    · exact ⟨1, by rw [if_neg h, if_pos h2], .inr ⟨by omega, .inl rfl⟩⟩
                    · exact ⟨0, by rw [if_neg h, if_neg h2], .inr ⟨by omega, .inr rfl⟩⟩
                rw [hS] at hcr
                have HCJ := Lib.hid hcr
                have HSD2 := Lib.hid hSD
                generalize prG C j = cj at *
                clear hcr hS hSD hD
                go_upto_region 24 with (fail)
                refine wp_region_inv (fun w w' => Below w.heap.size w w') (fun qi_ qv_ _ => qv_ = ([.agg #[.int .i64 p.1, .int .i64 p.2], .agg #[.int .i64 q.1, .int .i64 q.2], .int .i64 j, .pointer (some ⟨w3.heap.size, j * 2, none⟩), .pointer (some ⟨w3.heap.size, j * 2, none⟩), .int .i64 cj.1, .int .i64 j, .pointer (some ⟨w3.heap.size, j * 2, none⟩), .pointer (some ⟨w3.heap.size, j * 2 + 1, none⟩), .int .i64 cj.2, .int .i64 S, .int .i64 S] : List Value).getD qi_ undef) (by kernel_rfl) (by kernel_rfl) (fun _ => Below.refl _ _) (fun _ _ _ h1 h2 => below_later h1 h1.size h2) (fun _ _ _ _ _ _ h => h) ?_
                refine inv_cons (fun wx hg hd => ?_) (fun v0 => ?_)
                · have hx := ((Below.refl wz.heap.size wz).drew).trans hg
                  clear hd hg
                  obtain ⟨⟨k1, k2⟩, -⟩ := HCX.out _ (HZ.out.trans (hx.mono hsz))
                  go_wp2
                  exact ⟨_, rfl, Below.refl _ _, rfl⟩
                (try simp only [List.nil_append, Act.put, List.setIfInBounds_toArray, List.set_cons_zero, List.set_cons_succ])
                refine inv_cons (fun wx hg hd => ?_) (fun v1 => ?_)
                · have hx := ((Below.refl wz.heap.size wz).drew).trans hg
                  clear hd hg
                  obtain ⟨-, ⟨k1, k2⟩, -⟩ := HCX.out _ (HZ.out.trans (hx.mono hsz))
                  go_wp2
                  exact ⟨_, rfl, Below.refl _ _, rfl⟩
                (try simp only [List.cons_append, List.nil_append, Act.put, List.setIfInBounds_toArray, List.set_cons_zero, List.set_cons_succ])
                refine inv_cons (fun wx hg hd => ?_) (fun v2 => ?_)
                · have hx := ((Below.refl wz.heap.size wz).drew).trans hg
                  clear hd hg
                  go_wp2
                  exact ⟨_, rfl, Below.refl _ _, rfl⟩
                (try simp only [List.cons_append, List.nil_append, Act.put, List.setIfInBounds_toArray, List.set_cons_zero, List.set_cons_succ])
                refine inv_cons (fun wx hg hd => ?_) (fun v3 => ?_)
                · have hx := ((Below.refl wz.heap.size wz).drew).trans hg
                  (try (have ee : v2 = (.int .i64 j : Value) := hd 2 (by simp) (by decide); subst ee))
                  clear hd hg
                  go_wp2
                  exact ⟨_, rfl, Below.refl _ _, rfl⟩
                (try simp only [List.cons_append, List.nil_append, Act.put, List.setIfInBounds_toArray, List.set_cons_zero, List.set_cons_succ])
                refine inv_cons (fun wx hg hd => ?_) (fun v4 => ?_)
                · have hx := ((Below.refl wz.heap.size wz).drew).trans hg
                  (try (have ee : v3 = (.pointer (some ⟨w3.heap.size, j * 2, none⟩) : Value) := hd 3 (by simp) (by decide); subst ee))
                  clear hd hg
                  go_wp2
                  exact ⟨_, rfl, Below.refl _ _, rfl⟩
                (try simp only [List.cons_append, List.nil_append, Act.put, List.setIfInBounds_toArray, List.set_cons_zero, List.set_cons_succ])
                refine inv_cons (fun wx hg hd => ?_) (fun v5 => ?_)
                · have hx := ((Below.refl wz.heap.size wz).drew).trans hg
                  (try (have ee : v4 = (.pointer (some ⟨w3.heap.size, j * 2, none⟩) : Value) := hd 4 (by simp) (by decide); subst ee))
                  clear hd hg
                  obtain ⟨k1, k2⟩ := HBC.out _ hx
                  go_wp2
                  exact ⟨_, rfl, Below.refl _ _, rfl⟩
                (try simp only [List.cons_append, List.nil_append, Act.put, List.setIfInBounds_toArray, List.set_cons_zero, List.set_cons_succ])
                refine inv_cons (fun wx hg hd => ?_) (fun v6 => ?_)
                · have hx := ((Below.refl wz.heap.size wz).drew).trans hg
                  clear hd hg
                  go_wp2
                  exact ⟨_, rfl, Below.refl _ _, rfl⟩
                (try simp only [List.cons_append, List.nil_append, Act.put, List.setIfInBounds_toArray, List.set_cons_zero, List.set_cons_succ])
                refine inv_cons (fun wx hg hd => ?_) (fun v7 => ?_)
                · have hx := ((Below.refl wz.heap.size wz).drew).trans hg
                  (try (have ee : v6 = (.int .i64 j : Value) := hd 6 (by simp) (by decide); subst ee))
                  clear hd hg
                  go_wp2
                  exact ⟨_, rfl, Below.refl _ _, rfl⟩
                (try simp only [List.cons_append, List.nil_append, Act.put, List.setIfInBounds_toArray, List.set_cons_zero, List.set_cons_succ])
                refine inv_cons (fun wx hg hd => ?_) (fun v8 => ?_)
                · have hx := ((Below.refl wz.heap.size wz).drew).trans hg
                  (try (have ee : v7 = (.pointer (some ⟨w3.heap.size, j * 2, none⟩) : Value) := hd 7 (by simp) (by decide); subst ee))
                  clear hd hg
                  go_wp2
                  exact ⟨_, rfl, Below.refl _ _, rfl⟩
                (try simp only [List.cons_append, List.nil_append, Act.put, List.setIfInBounds_toArray, List.set_cons_zero, List.set_cons_succ])
                refine inv_cons (fun wx hg hd => ?_) (fun v9 => ?_)
                · have hx := ((Below.refl wz.heap.size wz).drew).trans hg
                  (try (have ee : v8 = (.pointer (some ⟨w3.heap.size, j * 2 + 1, none⟩) : Value) := hd 8 (by simp) (by decide); subst ee))
                  clear hd hg
                  obtain ⟨k1, k2⟩ := HBC.out _ hx
                  go_wp2
                  exact ⟨_, rfl, Below.refl _ _, rfl⟩
                (try simp only [List.cons_append, List.nil_append, Act.put, List.setIfInBounds_toArray, List.set_cons_zero, List.set_cons_succ])
                refine inv_cons (fun wx hg hd => ?_) (fun v10 => ?_)
                · have hx := ((Below.refl wz.heap.size wz).drew).trans hg
                  (try (have ee : v0 = (.agg #[.int .i64 p.1, .int .i64 p.2] : Value) := hd 0 (by simp) (by decide); subst ee))
                  (try (have ee : v1 = (.agg #[.int .i64 q.1, .int .i64 q.2] : Value) := hd 1 (by simp) (by decide); subst ee))
                  (try (have ee : v5 = (.int .i64 cj.1 : Value) := hd 5 (by simp) (by decide); subst ee))
                  (try (have ee : v9 = (.int .i64 cj.2 : Value) := hd 9 (by simp) (by decide); subst ee))
                  clear hd hg
                  go_wp2_with fail
                  refine (HCJ.out _).mono ?_
                  rintro e w' ⟨rfl, hb⟩
                  go_wp2
                  exact ⟨_, rfl, hb, rfl⟩
                (try simp only [List.cons_append, List.nil_append, Act.put, List.setIfInBounds_toArray, List.set_cons_zero, List.set_cons_succ])
                refine inv_cons (fun wx hg hd => ?_) (fun v11 => ?_)
                · have hx := ((Below.refl wz.heap.size wz).drew).trans hg
                  (try (have ee : v10 = (.int .i64 S : Value) := hd 10 (by simp) (by decide); subst ee))
                  clear hd hg
                  go_wp2
                  exact ⟨_, rfl, Below.refl _ _, rfl⟩
                (try simp only [List.cons_append, List.nil_append, Act.put, List.setIfInBounds_toArray, List.set_cons_zero, List.set_cons_succ])
                refine inv_done (fun wx hg hd => ?_)
                have hx := ((Below.refl wz.heap.size wz).drew).trans hg
                (have ee : v0 = (.agg #[.int .i64 p.1, .int .i64 p.2] : Value) := hd 0 (by simp); subst ee)
                (have ee : v1 = (.agg #[.int .i64 q.1, .int .i64 q.2] : Value) := hd 1 (by simp); subst ee)
                (have ee : v2 = (.int .i64 j : Value) := hd 2 (by simp); subst ee)
                (have ee : v3 = (.pointer (some ⟨w3.heap.size, j * 2, none⟩) : Value) := hd 3 (by simp); subst ee)
                (have ee : v4 = (.pointer (some ⟨w3.heap.size, j * 2, none⟩) : Value) := hd 4 (by simp); subst ee)
                (have ee : v5 = (.int .i64 cj.1 : Value) := hd 5 (by simp); subst ee)
                (have ee : v6 = (.int .i64 j : Value) := hd 6 (by simp); subst ee)
                (have ee : v7 = (.pointer (some ⟨w3.heap.size, j * 2, none⟩) : Value) := hd 7 (by simp); subst ee)
                (have ee : v8 = (.pointer (some ⟨w3.heap.size, j * 2 + 1, none⟩) : Value) := hd 8 (by simp); subst ee)
                (have ee : v9 = (.int .i64 cj.2 : Value) := hd 9 (by simp); subst ee)
                (have ee : v10 = (.int .i64 S : Value) := hd 10 (by simp); subst ee)
                (have ee : v11 = (.int .i64 S : Value) := hd 11 (by simp); subst ee)
                clear hd hg
                (try go_simp)
                have HZX := Lib.hid (HZ.out.trans (hx.mono hsz))
                clear hx HBC HCJ HZ
                rcases HSD2.out with ⟨hneg, rfl⟩ | ⟨hpos, hs2⟩
                · have HA3 := Lib.hid (HST.out.1 hneg)
                  clear HAP HSD2 HST hneg
                  cases ap
                  all_goals
                    go_wp2
                    go_roundw
                    case rel => exact ⟨j + 1, _, by omega, by go_num, rfl, HA3.out, HZX.out⟩
                    case measure => simp [intOf]; omega
                · have HA3 := Lib.hid (HST.out.2 hpos)
                  clear HAP HSD2 HST hpos
                  rcases hs2 with rfl | rfl
                  all_goals
                    cases ap
                    all_goals
                      go_wp2
                      go_roundw
                      case rel => exact ⟨j + 1, false, by omega, by go_num, rfl, HA3.out, HZX.out⟩
                      case measure => simp [intOf]; omega
              · obtain rfl : j = 4 := by omega
                have p2 : decide (((4 : Nat) : Int) < 4) = false := by decide
                have HIX := Lib.hid (HIB.out.trans ((HCX.out _ HZ.out).2.2.mono hsi))
                cases ap with
                | true =>
                  have HXF : Hid (X = false) := by show _ = _; rw [HXA.out]; exact HOY1.out (HAP.out.1 rfl)
                  have HF := Lib.hid (B4.out.trans (HIX.out.mono B4.out.size))
                  clear HAP HZ HCX HNX
                  go_wp2
                  go_ret
                  rw [HXF.out]
                  exact ⟨rfl, HF.out⟩
                | false =>
                  have HN3 := Lib.hid (HNX.out (HAP.out.2 rfl))
                  clear HAP HZ HCX HNX
                  go_wp2
                  go_roundw
                  case rel => exact ⟨e + 1, by omega, by go_num, HN3.out, HIX.out⟩
                  case measure => simp [intOf]; omega
        · obtain rfl : e = 6 := by omega
          have p1 : decide (((6 : Nat) : Int) < 6) = false := by decide
          have HXF : Hid (X = true) := by show _ = _; rw [HXA.out]; exact HON.out HI.out.1
          have HF := Lib.hid (B4.out.trans (HI.out.2.mono B4.out.size))
          clear HI
          go_wp2
          go_ret
          rw [HXF.out]
          exact ⟨rfl, HF.out⟩
end Go.Proofs.YtjimcjhgjfhbiaaGreat
/- Contracts of the reference: Fine, TileOk, Origin, On1, WordOf of apiaryref9. -/
namespace Go.Proofs.YtjimcjhgjfhbiaaGreat
open Go.RowKit Go.Lib Wd Cv

set_option maxRecDepth 100000 in
set_option maxHeartbeats 2000000 in
theorem rfine_any (t : TL) (w : World) : Calls Tryz.prog 20 #[tlV t] w fun e w' => e = .returned (.bool (fineT t)) ∧ Below w.heap.size w w' := by
  obtain ⟨⟨t0, t1, t2, t3⟩, hb, hs⟩ := boxed_tile w t
  have HIS := Lib.hid (fun w => rtile_any t w)
  have T := Lib.hid (show Value.agg #[.int .i64 t.1, .int .i64 t.2.1, .int .i64 t.2.2.1, .int .i64 t.2.2.2] = tlV t from rfl)
  obtain ⟨w1, hw1⟩ : ∃ W, (w.alloc (.cells #[.int .i64 t.1, .int .i64 t.2.1, .int .i64 t.2.2.1, .int .i64 t.2.2.2] 26)) = W := ⟨_, rfl⟩
  rw [hw1] at t0 t1 t2 t3 hb hs
  have HB := Lib.hid hb
  have HW1 := Lib.hid hw1
  have HT1 : Hid (∀ W, Below w1.heap.size w1 W → TileAt W w.heap.size t) := fun W hW => TileAt.below ⟨t0, t1, t2, t3⟩ hW
  clear hw1 t0 t1 t2 t3 hb
  by_cases ht : isT t = true
  · have hi : 0 ≤ t.1 ∧ t.1 ≤ 18 ∧ 0 ≤ t.2.2.2 ∧ t.2.2.2 ≤ 12 := by obtain ⟨h1, h2, -⟩ := isT_parts ht; omega
    obtain ⟨k, hk⟩ : ∃ k : Nat, 12 - t.2.2.2 = (k : Int) := ⟨(12 - t.2.2.2).toNat, by omega⟩
    obtain ⟨j, hj⟩ : ∃ j : Nat, 18 - t.1 = (j : Int) := ⟨(18 - t.1).toNat, by omega⟩
    have h2j : (2 : Int) * (j : Int) = ((2 * j : Nat) : Int) := by omega
    have HW : Hid (∀ w, Calls Tryz.prog 42 #[.int .i64 k] w fun e w' => e = .returned (.int .i64 ((7 ^ k : Nat) : Int)) ∧ Below w.heap.size w w') := fun w => by
      have := rseven_in k (by omega) w
      rwa [show (7 : Int) ^ k = ((7 ^ k : Nat) : Int) by rw [Int.natCast_pow]; rfl] at this
    have HU := Lib.hid (fun w => rshift_in (2 * j) (by omega) w)
    have HF : Hid (fineT t = decide (169 * ((7 ^ k : Nat) : Int) < 16 * ((2 ^ (2 * j) : Nat) : Int))) := by
      show _ = _
      unfold fineT
      rw [ht, hk, hj, Int.toNat_natCast, Int.toNat_natCast, Bool.true_and]
      congr 1
      rw [show 2 ^ (2 * j) = 2 ^ j * 2 ^ j by rw [Nat.two_mul, Nat.pow_add], Nat.mul_assoc, ← Int.ofNat_lt]
      simp only [Int.natCast_mul]
      rfl
    have hp : 2 ^ (2 * j) ≤ 68719476736 := Nat.le_trans (Nat.pow_le_pow_right (by decide) (show 2 * j ≤ 36 by omega)) (by decide)
    have hp2 : ((2 ^ (2 * j) : Nat) : Int) ≤ 68719476736 := Int.ofNat_le.2 hp
    have hp1 : 0 ≤ ((2 ^ (2 * j) : Nat) : Int) := Int.natCast_nonneg _
    have hm : 7 ^ k ≤ 13841287201 := Nat.le_trans (Nat.pow_le_pow_right (by decide) (show k ≤ 12 by omega)) (by decide)
    have hm2 : ((7 ^ k : Nat) : Int) ≤ 13841287201 := Int.ofNat_le.2 hm
    have hm1 : 0 ≤ ((7 ^ k : Nat) : Int) := Int.natCast_nonneg _
    rw [← h2j] at HU
    generalize ((2 ^ (2 * j) : Nat) : Int) = p at *
    generalize ((7 ^ k : Nat) : Int) = m at *
    rw [HF.out]
    rw [ht] at HIS
    clear ht hp hm HF
    have qk : IntKind.i64.wrap (12 - t.2.2.2) = (k : Int) := by rw [hk]; exact wrap_in (by omega) (by omega)
    have qj : IntKind.i64.wrap (18 - t.1) = (j : Int) := by rw [hj]; exact wrap_in (by omega) (by omega)
    have q1 : IntKind.i64.wrap (169 * m) = 169 * m := wrap_in (by omega) (by omega)
    have q2 : IntKind.i64.wrap (16 * p) = 16 * p := wrap_in (by omega) (by omega)
    have q3 : IntKind.i64.wrap (2 * (j : Int)) = 2 * (j : Int) := wrap_in (by omega) (by omega)
    rw [← T.out] at HIS ⊢
    clear hk hj h2j hi hm1 hm2 hp1 hp2
    obtain ⟨b, hbb⟩ : ∃ b, decide (169 * m < 16 * p) = b := ⟨_, rfl⟩
    rw [hbb]
    go_enter Tryz.func20, Tryz.ntmps20
    go_upto_region 1 with (rw [HW1.out])
    first | rw [HW1.out] | skip
    refine wp_region_inv (fun w w' => Below w.heap.size w w') (fun qi_ qv_ _ => qv_ = ([.agg #[.int .i64 t.1, .int .i64 t.2.1, .int .i64 t.2.2.1, .int .i64 t.2.2.2], .bool true, .bool true, .pointer (some ⟨w.heap.size, 3, none⟩), .int .i64 t.2.2.2, .int .i64 k, .int .i64 m, .int .i64 (169 * m), .pointer (some ⟨w.heap.size, 0, none⟩), .int .i64 t.1, .int .i64 j, .int .i64 (2 * (j : Int)), .int .i64 p, .int .i64 (16 * p), .bool b, .bool b, .bool b] : List Value).getD qi_ undef) (by kernel_rfl) (by kernel_rfl) (fun _ => Below.refl _ _) (fun _ _ _ h1 h2 => below_later h1 h1.size h2) (fun _ _ _ _ _ _ h => h) ?_
    refine inv_cons (fun wx hg hd => ?_) (fun v0 => ?_)
    · have hx := ((Below.refl w1.heap.size w1).drew).trans hg
      clear hd hg
      obtain ⟨k0, k1, k2, k3⟩ := HT1.out _ hx
      have hsx : w.heap.size < wx.heap.size := Nat.lt_of_lt_of_le hs hx.size
      go_wp2
      exact ⟨_, rfl, Below.refl _ _, rfl⟩
    (try simp only [List.nil_append, Act.put, List.setIfInBounds_toArray, List.set_cons_zero, List.set_cons_succ])
    refine inv_cons (fun wx hg hd => ?_) (fun v1 => ?_)
    · have hx := ((Below.refl w1.heap.size w1).drew).trans hg
      (try (have ee : v0 = (.agg #[.int .i64 t.1, .int .i64 t.2.1, .int .i64 t.2.2.1, .int .i64 t.2.2.2] : Value) := hd 0 (by simp) (by decide); subst ee))
      clear hd hg
      go_wp2_with fail
      refine (HIS.out _).mono ?_
      rintro e w' ⟨rfl, hb⟩
      go_wp2
      exact ⟨_, rfl, hb, rfl⟩
    (try simp only [List.cons_append, List.nil_append, Act.put, List.setIfInBounds_toArray, List.set_cons_zero, List.set_cons_succ])
    refine inv_cons (fun wx hg hd => ?_) (fun v2 => ?_)
    · have hx := ((Below.refl w1.heap.size w1).drew).trans hg
      (try (have ee : v1 = (.bool true : Value) := hd 1 (by simp) (by decide); subst ee))
      clear hd hg
      go_wp2
      exact ⟨_, rfl, Below.refl _ _, rfl⟩
    (try simp only [List.cons_append, List.nil_append, Act.put, List.setIfInBounds_toArray, List.set_cons_zero, List.set_cons_succ])
    refine inv_cons (fun wx hg hd => ?_) (fun v3 => ?_)
    · have hx := ((Below.refl w1.heap.size w1).drew).trans hg
      (try (have ee : v2 = (.bool true : Value) := hd 2 (by simp) (by decide); subst ee))
      clear hd hg
      go_wp2
      exact ⟨_, rfl, Below.refl _ _, rfl⟩
    (try simp only [List.cons_append, List.nil_append, Act.put, List.setIfInBounds_toArray, List.set_cons_zero, List.set_cons_succ])
    refine inv_cons (fun wx hg hd => ?_) (fun v4 => ?_)
    · have hx := ((Below.refl w1.heap.size w1).drew).trans hg
      (try (have ee : v2 = (.bool true : Value) := hd 2 (by simp) (by decide); subst ee))
      (try (have ee : v3 = (.pointer (some ⟨w.heap.size, 3, none⟩) : Value) := hd 3 (by simp) (by decide); subst ee))
      clear hd hg
      obtain ⟨k0, k1, k2, k3⟩ := HT1.out _ hx
      have hsx : w.heap.size < wx.heap.size := Nat.lt_of_lt_of_le hs hx.size
      go_wp2
      exact ⟨_, rfl, Below.refl _ _, rfl⟩
    (try simp only [List.cons_append, List.nil_append, Act.put, List.setIfInBounds_toArray, List.set_cons_zero, List.set_cons_succ])
    refine inv_cons (fun wx hg hd => ?_) (fun v5 => ?_)
    · have hx := ((Below.refl w1.heap.size w1).drew).trans hg
      (try (have ee : v2 = (.bool true : Value) := hd 2 (by simp) (by decide); subst ee))
      (try (have ee : v4 = (.int .i64 t.2.2.2 : Value) := hd 4 (by simp) (by decide); subst ee))
      clear hd hg
      go_wp2
      exact ⟨_, rfl, Below.refl _ _, rfl⟩
    (try simp only [List.cons_append, List.nil_append, Act.put, List.setIfInBounds_toArray, List.set_cons_zero, List.set_cons_succ])
    refine inv_cons (fun wx hg hd => ?_) (fun v6 => ?_)
    · have hx := ((Below.refl w1.heap.size w1).drew).trans hg
      (try (have ee : v2 = (.bool true : Value) := hd 2 (by simp) (by decide); subst ee))
      (try (have ee : v5 = (.int .i64 k : Value) := hd 5 (by simp) (by decide); subst ee))
      clear hd hg
      go_wp2_with fail
      refine (HW.out _).mono ?_
      rintro e w' ⟨rfl, hb⟩
      go_wp2
      exact ⟨_, rfl, hb, rfl⟩
    (try simp only [List.cons_append, List.nil_append, Act.put, List.setIfInBounds_toArray, List.set_cons_zero, List.set_cons_succ])
    refine inv_cons (fun wx hg hd => ?_) (fun v7 => ?_)
    · have hx := ((Below.refl w1.heap.size w1).drew).trans hg
      (try (have ee : v2 = (.bool true : Value) := hd 2 (by simp) (by decide); subst ee))
      (try (have ee : v6 = (.int .i64 m : Value) := hd 6 (by simp) (by decide); subst ee))
      clear hd hg
      go_wp2
      exact ⟨_, rfl, Below.refl _ _, rfl⟩
    (try simp only [List.cons_append, List.nil_append, Act.put, List.setIfInBounds_toArray, List.set_cons_zero, List.set_cons_succ])
    refine inv_cons (fun wx hg hd => ?_) (fun v8 => ?_)
    · have hx := ((Below.refl w1.heap.size w1).drew).trans hg
      (try (have ee : v2 = (.bool true : Value) := hd 2 (by simp) (by decide); subst ee))
      clear hd hg
      go_wp2
      exact ⟨_, rfl, Below.refl _ _, rfl⟩
    (try simp only [List.cons_append, List.nil_append, Act.put, List.setIfInBounds_toArray, List.set_cons_zero, List.set_cons_succ])
    refine inv_cons (fun wx hg hd => ?_) (fun v9 => ?_)
    · have hx := ((Below.refl w1.heap.size w1).drew).trans hg
      (try (have ee : v2 = (.bool true : Value) := hd 2 (by simp) (by decide); subst ee))
      (try (have ee : v8 = (.pointer (some ⟨w.heap.size, 0, none⟩) : Value) := hd 8 (by simp) (by decide); subst ee))
      clear hd hg
      obtain ⟨k0, k1, k2, k3⟩ := HT1.out _ hx
      have hsx : w.heap.size < wx.heap.size := Nat.lt_of_lt_of_le hs hx.size
      go_wp2
      exact ⟨_, rfl, Below.refl _ _, rfl⟩
    (try simp only [List.cons_append, List.nil_append, Act.put, List.setIfInBounds_toArray, List.set_cons_zero, List.set_cons_succ])
    refine inv_cons (fun wx hg hd => ?_) (fun v10 => ?_)
    · have hx := ((Below.refl w1.heap.size w1).drew).trans hg
      (try (have ee : v2 = (.bool true : Value) := hd 2 (by simp) (by decide); subst ee))
      (try (have ee : v9 = (.int .i64 t.1 : Value) := hd 9 (by simp) (by decide); subst ee))
      clear hd hg
      go_wp2
      exact ⟨_, rfl, Below.refl _ _, rfl⟩
    (try simp only [List.cons_append, List.nil_append, Act.put, List.setIfInBounds_toArray, List.set_cons_zero, List.set_cons_succ])
    refine inv_cons (fun wx hg hd => ?_) (fun v11 => ?_)
    · have hx := ((Below.refl w1.heap.size w1).drew).trans hg
      (try (have ee : v2 = (.bool true : Value) := hd 2 (by simp) (by decide); subst ee))
      (try (have ee : v10 = (.int .i64 j : Value) := hd 10 (by simp) (by decide); subst ee))
      clear hd hg
      go_wp2
      exact ⟨_, rfl, Below.refl _ _, rfl⟩
    (try simp only [List.cons_append, List.nil_append, Act.put, List.setIfInBounds_toArray, List.set_cons_zero, List.set_cons_succ])
    refine inv_cons (fun wx hg hd => ?_) (fun v12 => ?_)
    · have hx := ((Below.refl w1.heap.size w1).drew).trans hg
      (try (have ee : v2 = (.bool true : Value) := hd 2 (by simp) (by decide); subst ee))
      (try (have ee : v11 = (.int .i64 (2 * (j : Int)) : Value) := hd 11 (by simp) (by decide); subst ee))
      clear hd hg
      go_wp2_with fail
      refine (HU.out _).mono ?_
      rintro e w' ⟨rfl, hb⟩
      go_wp2
      exact ⟨_, rfl, hb, rfl⟩
    (try simp only [List.cons_append, List.nil_append, Act.put, List.setIfInBounds_toArray, List.set_cons_zero, List.set_cons_succ])
    refine inv_cons (fun wx hg hd => ?_) (fun v13 => ?_)
    · have hx := ((Below.refl w1.heap.size w1).drew).trans hg
      (try (have ee : v2 = (.bool true : Value) := hd 2 (by simp) (by decide); subst ee))
      (try (have ee : v12 = (.int .i64 p : Value) := hd 12 (by simp) (by decide); subst ee))
      clear hd hg
      go_wp2
      exact ⟨_, rfl, Below.refl _ _, rfl⟩
    (try simp only [List.cons_append, List.nil_append, Act.put, List.setIfInBounds_toArray, List.set_cons_zero, List.set_cons_succ])
    refine inv_cons (fun wx hg hd => ?_) (fun v14 => ?_)
    · have hx := ((Below.refl w1.heap.size w1).drew).trans hg
      (try (have ee : v2 = (.bool true : Value) := hd 2 (by simp) (by decide); subst ee))
      (try (have ee : v7 = (.int .i64 (169 * m) : Value) := hd 7 (by simp) (by decide); subst ee))
      (try (have ee : v13 = (.int .i64 (16 * p) : Value) := hd 13 (by simp) (by decide); subst ee))
      clear hd hg
      go_wp2
      exact ⟨_, rfl, Below.refl _ _, rfl⟩
    (try simp only [List.cons_append, List.nil_append, Act.put, List.setIfInBounds_toArray, List.set_cons_zero, List.set_cons_succ])
    refine inv_cons (fun wx hg hd => ?_) (fun v15 => ?_)
    · have hx := ((Below.refl w1.heap.size w1).drew).trans hg
      (try (have ee : v2 = (.bool true : Value) := hd 2 (by simp) (by decide); subst ee))
      (try (have ee : v14 = (.bool b : Value) := hd 14 (by simp) (by decide); subst ee))
      clear hd hg
      go_wp2
      exact ⟨_, rfl, Below.refl _ _, rfl⟩
    (try simp only [List.cons_append, List.nil_append, Act.put, List.setIfInBounds_toArray, List.set_cons_zero, List.set_cons_succ])
    refine inv_cons (fun wx hg hd => ?_) (fun v16 => ?_)
    · have hx := ((Below.refl w1.heap.size w1).drew).trans hg
      (try (have ee : v15 = (.bool b : Value) := hd 15 (by simp) (by decide); subst ee))
      clear hd hg
      go_wp2
      exact ⟨_, rfl, Below.refl _ _, rfl⟩
    (try simp only [List.cons_append, List.nil_append, Act.put, List.setIfInBounds_toArray, List.set_cons_zero, List.set_cons_succ])
    refine inv_done (fun wx hg hd => ?_)
    have hx := ((Below.refl w1.heap.size w1).drew).trans hg
    (have ee : v0 = (.agg #[.int .i64 t.1, .int .i64 t.2.1, .int .i64 t.2.2.1, .int .i64 t.2.2.2] : Value) := hd 0 (by simp); subst ee)
    (have ee : v1 = (.bool true : Value) := hd 1 (by simp); subst ee)
    (have ee : v2 = (.bool true : Value) := hd 2 (by simp); subst ee)
    (have ee : v3 = (.pointer (some ⟨w.heap.size, 3, none⟩) : Value) := hd 3 (by simp); subst ee)
    (have ee : v4 = (.int .i64 t.2.2.2 : Value) := hd 4 (by simp); subst ee)
    (have ee : v5 = (.int .i64 k : Value) := hd 5 (by simp); subst ee)
    (have ee : v6 = (.int .i64 m : Value) := hd 6 (by simp); subst ee)
    (have ee : v7 = (.int .i64 (169 * m) : Value) := hd 7 (by simp); subst ee)
    (have ee : v8 = (.pointer (some ⟨w.heap.size, 0, none⟩) : Value) := hd 8 (by simp); subst ee)
    (have ee : v9 = (.int .i64 t.1 : Value) := hd 9 (by simp); subst ee)
    (have ee : v10 = (.int .i64 j : Value) := hd 10 (by simp); subst ee)
    (have ee : v11 = (.int .i64 (2 * (j : Int)) : Value) := hd 11 (by simp); subst ee)
    (have ee : v12 = (.int .i64 p : Value) := hd 12 (by simp); subst ee)
    (have ee : v13 = (.int .i64 (16 * p) : Value) := hd 13 (by simp); subst ee)
    (have ee : v14 = (.bool b : Value) := hd 14 (by simp); subst ee)
    (have ee : v15 = (.bool b : Value) := hd 15 (by simp); subst ee)
    (have ee : v16 = (.bool b : Value) := hd 16 (by simp); subst ee)
    clear hd hg
    (try go_simp)
    go_wp2
    go_ret
    exact ⟨rfl, HB.out.trans (hx.mono HB.out.size)⟩
  · have hf : isT t = false := by simpa using ht
    have HF : Hid (fineT t = false) := by show _ = _; unfold fineT; rw [hf]; rfl
    rw [HF.out]
    rw [hf] at HIS
    clear ht hf HF
    rw [← T.out] at HIS ⊢
    go_enter Tryz.func20, Tryz.ntmps20
    go_upto_region 1 with (rw [HW1.out])
    first | rw [HW1.out] | skip
    refine wp_region_inv (fun w w' => Below w.heap.size w w') (fun qi_ qv_ _ => qv_ = ([.agg #[.int .i64 t.1, .int .i64 t.2.1, .int .i64 t.2.2.1, .int .i64 t.2.2.2], .bool false, .bool false, undef, undef, undef, undef, undef, undef, undef, undef, undef, undef, undef, undef, .bool false, .bool false] : List Value).getD qi_ undef) (by kernel_rfl) (by kernel_rfl) (fun _ => Below.refl _ _) (fun _ _ _ h1 h2 => below_later h1 h1.size h2) (fun _ _ _ _ _ _ h => h) ?_
    refine inv_cons (fun wx hg hd => ?_) (fun v0 => ?_)
    · have hx := ((Below.refl w1.heap.size w1).drew).trans hg
      clear hd hg
      obtain ⟨k0, k1, k2, k3⟩ := HT1.out _ hx
      have hsx : w.heap.size < wx.heap.size := Nat.lt_of_lt_of_le hs hx.size
      go_wp2
      exact ⟨_, rfl, Below.refl _ _, rfl⟩
    (try simp only [List.nil_append, Act.put, List.setIfInBounds_toArray, List.set_cons_zero, List.set_cons_succ])
    refine inv_cons (fun wx hg hd => ?_) (fun v1 => ?_)
    · have hx := ((Below.refl w1.heap.size w1).drew).trans hg
      (try (have ee : v0 = (.agg #[.int .i64 t.1, .int .i64 t.2.1, .int .i64 t.2.2.1, .int .i64 t.2.2.2] : Value) := hd 0 (by simp) (by decide); subst ee))
      clear hd hg
      go_wp2_with fail
      refine (HIS.out _).mono ?_
      rintro e w' ⟨rfl, hb⟩
      go_wp2
      exact ⟨_, rfl, hb, rfl⟩
    (try simp only [List.cons_append, List.nil_append, Act.put, List.setIfInBounds_toArray, List.set_cons_zero, List.set_cons_succ])
    refine inv_cons (fun wx hg hd => ?_) (fun v2 => ?_)
    · have hx := ((Below.refl w1.heap.size w1).drew).trans hg
      (try (have ee : v1 = (.bool false : Value) := hd 1 (by simp) (by decide); subst ee))
      clear hd hg
      go_wp2
      exact ⟨_, rfl, Below.refl _ _, rfl⟩
    (try simp only [List.cons_append, List.nil_append, Act.put, List.setIfInBounds_toArray, List.set_cons_zero, List.set_cons_succ])
    refine inv_cons (fun wx hg hd => ?_) (fun v3 => ?_)
    · have hx := ((Below.refl w1.heap.size w1).drew).trans hg
      (try (have ee : v2 = (.bool false : Value) := hd 2 (by simp) (by decide); subst ee))
      clear hd hg
      go_wp2
      exact ⟨_, rfl, Below.refl _ _, rfl⟩
    (try simp only [List.cons_append, List.nil_append, Act.put, List.setIfInBounds_toArray, List.set_cons_zero, List.set_cons_succ])
    refine inv_cons (fun wx hg hd => ?_) (fun v4 => ?_)
    · have hx := ((Below.refl w1.heap.size w1).drew).trans hg
      (try (have ee : v2 = (.bool false : Value) := hd 2 (by simp) (by decide); subst ee))
      (try (have ee : v3 = (undef : Value) := hd 3 (by simp) (by decide); subst ee))
      clear hd hg
      go_wp2
      exact ⟨_, rfl, Below.refl _ _, rfl⟩
    (try simp only [List.cons_append, List.nil_append, Act.put, List.setIfInBounds_toArray, List.set_cons_zero, List.set_cons_succ])
    refine inv_cons (fun wx hg hd => ?_) (fun v5 => ?_)
    · have hx := ((Below.refl w1.heap.size w1).drew).trans hg
      (try (have ee : v2 = (.bool false : Value) := hd 2 (by simp) (by decide); subst ee))
      (try (have ee : v4 = (undef : Value) := hd 4 (by simp) (by decide); subst ee))
      clear hd hg
      go_wp2
      exact ⟨_, rfl, Below.refl _ _, rfl⟩
    (try simp only [List.cons_append, List.nil_append, Act.put, List.setIfInBounds_toArray, List.set_cons_zero, List.set_cons_succ])
    refine inv_cons (fun wx hg hd => ?_) (fun v6 => ?_)
    · have hx := ((Below.refl w1.heap.size w1).drew).trans hg
      (try (have ee : v2 = (.bool false : Value) := hd 2 (by simp) (by decide); subst ee))
      (try (have ee : v5 = (undef : Value) := hd 5 (by simp) (by decide); subst ee))
      clear hd hg
      go_wp2
      exact ⟨_, rfl, Below.refl _ _, rfl⟩
    (try simp only [List.cons_append, List.nil_append, Act.put, List.setIfInBounds_toArray, List.set_cons_zero, List.set_cons_succ])
    refine inv_cons (fun wx hg hd => ?_) (fun v7 => ?_)
    · have hx := ((Below.refl w1.heap.size w1).drew).trans hg
      (try (have ee : v2 = (.bool false : Value) := hd 2 (by simp) (by decide); subst ee))
      (try (have ee : v6 = (undef : Value) := hd 6 (by simp) (by decide); subst ee))
      clear hd hg
      go_wp2
      exact ⟨_, rfl, Below.refl _ _, rfl⟩
    (try simp only [List.cons_append, List.nil_append, Act.put, List.setIfInBounds_toArray, List.set_cons_zero, List.set_cons_succ])
    refine inv_cons (fun wx hg hd => ?_) (fun v8 => ?_)
    · have hx := ((Below.refl w1.heap.size w1).drew).trans hg
      (try (have ee : v2 = (.bool false : Value) := hd 2 (by simp) (by decide); subst ee))
      clear hd hg
      go_wp2
      exact ⟨_, rfl, Below.refl _ _, rfl⟩
    (try simp only [List.cons_append, List.nil_append, Act.put, List.setIfInBounds_toArray, List.set_cons_zero, List.set_cons_succ])
    refine inv_cons (fun wx hg hd => ?_) (fun v9 => ?_)
    · have hx := ((Below.refl w1.heap.size w1).drew).trans hg
      (try (have ee : v2 = (.bool false : Value) := hd 2 (by simp) (by decide); subst ee))
      (try (have ee : v8 = (undef : Value) := hd 8 (by simp) (by decide); subst ee))
      clear hd hg
      go_wp2
      exact ⟨_, rfl, Below.refl _ _, rfl⟩
    (try simp only [List.cons_append, List.nil_append, Act.put, List.setIfInBounds_toArray, List.set_cons_zero, List.set_cons_succ])
    refine inv_cons (fun wx hg hd => ?_) (fun v10 => ?_)
    · have hx := ((Below.refl w1.heap.size w1).drew).trans hg
      (try (have ee : v2 = (.bool false : Value) := hd 2 (by simp) (by decide); subst ee))
      (try (have ee : v9 = (undef : Value) := hd 9 (by simp) (by decide); subst ee))
      clear hd hg
      go_wp2
      exact ⟨_, rfl, Below.refl _ _, rfl⟩
    (try simp only [List.cons_append, List.nil_append, Act.put, List.setIfInBounds_toArray, List.set_cons_zero, List.set_cons_succ])
    refine inv_cons (fun wx hg hd => ?_) (fun v11 => ?_)
    · have hx := ((Below.refl w1.heap.size w1).drew).trans hg
      (try (have ee : v2 = (.bool false : Value) := hd 2 (by simp) (by decide); subst ee))
      (try (have ee : v10 = (undef : Value) := hd 10 (by simp) (by decide); subst ee))
      clear hd hg
      go_wp2
      exact ⟨_, rfl, Below.refl _ _, rfl⟩
    (try simp only [List.cons_append, List.nil_append, Act.put, List.setIfInBounds_toArray, List.set_cons_zero, List.set_cons_succ])
    refine inv_cons (fun wx hg hd => ?_) (fun v12 => ?_)
    · have hx := ((Below.refl w1.heap.size w1).drew).trans hg
      (try (have ee : v2 = (.bool false : Value) := hd 2 (by simp) (by decide); subst ee))
      (try (have ee : v11 = (undef : Value) := hd 11 (by simp) (by decide); subst ee))
      clear hd hg
      go_wp2
      exact ⟨_, rfl, Below.refl _ _, rfl⟩
    (try simp only [List.cons_append, List.nil_append, Act.put, List.setIfInBounds_toArray, List.set_cons_zero, List.set_cons_succ])
    refine inv_cons (fun wx hg hd => ?_) (fun v13 => ?_)
    · have hx := ((Below.refl w1.heap.size w1).drew).trans hg
      (try (have ee : v2 = (.bool false : Value) := hd 2 (by simp) (by decide); subst ee))
      (try (have ee : v12 = (undef : Value) := hd 12 (by simp) (by decide); subst ee))
      clear hd hg
      go_wp2
      exact ⟨_, rfl, Below.refl _ _, rfl⟩
    (try simp only [List.cons_append, List.nil_append, Act.put, List.setIfInBounds_toArray, List.set_cons_zero, List.set_cons_succ])
    refine inv_cons (fun wx hg hd => ?_) (fun v14 => ?_)
    · have hx := ((Below.refl w1.heap.size w1).drew).trans hg
      (try (have ee : v2 = (.bool false : Value) := hd 2 (by simp) (by decide); subst ee))
      (try (have ee : v7 = (undef : Value) := hd 7 (by simp) (by decide); subst ee))
      (try (have ee : v13 = (undef : Value) := hd 13 (by simp) (by decide); subst ee))
      clear hd hg
      go_wp2
      exact ⟨_, rfl, Below.refl _ _, rfl⟩
    (try simp only [List.cons_append, List.nil_append, Act.put, List.setIfInBounds_toArray, List.set_cons_zero, List.set_cons_succ])
    refine inv_cons (fun wx hg hd => ?_) (fun v15 => ?_)
    · have hx := ((Below.refl w1.heap.size w1).drew).trans hg
      (try (have ee : v2 = (.bool false : Value) := hd 2 (by simp) (by decide); subst ee))
      (try (have ee : v14 = (undef : Value) := hd 14 (by simp) (by decide); subst ee))
      clear hd hg
      go_wp2
      exact ⟨_, rfl, Below.refl _ _, rfl⟩
    (try simp only [List.cons_append, List.nil_append, Act.put, List.setIfInBounds_toArray, List.set_cons_zero, List.set_cons_succ])
    refine inv_cons (fun wx hg hd => ?_) (fun v16 => ?_)
    · have hx := ((Below.refl w1.heap.size w1).drew).trans hg
      (try (have ee : v15 = (.bool false : Value) := hd 15 (by simp) (by decide); subst ee))
      clear hd hg
      go_wp2
      exact ⟨_, rfl, Below.refl _ _, rfl⟩
    (try simp only [List.cons_append, List.nil_append, Act.put, List.setIfInBounds_toArray, List.set_cons_zero, List.set_cons_succ])
    refine inv_done (fun wx hg hd => ?_)
    have hx := ((Below.refl w1.heap.size w1).drew).trans hg
    (have ee : v0 = (.agg #[.int .i64 t.1, .int .i64 t.2.1, .int .i64 t.2.2.1, .int .i64 t.2.2.2] : Value) := hd 0 (by simp); subst ee)
    (have ee : v1 = (.bool false : Value) := hd 1 (by simp); subst ee)
    (have ee : v2 = (.bool false : Value) := hd 2 (by simp); subst ee)
    (have ee : v3 = (undef : Value) := hd 3 (by simp); subst ee)
    (have ee : v4 = (undef : Value) := hd 4 (by simp); subst ee)
    (have ee : v5 = (undef : Value) := hd 5 (by simp); subst ee)
    (have ee : v6 = (undef : Value) := hd 6 (by simp); subst ee)
    (have ee : v7 = (undef : Value) := hd 7 (by simp); subst ee)
    (have ee : v8 = (undef : Value) := hd 8 (by simp); subst ee)
    (have ee : v9 = (undef : Value) := hd 9 (by simp); subst ee)
    (have ee : v10 = (undef : Value) := hd 10 (by simp); subst ee)
    (have ee : v11 = (undef : Value) := hd 11 (by simp); subst ee)
    (have ee : v12 = (undef : Value) := hd 12 (by simp); subst ee)
    (have ee : v13 = (undef : Value) := hd 13 (by simp); subst ee)
    (have ee : v14 = (undef : Value) := hd 14 (by simp); subst ee)
    (have ee : v15 = (.bool false : Value) := hd 15 (by simp); subst ee)
    (have ee : v16 = (.bool false : Value) := hd 16 (by simp); subst ee)
    clear hd hg
    (try go_simp)
    go_wp2
    go_ret
    exact ⟨rfl, HB.out.trans (hx.mono HB.out.size)⟩
set_option maxRecDepth 100000 in
set_option maxHeartbeats 1000000 in
theorem rtok_any (t : TL) (w : World) : Calls Tryz.prog 16 #[tlV t] w fun e w' => e = .returned (.int .i64 (okT t)) ∧ Below w.heap.size w w' := by
  obtain ⟨⟨t0, t1, t2, t3⟩, hb, hs⟩ := boxed_tile w t
  have HB := Lib.hid hb
  have HIS := Lib.hid (fun w => rtile_any t w)
  have HFI := Lib.hid (fun w => rfine_any t w)
  have HO : Hid (okT t = if isT t then if fineT t then 14 else 0 else 1) := rfl
  have T := Lib.hid (show Value.agg #[.int .i64 t.1, .int .i64 t.2.1, .int .i64 t.2.2.1, .int .i64 t.2.2.2] = tlV t from rfl)
  rw [← T.out] at HIS HFI ⊢
  generalize okT t = o at *
  generalize isT t = p at *
  generalize fineT t = q at *
  have HT1 : Hid (∀ W, Below (w.alloc (.cells #[.int .i64 t.1, .int .i64 t.2.1, .int .i64 t.2.2.1, .int .i64 t.2.2.2] 26)).heap.size (w.alloc (.cells #[.int .i64 t.1, .int .i64 t.2.1, .int .i64 t.2.2.1, .int .i64 t.2.2.2] 26)) W → TileAt W w.heap.size t) := fun W hW => TileAt.below ⟨t0, t1, t2, t3⟩ hW
  clear hb
  go_enter Tryz.func16, Tryz.ntmps16
  go_wp2_with fail
  refine (HIS.out _).mono ?_
  rintro e w1 ⟨rfl, hb1⟩
  obtain ⟨k0, k1, k2, k3⟩ := HT1.out _ hb1
  have ex : w.heap.size < w1.heap.size := Nat.lt_of_lt_of_le hs hb1.size
  have HB1 : Hid (Below w.heap.size w w1) := HB.out.trans (hb1.mono HB.out.size)
  clear hb1 t0 t1 t2 t3 hs
  cases p
  · go_wp2
    go_ret
    exact ⟨by rw [HO.out]; rfl, HB1.out⟩
  · go_wp2_with fail
    refine (HFI.out _).mono ?_
    rintro e w2 ⟨rfl, hb2⟩
    have HB2 : Hid (Below w.heap.size w w2) := HB1.out.trans (hb2.mono HB1.out.size)
    clear hb2
    cases q
    all_goals
      go_wp2
      go_ret
      exact ⟨by rw [HO.out]; rfl, HB2.out⟩
set_option maxRecDepth 100000 in
set_option maxHeartbeats 2000000 in
theorem rorigin_in (t : TL) (hi : isT t = true) (w : World) : Calls Tryz.prog 28 #[tlV t] w fun e w' => e = .returned (.tuple #[.int .i64 (loT t).1, .int .i64 (loT t).2, .int .i64 (sdT t)]) ∧ Below w.heap.size w w' := by
  obtain ⟨⟨t0, t1, t2, t3⟩, hb, hs⟩ := boxed_tile w t
  have HB := Lib.hid hb
  have HIS := Lib.hid (fun w => rtile_any t w)
  rw [hi] at HIS
  obtain ⟨k, hk, hk1, hk2, e, b1, b2, ⟨b3, b4⟩, b5, b6⟩ := tile_bd hi
  have HSH := Lib.hid (fun w => rshift_in k (by omega) w)
  have T := Lib.hid (show Value.agg #[.int .i64 t.1, .int .i64 t.2.1, .int .i64 t.2.2.1, .int .i64 t.2.2.2] = tlV t from rfl)
  rw [← T.out] at HIS ⊢
  unfold loT hiT at *
  dsimp only at b3 b4 b5 b6 ⊢
  rw [e] at b1 b2 b3 b4 b5 b6 ⊢
  obtain ⟨p, hpp⟩ : ∃ p : Int, ((2 ^ k : Nat) : Int) = p := ⟨_, rfl⟩
  rw [hpp] at b1 b2 b3 b4 b5 b6 HSH ⊢
  have qs : IntKind.i64.wrap (30 - t.1) = (k : Int) := by rw [hk]; exact wrap_in (by omega) (by omega)
  have q1 : IntKind.i64.wrap (t.2.1 * p) = t.2.1 * p := wrap_in (by omega) (by omega)
  have q2 : IntKind.i64.wrap (t.2.2.1 * p) = t.2.2.1 * p := wrap_in (by omega) (by omega)
  have HT1 : Hid (∀ W, Below (w.alloc (.cells #[.int .i64 t.1, .int .i64 t.2.1, .int .i64 t.2.2.1, .int .i64 t.2.2.2] 26)).heap.size (w.alloc (.cells #[.int .i64 t.1, .int .i64 t.2.1, .int .i64 t.2.2.1, .int .i64 t.2.2.2] 26)) W → TileAt W w.heap.size t) := fun W hW => TileAt.below ⟨t0, t1, t2, t3⟩ hW
  clear hb hpp e hk
  go_enter Tryz.func28, Tryz.ntmps28
  go_wp2_with fail
  refine (HIS.out _).mono ?_
  rintro e w1 ⟨rfl, hb1⟩
  have HT2 : Hid (∀ W, Below w1.heap.size w1 W → TileAt W w.heap.size t) := fun W hW => (HT1.out _ hb1).below hW
  obtain ⟨k0, k1, k2, k3⟩ := HT1.out _ hb1
  have ex : w.heap.size < w1.heap.size := Nat.lt_of_lt_of_le hs hb1.size
  have HB1 : Hid (Below w.heap.size w w1) := HB.out.trans (hb1.mono HB.out.size)
  clear hb1 t0 t1 t2 t3 hs
  go_wp2_with fail
  refine (HSH.out _).mono ?_
  rintro e w2 ⟨rfl, hb2⟩
  obtain ⟨j0, j1, j2, j3⟩ := HT2.out _ hb2
  have ex2 : w.heap.size < w2.heap.size := Nat.lt_of_lt_of_le ex hb2.size
  have HB2 : Hid (Below w.heap.size w w2) := HB1.out.trans (hb2.mono HB1.out.size)
  clear hb2 k0 k1 k2 k3
  go_wp2_with (first | (with_reducible refine wp_region_lex (by kernel_rfl) (by kernel_rfl) ?_) | (with_reducible refine OnlyG.intro (by kernel_rfl) ?_))
  go_ret3
  exact ⟨rfl, HB2.out.drew⟩
set_option maxRecDepth 100000 in
set_option maxHeartbeats 2000000 in
theorem on1_in (t : TL) (hok : okT t = 0) {R : Nat} (hR : t.2.2.2 = (R : Int)) {z : E2} (hz : okB R z = true) (w : World) : Calls Tryz.prog 8 #[tlV t, .int .u64 (wordN R z : Nat)] w fun e w' => e = .returned (.bool (vtB t R z)) ∧ Below w.heap.size w w' := by
  have hi : isT t = true := by
    unfold okT at hok
    cases h : isT t with
    | true => rfl
    | false => rw [h] at hok; simp at hok
  obtain ⟨v1, v2, v3⟩ := word_cell hz
  have hlt := (wordN_lt hz).1
  have HC := Lib.hid (rcell_any (wordN R z) (by omega))
  have e1 : cvR (wordN R z) = R := by unfold cvR; rw [if_pos v1, v2]
  have e2 : cvZ (wordN R z) = z := by unfold cvZ; rw [if_pos v1, v3]
  have e3 : cvE (wordN R z) = 0 := by unfold cvE; rw [if_pos v1]
  rw [e1, e2, e3] at HC
  have HO := Lib.hid (fun w => rorigin_in t hi w)
  have HK := Lib.hid (fun w => rtok_any t w)
  rw [hok] at HK
  have HT := Lib.hid (fun w => rtouch_any R z (loT t) (hiT t) w)
  obtain ⟨k, hk, hk1, hk2, e, b1, b2, ⟨b3, b4⟩, b5, b6⟩ := tile_bd hi
  have HV : Hid (vtB t R z = ctB R z (loT t) (hiT t)) := by show _ = _; unfold vtB; rw [hi]; rfl
  have T := Lib.hid (show Value.agg #[.int .i64 t.1, .int .i64 t.2.1, .int .i64 t.2.2.1, .int .i64 t.2.2.2] = tlV t from rfl)
  rw [← T.out] at HO HK ⊢
  rw [HV.out]
  generalize ctB R z (loT t) (hiT t) = b at *
  have h1 : (hiT t).1 = (loT t).1 + sdT t := rfl
  have h2 : (hiT t).2 = (loT t).2 + sdT t := rfl
  simp only [vC, vE] at *
  rw [h1, h2] at HT
  rw [h1] at b5
  rw [h2] at b6
  generalize (loT t).1 = u at *
  generalize (loT t).2 = v at *
  generalize sdT t = s at *
  generalize wordN R z = wd at *
  obtain ⟨z1, z2⟩ := z
  dsimp only at *
  simp only [hR] at HO HK ⊢
  obtain ⟨⟨t0, t1, t2, t3⟩, hb, hs⟩ := boxed_tile w (t.1, t.2.1, t.2.2.1, (R : Int))
  dsimp only at t0 t1 t2 t3 hb hs
  obtain ⟨w1, hw1⟩ : ∃ W, (w.alloc (.cells #[.int .i64 t.1, .int .i64 t.2.1, .int .i64 t.2.2.1, .int .i64 R] 26)) = W := ⟨_, rfl⟩
  rw [hw1] at t0 t1 t2 t3 hb hs
  have HB := Lib.hid hb
  have HW1 := Lib.hid hw1
  have HT1 : Hid (∀ W, Below w1.heap.size w1 W → TileAt W w.heap.size (t.1, t.2.1, t.2.2.1, (R : Int))) := fun W hW => TileAt.below ⟨t0, t1, t2, t3⟩ hW
  clear hw1 t0 t1 t2 t3 hb v1 v2 v3 e1 e2 e3 hz hok hi hlt h1 h2 e hk hR HV
  go_enter Tryz.func8, Tryz.ntmps8
  go_upto_region 1 with (rw [HW1.out])
  go_wp2_with fail
  refine (HC.out _).mono ?_
  rintro e w2 ⟨rfl, hb2⟩
  obtain ⟨w3, hw3⟩ : ∃ W, w2.alloc (.cells #[.int .i64 R, .int .i64 z1, .int .i64 z2] 72) = W := ⟨_, rfl⟩
  have y1 : w3.heap[w2.heap.size]? = some (.cells #[.int .i64 R, .int .i64 z1, .int .i64 z2] 72 (0, 0)) := by rw [← hw3]; exact heap_new _ _ _ rfl
  have hb3 : Below w2.heap.size w2 w3 := by rw [← hw3]; exact (Below.refl _ _).alloc (Nat.le_refl _) _
  have HB3 : Hid (Below w1.heap.size w1 w3) := hb2.trans (hb3.mono hb2.size)
  have HW3 := Lib.hid hw3
  have hs3 : w.heap.size < w3.heap.size := Nat.lt_of_lt_of_le hs HB3.out.size
  have g1 := (Array.getElem?_eq_some_iff.1 y1).1
  have HY1 : Hid (∀ W, Below w3.heap.size w3 W → W.heap[w2.heap.size]? = some (.cells #[.int .i64 R, .int .i64 z1, .int .i64 z2] 72 (0, 0))) := fun W hW => (hW.block _ g1).trans y1
  clear hb2 hb3 hw3 y1
  go_upto_region 2 with (rw [HW3.out])
  first | rw [HW3.out] | skip
  generalize w2.heap.size = g at *
  obtain ⟨k0, k1, k2, k3⟩ := HT1.out _ HB3.out
  dsimp only at k0 k1 k2 k3
  go_wp2_with fail
  refine (HO.out _).mono ?_
  rintro e w4 ⟨rfl, hb4⟩
  have HB4 : Hid (Below w1.heap.size w1 w4) := HB3.out.trans (hb4.mono HB3.out.size)
  have hs4 : w.heap.size < w4.heap.size := Nat.lt_of_lt_of_le hs3 hb4.size
  have HY2 : Hid (∀ W, Below w4.heap.size w4 W → W.heap[g]? = some (.cells #[.int .i64 R, .int .i64 z1, .int .i64 z2] 72 (0, 0))) := fun W hW => HY1.out W (hb4.trans (hW.mono hb4.size))
  have hg4 : g < w4.heap.size := Nat.lt_of_lt_of_le g1 hb4.size
  clear hb4 k0 k1 k2 k3 HY1
  obtain ⟨k0, k1, k2, k3⟩ := HT1.out _ HB4.out
  dsimp only at k0 k1 k2 k3
  go_wp2_with fail
  refine (HK.out _).mono ?_
  rintro e w5 ⟨rfl, hb5⟩
  have y5 := HY2.out _ hb5
  have c0 := cell_of_row _ _ 0 _ _ _ y5
  have c1 := cell_of_row _ _ 1 _ _ _ y5
  have c2 := cell_of_row _ _ 2 _ _ _ y5
  have hg5 : g < w5.heap.size := Nat.lt_of_lt_of_le hg4 hb5.size
  have HB5 : Hid (Below w1.heap.size w1 w5) := HB4.out.trans (hb5.mono HB4.out.size)
  have hs5 : w.heap.size < w5.heap.size := Nat.lt_of_lt_of_le hs4 hb5.size
  clear hb5 k0 k1 k2 k3 y5
  obtain ⟨k0, k1, k2, k3⟩ := HT1.out _ HB5.out
  dsimp only at k0 k1 k2 k3
  go_wp2_with fail
  refine (HT.out _).mono ?_
  rintro e w6 ⟨rfl, hb6⟩
  have HB6 := Lib.hid (HB.out.trans ((HB5.out.trans (hb6.mono HB5.out.size)).mono HB.out.size))
  clear hb6
  go_wp2
  go_ret
  exact ⟨rfl, HB6.out⟩
set_option maxRecDepth 100000 in
set_option maxHeartbeats 1000000 in
theorem wordof_in (x y : Int) (hx : 0 ≤ x ∧ x < 1073741824) (hy : 0 ≤ y ∧ y < 1073741824) (r : Nat) (hr : r ≤ 12) (w : World) : Calls Tryz.prog 9 #[.int .i64 x, .int .i64 y, .int .i64 r] w fun e w' => e = .returned (.int .u64 (wordN r (nearE x y r) : Nat)) ∧ Below w.heap.size w w' := by
  have HN := Lib.hid (fun w => rnear_in x y hx hy r hr w)
  have HW := Lib.hid (fun w => word_any r (nearE x y r) w)
  have hok := near_ok0 hx hy hr
  have e1 : ofW (r : Int) (nearE x y r) = wordN r (nearE x y r) := by unfold ofW; rw [if_pos hok, Int.toNat_natCast]
  have e2 : ofE (r : Int) (nearE x y r) = 0 := by unfold ofE; rw [if_pos hok]
  rw [e1, e2] at HW
  clear hok e1 e2 hx hy
  generalize wordN r (nearE x y r) = wd at *
  generalize nearE x y r = z at *
  obtain ⟨z1, z2⟩ := z
  simp only [vC, vE] at *
  go_enter Tryz.func9, Tryz.ntmps9
  go_wp2_with fail
  refine (HN.out _).mono ?_
  rintro e w1 ⟨rfl, hb1⟩
  obtain ⟨w2, hw2⟩ : ∃ W, w1.alloc (.cells #[.int .i64 z1, .int .i64 z2] 70) = W := ⟨_, rfl⟩
  have y1 : w2.heap[w1.heap.size]? = some (.cells #[.int .i64 z1, .int .i64 z2] 70 (0, 0)) := by rw [← hw2]; exact heap_new _ _ _ rfl
  have hb2 : Below w1.heap.size w1 w2 := by rw [← hw2]; exact (Below.refl _ _).alloc (Nat.le_refl _) _
  have c0 : w2.cell? ⟨w1.heap.size, 0, none⟩ = some (.int .i64 z1) := cell_of_row _ _ 0 _ _ _ y1
  have c1 : w2.cell? ⟨w1.heap.size, 1, none⟩ = some (.int .i64 z2) := cell_of_row _ _ 1 _ _ _ y1
  have g1 := (Array.getElem?_eq_some_iff.1 y1).1
  have HB2 := Lib.hid (hb1.trans (hb2.mono hb1.size))
  have HW2 := Lib.hid hw2
  clear hb1 hb2 hw2 y1
  go_upto_region 2 with (rw [HW2.out])
  first | rw [HW2.out] | skip
  go_wp2_with fail
  refine (HW.out _).mono ?_
  rintro e w3 ⟨rfl, hb3⟩
  have HB3 := Lib.hid (HB2.out.trans (hb3.mono HB2.out.size))
  clear hb3
  go_wp2
  go_ret
  exact ⟨rfl, HB3.out⟩
end Go.Proofs.YtjimcjhgjfhbiaaGreat
/- Contract of apiarylaw22.Tile. -/
namespace Go.Proofs.YtjimcjhgjfhbiaaGreat
open Go.RowKit Go.Lib Wd Cv

/-- The finest size, from r on, that is not too fine for a tile's zoom. -/
def rOf (z : Int) : Nat → Nat
  | 0 => 0
  | r + 1 => if fineT (z, 0, 0, ((r + 1 : Nat) : Int)) then rOf z r else r + 1
theorem rOf_le (z : Int) : ∀ r, rOf z r ≤ r
  | 0 => Nat.le_refl _
  | r + 1 => by
    have := rOf_le z r
    unfold rOf
    split
    · omega
    · exact Nat.le_refl _
theorem rem19 (z : Int) : ∃ (s : Int) (Z : Nat), z.tmod 19 = s ∧ -19 < s ∧ s < 19 ∧ (s + 19).tmod 19 = (Z : Int) ∧ Z ≤ 18 ∧ z % 19 = (Z : Int) := by
  have h : (-19 < z.tmod 19 ∧ z.tmod 19 < 19) ∧ (z.tmod 19 + 19) % 19 = z % 19 := by
    by_cases h0 : 0 ≤ z
    · rw [Int.tmod_eq_emod_of_nonneg h0]; omega
    · have e : z.tmod 19 = -((-z) % 19) := by rw [← Int.tmod_eq_emod_of_nonneg (show 0 ≤ -z by omega), Int.neg_tmod, Int.neg_neg]
      rw [e]; omega
  obtain ⟨⟨h1, h2⟩, h3⟩ := h
  exact ⟨_, (z % 19).toNat, rfl, h1, h2, by rw [Int.tmod_eq_emod_of_nonneg (by omega), h3]; omega, by omega, by omega⟩
def tileN (x y : Int) (Z R : Nat) : TL := ((Z : Int), x / ((2 ^ (30 - Z) : Nat) : Int), y / ((2 ^ (30 - Z) : Nat) : Int), ((rOf Z R : Nat) : Int))
theorem part_bd {x : Int} (hx : 0 ≤ x ∧ x < 1073741824) {Z k : Nat} (hk : Z + k = 30) : 0 ≤ x / ((2 ^ k : Nat) : Int) ∧ x / ((2 ^ k : Nat) : Int) < ((2 ^ Z : Nat) : Int) ∧ x / ((2 ^ k : Nat) : Int) * ((2 ^ k : Nat) : Int) ≤ x ∧ x < x / ((2 ^ k : Nat) : Int) * ((2 ^ k : Nat) : Int) + ((2 ^ k : Nat) : Int) := by
  have hp : (0 : Int) < ((2 ^ k : Nat) : Int) := Int.natCast_pos.2 (Nat.pow_pos (by decide))
  have h2 : ((2 ^ Z : Nat) : Int) * ((2 ^ k : Nat) : Int) = 1073741824 := by rw [← Int.natCast_mul, ← Nat.pow_add, hk]; rfl
  generalize ((2 ^ k : Nat) : Int) = p at *
  refine ⟨Int.ediv_nonneg hx.1 (by omega), ?_, Int.ediv_mul_le x (by omega), ?_⟩
  · exact Int.ediv_lt_of_lt_mul hp (by rw [h2]; exact hx.2)
  · have := Int.lt_ediv_add_one_mul_self x hp
    rwa [Int.add_mul, Int.one_mul] at this
theorem fine_only {z x y : Int} {r : Int} (h : isT (z, x, y, r) = true) : fineT (z, x, y, r) = fineT (z, 0, 0, r) := by
  have h2 : isT (z, 0, 0, r) = true := by
    obtain ⟨h1, h2, h3, h4⟩ := isT_parts h
    dsimp only at h1 h2 h3 h4
    unfold isT
    simp only [Bool.and_eq_true, decide_eq_true_eq]
    omega
  unfold fineT
  rw [h, h2]
theorem coarse (z : Int) : fineT (z, 0, 0, 0) = false := by
  cases hi : isT (z, 0, 0, 0) with
  | false => unfold fineT; rw [hi]; rfl
  | true =>
    obtain ⟨h1, -⟩ := isT_parts hi
    dsimp only at h1
    obtain ⟨j, hj⟩ : ∃ j : Nat, 18 - z = (j : Int) := ⟨(18 - z).toNat, by omega⟩
    have hp : 2 ^ j ≤ 262144 := Nat.le_trans (Nat.pow_le_pow_right (by decide) (show j ≤ 18 by omega)) (by decide)
    have hpp : 2 ^ j * 2 ^ j ≤ 262144 * 262144 := Nat.mul_le_mul hp hp
    unfold fineT
    rw [hi, hj, Int.toNat_natCast, Bool.true_and, decide_eq_false]
    rw [show ((12 : Int) - 0).toNat = 12 by rfl, Nat.mul_assoc]
    have : 169 * 7 ^ 12 = 2339177536969 := by decide
    omega
theorem rOf_ok (z : Int) : ∀ r, fineT (z, 0, 0, ((rOf z r : Nat) : Int)) = false
  | 0 => coarse z
  | r + 1 => by
    have ih := rOf_ok z r
    unfold rOf
    split
    · exact ih
    · next h => simpa using h
/-- The law's tile may be, and has the point. -/
theorem tileN_ok {x y : Int} (hx : 0 ≤ x ∧ x < 1073741824) (hy : 0 ≤ y ∧ y < 1073741824) {Z R : Nat} (hZ : Z ≤ 18) (hR : R ≤ 12) :
    isT (tileN x y Z R) = true ∧ okT (tileN x y Z R) = 0 ∧ ((loT (tileN x y Z R)).1 ≤ x ∧ x ≤ (hiT (tileN x y Z R)).1) ∧ (loT (tileN x y Z R)).2 ≤ y ∧ y ≤ (hiT (tileN x y Z R)).2 := by
  have hr := rOf_le (Z : Int) R
  obtain ⟨a1, a2, a3, a4⟩ := part_bd hx (Z := Z) (k := 30 - Z) (by omega)
  obtain ⟨b1, b2, b3, b4⟩ := part_bd hy (Z := Z) (k := 30 - Z) (by omega)
  have hi : isT (tileN x y Z R) = true := by
    unfold isT tileN
    simp only [Bool.and_eq_true, decide_eq_true_eq, Int.toNat_natCast]
    omega
  have hs : sdT (tileN x y Z R) = ((2 ^ (30 - Z) : Nat) : Int) := by
    unfold sdT tileN
    dsimp only
    rw [show (30 - (Z : Int)).toNat = 30 - Z by omega]
  refine ⟨hi, ?_, ?_⟩
  · unfold okT
    rw [if_pos hi, show fineT (tileN x y Z R) = false from (fine_only hi).trans (rOf_ok Z R)]
    rfl
  · unfold loT hiT
    rw [hs]
    unfold tileN
    dsimp only
    omega
set_option maxRecDepth 100000 in
set_option maxHeartbeats 4000000 in
theorem tile_any (x y z r : Int) (w : World) : Calls Tryz.prog 6 #[.int .i64 x, .int .i64 y, .int .i64 z, .int .i64 r] w fun e w' => e = .returned (tlV (tileN (x % 1073741824) (y % 1073741824) (z % 19).toNat (r % 13).toNat)) ∧ Below w.heap.size w w' := by
  obtain ⟨S, R, hS, hS1, hS2, hRe, hR, hr13⟩ := res_of r
  obtain ⟨U, Z, hU, hU1, hU2, hZe, hZ, hz19⟩ := rem19 z
  rw [hr13, hz19, Int.toNat_natCast, Int.toNat_natCast]
  have e0 : bits BinOp.and IntKind.i64 x 1073741823 = x % 1073741824 := i64_and_mask x 30 (by omega) 1073741823 rfl
  have e1 : bits BinOp.and IntKind.i64 y 1073741823 = y % 1073741824 := i64_and_mask y 30 (by omega) 1073741823 rfl
  have hx : 0 ≤ x % 1073741824 ∧ x % 1073741824 < 1073741824 := by omega
  have hy : 0 ≤ y % 1073741824 ∧ y % 1073741824 < 1073741824 := by omega
  have HFI := Lib.hid (fun t w => rfine_any t w)
  unfold tlV at HFI
  have HLE := Lib.hid (rOf_le (Z : Int) R)
  obtain ⟨k, hk⟩ : ∃ k : Nat, 30 - Z = k := ⟨_, rfl⟩
  have hkI : (30 : Int) - (Z : Int) = (k : Int) := by omega
  unfold tlV tileN
  dsimp only
  rw [hk]
  obtain ⟨p, hp⟩ : ∃ p : Int, ((2 ^ k : Nat) : Int) = p := ⟨_, rfl⟩
  have hpk : (2 : Int) ^ k = p := by rw [← hp, Int.natCast_pow]; rfl
  rw [hp]
  obtain ⟨w1, hw1⟩ : ∃ W, w.alloc (.cells #[.int .i64 0, .int .i64 0, .int .i64 0, .int .i64 0] 26) = W := ⟨_, rfl⟩
  have y0 : w1.heap[w.heap.size]? = some (.cells #[.int .i64 0, .int .i64 0, .int .i64 0, .int .i64 0] 26 (0, 0)) := by rw [← hw1]; exact heap_new _ _ _ rfl
  have hb1 : Below w.heap.size w w1 := by rw [← hw1]; exact (Below.refl _ _).alloc (Nat.le_refl _) _
  have HW1 := Lib.hid hw1
  have HB1 := Lib.hid hb1
  have HY0 := Lib.hid y0
  generalize x % 1073741824 = X at *
  generalize y % 1073741824 = Y at *
  clear hw1 hb1 y0 hp hr13 hz19
  go_enter Tryz.func6, Tryz.ntmps6
  go_upto_region 2 with (first | rw [hS] | rw [hRe] | rw [hU] | rw [hZe] | rw [HW1.out])
  go_loopw [3] (fun rv wr => ∃ i : Nat, i ≤ R ∧ rv = .int .i64 i ∧ Hid (rOf Z i = rOf Z R) ∧ Hid (Below w1.heap.size w1 wr)) (fun rv _ => (intOf rv).toNat)
  case atStart => exact ⟨R, Nat.le_refl _, rfl, rfl, Below.refl _ _⟩
  case round =>
    obtain ⟨i, hi, rfl, HI, HBR⟩ := hrel
    cases i with
    | zero =>
      have HRR : Hid ((rOf (Z : Int) R : Int) = 0) := by show _ = _; rw [← HI.out]; rfl
      have y1 := (HBR.out.block _ (Array.getElem?_eq_some_iff.1 HY0.out).1).trans HY0.out
      have hg := (Array.getElem?_eq_some_iff.1 y1).1
      have x0 := cell_of_row _ _ 0 _ _ _ y1
      have x1 := cell_of_row _ _ 1 _ _ _ y1
      have x2 := cell_of_row _ _ 2 _ _ _ y1
      have x3 := cell_of_row _ _ 3 _ _ _ y1
      have f0 : ∀ j, wr.frozen? ⟨w.heap.size, j, none⟩ = false := fun j => by simp [World.frozen?, y1]
      have HE := Lib.hid (put_four y1 (.int .i64 Z) (.int .i64 (X / p)) (.int .i64 (Y / p)) (.int .i64 0))
      have HBF := Lib.hid (HB1.out.trans (HBR.out.mono HB1.out.size))
      clear y1 HBR
      go_upto_region 5 with (fail)
      go_wp2_with (first | (with_reducible refine wp_region_lex (by kernel_rfl) (by kernel_rfl) ?_) | (with_reducible refine OnlyG.intro (by kernel_rfl) ?_))
      refine bodyPost_ret (results_cell_row rfl _ _ w.heap.size 26 _ (0, 0) _ rfl HE.out Tryz.underlying26 rfl (by kernel_rfl)) rfl ⟨by rw [HRR.out], ?_⟩
      exact ((((HBF.out.setCell (p := ⟨w.heap.size, 0, none⟩) (Nat.le_refl _) _).setCell (p := ⟨w.heap.size, 1, none⟩) (Nat.le_refl _) _).setCell (p := ⟨w.heap.size, 2, none⟩) (Nat.le_refl _) _).setCell (p := ⟨w.heap.size, 3, none⟩) (Nat.le_refl _) _).drew
    | succ i =>
      have hpos : (0 : Int) < ((i + 1 : Nat) : Int) := by omega
      have HF := Lib.hid (HFI.out ((Z : Int), 0, 0, ((i + 1 : Nat) : Int)) wr)
      cases hf : fineT ((Z : Int), 0, 0, ((i + 1 : Nat) : Int)) with
      | true =>
        have HI2 : Hid (rOf Z i = rOf Z R) := by
          show _ = _
          rw [← HI.out]
          show _ = if _ then _ else _
          rw [if_pos hf]
        rw [hf] at HF
        clear hf HI
        go_wp2_with fail
        refine HF.out.mono ?_
        rintro e w2 ⟨rfl, hb2⟩
        have HB2 : Hid (Below w1.heap.size w1 w2) := HBR.out.trans (hb2.mono HBR.out.size)
        clear hb2 HF HBR
        go_wp2
        go_roundw
        case rel => exact ⟨i, by omega, by go_num, HI2, HB2⟩
        case measure => simp [intOf]
      | false =>
        have HI2 : Hid (rOf Z R = i + 1) := by
          show _ = _
          rw [← HI.out]
          show (if _ then _ else _) = _
          rw [if_neg (by rw [hf]; simp)]
        rw [hf] at HF
        clear hf HI
        go_wp2_with fail
        refine HF.out.mono ?_
        rintro e w2 ⟨rfl, hb2⟩
        have HBS : Hid (Below w1.heap.size w1 w2) := HBR.out.trans (hb2.mono HBR.out.size)
        clear hb2 HF HBR
        have HBR := Lib.hid HBS.out
        clear HBS
        have HRR : Hid ((rOf (Z : Int) R : Int) = ((i + 1 : Nat) : Int)) := by show _ = _; rw [HI2.out]
        have y1 := (HBR.out.block _ (Array.getElem?_eq_some_iff.1 HY0.out).1).trans HY0.out
        have hg := (Array.getElem?_eq_some_iff.1 y1).1
        have x0 := cell_of_row _ _ 0 _ _ _ y1
        have x1 := cell_of_row _ _ 1 _ _ _ y1
        have x2 := cell_of_row _ _ 2 _ _ _ y1
        have x3 := cell_of_row _ _ 3 _ _ _ y1
        have f0 : ∀ j, w2.frozen? ⟨w.heap.size, j, none⟩ = false := fun j => by simp [World.frozen?, y1]
        have HE := Lib.hid (put_four y1 (.int .i64 Z) (.int .i64 (X / p)) (.int .i64 (Y / p)) (.int .i64 ((i + 1 : Nat) : Int)))
        have HBF := Lib.hid (HB1.out.trans (HBR.out.mono HB1.out.size))
        clear y1 HBR
        go_upto_region 5 with (fail)
        go_wp2_with (first | (with_reducible refine wp_region_lex (by kernel_rfl) (by kernel_rfl) ?_) | (with_reducible refine OnlyG.intro (by kernel_rfl) ?_))
        refine bodyPost_ret (results_cell_row rfl _ _ w.heap.size 26 _ (0, 0) _ rfl HE.out Tryz.underlying26 rfl (by kernel_rfl)) rfl ⟨by rw [HRR.out], ?_⟩
        exact ((((HBF.out.setCell (p := ⟨w.heap.size, 0, none⟩) (Nat.le_refl _) _).setCell (p := ⟨w.heap.size, 1, none⟩) (Nat.le_refl _) _).setCell (p := ⟨w.heap.size, 2, none⟩) (Nat.le_refl _) _).setCell (p := ⟨w.heap.size, 3, none⟩) (Nat.le_refl _) _).drew
end Go.Proofs.YtjimcjhgjfhbiaaGreat
/- For the law CacheClears: a cache of the call's own beside a block that stays; the list of tiles. -/
namespace Go.Proofs.YtjimcjhgjfhbiaaGreat
open Go.RowKit Go.Lib Wd Cv

/-- A cache of the call's own, and blocks beside it that hold what they hold. -/
def MineF (w W : World) (r mst N : Nat) (A : List AE) (G : List (Nat × Obj)) : Prop := ∃ S T, CacheIs W r S T mst N A ∧ Below w.heap.size w W ∧ (∀ k, S k ∨ T k → w.heap.size ≤ k ∧ ∀ q ∈ G, k ≠ q.1) ∧ ∀ q ∈ G, q.1 < W.heap.size ∧ W.heap[q.1]? = some q.2
theorem MineF.mine {w W : World} {r mst N : Nat} {A : List AE} {G : List (Nat × Obj)} (h : MineF w W r mst N A G) : Mine w W r mst N A := by
  obtain ⟨S, T, h1, h2, h3, _⟩ := h
  exact ⟨S, T, h1, h2, fun k hk => (h3 k hk).1⟩
theorem MineF.at {w W : World} {r mst N : Nat} {A : List AE} {G : List (Nat × Obj)} (h : MineF w W r mst N A G) : ∀ q ∈ G, q.1 < W.heap.size ∧ W.heap[q.1]? = some q.2 := by
  obtain ⟨S, T, _, _, _, h4⟩ := h
  exact h4
theorem MineF.sub {w W : World} {r mst N : Nat} {A : List AE} {G G' : List (Nat × Obj)} (h : MineF w W r mst N A G) (hs : ∀ q ∈ G', q ∈ G) : MineF w W r mst N A G' := by
  obtain ⟨S, T, h1, h2, h3, h4⟩ := h
  exact ⟨S, T, h1, h2, fun k hk => ⟨(h3 k hk).1, fun q hq => (h3 k hk).2 q (hs q hq)⟩, fun q hq => h4 q (hs q hq)⟩
theorem MineF.below {w W W' : World} {r mst N : Nat} {A : List AE} {G : List (Nat × Obj)} (h : MineF w W r mst N A G) (hb : Below W.heap.size W W') : MineF w W' r mst N A G := by
  obtain ⟨S, T, h1, h2, h3, h4⟩ := h
  exact ⟨S, T, h1.below hb, h2.trans (hb.mono h2.size), h3, fun q hq => ⟨Nat.lt_of_lt_of_le (h4 q hq).1 hb.size, (hb.block q.1 (h4 q hq).1).trans (h4 q hq).2⟩⟩
/-- A block that has just been made stays beside the cache. -/
theorem Mine.beside {w W : World} {r mst N : Nat} {A : List AE} (h : Mine w W r mst N A) (o : Obj) : MineF w (W.alloc o) r mst N A [(W.heap.size, o)] := by
  obtain ⟨S, T, h1, h2, h3⟩ := h
  have hb : Below W.heap.size W (W.alloc o) := (Below.refl _ _).alloc (Nat.le_refl _) _
  refine ⟨S, T, h1.below hb, h2.trans (hb.mono h2.size), fun k hk => ⟨h3 k hk, fun q hq => ?_⟩, fun q hq => ?_⟩
  · rw [List.mem_singleton.1 hq]; have := h1.lt k hk; dsimp only; omega
  · rw [List.mem_singleton.1 hq]; exact ⟨by rw [World.size_alloc]; exact Nat.lt_succ_self _, heap_new _ _ _ rfl⟩
theorem mf_put {w W W1 : World} {r mst N n c : Nat} {A : List AE} {G : List (Nat × Obj)} {ao : Option Addr} (h : MineF w W r mst N A G) (hb : Below W.heap.size W W1) (G' : List (Nat × Obj)) (hG : ∀ q ∈ G', W.heap.size ≤ q.1 ∧ q.1 < W1.heap.size ∧ W1.heap[q.1]? = some q.2) (hN : N < 1000000000) (t : TL) (l : List Int) (hl : l.length = n) (hbig : n ≤ 1000000) (hby : BytesAt W1 ao l) (hz : ao = none → n = 0 ∧ c = 0) :
    Calls Tryz.prog 7 #[.pointer (some ⟨r, 0, none⟩), tlV t, .slice ao n c] W1 fun e w' => e = .returned (.bool (goodP mst t)) ∧ MineF w w' r mst (N + 1) (if goodP mst t then putA mst A t l else A) (G' ++ G) := by
  obtain ⟨S, T, h1, h2, h3, h4⟩ := h
  have hlt := h1.lt
  have h2' := h2.trans (hb.mono h2.size)
  have hold : ∀ q ∈ G' ++ G, q.1 < W1.heap.size ∧ W1.heap[q.1]? = some q.2 ∧ ∀ k, S k ∨ T k → k ≠ q.1 := fun q hq => by
    rcases List.mem_append.1 hq with hq | hq
    · obtain ⟨g1, g2, g3⟩ := hG q hq
      exact ⟨g2, g3, fun k hk => by have := hlt k hk; omega⟩
    · obtain ⟨g1, g2⟩ := h4 q hq
      exact ⟨Nat.lt_of_lt_of_le g1 hb.size, (hb.block q.1 g1).trans g2, fun k hk => (h3 k hk).2 q hq⟩
  refine (kput_any (h1.below hb) hN t l hl hbig hby hz).mono ?_
  rintro e w' ⟨rfl, S', T', p1, p2, p3⟩
  refine ⟨rfl, S', T', p1, mine_turn h2' p2 fun k hk => (h3 k (.inl hk)).1, fun k hk => ?_, fun q hq => ?_⟩
  · rcases Nat.lt_or_ge k W1.heap.size with h6 | h6
    · exact ⟨(h3 k (p3 k h6 hk)).1, fun q hq => (hold q hq).2.2 k (p3 k h6 hk)⟩
    · exact ⟨Nat.le_trans h2'.size h6, fun q hq => by have := (hold q hq).1; omega⟩
  · obtain ⟨g1, g2, g3⟩ := hold q hq
    exact ⟨Nat.lt_of_lt_of_le g1 p2.2.2.2.1, (p2.2.2.2.2 q.1 g1 fun hs => g3 q.1 (.inl hs) rfl).trans g2⟩
theorem mine_clear {w W : World} {r mst N : Nat} {A : List AE} (h : Mine w W r mst N A) (hT : ∀ a ∈ A, isT a.1 = true) (x y : Int) :
    Calls Tryz.prog 10 #[.pointer (some ⟨r, 0, none⟩), .int .i64 x, .int .i64 y] W fun e w' => e = .returned (.int .i64 ((A.length : Int) - (clearA A x y).length)) ∧ Mine w w' r mst N (clearA A x y) := by
  obtain ⟨S, T, h1, h2, h3⟩ := h
  refine (kclear_any h1 hT x y).mono ?_
  rintro e w' ⟨rfl, S', T', p1, p2, p3⟩
  refine ⟨rfl, S', T', p1, mine_turn h2 p2 fun k hk => h3 k (.inl hk), fun k hk => ?_⟩
  rcases Nat.lt_or_ge k W.heap.size with h4 | h4
  · exact h3 k (p3 k h4 hk)
  · exact Nat.le_trans h2.size h4
theorem clear_out (A : List AE) (y : Int) : clearA A (-1) y = A := by
  unfold clearA
  refine List.filter_eq_self.2 fun a _ => ?_
  unfold goneT
  have : worldB (-1) y = false := by unfold worldB; simp
  rw [this]; rfl
theorem bx_tile {t : TL} (h : isT t = true) : bxOk (loT t) (hiT t) = true := by
  obtain ⟨k, _, _, _, _, b1, b2, ⟨b3, b4⟩, b5, b6⟩ := tile_bd h
  have e1 : (hiT t).1 = (loT t).1 + sdT t := rfl
  have e2 : (hiT t).2 = (loT t).2 + sdT t := rfl
  unfold bxOk axOk axG
  simp
  omega
/-- A point clears the tile that has it. -/
theorem gone_own {x y : Int} (hx : 0 ≤ x ∧ x < 1073741824) (hy : 0 ≤ y ∧ y < 1073741824) {Z R : Nat} (hZ : Z ≤ 18) (hR : R ≤ 12) : goneT x y (tileN x y Z R) = true := by
  obtain ⟨h1, _, h3, h4⟩ := tileN_ok hx hy hZ hR
  have hr : rOf (Z : Int) R ≤ 12 := Nat.le_trans (rOf_le _ _) hR
  have he : (tileN x y Z R).2.2.2 = ((rOf (Z : Int) R : Nat) : Int) := rfl
  unfold goneT vtB
  rw [h1, (worldB_iff x y).2 ⟨hx, hy⟩, he, Int.toNat_natCast, Bool.true_and, Bool.true_and]
  exact ct_near hr hx hy h3 h4 (bx_tile h1)
/-- The list ahead of round i, and how many of it stay. -/
def ClI (x y : Int) (i c : Nat) (A : List AE) : Prop := A.length ≤ 2 * i ∧ (∀ a ∈ A, isT a.1 = true ∧ a.1.1 < i) ∧ c = (clearA A x y).length
theorem cl_zero (x y : Int) : ClI x y 0 0 [] := ⟨Nat.le_refl _, (fun a ha => by cases ha), rfl⟩
theorem cl_lt {x y : Int} {i c : Nat} {A : List AE} (h : ClI x y i c A) : c ≤ 2 * i := by
  rw [h.2.2]; unfold clearA; exact Nat.le_trans (List.length_filter_le _ _) h.1
theorem at_none {A : List AE} {t : TL} (h : ∀ a ∈ A, a.1 ≠ t) : atA A t = A.length := by
  unfold atA
  exact List.findIdx_eq_length_of_false fun a ha => decide_eq_false (h a ha)
theorem put_app {A : List AE} {t : TL} {l : List Int} (h : ∀ a ∈ A, a.1 ≠ t) (hl : A.length < 100) : putA 100 A t l = A ++ [(t, l)] := by
  unfold putA
  rw [at_none h, if_neg (Nat.lt_irrefl _), if_neg (by omega)]
theorem put_same {A : List AE} {t : TL} {l m : List Int} (h : ∀ a ∈ A, a.1 ≠ t) : putA 100 (A ++ [(t, m)]) t l = A ++ [(t, l)] := by
  have e : atA (A ++ [(t, m)]) t = A.length := by
    unfold atA
    rw [List.findIdx_append, List.findIdx_eq_length_of_false (xs := A) (fun a ha => decide_eq_false (h a ha)), if_neg (Nat.lt_irrefl _)]
    simp
  unfold putA
  rw [e, if_pos (by simp), List.eraseIdx_append_of_length_le (Nat.le_refl _), Nat.sub_self]
  simp
/-- Both Puts of one round: the tile of the point's own, and the far one. -/
theorem cl_step {x y : Int} {i c : Nat} {A : List AE} (hi : i ≤ 18) (h : ClI x y i c A) {t u : TL} (ht : isT t = true) (hu : isT u = true) (ht0 : t.1 = (i : Int)) (hu0 : u.1 = (i : Int)) (hg : goneT x y t = true) (l m : List Int) :
    ClI x y (i + 1) (if decide (u ≠ t) && !goneT x y u then c + 1 else c) (putA 100 (putA 100 A t l) u m) := by
  obtain ⟨h1, h2, h3⟩ := h
  have nt : ∀ a ∈ A, a.1 ≠ t := fun a ha e => by have := (h2 a ha).2; rw [e, ht0] at this; omega
  have nu : ∀ a ∈ A, a.1 ≠ u := fun a ha e => by have := (h2 a ha).2; rw [e, hu0] at this; omega
  have hf : ∀ (B : List AE) (a : AE), clearA (B ++ [a]) x y = clearA B x y ++ if goneT x y a.1 then [] else [a] := fun B a => by
    unfold clearA
    rw [List.filter_append]
    congr 1
    cases hq : goneT x y a.1 <;> simp [hq]
  rw [put_app nt (by omega)]
  by_cases e : u = t
  · subst e
    rw [put_same nt]
    refine ⟨by rw [List.length_append]; simp; omega, fun a ha => ?_, ?_⟩
    · rcases List.mem_append.1 ha with h4 | h4
      · have := h2 a h4; exact ⟨this.1, by omega⟩
      · rw [List.mem_singleton.1 h4]; exact ⟨ht, by rw [ht0]; omega⟩
    · rw [hf, hg, if_pos rfl, List.append_nil, decide_eq_false (fun h => h rfl), Bool.false_and, if_neg (by simp)]
      exact h3
  · have nu2 : ∀ a ∈ A ++ [((t, l) : AE)], a.1 ≠ u := fun a ha => by
      rcases List.mem_append.1 ha with h4 | h4
      · exact nu a h4
      · rw [List.mem_singleton.1 h4]; exact fun h => e h.symm
    rw [put_app nu2 (by rw [List.length_append]; simp; omega)]
    refine ⟨by rw [List.length_append, List.length_append]; simp; omega, fun a ha => ?_, ?_⟩
    · rcases List.mem_append.1 ha with h4 | h4
      · rcases List.mem_append.1 h4 with h5 | h5
        · have := h2 a h5; exact ⟨this.1, by omega⟩
        · rw [List.mem_singleton.1 h5]; exact ⟨ht, by rw [ht0]; omega⟩
      · rw [List.mem_singleton.1 h4]; exact ⟨hu, by rw [hu0]; omega⟩
    · rw [hf, hf, hg, if_pos rfl, List.append_nil, decide_eq_true e, Bool.true_and]
      cases goneT x y u <;> simp [h3]
theorem cl_none {x y : Int} {A : List AE} {t : TL} (hg : goneT x y t = true) : ∀ a ∈ clearA A x y, a.1 ≠ t := fun a ha e => by
  unfold clearA at ha
  have := (List.mem_filter.1 ha).2
  rw [e, hg] at this
  simp at this
end Go.Proofs.YtjimcjhgjfhbiaaGreat
