/- Joined: RtB, CvOpen: contracts and plain laws, each with its own heading below. -/
import Derived.Lib.MinMax
import Derived.Test.YtdbfimdcaacjhaaGreatPackAI
import Derived.Test.YtdbfimdcaacjhaaGreatPackAF
import Derived.ChangeArms
import Derived.OpenShut
/- The contract of apiaryref9.Touches: as the program tells it. -/
namespace Go.Proofs.YtdbfimdcaacjhaaGreat
open Go.RowKit Go.Lib Wd

theorem bx_far (lo hi : E2) : bxOk lo hi = !(farB lo.1 lo.2 || (farB hi.1 hi.2 || (decide (hi.1 < lo.1) || decide (hi.2 < lo.2)))) := by
  rw [Bool.eq_iff_iff]
  unfold bxOk axOk axG farB
  simp
  omega
theorem cross_small {p q c : E2} (hp : Sm 100000000000 p) (hq : Sm 16777216 (subE q p)) (hc : Sm 100000000000 c) : crossF p.1 p.2 q.1 q.2 c.1 c.2 = if crossE p q c < 0 then -1 else if 0 < crossE p q c then 1 else 0 := by
  obtain ⟨p1, p2⟩ := p
  obtain ⟨q1, q2⟩ := q
  obtain ⟨c1, c2⟩ := c
  unfold Sm subE at *
  simp only at *
  have hw : ∀ {x : Int}, -9223372036854775808 ≤ x → x ≤ 9223372036854775807 → wrap64 x = x := fun h1 h2 => by unfold wrap64; omega
  unfold crossF crossE
  simp only
  rw [hw (by omega) (by omega), hw (by omega) (by omega), hw (by omega) (by omega), hw (by omega) (by omega)]
  generalize (q1 - p1) * (c2 - p2) = a
  generalize (q2 - p2) * (c1 - p1) = b
  (repeat' split) <;> omega
/-- The corner on the other side lies left of an edge. -/
theorem cross_opp {m : Nat} (hm : m ≤ 12) (z : E2) {k : Nat} (hk : k < 6) : 0 < crossE (hexC m z k) (hexC m z ((k + 1) % 6)) (hexC m z ((k + 3) % 6)) := by
  obtain ⟨h0, h1, h2, h3, h4, h5⟩ := hexC_eq m z
  have hd := det_d hm
  have hA := aN_pos m
  have c := cross_six hm z
  rcases (show k = 0 ∨ k = 1 ∨ k = 2 ∨ k = 3 ∨ k = 4 ∨ k = 5 by omega) with rfl | rfl | rfl | rfl | rfl | rfl
  · rw [show (0 + 1) % 6 = 1 from rfl, show (0 + 3) % 6 = 3 from rfl, (c _).1, h3]
    generalize d0E m = d at *
    generalize d1E m = e at *
    unfold subE; simp only; grind
  · rw [show (1 + 1) % 6 = 2 from rfl, show (1 + 3) % 6 = 4 from rfl, (c _).2.1, h4]
    generalize d0E m = d at *
    generalize d1E m = e at *
    unfold subE; simp only; grind
  · rw [show (2 + 1) % 6 = 3 from rfl, show (2 + 3) % 6 = 5 from rfl, (c _).2.2.1, h5]
    generalize d0E m = d at *
    generalize d1E m = e at *
    unfold subE; simp only; grind
  · rw [show (3 + 1) % 6 = 4 from rfl, show (3 + 3) % 6 = 0 from rfl, (c _).2.2.2.1, h0]
    generalize d0E m = d at *
    generalize d1E m = e at *
    unfold addE; simp only; grind
  · rw [show (4 + 1) % 6 = 5 from rfl, show (4 + 3) % 6 = 1 from rfl, (c _).2.2.2.2.1, h1]
    generalize d0E m = d at *
    generalize d1E m = e at *
    unfold addE; simp only; grind
  · rw [show (5 + 1) % 6 = 0 from rfl, show (5 + 3) % 6 = 2 from rfl, (c _).2.2.2.2.2, h2]
    generalize d0E m = d at *
    generalize d1E m = e at *
    unfold addE subE; simp only; grind
theorem ring_far {l : List E2} (h : RingSm l) {k : Nat} (hk : k < 6) : Sm 100000000000 (prG l k) := (h k hk).1
theorem two_pts (w : World) (p q : E2) (t : TypeId) :
    Two (((w.alloc (.cells #[.int .i64 p.1, .int .i64 p.2] t)).alloc (.cells #[.int .i64 q.1, .int .i64 q.2] t)).drew) w.heap.size (.int .i64 p.1) (.int .i64 p.2) ∧ Two (((w.alloc (.cells #[.int .i64 p.1, .int .i64 p.2] t)).alloc (.cells #[.int .i64 q.1, .int .i64 q.2] t)).drew) (w.heap.size + 1) (.int .i64 q.1) (.int .i64 q.2) ∧
    Below w.heap.size w (((w.alloc (.cells #[.int .i64 p.1, .int .i64 p.2] t)).alloc (.cells #[.int .i64 q.1, .int .i64 q.2] t)).drew) ∧ w.heap.size + 1 < (((w.alloc (.cells #[.int .i64 p.1, .int .i64 p.2] t)).alloc (.cells #[.int .i64 q.1, .int .i64 q.2] t)).drew).heap.size :=
  ⟨(Two.of_row (t := t) (f := _) (heap_new _ _ _ rfl)).later (by simp) ((Below.refl _ _).alloc (Nat.le_refl _) _).drew, Two.of_row (t := t) (f := _) (heap_new _ _ _ (by simp)), (((Below.refl _ w).alloc (Nat.le_refl _) _).alloc (by simp) _).drew, by show _ < ((w.alloc _).alloc _).heap.size; simp⟩
set_option maxRecDepth 100000 in
set_option maxHeartbeats 16000000 in
theorem rtouch_any (r : Int) (z lo hi : E2) (w : World) :
    Calls Tryz.prog 18 #[vC r z, vE lo, vE hi] w fun e w' => e = .returned (.bool (ctB r z lo hi)) ∧ Below w.heap.size w w' := by
  have HOK := Lib.hid (rok_any r z)
  have HF1 := Lib.hid (far_any lo.1 lo.2)
  have HF2 := Lib.hid (far_any hi.1 hi.2)
  have HV : Hid (ctB r z lo hi = (!(farB lo.1 lo.2 || (farB hi.1 hi.2 || (decide (hi.1 < lo.1) || decide (hi.2 < lo.2)))) && (okB r z && touchB (prG (hexL (12 - r.toNat) z)) (triE lo) (triE hi)))) := by show _ = _; rw [← bx_far]; rfl
  obtain ⟨X, hX⟩ : ∃ X, ctB r z lo hi = X := ⟨_, rfl⟩
  rw [hX] at HV ⊢
  clear hX
  have T0 : Hid (Tri (((w.alloc (.cells #[.int .i64 r, .int .i64 z.1, .int .i64 z.2] 27)).alloc (.cells #[.int .i64 lo.1, .int .i64 lo.2] 30)).alloc (.cells #[.int .i64 hi.1, .int .i64 hi.2] 30)) w.heap.size r z) := (show Tri (w.alloc (.cells #[.int .i64 r, .int .i64 z.1, .int .i64 z.2] 27)) w.heap.size r z from heap_new _ _ _ rfl).later (((Below.refl _ _).alloc (Nat.le_refl _) _).alloc (by simp) _)
  have L0 : Hid (Two (((w.alloc (.cells #[.int .i64 r, .int .i64 z.1, .int .i64 z.2] 27)).alloc (.cells #[.int .i64 lo.1, .int .i64 lo.2] 30)).alloc (.cells #[.int .i64 hi.1, .int .i64 hi.2] 30)) (w.heap.size + 1) (.int .i64 lo.1) (.int .i64 lo.2)) := (Two.of_row (t := 30) (f := _) (heap_new _ _ _ (by simp))).later (by simp) ((Below.refl _ _).alloc (Nat.le_refl _) _)
  have H0 : Hid (Two (((w.alloc (.cells #[.int .i64 r, .int .i64 z.1, .int .i64 z.2] 27)).alloc (.cells #[.int .i64 lo.1, .int .i64 lo.2] 30)).alloc (.cells #[.int .i64 hi.1, .int .i64 hi.2] 30)) (w.heap.size + 1 + 1) (.int .i64 hi.1) (.int .i64 hi.2)) := Two.of_row (t := 30) (f := _) (heap_new _ _ _ (by simp))
  have B0 : Hid (Below w.heap.size w (((w.alloc (.cells #[.int .i64 r, .int .i64 z.1, .int .i64 z.2] 27)).alloc (.cells #[.int .i64 lo.1, .int .i64 lo.2] 30)).alloc (.cells #[.int .i64 hi.1, .int .i64 hi.2] 30))) := (((Below.refl w.heap.size w).alloc (Nat.le_refl _) _).alloc (by simp) _).alloc (by simp <;> omega) _
  have s0 : w.heap.size + 3 ≤ (((w.alloc (.cells #[.int .i64 r, .int .i64 z.1, .int .i64 z.2] 27)).alloc (.cells #[.int .i64 lo.1, .int .i64 lo.2] 30)).alloc (.cells #[.int .i64 hi.1, .int .i64 hi.2] 30)).heap.size := by simp
  simp only [vE, vC] at *
  go_enter Tryz.func18, Tryz.ntmps18
  go_upto_region 1 with (fail)
  generalize ((w.alloc (.cells #[.int .i64 r, .int .i64 z.1, .int .i64 z.2] 27)).alloc (.cells #[.int .i64 lo.1, .int .i64 lo.2] 30)).alloc (.cells #[.int .i64 hi.1, .int .i64 hi.2] 30) = w1 at *
  obtain ⟨t0, t1, t2, -, -, -, -⟩ := T0.out.cells
  go_wp2_with fail
  refine (HOK.out _).mono ?_
  rintro e w2 ⟨rfl, hb2⟩
  have T2 := Lib.hid (T0.out.later hb2)
  have L2 := Lib.hid (L0.out.later (by omega) hb2)
  have H2 := Lib.hid (H0.out.later (by omega) hb2)
  have B2 := Lib.hid (B0.out.trans (hb2.mono B0.out.size))
  have s2 : w.heap.size + 3 ≤ w2.heap.size := by have := hb2.size; omega
  clear hb2 T0 L0 H0 B0 t0 t1 t2 HOK
  obtain ⟨l0, l1⟩ := L2.out
  obtain ⟨h0, h1⟩ := H2.out
  cases hok : okB r z with
  | false =>
    have HXF : Hid (X = false) := by show _ = _; rw [HV.out, hok]; simp
    clear HV hok
    go_wp2
    go_ret
    rw [HXF.out]
    exact ⟨rfl, B2.out⟩
  | true =>
  rw [hok] at HV
  cases hf1 : farB lo.1 lo.2 with
  | true =>
    have HXF : Hid (X = false) := by show _ = _; rw [HV.out, hf1]; rfl
    rw [hf1] at HF1
    clear HV hok hf1
    go_wp2_with fail
    refine (HF1.out _).mono ?_
    rintro e wq ⟨rfl, rfl⟩
    go_wp2
    go_ret
    rw [HXF.out]
    exact ⟨rfl, B2.out⟩
  | false =>
  rw [hf1] at HV HF1
  cases hf2 : farB hi.1 hi.2 with
  | true =>
    have HXF : Hid (X = false) := by show _ = _; rw [HV.out, hf2]; rfl
    rw [hf2] at HF2
    clear HV hok hf1 hf2
    go_wp2_with fail
    refine (HF1.out _).mono ?_
    rintro e wq ⟨rfl, rfl⟩
    go_wp2_with fail
    refine (HF2.out _).mono ?_
    rintro e wq ⟨rfl, rfl⟩
    go_wp2
    go_ret
    rw [HXF.out]
    exact ⟨rfl, B2.out⟩
  | false =>
  rw [hf2] at HV HF2
  cases hc1 : decide (hi.1 < lo.1) with
  | true =>
    have HXF : Hid (X = false) := by show _ = _; rw [HV.out, hc1]; rfl
    clear HV hok hf1 hf2
    go_wp2_with fail
    refine (HF1.out _).mono ?_
    rintro e wq ⟨rfl, rfl⟩
    go_wp2_with fail
    refine (HF2.out _).mono ?_
    rintro e wq ⟨rfl, rfl⟩
    go_wp2
    go_ret
    rw [HXF.out]
    exact ⟨rfl, B2.out⟩
  | false =>
  rw [hc1] at HV
  cases hc2 : decide (hi.2 < lo.2) with
  | true =>
    have HXF : Hid (X = false) := by show _ = _; rw [HV.out, hc2]; rfl
    clear HV hok hf1 hf2
    go_wp2_with fail
    refine (HF1.out _).mono ?_
    rintro e wq ⟨rfl, rfl⟩
    go_wp2_with fail
    refine (HF2.out _).mono ?_
    rintro e wq ⟨rfl, rfl⟩
    go_wp2
    go_ret
    rw [HXF.out]
    exact ⟨rfl, B2.out⟩
  | false =>
  rw [hc2] at HV
  have hbx : bxOk lo hi = true := by rw [bx_far, hf1, hf2, hc1, hc2]; rfl
  obtain ⟨k, rfl, hk12⟩ := okB_nat hok
  obtain ⟨g1, g2, g3⟩ := ok_near hok
  obtain ⟨n1, n2⟩ := tri_sm hbx
  rw [show ((k : Int)).toNat = k by omega] at HV
  have HXT : Hid (X = touchB (prG (hexL (12 - k) z)) (triE lo) (triE hi)) := by show _ = _; rw [HV.out]; simp
  have HHX := Lib.hid (rhex_in z g2 k g1)
  have hrs : RingSm (hexL (12 - k) z) := ring_sm (by omega) g3
  have HTP := Lib.hid (touch_parts (hexL (12 - k) z) (hexL_len _ _) (triE lo) (triE hi))
  have HAY : Hid (∀ i, i < 2 → ((∀ j, j < 6 → axG (prG (hexL (12 - k) z) j) i < 3 * axG lo i) ∨ (∀ j, j < 6 → 3 * axG hi i < axG (prG (hexL (12 - k) z) j) i)) → besB (hexL (12 - k) z) (triE lo) (triE hi) = true) := fun i hi2 hh => besB_yes _ _ _ hi2 (by
    rw [hexL_len]
    rcases (show i = 0 ∨ i = 1 by omega) with rfl | rfl
    · exact hh
    · exact hh)
  have HAN : Hid ((∀ i, i < 2 → (∃ j, j < 6 ∧ 3 * axG lo i ≤ axG (prG (hexL (12 - k) z) j) i) ∧ ∃ j, j < 6 ∧ axG (prG (hexL (12 - k) z) j) i ≤ 3 * axG hi i) → besB (hexL (12 - k) z) (triE lo) (triE hi) = false) := fun hh => besB_no _ _ _ (by
    rw [hexL_len]
    intro i hi2
    have := hh i hi2
    rcases (show i = 0 ∨ i = 1 by omega) with rfl | rfl
    · exact this
    · exact this)
  have HSD : Hid (∀ i, i < 6 → ∀ w, Calls Tryz.prog 52 #[vE (prG (hexL (12 - k) z) i), vE (prG (hexL (12 - k) z) ((i + 1) % 6)), .int .i64 (prG (hexL (12 - k) z) ((i + 3) % 6)).1, .int .i64 (prG (hexL (12 - k) z) ((i + 3) % 6)).2] w fun e w' => e = .returned (.int .i64 1) ∧ Below w.heap.size w w') := fun i hi6 w => by
    have h := cross_any (prG (hexL (12 - k) z) i).1 (prG (hexL (12 - k) z) i).2 (prG (hexL (12 - k) z) ((i + 1) % 6)).1 (prG (hexL (12 - k) z) ((i + 1) % 6)).2 (prG (hexL (12 - k) z) ((i + 3) % 6)).1 (prG (hexL (12 - k) z) ((i + 3) % 6)).2 w
    rw [cross_small (hrs i hi6).1 (hrs i hi6).2 (ring_far hrs (by omega))] at h
    have ho := cross_opp (show 12 - k ≤ 12 by omega) z hi6
    rw [← hexL_get _ _ hi6, ← hexL_get (12 - k) z (show (i + 1) % 6 < 6 by omega), ← hexL_get (12 - k) z (show (i + 3) % 6 < 6 by omega)] at ho
    rw [if_neg (by omega), if_pos ho] at h
    exact h
  have HCR : Hid (∀ i, i < 6 → ∀ j, j < 4 → ∀ w, Calls Tryz.prog 52 #[vE (prG (hexL (12 - k) z) i), vE (prG (hexL (12 - k) z) ((i + 1) % 6)), .int .i64 (prG (boxC (triE lo) (triE hi)) j).1, .int .i64 (prG (boxC (triE lo) (triE hi)) j).2] w fun e w' => e = .returned (.int .i64 (if crossE (prG (hexL (12 - k) z) i) (prG (hexL (12 - k) z) ((i + 1) % 6)) (prG (boxC (triE lo) (triE hi)) j) < 0 then -1 else if 0 < crossE (prG (hexL (12 - k) z) i) (prG (hexL (12 - k) z) ((i + 1) % 6)) (prG (boxC (triE lo) (triE hi)) j) then 1 else 0)) ∧ Below w.heap.size w w') := fun i hi6 j hj w => by
    have h := cross_any (prG (hexL (12 - k) z) i).1 (prG (hexL (12 - k) z) i).2 (prG (hexL (12 - k) z) ((i + 1) % 6)).1 (prG (hexL (12 - k) z) ((i + 1) % 6)).2 (prG (boxC (triE lo) (triE hi)) j).1 (prG (boxC (triE lo) (triE hi)) j).2 w
    rw [cross_small (hrs i hi6).1 (hrs i hi6).2 ((boxC_sm n1 n2 hj).mono (by decide))] at h
    exact h
  have HOY : Hid (∀ i, i < 6 → (∀ j, j < 4 → crossE (prG (hexL (12 - k) z) i) (prG (hexL (12 - k) z) ((i + 1) % 6)) (prG (boxC (triE lo) (triE hi)) j) < 0) → ((List.range 6).all fun k_1 => !outF (hexL (12 - k) z) (triE lo) (triE hi) k_1) = false) := fun i hi6 hh => by
    rw [List.all_eq_false]
    refine ⟨i, List.mem_range.2 hi6, ?_⟩
    unfold outF
    rw [Bool.not_not, Bool.not_eq_true, ← Bool.not_eq_true, any_four]
    rintro ⟨j, hj, h⟩
    have := hh j hj
    have := of_decide_eq_true h
    omega
  have HON : Hid ((∀ i, i < 6 → ∃ j, j < 4 ∧ 0 ≤ crossE (prG (hexL (12 - k) z) i) (prG (hexL (12 - k) z) ((i + 1) % 6)) (prG (boxC (triE lo) (triE hi)) j)) → ((List.range 6).all fun k_1 => !outF (hexL (12 - k) z) (triE lo) (triE hi) k_1) = true) := fun hh => by
    rw [List.all_eq_true]
    intro i hi6
    obtain ⟨j, hj, h⟩ := hh i (List.mem_range.1 hi6)
    unfold outF
    rw [Bool.not_not, any_four]
    exact ⟨j, hj, decide_eq_true h⟩
  have HCE : Hid (prV (boxC (triE lo) (triE hi)) = [.int .i64 (3 * lo.1), .int .i64 (3 * lo.2), .int .i64 (3 * hi.1), .int .i64 (3 * lo.2), .int .i64 (3 * hi.1), .int .i64 (3 * hi.2), .int .i64 (3 * lo.1), .int .i64 (3 * hi.2)] ∧ (boxC (triE lo) (triE hi)).length = 4) := ⟨rfl, rfl⟩
  have HL6 := Lib.hid (hexL_len (12 - k) z)
  have hbd : (-2147483648 ≤ lo.1 ∧ lo.1 ≤ 2147483648) ∧ (-2147483648 ≤ lo.2 ∧ lo.2 ≤ 2147483648) ∧ (-2147483648 ≤ hi.1 ∧ hi.1 ≤ 2147483648) ∧ (-2147483648 ≤ hi.2 ∧ hi.2 ≤ 2147483648) := by
    unfold farB at hf1 hf2
    simp at hf1 hf2
    omega
  generalize touchB (prG (hexL (12 - k) z)) (triE lo) (triE hi) = T at *
  generalize ((List.range 6).all fun k_1 => !outF (hexL (12 - k) z) (triE lo) (triE hi) k_1) = A at *
  generalize besB (hexL (12 - k) z) (triE lo) (triE hi) = bs at *
  generalize hexL (12 - k) z = l at *
  generalize boxC (triE lo) (triE hi) = C at *
  have HTT : Hid (T = (!bs && A)) := HTP.out
  clear HTP hrs g2 g3 n1 n2 hbx hf1 hf2 HV hok
  obtain ⟨⟨bl1, bl2⟩, ⟨bl3, bl4⟩, ⟨bh1, bh2⟩, bh3, bh4⟩ := hbd
  simp only [vE] at *
  go_wp2_with fail
  refine (HF1.out _).mono ?_
  rintro e wq ⟨rfl, rfl⟩
  go_wp2_with fail
  refine (HF2.out _).mono ?_
  rintro e wq ⟨rfl, rfl⟩
  obtain ⟨t0, t1, t2, -, -, -, -⟩ := T2.out.cells
  go_wp2_with fail
  refine (HHX.out _).mono ?_
  rintro e w3 ⟨ao, c, rfl, ho3, hb3⟩
  have HP3 := Lib.hid (prAt_own HL6.out.symm ho3)
  have L3 := Lib.hid (L2.out.later (by omega) hb3)
  have H3 := Lib.hid (H2.out.later (by omega) hb3)
  have B3 := Lib.hid (B2.out.trans (hb3.mono B2.out.size))
  have s3 : w.heap.size + 3 ≤ w3.heap.size := by have := hb3.size; omega
  clear ho3 hb3 T2 L2 H2 B2 t0 t1 t2 l0 l1 h0 h1 HHX HF1 HF2
  obtain ⟨l0, l1⟩ := L3.out
  obtain ⟨h0, h1⟩ := H3.out
  go_upto_region 5 with (fail)
  have hka := prAt_new w3 C 96
  rw [HCE.out.1] at hka
  have K4 := (Below.refl w3.heap.size w3).alloc (Nat.le_refl _) (.cells #[.int .i64 (3 * lo.1), .int .i64 (3 * lo.2), .int .i64 (3 * hi.1), .int .i64 (3 * lo.2), .int .i64 (3 * hi.1), .int .i64 (3 * hi.2), .int .i64 (3 * lo.1), .int .i64 (3 * hi.2)] 96)
  have HKA : Hid (PrAt (w3.alloc (.cells #[.int .i64 (3 * lo.1), .int .i64 (3 * lo.2), .int .i64 (3 * hi.1), .int .i64 (3 * lo.2), .int .i64 (3 * hi.1), .int .i64 (3 * hi.2), .int .i64 (3 * lo.1), .int .i64 (3 * hi.2)] 96)) (some ⟨w3.heap.size, 0, none⟩) C) := hka
  have L4 := Lib.hid (L3.out.later (by omega) K4)
  have H4 := Lib.hid (H3.out.later (by omega) K4)
  have HR4 := Lib.hid (HP3.out.below K4)
  have B4 := Lib.hid (B3.out.trans (K4.mono B3.out.size))
  have s4 : w.heap.size + 3 ≤ (w3.alloc (.cells #[.int .i64 (3 * lo.1), .int .i64 (3 * lo.2), .int .i64 (3 * hi.1), .int .i64 (3 * lo.2), .int .i64 (3 * hi.1), .int .i64 (3 * hi.2), .int .i64 (3 * lo.1), .int .i64 (3 * hi.2)] 96)).heap.size := by simp; omega
  clear hka K4 L3 H3 HP3 B3 l0 l1 h0 h1
  generalize w3.alloc (.cells #[.int .i64 (3 * lo.1), .int .i64 (3 * lo.2), .int .i64 (3 * hi.1), .int .i64 (3 * lo.2), .int .i64 (3 * hi.1), .int .i64 (3 * hi.2), .int .i64 (3 * lo.1), .int .i64 (3 * hi.2)] 96) = w4 at *
  obtain ⟨b, off, rfl, hb, hc⟩ := HR4.out (by rw [HL6.out]; omega)
  have HCC : Hid (∀ wx, Below w4.heap.size w4 wx → ∀ j, j < 6 → wx.cell? ⟨b, off + j * 2, none⟩ = some (.int .i64 (prG l j).1) ∧ wx.cell? ⟨b, off + j * 2 + 1, none⟩ = some (.int .i64 (prG l j).2)) := fun wx hx j hj => by
    obtain ⟨k0, k1⟩ := hc j (by rw [HL6.out]; exact hj)
    exact ⟨(hx.cell (p := ⟨b, _, none⟩) hb).trans k0, (hx.cell (p := ⟨b, _, none⟩) hb).trans k1⟩
  clear hc
  go_wp2
  go_loopw [9] (fun iv wr => ∃ (i : Nat), i ≤ 2 ∧ iv = .int .i64 i ∧ Hid ((∀ j, j < i → (∃ q, q < 6 ∧ 3 * axG lo j ≤ axG (prG l q) j) ∧ ∃ q, q < 6 ∧ axG (prG l q) j ≤ 3 * axG hi j) ∧ Below w4.heap.size w4 wr)) (fun i _ => 2 - (intOf i).toNat)
  case atStart => exact ⟨0, by omega, rfl, fun j hj => by omega, Below.refl _ _⟩
  case round =>
    obtain ⟨i, hi2, rfl, HI⟩ := hrel
    obtain ⟨wo, rfl⟩ : ∃ wo, wo = wr := ⟨_, rfl⟩
    have hso := HI.out.2.size
    have hbo : b < wo.heap.size := by omega
    rcases (show i = 0 ∨ i = 1 ∨ 2 ≤ i by omega) with rfl | rfl | hge
    · have p0 : decide (((0 : Nat) : Int) < 2) = true := by decide
      obtain ⟨c0, c1⟩ := HCC.out wo HI.out.2 0 (by omega)
      rw [Nat.zero_mul, Nat.add_zero] at c0 c1
      have BD : Hid (Below w4.heap.size w4 wo.drew) := HI.out.2.drew
      have HP := Lib.hid HI.out.1
      have A0 : Hid (∃ j, j < 6 ∧ (prG l 0).1 = axG (prG l j) 0) := ⟨0, by omega, rfl⟩
      generalize prG l 0 = y0 at *
      clear HI
      go_upto_region 8 with (fail)
      go_wp2_with (first | (with_reducible refine wp_region_lex (by kernel_rfl) (by kernel_rfl) ?_) | (with_reducible refine OnlyG.intro (by kernel_rfl) ?_))
      clear c0 c1
      generalize wo.drew = wd at *
      have hbd : b < wd.heap.size := by have := BD.out.size; omega
      go_loopw [10, 11, 12] (fun av zv kv wy => ∃ (k : Nat) (a z : Int), k ≤ 6 ∧ av = .int .i64 a ∧ zv = .int .i64 z ∧ kv = .int .i64 k ∧ Hid ((∃ j, j < 6 ∧ a = axG (prG l j) 0) ∧ (∀ j, j < k → a ≤ axG (prG l j) 0) ∧ (∃ j, j < 6 ∧ z = axG (prG l j) 0) ∧ (∀ j, j < k → axG (prG l j) 0 ≤ z)) ∧ Hid (Below w4.heap.size w4 wy)) (fun _ _ k _ => 6 - (intOf k).toNat)
      case atStart => exact ⟨0, y0.1, y0.1, by omega, rfl, rfl, rfl, ⟨A0.out, fun j hj => by omega, A0.out, fun j hj => by omega⟩, BD.out⟩
      case round =>
        obtain ⟨k, a, z, hk, rfl, rfl, rfl, HA, HJ⟩ := hrel
        obtain ⟨wy, rfl⟩ : ∃ wy, wy = wr := ⟨_, rfl⟩
        have hsy := HJ.out.size
        by_cases hlt2 : k < 6
        · have p1 : decide ((k : Int) < 6) = true := decide_eq_true (by omega)
          have hk0 : (0 : Int) ≤ (k : Int) := by omega
          have hk6 : (k : Int) < 6 := by omega
          obtain ⟨d0, d1⟩ := HCC.out wy HJ.out k hlt2
          have hby : b < wy.heap.size := by omega
          have HA2 : Hid ((∃ j, j < 6 ∧ min a (axG (prG l k) 0) = axG (prG l j) 0) ∧ (∀ j, j < k + 1 → min a (axG (prG l k) 0) ≤ axG (prG l j) 0) ∧ (∃ j, j < 6 ∧ max z (axG (prG l k) 0) = axG (prG l j) 0) ∧ (∀ j, j < k + 1 → axG (prG l j) 0 ≤ max z (axG (prG l k) 0))) := by
            obtain ⟨⟨j1, h1, e1⟩, h2, ⟨j3, h3, e3⟩, h4⟩ := HA.out
            refine ⟨?_, fun j hj => ?_, ?_, fun j hj => ?_⟩
            · by_cases hc : a ≤ axG (prG l k) 0
              · exact ⟨j1, h1, by omega⟩
              · exact ⟨k, hlt2, by omega⟩
            · by_cases e : j = k
              · rw [e]; omega
              · have := h2 j (by omega); omega
            · by_cases hc : axG (prG l k) 0 ≤ z
              · exact ⟨j3, h3, by omega⟩
              · exact ⟨k, hlt2, by omega⟩
            · by_cases e : j = k
              · rw [e]; omega
              · have := h4 j (by omega); omega
          have hax : axG (prG l k) 0 = (prG l k).1 := rfl
          rw [hax] at HA2
          generalize prG l k = y at *
          have HJ3 : Hid (Below w4.heap.size w4 wy.drew) := HJ.out.drew
          clear HA hax
          go_upto_region 12 with (fail)
          go_region
          go_wp2
          (try rw [imin_c, imax_c])
          go_roundw
          case rel => exact ⟨k + 1, _, _, by omega, rfl, rfl, by go_num, HA2.out, HJ3.out⟩
          case measure => simp [intOf]; omega
        · obtain rfl : k = 6 := by omega
          have p1 : decide (((6 : Nat) : Int) < 6) = false := by decide
          obtain ⟨l0, l1⟩ := L4.out.later (by omega) HJ.out
          obtain ⟨h0, h1⟩ := H4.out.later (by omega) HJ.out
          have HF := Lib.hid (B4.out.trans (HJ.out.mono B4.out.size))
          obtain ⟨q1, q2, q3, q4⟩ := HA.out
          have e0 : axG lo 0 = lo.1 := rfl
          have e1 : axG hi 0 = hi.1 := rfl
          by_cases hc3 : z < 3 * lo.1
          · have p2 : decide (z < 3 * lo.1) = true := decide_eq_true hc3
            have HBS := Lib.hid (HAY.out 0 (by decide) (.inl fun j hj => by have := q4 j hj; rw [e0]; omega))
            have HXF : Hid (X = false) := by show _ = _; rw [HXT.out, HTT.out, HBS.out]; rfl
            clear q1 q2 q3 q4 HA HAY HAN HP HBS e0 e1
            go_wp2
            go_ret
            rw [HXF.out]
            exact ⟨rfl, HF.out⟩
          · have p2 : decide (z < 3 * lo.1) = false := decide_eq_false hc3
            by_cases hc4 : 3 * hi.1 < a
            · have p3 : decide (3 * hi.1 < a) = true := decide_eq_true hc4
              have HBS := Lib.hid (HAY.out 0 (by decide) (.inr fun j hj => by have := q2 j hj; rw [e1]; omega))
              have HXF : Hid (X = false) := by show _ = _; rw [HXT.out, HTT.out, HBS.out]; rfl
              clear q1 q2 q3 q4 HA HAY HAN HP HBS e0 e1
              go_wp2
              go_ret
              rw [HXF.out]
              exact ⟨rfl, HF.out⟩
            · have p3 : decide (3 * hi.1 < a) = false := decide_eq_false hc4
              have HP2 : Hid (∀ j, j < 0 + 1 → (∃ q, q < 6 ∧ 3 * axG lo j ≤ axG (prG l q) j) ∧ ∃ q, q < 6 ∧ axG (prG l q) j ≤ 3 * axG hi j) := fun j hj => by
                by_cases e : j = 0
                · subst e
                  obtain ⟨j1, g1, f1⟩ := q1
                  obtain ⟨j3, g3, f3⟩ := q3
                  exact ⟨⟨j3, g3, by rw [← f3, e0]; omega⟩, j1, g1, by rw [← f1, e1]; omega⟩
                · exact HP.out j (by omega)
              have HJE := HJ
              clear q1 q2 q3 q4 HA HP e0 e1
              go_wp2
              go_roundw
              case rel => exact ⟨0 + 1, by omega, by go_num, HP2.out, HJE.out⟩
              case measure => simp [intOf]
    · have p0 : decide (((1 : Nat) : Int) < 2) = true := by decide
      obtain ⟨c0, c1⟩ := HCC.out wo HI.out.2 0 (by omega)
      rw [Nat.zero_mul, Nat.add_zero] at c0 c1
      have BD : Hid (Below w4.heap.size w4 wo.drew) := HI.out.2.drew
      have HP := Lib.hid HI.out.1
      have A0 : Hid (∃ j, j < 6 ∧ (prG l 0).2 = axG (prG l j) 1) := ⟨0, by omega, rfl⟩
      generalize prG l 0 = y0 at *
      clear HI
      go_upto_region 8 with (fail)
      go_wp2_with (first | (with_reducible refine wp_region_lex (by kernel_rfl) (by kernel_rfl) ?_) | (with_reducible refine OnlyG.intro (by kernel_rfl) ?_))
      clear c0 c1
      generalize wo.drew = wd at *
      have hbd : b < wd.heap.size := by have := BD.out.size; omega
      go_loopw [10, 11, 12] (fun av zv kv wy => ∃ (k : Nat) (a z : Int), k ≤ 6 ∧ av = .int .i64 a ∧ zv = .int .i64 z ∧ kv = .int .i64 k ∧ Hid ((∃ j, j < 6 ∧ a = axG (prG l j) 1) ∧ (∀ j, j < k → a ≤ axG (prG l j) 1) ∧ (∃ j, j < 6 ∧ z = axG (prG l j) 1) ∧ (∀ j, j < k → axG (prG l j) 1 ≤ z)) ∧ Hid (Below w4.heap.size w4 wy)) (fun _ _ k _ => 6 - (intOf k).toNat)
      case atStart => exact ⟨0, y0.2, y0.2, by omega, rfl, rfl, rfl, ⟨A0.out, fun j hj => by omega, A0.out, fun j hj => by omega⟩, BD.out⟩
      case round =>
        obtain ⟨k, a, z, hk, rfl, rfl, rfl, HA, HJ⟩ := hrel
        obtain ⟨wy, rfl⟩ : ∃ wy, wy = wr := ⟨_, rfl⟩
        have hsy := HJ.out.size
        by_cases hlt2 : k < 6
        · have p1 : decide ((k : Int) < 6) = true := decide_eq_true (by omega)
          have hk0 : (0 : Int) ≤ (k : Int) := by omega
          have hk6 : (k : Int) < 6 := by omega
          obtain ⟨d0, d1⟩ := HCC.out wy HJ.out k hlt2
          have hby : b < wy.heap.size := by omega
          have HA2 : Hid ((∃ j, j < 6 ∧ min a (axG (prG l k) 1) = axG (prG l j) 1) ∧ (∀ j, j < k + 1 → min a (axG (prG l k) 1) ≤ axG (prG l j) 1) ∧ (∃ j, j < 6 ∧ max z (axG (prG l k) 1) = axG (prG l j) 1) ∧ (∀ j, j < k + 1 → axG (prG l j) 1 ≤ max z (axG (prG l k) 1))) := by
            obtain ⟨⟨j1, h1, e1⟩, h2, ⟨j3, h3, e3⟩, h4⟩ := HA.out
            refine ⟨?_, fun j hj => ?_, ?_, fun j hj => ?_⟩
            · by_cases hc : a ≤ axG (prG l k) 1
              · exact ⟨j1, h1, by omega⟩
              · exact ⟨k, hlt2, by omega⟩
            · by_cases e : j = k
              · rw [e]; omega
              · have := h2 j (by omega); omega
            · by_cases hc : axG (prG l k) 1 ≤ z
              · exact ⟨j3, h3, by omega⟩
              · exact ⟨k, hlt2, by omega⟩
            · by_cases e : j = k
              · rw [e]; omega
              · have := h4 j (by omega); omega
          have hax : axG (prG l k) 1 = (prG l k).2 := rfl
          rw [hax] at HA2
          generalize prG l k = y at *
          have HJ3 : Hid (Below w4.heap.size w4 wy.drew) := HJ.out.drew
          clear HA hax
          go_upto_region 12 with (fail)
          go_region
          go_wp2
          (try rw [imin_c, imax_c])
          go_roundw
          case rel => exact ⟨k + 1, _, _, by omega, rfl, rfl, by go_num, HA2.out, HJ3.out⟩
          case measure => simp [intOf]; omega
        · obtain rfl : k = 6 := by omega
          have p1 : decide (((6 : Nat) : Int) < 6) = false := by decide
          obtain ⟨l0, l1⟩ := L4.out.later (by omega) HJ.out
          obtain ⟨h0, h1⟩ := H4.out.later (by omega) HJ.out
          have HF := Lib.hid (B4.out.trans (HJ.out.mono B4.out.size))
          obtain ⟨q1, q2, q3, q4⟩ := HA.out
          have e0 : axG lo 1 = lo.2 := rfl
          have e1 : axG hi 1 = hi.2 := rfl
          by_cases hc3 : z < 3 * lo.2
          · have p2 : decide (z < 3 * lo.2) = true := decide_eq_true hc3
            have HBS := Lib.hid (HAY.out 1 (by decide) (.inl fun j hj => by have := q4 j hj; rw [e0]; omega))
            have HXF : Hid (X = false) := by show _ = _; rw [HXT.out, HTT.out, HBS.out]; rfl
            clear q1 q2 q3 q4 HA HAY HAN HP HBS e0 e1
            go_wp2
            go_ret
            rw [HXF.out]
            exact ⟨rfl, HF.out⟩
          · have p2 : decide (z < 3 * lo.2) = false := decide_eq_false hc3
            by_cases hc4 : 3 * hi.2 < a
            · have p3 : decide (3 * hi.2 < a) = true := decide_eq_true hc4
              have HBS := Lib.hid (HAY.out 1 (by decide) (.inr fun j hj => by have := q2 j hj; rw [e1]; omega))
              have HXF : Hid (X = false) := by show _ = _; rw [HXT.out, HTT.out, HBS.out]; rfl
              clear q1 q2 q3 q4 HA HAY HAN HP HBS e0 e1
              go_wp2
              go_ret
              rw [HXF.out]
              exact ⟨rfl, HF.out⟩
            · have p3 : decide (3 * hi.2 < a) = false := decide_eq_false hc4
              have HP2 : Hid (∀ j, j < 1 + 1 → (∃ q, q < 6 ∧ 3 * axG lo j ≤ axG (prG l q) j) ∧ ∃ q, q < 6 ∧ axG (prG l q) j ≤ 3 * axG hi j) := fun j hj => by
                by_cases e : j = 1
                · subst e
                  obtain ⟨j1, g1, f1⟩ := q1
                  obtain ⟨j3, g3, f3⟩ := q3
                  exact ⟨⟨j3, g3, by rw [← f3, e0]; omega⟩, j1, g1, by rw [← f1, e1]; omega⟩
                · exact HP.out j (by omega)
              have HJE := HJ
              clear q1 q2 q3 q4 HA HP e0 e1
              go_wp2
              go_roundw
              case rel => exact ⟨1 + 1, by omega, by go_num, HP2.out, HJE.out⟩
              case measure => simp [intOf]
    · have p0 : decide ((i : Int) < 2) = false := decide_eq_false (by omega)
      have HBS := Lib.hid (HAN.out fun j hj => HI.out.1 j (by omega))
      have HXA : Hid (X = A) := by show _ = _; rw [HXT.out, HTT.out, HBS.out]; rfl
      have HI4 := Lib.hid HI.out.2
      clear HI HBS HAN HAY HXT HTT
      go_wp2
      go_loopw [13] (fun iv wr => ∃ (i : Nat), i ≤ 6 ∧ iv = .int .i64 i ∧ Hid ((∀ j, j < i → ∃ q, q < 4 ∧ 0 ≤ crossE (prG l j) (prG l ((j + 1) % 6)) (prG C q)) ∧ Below w4.heap.size w4 wr)) (fun i _ => 6 - (intOf i).toNat)
      case atStart => exact ⟨0, by omega, rfl, fun j hj => by omega, HI4.out⟩
      case round =>
        obtain ⟨e, hi6, rfl, HI⟩ := hrel
        obtain ⟨wi, rfl⟩ : ∃ wi, wi = wr := ⟨_, rfl⟩
        have hsi := HI.out.2.size
        by_cases hlt : e < 6
        · have p1 : decide ((e : Int) < 6) = true := decide_eq_true (by omega)
          obtain ⟨m, hm, hm6, hmk⟩ : ∃ m : Nat, ((e : Int) + 1).tmod 6 = m ∧ m < 6 ∧ (e + 1) % 6 = m := ⟨(e + 1) % 6, by rw [Int.tmod_eq_emod_of_nonneg (by omega)]; omega, by omega, rfl⟩
          obtain ⟨n, hn, hn6, hnk⟩ : ∃ n : Nat, ((e : Int) + 3).tmod 6 = n ∧ n < 6 ∧ (e + 3) % 6 = n := ⟨(e + 3) % 6, by rw [Int.tmod_eq_emod_of_nonneg (by omega)]; omega, by omega, rfl⟩
          have hsd := HSD.out e hlt
          rw [hmk, hnk] at hsd
          have hcr := HCR.out e hlt
          rw [hmk] at hcr
          have hoy := HOY.out e hlt
          rw [hmk] at hoy
          have HNX : Hid ((∃ q, q < 4 ∧ 0 ≤ crossE (prG l e) (prG l m) (prG C q)) → ∀ j, j < e + 1 → ∃ q, q < 4 ∧ 0 ≤ crossE (prG l j) (prG l ((j + 1) % 6)) (prG C q)) := fun h j hj => by
            by_cases ee : j = e
            · rw [ee, hmk]; exact h
            · exact HI.out.1 j (by omega)
          have HIB := Lib.hid HI.out.2
          obtain ⟨c0, c1⟩ := HCC.out wi HI.out.2 e hlt
          obtain ⟨d0, d1⟩ := HCC.out wi HI.out.2 m hm6
          have HOO : Hid (∀ wx, Below wi.heap.size wi wx → wx.cell? ⟨b, off + n * 2, none⟩ = some (.int .i64 (prG l n).1) ∧ wx.cell? ⟨b, off + n * 2 + 1, none⟩ = some (.int .i64 (prG l n).2)) := fun wx hx => HCC.out wx (HIB.out.trans (hx.mono hsi)) n hn6
          have hbi : b < wi.heap.size := by omega
          clear HI hmk hnk
          generalize prG l e = p at *
          generalize prG l m = q at *
          generalize prG l n = o at *
          have HSD1 := Lib.hid hsd
          have HCR1 := Lib.hid hcr
          have HOY1 := Lib.hid hoy
          have hi0 : (0 : Int) ≤ (e : Int) := by omega
          have hi6' : (e : Int) < 6 := by omega
          have hmI : (m : Int) < 6 := by omega
          have hnI : (n : Int) < 6 := by omega
          clear hsd hcr hoy
          go_upto_region 18 with (fail)
          go_cut [14, 15] from 137 to 146 (fun v14 v15 wx => ∃ g1 g2 : Nat, v14 = .pointer (some ⟨g1, 0, none⟩) ∧ v15 = .pointer (some ⟨g2, 0, none⟩) ∧ Hid (Two wx g1 (.int .i64 p.1) (.int .i64 p.2) ∧ Two wx g2 (.int .i64 q.1) (.int .i64 q.2) ∧ g1 < wx.heap.size ∧ g2 < wx.heap.size ∧ Below wi.heap.size wi wx))
          case first =>
            have T1 := Lib.hid (two_pts wi p q 30)
            have T2 := Lib.hid (two_pts wi q p 30)
            clear HSD1 HCR1 HOY1 HNX HOO
            go_region
            all_goals
              go_wp2
              go_meet
              first
                | exact ⟨_, _, rfl, rfl, T1.out.1, T1.out.2.1, Nat.lt_trans (Nat.lt_succ_self _) T1.out.2.2.2, T1.out.2.2.2, T1.out.2.2.1⟩
                | exact ⟨_, _, rfl, rfl, T2.out.2.1, T2.out.1, T2.out.2.2.2, Nat.lt_trans (Nat.lt_succ_self _) T2.out.2.2.2, T2.out.2.2.1⟩
          case rest =>
            obtain ⟨g1, g2, rfl, rfl, HT⟩ := hcut
            clear c0 c1 d0 d1
            have HCX : Hid (∀ wx, Below wc.heap.size wc wx → Two wx g1 (.int .i64 p.1) (.int .i64 p.2) ∧ Two wx g2 (.int .i64 q.1) (.int .i64 q.2) ∧ Below wi.heap.size wi wx) := fun wx hx => ⟨HT.out.1.later HT.out.2.2.1 hx, HT.out.2.1.later HT.out.2.2.2.1 hx, HT.out.2.2.2.2.trans (hx.mono HT.out.2.2.2.2.size)⟩
            have hsc := HT.out.2.2.2.2.size
            clear HT
            go_upto_region 19 with (fail)
            refine wp_region_inv (fun w w' => Below w.heap.size w w') (fun qi_ qv_ _ => qv_ = ([.agg #[.int .i64 p.1, .int .i64 p.2], .agg #[.int .i64 q.1, .int .i64 q.2], .slice (some ⟨b, off, none⟩) 6 c, .int .i64 e, .int .i64 ((e : Int) + 3), .int .i64 n, .pointer (some ⟨b, off + n * 2, none⟩), .pointer (some ⟨b, off + n * 2, none⟩), .int .i64 o.1, .slice (some ⟨b, off, none⟩) 6 c, .int .i64 e, .int .i64 ((e : Int) + 3), .int .i64 n, .pointer (some ⟨b, off + n * 2, none⟩), .pointer (some ⟨b, off + n * 2 + 1, none⟩), .int .i64 o.2, .int .i64 1, .int .i64 1] : List Value).getD qi_ undef) (by kernel_rfl) (by kernel_rfl) (fun _ => Below.refl _ _) (fun _ _ _ h1 h2 => below_later h1 h1.size h2) (fun _ _ _ _ _ _ h => h) ?_
            refine inv_cons (fun wx hg hd => ?_) (fun v0 => ?_)
            · have hx := ((Below.refl wc.heap.size wc).drew).trans hg
              clear hd hg
              obtain ⟨⟨k1, k2⟩, -⟩ := HCX.out _ hx
              go_wp2
              exact ⟨_, rfl, Below.refl _ _, rfl⟩
            (try simp only [List.nil_append, Act.put, List.setIfInBounds_toArray, List.set_cons_zero, List.set_cons_succ])
            refine inv_cons (fun wx hg hd => ?_) (fun v1 => ?_)
            · have hx := ((Below.refl wc.heap.size wc).drew).trans hg
              clear hd hg
              obtain ⟨-, ⟨k1, k2⟩, -⟩ := HCX.out _ hx
              go_wp2
              exact ⟨_, rfl, Below.refl _ _, rfl⟩
            (try simp only [List.cons_append, List.nil_append, Act.put, List.setIfInBounds_toArray, List.set_cons_zero, List.set_cons_succ])
            refine inv_cons (fun wx hg hd => ?_) (fun v2 => ?_)
            · have hx := ((Below.refl wc.heap.size wc).drew).trans hg
              clear hd hg
              go_wp2
              exact ⟨_, rfl, Below.refl _ _, rfl⟩
            (try simp only [List.cons_append, List.nil_append, Act.put, List.setIfInBounds_toArray, List.set_cons_zero, List.set_cons_succ])
            refine inv_cons (fun wx hg hd => ?_) (fun v3 => ?_)
            · have hx := ((Below.refl wc.heap.size wc).drew).trans hg
              clear hd hg
              go_wp2
              exact ⟨_, rfl, Below.refl _ _, rfl⟩
            (try simp only [List.cons_append, List.nil_append, Act.put, List.setIfInBounds_toArray, List.set_cons_zero, List.set_cons_succ])
            refine inv_cons (fun wx hg hd => ?_) (fun v4 => ?_)
            · have hx := ((Below.refl wc.heap.size wc).drew).trans hg
              (try (have ee : v3 = (.int .i64 e : Value) := hd 3 (by simp) (by decide); subst ee))
              clear hd hg
              go_wp2
              exact ⟨_, rfl, Below.refl _ _, rfl⟩
            (try simp only [List.cons_append, List.nil_append, Act.put, List.setIfInBounds_toArray, List.set_cons_zero, List.set_cons_succ])
            refine inv_cons (fun wx hg hd => ?_) (fun v5 => ?_)
            · have hx := ((Below.refl wc.heap.size wc).drew).trans hg
              (try (have ee : v4 = (.int .i64 ((e : Int) + 3) : Value) := hd 4 (by simp) (by decide); subst ee))
              clear hd hg
              go_wp2
              exact ⟨_, rfl, Below.refl _ _, rfl⟩
            (try simp only [List.cons_append, List.nil_append, Act.put, List.setIfInBounds_toArray, List.set_cons_zero, List.set_cons_succ])
            refine inv_cons (fun wx hg hd => ?_) (fun v6 => ?_)
            · have hx := ((Below.refl wc.heap.size wc).drew).trans hg
              (try (have ee : v2 = (.slice (some ⟨b, off, none⟩) 6 c : Value) := hd 2 (by simp) (by decide); subst ee))
              (try (have ee : v5 = (.int .i64 n : Value) := hd 5 (by simp) (by decide); subst ee))
              clear hd hg
              go_wp2
              exact ⟨_, rfl, Below.refl _ _, rfl⟩
            (try simp only [List.cons_append, List.nil_append, Act.put, List.setIfInBounds_toArray, List.set_cons_zero, List.set_cons_succ])
            refine inv_cons (fun wx hg hd => ?_) (fun v7 => ?_)
            · have hx := ((Below.refl wc.heap.size wc).drew).trans hg
              (try (have ee : v6 = (.pointer (some ⟨b, off + n * 2, none⟩) : Value) := hd 6 (by simp) (by decide); subst ee))
              clear hd hg
              go_wp2
              exact ⟨_, rfl, Below.refl _ _, rfl⟩
            (try simp only [List.cons_append, List.nil_append, Act.put, List.setIfInBounds_toArray, List.set_cons_zero, List.set_cons_succ])
            refine inv_cons (fun wx hg hd => ?_) (fun v8 => ?_)
            · have hx := ((Below.refl wc.heap.size wc).drew).trans hg
              (try (have ee : v7 = (.pointer (some ⟨b, off + n * 2, none⟩) : Value) := hd 7 (by simp) (by decide); subst ee))
              clear hd hg
              obtain ⟨k1, k2⟩ := HOO.out _ (HCX.out _ hx).2.2
              go_wp2
              exact ⟨_, rfl, Below.refl _ _, rfl⟩
            (try simp only [List.cons_append, List.nil_append, Act.put, List.setIfInBounds_toArray, List.set_cons_zero, List.set_cons_succ])
            refine inv_cons (fun wx hg hd => ?_) (fun v9 => ?_)
            · have hx := ((Below.refl wc.heap.size wc).drew).trans hg
              clear hd hg
              go_wp2
              exact ⟨_, rfl, Below.refl _ _, rfl⟩
            (try simp only [List.cons_append, List.nil_append, Act.put, List.setIfInBounds_toArray, List.set_cons_zero, List.set_cons_succ])
            refine inv_cons (fun wx hg hd => ?_) (fun v10 => ?_)
            · have hx := ((Below.refl wc.heap.size wc).drew).trans hg
              clear hd hg
              go_wp2
              exact ⟨_, rfl, Below.refl _ _, rfl⟩
            (try simp only [List.cons_append, List.nil_append, Act.put, List.setIfInBounds_toArray, List.set_cons_zero, List.set_cons_succ])
            refine inv_cons (fun wx hg hd => ?_) (fun v11 => ?_)
            · have hx := ((Below.refl wc.heap.size wc).drew).trans hg
              (try (have ee : v10 = (.int .i64 e : Value) := hd 10 (by simp) (by decide); subst ee))
              clear hd hg
              go_wp2
              exact ⟨_, rfl, Below.refl _ _, rfl⟩
            (try simp only [List.cons_append, List.nil_append, Act.put, List.setIfInBounds_toArray, List.set_cons_zero, List.set_cons_succ])
            refine inv_cons (fun wx hg hd => ?_) (fun v12 => ?_)
            · have hx := ((Below.refl wc.heap.size wc).drew).trans hg
              (try (have ee : v11 = (.int .i64 ((e : Int) + 3) : Value) := hd 11 (by simp) (by decide); subst ee))
              clear hd hg
              go_wp2
              exact ⟨_, rfl, Below.refl _ _, rfl⟩
            (try simp only [List.cons_append, List.nil_append, Act.put, List.setIfInBounds_toArray, List.set_cons_zero, List.set_cons_succ])
            refine inv_cons (fun wx hg hd => ?_) (fun v13 => ?_)
            · have hx := ((Below.refl wc.heap.size wc).drew).trans hg
              (try (have ee : v9 = (.slice (some ⟨b, off, none⟩) 6 c : Value) := hd 9 (by simp) (by decide); subst ee))
              (try (have ee : v12 = (.int .i64 n : Value) := hd 12 (by simp) (by decide); subst ee))
              clear hd hg
              go_wp2
              exact ⟨_, rfl, Below.refl _ _, rfl⟩
            (try simp only [List.cons_append, List.nil_append, Act.put, List.setIfInBounds_toArray, List.set_cons_zero, List.set_cons_succ])
            refine inv_cons (fun wx hg hd => ?_) (fun v14 => ?_)
            · have hx := ((Below.refl wc.heap.size wc).drew).trans hg
              (try (have ee : v13 = (.pointer (some ⟨b, off + n * 2, none⟩) : Value) := hd 13 (by simp) (by decide); subst ee))
              clear hd hg
              go_wp2
              exact ⟨_, rfl, Below.refl _ _, rfl⟩
            (try simp only [List.cons_append, List.nil_append, Act.put, List.setIfInBounds_toArray, List.set_cons_zero, List.set_cons_succ])
            refine inv_cons (fun wx hg hd => ?_) (fun v15 => ?_)
            · have hx := ((Below.refl wc.heap.size wc).drew).trans hg
              (try (have ee : v14 = (.pointer (some ⟨b, off + n * 2 + 1, none⟩) : Value) := hd 14 (by simp) (by decide); subst ee))
              clear hd hg
              obtain ⟨k1, k2⟩ := HOO.out _ (HCX.out _ hx).2.2
              go_wp2
              exact ⟨_, rfl, Below.refl _ _, rfl⟩
            (try simp only [List.cons_append, List.nil_append, Act.put, List.setIfInBounds_toArray, List.set_cons_zero, List.set_cons_succ])
            refine inv_cons (fun wx hg hd => ?_) (fun v16 => ?_)
            · have hx := ((Below.refl wc.heap.size wc).drew).trans hg
              (try (have ee : v0 = (.agg #[.int .i64 p.1, .int .i64 p.2] : Value) := hd 0 (by simp) (by decide); subst ee))
              (try (have ee : v1 = (.agg #[.int .i64 q.1, .int .i64 q.2] : Value) := hd 1 (by simp) (by decide); subst ee))
              (try (have ee : v8 = (.int .i64 o.1 : Value) := hd 8 (by simp) (by decide); subst ee))
              (try (have ee : v15 = (.int .i64 o.2 : Value) := hd 15 (by simp) (by decide); subst ee))
              clear hd hg
              go_wp2_with fail
              refine (HSD1.out _).mono ?_
              rintro e w' ⟨rfl, hb⟩
              go_wp2
              exact ⟨_, rfl, hb, rfl⟩
            (try simp only [List.cons_append, List.nil_append, Act.put, List.setIfInBounds_toArray, List.set_cons_zero, List.set_cons_succ])
            refine inv_cons (fun wx hg hd => ?_) (fun v17 => ?_)
            · have hx := ((Below.refl wc.heap.size wc).drew).trans hg
              (try (have ee : v16 = (.int .i64 1 : Value) := hd 16 (by simp) (by decide); subst ee))
              clear hd hg
              go_wp2
              exact ⟨_, rfl, Below.refl _ _, rfl⟩
            (try simp only [List.cons_append, List.nil_append, Act.put, List.setIfInBounds_toArray, List.set_cons_zero, List.set_cons_succ])
            refine inv_done (fun wx hg hd => ?_)
            have hx := ((Below.refl wc.heap.size wc).drew).trans hg
            (have ee : v0 = (.agg #[.int .i64 p.1, .int .i64 p.2] : Value) := hd 0 (by simp); subst ee)
            (have ee : v1 = (.agg #[.int .i64 q.1, .int .i64 q.2] : Value) := hd 1 (by simp); subst ee)
            (have ee : v2 = (.slice (some ⟨b, off, none⟩) 6 c : Value) := hd 2 (by simp); subst ee)
            (have ee : v3 = (.int .i64 e : Value) := hd 3 (by simp); subst ee)
            (have ee : v4 = (.int .i64 ((e : Int) + 3) : Value) := hd 4 (by simp); subst ee)
            (have ee : v5 = (.int .i64 n : Value) := hd 5 (by simp); subst ee)
            (have ee : v6 = (.pointer (some ⟨b, off + n * 2, none⟩) : Value) := hd 6 (by simp); subst ee)
            (have ee : v7 = (.pointer (some ⟨b, off + n * 2, none⟩) : Value) := hd 7 (by simp); subst ee)
            (have ee : v8 = (.int .i64 o.1 : Value) := hd 8 (by simp); subst ee)
            (have ee : v9 = (.slice (some ⟨b, off, none⟩) 6 c : Value) := hd 9 (by simp); subst ee)
            (have ee : v10 = (.int .i64 e : Value) := hd 10 (by simp); subst ee)
            (have ee : v11 = (.int .i64 ((e : Int) + 3) : Value) := hd 11 (by simp); subst ee)
            (have ee : v12 = (.int .i64 n : Value) := hd 12 (by simp); subst ee)
            (have ee : v13 = (.pointer (some ⟨b, off + n * 2, none⟩) : Value) := hd 13 (by simp); subst ee)
            (have ee : v14 = (.pointer (some ⟨b, off + n * 2 + 1, none⟩) : Value) := hd 14 (by simp); subst ee)
            (have ee : v15 = (.int .i64 o.2 : Value) := hd 15 (by simp); subst ee)
            (have ee : v16 = (.int .i64 1 : Value) := hd 16 (by simp); subst ee)
            (have ee : v17 = (.int .i64 1 : Value) := hd 17 (by simp); subst ee)
            clear hd hg
            (try go_simp)
            have HX9 := Lib.hid hx
            clear hx HSD1
            obtain ⟨w9, rfl⟩ : ∃ w9, w9 = wx := ⟨_, rfl⟩
            go_wp2
            go_loopw [17, 18] (fun av jv wz => ∃ (j : Nat) (ap : Bool), j ≤ 4 ∧ jv = .int .i64 j ∧ av = .bool ap ∧ Hid ((ap = true → ∀ q', q' < j → crossE p q (prG C q') < 0) ∧ (ap = false → ∃ q', q' < 4 ∧ 0 ≤ crossE p q (prG C q'))) ∧ Hid (Below wc.heap.size wc wz)) (fun _ j _ => 4 - (intOf j).toNat)
            case atStart => exact ⟨0, true, by omega, rfl, rfl, ⟨fun _ q' hq => by omega, fun h => by cases h⟩, HX9.out⟩
            case round =>
              obtain ⟨j, ap, hj, rfl, rfl, HAP, HZ⟩ := hrel
              obtain ⟨wz, rfl⟩ : ∃ wz, wz = wr := ⟨_, rfl⟩
              have hsz := HZ.out.size
              by_cases hlt4 : j < 4
              · have p2 : decide ((j : Int) < 4) = true := decide_eq_true (by omega)
                have hj0 : (0 : Int) ≤ (j : Int) := by omega
                have hj4 : (j : Int) < 4 := by omega
                have hcr := HCR1.out j hlt4
                obtain ⟨D, hD⟩ : ∃ D, crossE p q (prG C j) = D := ⟨_, rfl⟩
                have HST : Hid ((D < 0 → (ap = true → ∀ q', q' < j + 1 → crossE p q (prG C q') < 0) ∧ (ap = false → ∃ q', q' < 4 ∧ 0 ≤ crossE p q (prG C q'))) ∧ (0 ≤ D → (false = true → ∀ q', q' < j + 1 → crossE p q (prG C q') < 0) ∧ (false = false → ∃ q', q' < 4 ∧ 0 ≤ crossE p q (prG C q')))) := ⟨fun hneg => ⟨fun h q' hq => by
                    by_cases e9 : q' = j
                    · rw [e9, hD]; exact hneg
                    · exact HAP.out.1 h q' (by omega), HAP.out.2⟩, fun hpos => ⟨fun h => (by cases h), fun _ => ⟨j, hlt4, by rw [hD]; exact hpos⟩⟩⟩
                have HBC : Hid (∀ wx, Below wz.heap.size wz wx → wx.cell? ⟨w3.heap.size, j * 2, none⟩ = some (.int .i64 (prG C j).1) ∧ wx.cell? ⟨w3.heap.size, j * 2 + 1, none⟩ = some (.int .i64 (prG C j).2)) := fun wx hx => by
                  obtain ⟨g, off', e, hg, hcc⟩ := HKA.out.below (HIB.out.trans (((HCX.out _ (HZ.out.trans (hx.mono hsz))).2.2).mono hsi)) (by rw [HCE.out.2]; omega)
                  cases e
                  have := hcc j (by rw [HCE.out.2]; exact hlt4)
                  rw [Nat.zero_add] at this
                  exact this
                rw [hD] at hcr
                obtain ⟨S, hS, hSD⟩ : ∃ S : Int, (if D < 0 then (-1 : Int) else if 0 < D then 1 else 0) = S ∧ ((D < 0 ∧ S = -1) ∨ (0 ≤ D ∧ (S = 1 ∨ S = 0))) := by
                  by_cases h : D < 0
                  · exact ⟨-1, by rw [if_pos h], .inl ⟨h, rfl⟩⟩
                  · by_cases h2 : 0 < D
                    · exact ⟨1, by rw [if_neg h, if_pos h2], .inr ⟨by omega, .inl rfl⟩⟩
                    · exact ⟨0, by rw [if_neg h, if_neg h2], .inr ⟨by omega, .inr rfl⟩⟩
                rw [hS] at hcr
                have HCJ := Lib.hid hcr
                have HSD2 := Lib.hid hSD
                generalize prG C j = cj at *
                clear hcr hS hSD hD
                go_upto_region 24 with (fail)
                refine wp_region_inv (fun w w' => Below w.heap.size w w') (fun qi_ qv_ _ => qv_ = ([.agg #[.int .i64 p.1, .int .i64 p.2], .agg #[.int .i64 q.1, .int .i64 q.2], .int .i64 j, .pointer (some ⟨w3.heap.size, j * 2, none⟩), .pointer (some ⟨w3.heap.size, j * 2, none⟩), .int .i64 cj.1, .int .i64 j, .pointer (some ⟨w3.heap.size, j * 2, none⟩), .pointer (some ⟨w3.heap.size, j * 2 + 1, none⟩), .int .i64 cj.2, .int .i64 S, .int .i64 S] : List Value).getD qi_ undef) (by kernel_rfl) (by kernel_rfl) (fun _ => Below.refl _ _) (fun _ _ _ h1 h2 => below_later h1 h1.size h2) (fun _ _ _ _ _ _ h => h) ?_
                refine inv_cons (fun wx hg hd => ?_) (fun v0 => ?_)
                · have hx := ((Below.refl wz.heap.size wz).drew).trans hg
                  clear hd hg
                  obtain ⟨⟨k1, k2⟩, -⟩ := HCX.out _ (HZ.out.trans (hx.mono hsz))
                  go_wp2
                  exact ⟨_, rfl, Below.refl _ _, rfl⟩
                (try simp only [List.nil_append, Act.put, List.setIfInBounds_toArray, List.set_cons_zero, List.set_cons_succ])
                refine inv_cons (fun wx hg hd => ?_) (fun v1 => ?_)
                · have hx := ((Below.refl wz.heap.size wz).drew).trans hg
                  clear hd hg
                  obtain ⟨-, ⟨k1, k2⟩, -⟩ := HCX.out _ (HZ.out.trans (hx.mono hsz))
                  go_wp2
                  exact ⟨_, rfl, Below.refl _ _, rfl⟩
                (try simp only [List.cons_append, List.nil_append, Act.put, List.setIfInBounds_toArray, List.set_cons_zero, List.set_cons_succ])
                refine inv_cons (fun wx hg hd => ?_) (fun v2 => ?_)
                · have hx := ((Below.refl wz.heap.size wz).drew).trans hg
                  clear hd hg
                  go_wp2
                  exact ⟨_, rfl, Below.refl _ _, rfl⟩
                (try simp only [List.cons_append, List.nil_append, Act.put, List.setIfInBounds_toArray, List.set_cons_zero, List.set_cons_succ])
                refine inv_cons (fun wx hg hd => ?_) (fun v3 => ?_)
                · have hx := ((Below.refl wz.heap.size wz).drew).trans hg
                  (try (have ee : v2 = (.int .i64 j : Value) := hd 2 (by simp) (by decide); subst ee))
                  clear hd hg
                  go_wp2
                  exact ⟨_, rfl, Below.refl _ _, rfl⟩
                (try simp only [List.cons_append, List.nil_append, Act.put, List.setIfInBounds_toArray, List.set_cons_zero, List.set_cons_succ])
                refine inv_cons (fun wx hg hd => ?_) (fun v4 => ?_)
                · have hx := ((Below.refl wz.heap.size wz).drew).trans hg
                  (try (have ee : v3 = (.pointer (some ⟨w3.heap.size, j * 2, none⟩) : Value) := hd 3 (by simp) (by decide); subst ee))
                  clear hd hg
                  go_wp2
                  exact ⟨_, rfl, Below.refl _ _, rfl⟩
                (try simp only [List.cons_append, List.nil_append, Act.put, List.setIfInBounds_toArray, List.set_cons_zero, List.set_cons_succ])
                refine inv_cons (fun wx hg hd => ?_) (fun v5 => ?_)
                · have hx := ((Below.refl wz.heap.size wz).drew).trans hg
                  (try (have ee : v4 = (.pointer (some ⟨w3.heap.size, j * 2, none⟩) : Value) := hd 4 (by simp) (by decide); subst ee))
                  clear hd hg
                  obtain ⟨k1, k2⟩ := HBC.out _ hx
                  go_wp2
                  exact ⟨_, rfl, Below.refl _ _, rfl⟩
                (try simp only [List.cons_append, List.nil_append, Act.put, List.setIfInBounds_toArray, List.set_cons_zero, List.set_cons_succ])
                refine inv_cons (fun wx hg hd => ?_) (fun v6 => ?_)
                · have hx := ((Below.refl wz.heap.size wz).drew).trans hg
                  clear hd hg
                  go_wp2
                  exact ⟨_, rfl, Below.refl _ _, rfl⟩
                (try simp only [List.cons_append, List.nil_append, Act.put, List.setIfInBounds_toArray, List.set_cons_zero, List.set_cons_succ])
                refine inv_cons (fun wx hg hd => ?_) (fun v7 => ?_)
                · have hx := ((Below.refl wz.heap.size wz).drew).trans hg
                  (try (have ee : v6 = (.int .i64 j : Value) := hd 6 (by simp) (by decide); subst ee))
                  clear hd hg
                  go_wp2
                  exact ⟨_, rfl, Below.refl _ _, rfl⟩
                (try simp only [List.cons_append, List.nil_append, Act.put, List.setIfInBounds_toArray, List.set_cons_zero, List.set_cons_succ])
                refine inv_cons (fun wx hg hd => ?_) (fun v8 => ?_)
                · have hx := ((Below.refl wz.heap.size wz).drew).trans hg
                  (try (have ee : v7 = (.pointer (some ⟨w3.heap.size, j * 2, none⟩) : Value) := hd 7 (by simp) (by decide); subst ee))
                  clear hd hg
                  go_wp2
                  exact ⟨_, rfl, Below.refl _ _, rfl⟩
                (try simp only [List.cons_append, List.nil_append, Act.put, List.setIfInBounds_toArray, List.set_cons_zero, List.set_cons_succ])
                refine inv_cons (fun wx hg hd => ?_) (fun v9 => ?_)
                · have hx := ((Below.refl wz.heap.size wz).drew).trans hg
                  (try (have ee : v8 = (.pointer (some ⟨w3.heap.size, j * 2 + 1, none⟩) : Value) := hd 8 (by simp) (by decide); subst ee))
                  clear hd hg
                  obtain ⟨k1, k2⟩ := HBC.out _ hx
                  go_wp2
                  exact ⟨_, rfl, Below.refl _ _, rfl⟩
                (try simp only [List.cons_append, List.nil_append, Act.put, List.setIfInBounds_toArray, List.set_cons_zero, List.set_cons_succ])
                refine inv_cons (fun wx hg hd => ?_) (fun v10 => ?_)
                · have hx := ((Below.refl wz.heap.size wz).drew).trans hg
                  (try (have ee : v0 = (.agg #[.int .i64 p.1, .int .i64 p.2] : Value) := hd 0 (by simp) (by decide); subst ee))
                  (try (have ee : v1 = (.agg #[.int .i64 q.1, .int .i64 q.2] : Value) := hd 1 (by simp) (by decide); subst ee))
                  (try (have ee : v5 = (.int .i64 cj.1 : Value) := hd 5 (by simp) (by decide); subst ee))
                  (try (have ee : v9 = (.int .i64 cj.2 : Value) := hd 9 (by simp) (by decide); subst ee))
                  clear hd hg
                  go_wp2_with fail
                  refine (HCJ.out _).mono ?_
                  rintro e w' ⟨rfl, hb⟩
                  go_wp2
                  exact ⟨_, rfl, hb, rfl⟩
                (try simp only [List.cons_append, List.nil_append, Act.put, List.setIfInBounds_toArray, List.set_cons_zero, List.set_cons_succ])
                refine inv_cons (fun wx hg hd => ?_) (fun v11 => ?_)
                · have hx := ((Below.refl wz.heap.size wz).drew).trans hg
                  (try (have ee : v10 = (.int .i64 S : Value) := hd 10 (by simp) (by decide); subst ee))
                  clear hd hg
                  go_wp2
                  exact ⟨_, rfl, Below.refl _ _, rfl⟩
                (try simp only [List.cons_append, List.nil_append, Act.put, List.setIfInBounds_toArray, List.set_cons_zero, List.set_cons_succ])
                refine inv_done (fun wx hg hd => ?_)
                have hx := ((Below.refl wz.heap.size wz).drew).trans hg
                (have ee : v0 = (.agg #[.int .i64 p.1, .int .i64 p.2] : Value) := hd 0 (by simp); subst ee)
                (have ee : v1 = (.agg #[.int .i64 q.1, .int .i64 q.2] : Value) := hd 1 (by simp); subst ee)
                (have ee : v2 = (.int .i64 j : Value) := hd 2 (by simp); subst ee)
                (have ee : v3 = (.pointer (some ⟨w3.heap.size, j * 2, none⟩) : Value) := hd 3 (by simp); subst ee)
                (have ee : v4 = (.pointer (some ⟨w3.heap.size, j * 2, none⟩) : Value) := hd 4 (by simp); subst ee)
                (have ee : v5 = (.int .i64 cj.1 : Value) := hd 5 (by simp); subst ee)
                (have ee : v6 = (.int .i64 j : Value) := hd 6 (by simp); subst ee)
                (have ee : v7 = (.pointer (some ⟨w3.heap.size, j * 2, none⟩) : Value) := hd 7 (by simp); subst ee)
                (have ee : v8 = (.pointer (some ⟨w3.heap.size, j * 2 + 1, none⟩) : Value) := hd 8 (by simp); subst ee)
                (have ee : v9 = (.int .i64 cj.2 : Value) := hd 9 (by simp); subst ee)
                (have ee : v10 = (.int .i64 S : Value) := hd 10 (by simp); subst ee)
                (have ee : v11 = (.int .i64 S : Value) := hd 11 (by simp); subst ee)
                clear hd hg
                (try go_simp)
                have HZX := Lib.hid (HZ.out.trans (hx.mono hsz))
                clear hx HBC HCJ HZ
                rcases HSD2.out with ⟨hneg, rfl⟩ | ⟨hpos, hs2⟩
                · have HA3 := Lib.hid (HST.out.1 hneg)
                  clear HAP HSD2 HST hneg
                  cases ap
                  all_goals
                    go_wp2
                    go_roundw
                    case rel => exact ⟨j + 1, _, by omega, by go_num, rfl, HA3.out, HZX.out⟩
                    case measure => simp [intOf]; omega
                · have HA3 := Lib.hid (HST.out.2 hpos)
                  clear HAP HSD2 HST hpos
                  rcases hs2 with rfl | rfl
                  all_goals
                    cases ap
                    all_goals
                      go_wp2
                      go_roundw
                      case rel => exact ⟨j + 1, false, by omega, by go_num, rfl, HA3.out, HZX.out⟩
                      case measure => simp [intOf]; omega
              · obtain rfl : j = 4 := by omega
                have p2 : decide (((4 : Nat) : Int) < 4) = false := by decide
                have HIX := Lib.hid (HIB.out.trans ((HCX.out _ HZ.out).2.2.mono hsi))
                cases ap with
                | true =>
                  have HXF : Hid (X = false) := by show _ = _; rw [HXA.out]; exact HOY1.out (HAP.out.1 rfl)
                  have HF := Lib.hid (B4.out.trans (HIX.out.mono B4.out.size))
                  clear HAP HZ HCX HNX
                  go_wp2
                  go_ret
                  rw [HXF.out]
                  exact ⟨rfl, HF.out⟩
                | false =>
                  have HN3 := Lib.hid (HNX.out (HAP.out.2 rfl))
                  clear HAP HZ HCX HNX
                  go_wp2
                  go_roundw
                  case rel => exact ⟨e + 1, by omega, by go_num, HN3.out, HIX.out⟩
                  case measure => simp [intOf]; omega
        · obtain rfl : e = 6 := by omega
          have p1 : decide (((6 : Nat) : Int) < 6) = false := by decide
          have HXF : Hid (X = true) := by show _ = _; rw [HXA.out]; exact HON.out HI.out.1
          have HF := Lib.hid (B4.out.trans (HI.out.2.mono B4.out.size))
          clear HI
          go_wp2
          go_ret
          rw [HXF.out]
          exact ⟨rfl, HF.out⟩
end Go.Proofs.YtdbfimdcaacjhaaGreat
/- A cell by value, and an array of four numbers, opened. -/
namespace Go.Proofs.YtdbfimdcaacjhaaGreat
open Go.RowKit Go.ChangeShapes Go.WideShapes
set_option maxRecDepth 100000
theorem cellsI64c : Tryz.prog.cellsOf 2 = 1 := by kernel_rfl
theorem cellsIc : Tryz.prog.cellsOf 3 = 1 := by kernel_rfl
theorem cellsEc : Tryz.prog.cellsOf 23 = 2 := by kernel_rfl
theorem cellsCc : Tryz.prog.cellsOf 27 = 3 := by kernel_rfl
theorem cellsP4c : Tryz.prog.cellsOf 42 = 4 := by kernel_rfl
section
variable {H : Type} {enc : TypeId × Value → H} {w : World} {held : Bool}
theorem open_eL {fuel : Nat} {cs : List Value} {x : DataW H × List MemPlace} (h : DataW.trod enc Tryz.prog w 0 (fun _ => true) held fuel 23 cs = some x) : ∃ a b : Int, cs = [.int .i64 a, .int .i64 b] := by
  obtain ⟨xs, m, rfl, _, hl, hlen, hget⟩ := DataW.trod_struct Tryz.underlying23 h
  have h0 : DataW.trod enc Tryz.prog w 0 (fun _ => true) held m 2 ((cs.drop 0).take (Tryz.prog.cellsOf 2)) = xs[0]? := hget 0 _ rfl
  have h1 : DataW.trod enc Tryz.prog w 0 (fun _ => true) held m 2 ((cs.drop 1).take (Tryz.prog.cellsOf 2)) = xs[1]? := hget 1 _ rfl
  have hsz : xs.length = 2 := hlen
  rw [cellsI64c] at h0 h1
  rw [List.getElem?_eq_getElem (by omega)] at h0 h1
  obtain ⟨a, ea, _, ha⟩ := DataW.trod_int Tryz.underlying2 h0
  obtain ⟨b, eb, _, hb⟩ := DataW.trod_int Tryz.underlying2 h1
  rw [cellsEc] at hl
  match cs, hl with
  | [u, v], _ =>
    simp at ea eb
    exact ⟨a, b, by rw [ea, eb]⟩
theorem open_cL {fuel : Nat} {cs : List Value} {x : DataW H × List MemPlace} (h : DataW.trod enc Tryz.prog w 0 (fun _ => true) held fuel 27 cs = some x) : ∃ r a b : Int, cs = [.int .i64 r, .int .i64 a, .int .i64 b] := by
  obtain ⟨xs, m, rfl, _, hl, hlen, hget⟩ := DataW.trod_struct Tryz.underlying27 h
  have h0 : DataW.trod enc Tryz.prog w 0 (fun _ => true) held m 3 ((cs.drop 0).take (Tryz.prog.cellsOf 3)) = xs[0]? := hget 0 _ rfl
  have h1 : DataW.trod enc Tryz.prog w 0 (fun _ => true) held m 23 ((cs.drop 1).take (Tryz.prog.cellsOf 23)) = xs[1]? := hget 1 _ rfl
  have hsz : xs.length = 2 := hlen
  rw [cellsIc] at h0
  rw [cellsEc] at h1
  rw [List.getElem?_eq_getElem (by omega)] at h0 h1
  obtain ⟨r, er, _, _⟩ := DataW.trod_int Tryz.underlying3 h0
  obtain ⟨a, b, eb⟩ := open_eL h1
  rw [cellsCc] at hl
  match cs, hl with
  | [u, v, s], _ =>
    simp at er eb
    exact ⟨r, a, b, by rw [er, eb.1, eb.2]⟩
theorem open_cellv {b0 : Nat} {r : Reach} {v : Value} {d : DataW H} {p : List MemPlace}
    (hok : Value.okWide Tryz.prog w r b0 27 v) (h : DataW.Trod enc Tryz.prog w 0 (fun _ => true) held 27 v d p) : ∃ r a b : Int, v = .agg #[.int .i64 r, .int .i64 a, .int .i64 b] := by
  simp only [Value.okWide, Tryz.underlying27] at hok
  obtain ⟨cs, rfl, _⟩ := hok
  obtain ⟨fuel, hf⟩ := h
  obtain ⟨r, a, b, hq⟩ := open_cL hf
  refine ⟨r, a, b, ?_⟩
  have : cs.toList = [.int .i64 r, .int .i64 a, .int .i64 b] := hq
  obtain ⟨l⟩ := cs
  simp at this
  rw [this]
theorem open_four {b0 : Nat} {r : Reach} {v : Value} {d : DataW H} {p : List MemPlace}
    (hok : Value.okWide Tryz.prog w r b0 42 v) (h : DataW.Trod enc Tryz.prog w 0 (fun _ => true) held 42 v d p) : ∃ a b c d : Int, v = .agg #[.int .i64 a, .int .i64 b, .int .i64 c, .int .i64 d] := by
  simp only [Value.okWide, Tryz.underlying42] at hok
  obtain ⟨cs, rfl, hs, _⟩ := hok
  obtain ⟨fuel, hf⟩ := h
  obtain ⟨xs, m, rfl, _, _, hlen, hget⟩ := DataW.trod_array Tryz.underlying42 hf
  have h0 := hget 0 (by omega)
  have h1 := hget 1 (by omega)
  have h2 := hget 2 (by omega)
  have h3 := hget 3 (by omega)
  rw [cellsI64c] at h0 h1 h2 h3
  rw [List.getElem?_eq_getElem (by omega)] at h0 h1 h2 h3
  obtain ⟨a, ea, _, _⟩ := DataW.trod_int Tryz.underlying2 h0
  obtain ⟨b, eb, _, _⟩ := DataW.trod_int Tryz.underlying2 h1
  obtain ⟨c, ec, _, _⟩ := DataW.trod_int Tryz.underlying2 h2
  obtain ⟨d, ed, _, _⟩ := DataW.trod_int Tryz.underlying2 h3
  have hsz : cs.size = 4 := by rw [hs, cellsP4c]
  obtain ⟨l⟩ := cs
  match l, hsz with
  | [x, y, z, t], _ =>
    simp [Value.cells] at ea eb ec ed
    exact ⟨a, b, c, d, by rw [ea, eb, ec, ed]⟩
end
end Go.Proofs.YtdbfimdcaacjhaaGreat
