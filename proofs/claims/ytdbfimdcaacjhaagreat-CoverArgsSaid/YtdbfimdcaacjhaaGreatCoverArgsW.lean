/- The walk of the law CoverArgs. -/
import Derived.Test.YtdbfimdcaacjhaaGreatPackAK
namespace Go.Proofs.YtdbfimdcaacjhaaGreat.coverArgs
open Go.RowKit Go.Lib Wd Cv

theorem world_in {a b : Int} (ha : 0 ≤ a ∧ a < 1073741824) (hb : 0 ≤ b ∧ b < 1073741824) : worldB a b = true := (worldB_iff a b).2 ⟨ha, hb⟩
theorem ch_turned {a b : Int} {R : Nat} (hR : R ≤ 12) (ha : 0 ≤ a ∧ a < 1073741824) (hb : 0 ≤ b ∧ b < 1073741824) : chE (a, b) (a - 1, b) R = if a = 0 then 4 else 1 := by
  unfold chE
  rw [if_neg (by omega)]
  by_cases h : a = 0
  · rw [if_pos h, if_neg]
    rintro ⟨_, h2⟩
    have := (worldB_iff _ _).1 h2
    simp only at this
    omega
  · rw [if_neg h, if_pos ⟨world_in ha hb, world_in (by simp only; omega) hb⟩, if_pos (by simp only; omega)]
theorem ch_far {a b : Int} {R : Nat} (hR : R ≤ 12) : chE (a, b) (a, 1073741824) R = 4 := by
  unfold chE
  rw [if_neg (by omega), if_neg]
  rintro ⟨_, h2⟩
  have := (worldB_iff _ _).1 h2
  simp only at this
  omega
theorem ch_fine (lo hi : E2) : chE lo hi 13 = 1 := by unfold chE; rw [if_pos (by omega)]
theorem ch_point {a b : Int} {R : Nat} (hR : R ≤ 12) (ha : 0 ≤ a ∧ a < 1073741824) (hb : 0 ≤ b ∧ b < 1073741824) : chE (a, b) (a, b) R = 0 := by
  unfold chE
  rw [if_neg (by omega), if_pos ⟨world_in ha hb, world_in ha hb⟩, if_neg (by simp)]
theorem ct_far (r : Int) (z lo : E2) (f b : Int) (hf : 2147483648 < f) : ctB r z lo (f, b) = false := by
  unfold ctB bxOk axOk axG
  simp
  omega
theorem ct_turned (r : Int) (z : E2) (a b : Int) : ctB r z (a + 1, b) (a, b) = false := by
  unfold ctB bxOk axOk axG
  simp
  omega
set_option maxRecDepth 100000 in
set_option maxHeartbeats 16000000 in
theorem walk {w : World} (a0 : Int) (_w0 : (Lit.int .i64 a0).wf = true) (a1 : Int) (_w1 : (Lit.int .i64 a1).wf = true) (a2 : Int) (_w2 : (Lit.int .i64 a2).wf = true) (a3 : Int) (_w3 : (Lit.int .i64 a3).wf = true) :
    Calls Tryz.prog 6 #[.int .i64 a0, .int .i64 a1, .int .i64 a2, .int .i64 a3] w fun e w' => e = .returned (.bool true) ∧ Below w.heap.size w w' := by
  have e0 : bits BinOp.and IntKind.i64 a0 1073741823 = a0 % 1073741824 := i64_and_mask a0 30 (by omega) 1073741823 rfl
  have e1 : bits BinOp.and IntKind.i64 a1 1073741823 = a1 % 1073741824 := i64_and_mask a1 30 (by omega) 1073741823 rfl
  have e3 : bits BinOp.and IntKind.i64 a3 65535 = a3 % 65536 := i64_and_mask a3 16 (by omega) 65535 rfl
  obtain ⟨s, R, q1, q2, q3, q4, hR, q5⟩ := res_of a2
  have hA : 0 ≤ a0 % 1073741824 ∧ a0 % 1073741824 < 1073741824 := by omega
  have hB : 0 ≤ a1 % 1073741824 ∧ a1 % 1073741824 < 1073741824 := by omega
  have hF : 0 ≤ a3 % 65536 ∧ a3 % 65536 < 65536 := by omega
  generalize a0 % 1073741824 = A at *
  generalize a1 % 1073741824 = B at *
  generalize a3 % 65536 = F at *
  have HB1 := Lib.hid (fun w => box_err (A, B) (A - 1, B) (r := R) (by rw [ch_turned hR hA hB]; split <;> decide) w)
  have HB2 := Lib.hid (fun w => box_err (A, B) (A, 1073741824) (r := R) (by rw [ch_far hR]; decide) w)
  have HB3 := Lib.hid (fun w => cen_err (A, -1) (A, B) (r := 13) (by rw [ch_fine]; decide) w)
  have HB4 := Lib.hid (fun w => cen_few (A, B) (A, B) (ch_point hR hA hB) (by have := (sizeN_pos (m := 12 - R) (by omega)).1; simp only; omega) (by have := (sizeN_pos (m := 12 - R) (by omega)).1; simp only; omega) w)
  rw [ch_turned hR hA hB] at HB1
  obtain ⟨E, hE⟩ : ∃ E : Int, (if A = 0 then (4 : Int) else 1) = E := ⟨_, rfl⟩
  rw [hE] at HB1
  have HE := Lib.hid hE
  clear hE
  rw [ch_far hR] at HB2
  rw [ch_fine] at HB3
  obtain ⟨Y, q6, hY⟩ : ∃ Y, bits BinOp.andNot IntKind.i64 B 1 = Y ∧ Y % 2 = 0 := ⟨_, rfl, andNot_even B⟩
  have HSO := Lib.hid (fun w => some_any A Y R w)
  rw [show (R : Int) % 13 = (R : Int) by omega, Int.toNat_natCast] at HSO
  have HT1 := Lib.hid (fun w => ctouch_any R (someE A Y R) (A, B) (F + 2147483648 + 1, B) w)
  have HT2 := Lib.hid (fun w => ctouch_any R (someE A Y R) (A + 1, B) (A, B) w)
  rw [ct_far _ _ _ _ _ (by omega)] at HT1
  rw [ct_turned] at HT2
  generalize someE A Y R = z at *
  have HAW := Lib.hid awake10_any
  simp only [vE, vC] at *
  clear hY q5
  go_enter Tryz.func6, Tryz.ntmps6
  go_upto_region 2 with (fail)
  go_wp2_with fail
  refine (HB1.out _).mono ?_
  rintro e w1 ⟨rfl, hb1⟩
  have HX1 := Lib.hid hb1
  clear hb1 HB1
  as_aux_lemma =>
    go_upto_region 3 with (fail)
    go_wp2_with fail
    refine (HB2.out _).mono ?_
    rintro e w2 ⟨rfl, hb2⟩
    have HX2 := Lib.hid (HX1.out.trans (hb2.mono HX1.out.size))
    clear hb2 HB2 HX1
    go_upto_region 4 with (fail)
    go_wp2_with fail
    refine (HB3.out _).mono ?_
    rintro e w3 ⟨rfl, hb3⟩
    have HX3 := Lib.hid (HX2.out.trans (hb3.mono HX2.out.size))
    clear hb3 HB3 HX2
    as_aux_lemma =>
      go_upto_region 5 with (fail)
      go_wp2_with fail
      refine (HB4.out _).mono ?_
      rintro e w4 ⟨L, ao, c, n, _, rfl, _, _, hb4⟩
      have HX4 := Lib.hid (HX3.out.trans (hb4.mono HX3.out.size))
      clear hb4 HB4 HX3
      go_upto_region 7 with (fail)
      have hgo : ∀ (t : Bool), (A == 0) = t → E = (if t = true then (4 : Int) else 1) := fun t ht => by
        rw [← HE.out]
        cases t with
        | true => rw [if_pos (by simpa using ht)]; rfl
        | false => rw [if_neg (by simpa using ht)]; rfl
      cases hA0 : (A == 0) with
      | true =>
        obtain rfl : E = 4 := hgo true hA0
        clear HE hgo
        as_aux_lemma =>
          go_upto_region 10 with (fail)
          go_wp2_with fail
          refine (HSO.out _).mono ?_
          rintro e w5 ⟨rfl, hb5⟩
          have HX5 := Lib.hid (HX4.out.trans (hb5.mono HX4.out.size))
          clear hb5 HSO HX4
          go_upto_region 11 with (fail)
          have K5 : Below w.heap.size w (w5.alloc (.cells #[.int .i64 R, .int .i64 z.1, .int .i64 z.2] 27)) := HX5.out.alloc HX5.out.size _
          have x5 : (w5.alloc (.cells #[.int .i64 R, .int .i64 z.1, .int .i64 z.2] 27)).heap[w5.heap.size]? = some (.cells #[.int .i64 R, .int .i64 z.1, .int .i64 z.2] 27 (0, 0)) := heap_new _ _ _ rfl
          generalize w5.alloc (.cells #[.int .i64 R, .int .i64 z.1, .int .i64 z.2] 27) = w6 at *
          generalize w5.heap.size = d at *
          have HX6 := Lib.hid K5
          have HD := Lib.hid (stay_of x5)
          obtain ⟨k1, k2, k3, k4⟩ := cel3 x5
          clear K5 x5 HX5
          as_aux_lemma =>
            go_wp2_with fail
            refine (HT1.out _).mono ?_
            rintro e w7 ⟨rfl, hb7⟩
            clear k1 k2 k3 k4
            obtain ⟨k1, k2, k3, k4⟩ := cel3 (HD.out w7 hb7)
            have HX7 := Lib.hid (HX6.out.trans (hb7.mono HX6.out.size))
            clear hb7 HT1 HX6
            as_aux_lemma =>
              go_wp2_with fail
              refine (HT2.out _).mono ?_
              rintro e w8 ⟨rfl, hb8⟩
              have HX8 := Lib.hid (HX7.out.trans (hb8.mono HX7.out.size))
              clear hb8 HT2 HX7 k1 k2 k3 k4
              go_wp2_with fail
              refine (HAW.out _).mono ?_
              rintro e w9 ⟨rfl, hb9⟩
              have HX9 := Lib.hid (HX8.out.trans (hb9.mono HX8.out.size))
              clear hb9 HAW HX8
              go_wp2
              go_ret
              exact ⟨rfl, HX9.out⟩
      | false =>
        obtain rfl : E = 1 := hgo false hA0
        clear HE hgo
        as_aux_lemma =>
          go_upto_region 10 with (fail)
          go_wp2_with fail
          refine (HSO.out _).mono ?_
          rintro e w5 ⟨rfl, hb5⟩
          have HX5 := Lib.hid (HX4.out.trans (hb5.mono HX4.out.size))
          clear hb5 HSO HX4
          go_upto_region 11 with (fail)
          have K5 : Below w.heap.size w (w5.alloc (.cells #[.int .i64 R, .int .i64 z.1, .int .i64 z.2] 27)) := HX5.out.alloc HX5.out.size _
          have x5 : (w5.alloc (.cells #[.int .i64 R, .int .i64 z.1, .int .i64 z.2] 27)).heap[w5.heap.size]? = some (.cells #[.int .i64 R, .int .i64 z.1, .int .i64 z.2] 27 (0, 0)) := heap_new _ _ _ rfl
          generalize w5.alloc (.cells #[.int .i64 R, .int .i64 z.1, .int .i64 z.2] 27) = w6 at *
          generalize w5.heap.size = d at *
          have HX6 := Lib.hid K5
          have HD := Lib.hid (stay_of x5)
          obtain ⟨k1, k2, k3, k4⟩ := cel3 x5
          clear K5 x5 HX5
          as_aux_lemma =>
            go_wp2_with fail
            refine (HT1.out _).mono ?_
            rintro e w7 ⟨rfl, hb7⟩
            clear k1 k2 k3 k4
            obtain ⟨k1, k2, k3, k4⟩ := cel3 (HD.out w7 hb7)
            have HX7 := Lib.hid (HX6.out.trans (hb7.mono HX6.out.size))
            clear hb7 HT1 HX6
            as_aux_lemma =>
              go_wp2_with fail
              refine (HT2.out _).mono ?_
              rintro e w8 ⟨rfl, hb8⟩
              have HX8 := Lib.hid (HX7.out.trans (hb8.mono HX7.out.size))
              clear hb8 HT2 HX7 k1 k2 k3 k4
              go_wp2_with fail
              refine (HAW.out _).mono ?_
              rintro e w9 ⟨rfl, hb9⟩
              have HX9 := Lib.hid (HX8.out.trans (hb9.mono HX8.out.size))
              clear hb9 HAW HX8
              go_wp2
              go_ret
              exact ⟨rfl, HX9.out⟩
end Go.Proofs.YtdbfimdcaacjhaaGreat.coverArgs
