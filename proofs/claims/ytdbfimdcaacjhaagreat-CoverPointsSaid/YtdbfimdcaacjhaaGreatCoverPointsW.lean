/- The walk of the law CoverPoints. -/
import Derived.Test.YtdbfimdcaacjhaaGreatPackAK
namespace Go.Proofs.YtdbfimdcaacjhaaGreat.coverPoints
open Go.RowKit Go.Lib Wd Cv

theorem pick_in {p q i : Int} (h : p ≤ q) (h2 : q - p < 100000000) : ∃ u, p + i % 4294967296 % (q - p + 1) = u ∧ p ≤ u ∧ u ≤ q ∧ ((q - p + 1 : Int) == 0) = false ∧ (i % 4294967296).tmod (q - p + 1) = u - p := by
  have h1 := Int.emod_nonneg (i % 4294967296) (show q - p + 1 ≠ 0 by omega)
  have h3 := Int.emod_lt_of_pos (i % 4294967296) (show 0 < q - p + 1 by omega)
  refine ⟨_, rfl, by omega, by omega, by simp; omega, ?_⟩
  rw [Int.tmod_eq_emod_of_nonneg (by omega)]
  omega
set_option maxRecDepth 100000 in
set_option maxHeartbeats 16000000 in
theorem walk {w : World} (a0 : Int) (_w0 : (Lit.int .i64 a0).wf = true) (a1 : Int) (_w1 : (Lit.int .i64 a1).wf = true) (a2 : Int) (_w2 : (Lit.int .i64 a2).wf = true) (a3 : Int) (_w3 : (Lit.int .i64 a3).wf = true) (a4 : Int) (_w4 : (Lit.int .i64 a4).wf = true) (a5 : Int) (_w5 : (Lit.int .i64 a5).wf = true) (a6 : Int) (_w6 : (Lit.int .i64 a6).wf = true) :
    Calls Tryz.prog 5 #[.int .i64 a0, .int .i64 a1, .int .i64 a2, .int .i64 a3, .int .i64 a4, .int .i64 a5, .int .i64 a6] w fun e w' => e = .returned (.bool true) ∧ Below w.heap.size w w' := by
  have e5 : bits BinOp.and IntKind.i64 a5 4294967295 = a5 % 4294967296 := i64_and_mask a5 32 (by omega) 4294967295 rfl
  have e6 : bits BinOp.and IntKind.i64 a6 4294967295 = a6 % 4294967296 := i64_and_mask a6 32 (by omega) 4294967295 rfl
  obtain ⟨s, R, q1, q2, q3, q4, hR, q5⟩ := res_of a4
  have HLB := Lib.hid (fun w => lbox_any a0 a1 a2 a3 R hR w)
  obtain ⟨b1, b2, b3, b4, b5, b6⟩ := lbox_of a0 a1 a2 a3 hR
  have hsz := sizeN_pos (m := 12 - R) (by omega)
  generalize boxP a0 a1 = p at *
  generalize boxQ a0 a1 a2 a3 R = q at *
  obtain ⟨px, py⟩ := p
  obtain ⟨qx, qy⟩ := q
  have c1 := (worldB_iff _ _).1 b1
  have c2 := (worldB_iff _ _).1 b2
  simp only at b3 b4 b5 b6 c1 c2
  obtain ⟨u, _, u1, u2, u3, u4⟩ := pick_in (i := a5) b3 (by omega)
  obtain ⟨v, _, v1, v2, v3, v4⟩ := pick_in (i := a6) b4 (by omega)
  have hu : 0 ≤ u ∧ u < 1073741824 := by omega
  have hv : 0 ≤ v ∧ v < 1073741824 := by omega
  have hi5 : 0 ≤ a5 % 4294967296 ∧ a5 % 4294967296 < 4294967296 := by omega
  have hi6 : 0 ≤ a6 % 4294967296 ∧ a6 % 4294967296 < 4294967296 := by omega
  generalize a5 % 4294967296 = I at *
  generalize a6 % 4294967296 = K at *
  have hwu : worldB u v = true := (worldB_iff _ _).2 ⟨hu, hv⟩
  have HCO := Lib.hid (fun w => cof_in u v hwu R hR w)
  have hok := near_ok0 hu hv hR
  have HOF := Lib.hid (fun w => of_any R (nearE u v R) w)
  rw [(ofW_okF hok).1, (ofW_okF hok).2] at HOF
  have hch : chE (px, py) (qx, qy) R = 0 := by
    unfold chE
    rw [if_neg (by omega), if_pos ⟨b1, b2⟩, if_neg (by simp only; omega)]
  have HBX := Lib.hid (fun w => box_few (px, py) (qx, qy) hch (by simp only; omega) (by simp only; omega) w)
  have HT1 := Lib.hid (fun w => ctouch_any R (nearE u v R) (px, py) (qx, qy) w)
  rw [ct_near hR hu hv ⟨u1, u2⟩ ⟨v1, v2⟩ ((bxOk_iff _ _).2 (by simp only; omega))] at HT1
  have HT2 := Lib.hid (fun w => ctouch_any R (nearE u v R) (u, v) (u, v) w)
  rw [ct_near hR hu hv ⟨Int.le_refl _, Int.le_refl _⟩ ⟨Int.le_refl _, Int.le_refl _⟩ ((bxOk_iff _ _).2 (by simp only; omega))] at HT2
  have HT3 := Lib.hid (fun w => ctouch_any R (nearE u v R) (px - 7, py) (qx, qy + 9) w)
  rw [ct_near hR hu hv (by simp only; omega) (by simp only; omega) ((bxOk_iff _ _).2 (by simp only; omega))] at HT3
  have HIN : Hid (∀ L, IsBox R (px, py) (qx, qy) L → hasF L (wordN R (nearE u v R) : Nat) = true ∧ Rising L ∧ L.length ≤ 1000000000) := fun L hL => by
    refine ⟨(hasF_iff _ _).2 ((hL.2.1 _).2 ⟨_, hok, touch_at (by omega) ⟨u1, u2⟩ ⟨v1, v2⟩ (inZ_near hR), rfl⟩), hL.1.rising, by have := hL.2.2; omega⟩
  have HAW := Lib.hid awake10_any
  generalize wordN R (nearE u v R) = W at *
  generalize nearE u v R = z at *
  simp only [vE, vC] at *
  clear hok hch hwu b1 b2 q5
  go_enter Tryz.func5, Tryz.ntmps5
  go_upto_region 2 with (fail)
  go_wp2_with fail
  refine (HLB.out _).mono ?_
  rintro e w1 ⟨rfl, hb1⟩
  have HX1 := Lib.hid hb1
  clear hb1 HLB
  go_upto_region 3 with (fail)
  have K1 : Below w.heap.size w ((w1.alloc (.cells #[.int .i64 px, .int .i64 py] 30)).alloc (.cells #[.int .i64 qx, .int .i64 qy] 30)) := (HX1.out.alloc HX1.out.size _).alloc (by have := HX1.out.size; simp only [World.size_alloc]; omega) _
  have x1 : ((w1.alloc (.cells #[.int .i64 px, .int .i64 py] 30)).alloc (.cells #[.int .i64 qx, .int .i64 qy] 30)).heap[w1.heap.size]? = some (.cells #[.int .i64 px, .int .i64 py] 30 (0, 0)) := by rw [Below.heap_alloc _ _ _ (by simp)]; exact heap_new _ _ _ rfl
  have x2 : ((w1.alloc (.cells #[.int .i64 px, .int .i64 py] 30)).alloc (.cells #[.int .i64 qx, .int .i64 qy] 30)).heap[w1.heap.size + 1]? = some (.cells #[.int .i64 qx, .int .i64 qy] 30 (0, 0)) := heap_new _ _ _ (by simp)
  generalize (w1.alloc (.cells #[.int .i64 px, .int .i64 py] 30)).alloc (.cells #[.int .i64 qx, .int .i64 qy] 30) = w2 at *
  have HX2 := Lib.hid K1
  have HP := Lib.hid (stay_of x1)
  have HQ := Lib.hid (stay_of x2)
  obtain ⟨k1, k2, k3⟩ := cel2 x1
  obtain ⟨l1, l2, l3⟩ := cel2 x2
  clear K1 x1 x2 HX1
  as_aux_lemma =>
    go_region
    rw [show px + (u - px) = u by omega, show py + (v - py) = v by omega]
    clear u4 v4 u3 v3 e5 e6 k1 k2 l1 l2 hi5 hi6
    as_aux_lemma =>
      go_upto_region 4 with (fail)
      go_wp2_with fail
      refine (HCO.out _).mono ?_
      rintro e w3 ⟨rfl, hb3⟩
      have HX3 := Lib.hid (((Below.refl w2.heap.size w2).drew).trans hb3)
      clear hb3 HCO
      go_upto_region 5 with (fail)
      have K4 : Below w2.heap.size w2 (w3.alloc (.cells #[.int .i64 R, .int .i64 z.1, .int .i64 z.2] 27)) := HX3.out.alloc HX3.out.size _
      have x4 : (w3.alloc (.cells #[.int .i64 R, .int .i64 z.1, .int .i64 z.2] 27)).heap[w3.heap.size]? = some (.cells #[.int .i64 R, .int .i64 z.1, .int .i64 z.2] 27 (0, 0)) := heap_new _ _ _ rfl
      generalize w3.alloc (.cells #[.int .i64 R, .int .i64 z.1, .int .i64 z.2] 27) = w4 at *
      generalize w3.heap.size = d at *
      have HX4 := Lib.hid K4
      have HD := Lib.hid (stay_of x4)
      have HP4 := Lib.hid (HP.out.later K4)
      have HQ4 := Lib.hid (HQ.out.later K4)
      obtain ⟨k1, k2, k3, k4⟩ := cel3 x4
      clear K4 x4 HX3 HP HQ
      as_aux_lemma =>
        go_wp2_with fail
        refine (HOF.out _).mono ?_
        rintro e w5 ⟨rfl, hb5⟩
        have HX5 := Lib.hid hb5
        clear k1 k2 k3 k4 hb5 HOF
        obtain ⟨k1, k2, k3⟩ := cel2 (HP4.out w5 HX5.out)
        obtain ⟨l1, l2, l3⟩ := cel2 (HQ4.out w5 HX5.out)
        go_upto_region 6 with (fail)
        go_wp2_with fail
        refine (HBX.out _).mono ?_
        rintro e w6 ⟨L, ao, c, n, hL, rfl, hn, hown, hb6⟩
        obtain ⟨i1, i2, i3⟩ := HIN.out L hL
        have HW := Lib.hid (words_own hn hown)
        have HH := Lib.hid (fun w B h => rhas_any ao c L W w B h i3 i2)
        rw [i1, ← hn] at HH
        have HX6 := Lib.hid (HX5.out.trans (hb6.mono HX5.out.size))
        clear k1 k2 k3 l1 l2 l3 hb6 HBX HX5 HIN hL hn hown i1 i2 i3
        obtain ⟨k1, k2, k3, k4⟩ := cel3 (HD.out w6 HX6.out)
        obtain ⟨l1, l2, l3⟩ := cel2 (HP4.out w6 HX6.out)
        obtain ⟨m1, m2, m3⟩ := cel2 (HQ4.out w6 HX6.out)
        as_aux_lemma =>
          go_upto_region 7 with (fail)
          go_wp2_with fail
          refine (HH.out w6 _ HW.out).mono ?_
          rintro e w7 ⟨rfl, rfl⟩
          clear HH HW
          as_aux_lemma =>
            go_wp2_with fail
            refine (HT1.out _).mono ?_
            rintro e w8 ⟨rfl, hb8⟩
            have HX8 := Lib.hid (HX6.out.trans (hb8.mono HX6.out.size))
            clear k1 k2 k3 k4 l1 l2 l3 m1 m2 m3 hb8 HT1 HX6
            obtain ⟨k1, k2, k3, k4⟩ := cel3 (HD.out w8 HX8.out)
            as_aux_lemma =>
              go_wp2_with fail
              refine (HT2.out _).mono ?_
              rintro e w9 ⟨rfl, hb9⟩
              have HX9 := Lib.hid (HX8.out.trans (hb9.mono HX8.out.size))
              clear k1 k2 k3 k4 hb9 HT2 HX8
              obtain ⟨k1, k2, k3, k4⟩ := cel3 (HD.out w9 HX9.out)
              obtain ⟨l1, l2, l3⟩ := cel2 (HP4.out w9 HX9.out)
              obtain ⟨m1, m2, m3⟩ := cel2 (HQ4.out w9 HX9.out)
              as_aux_lemma =>
                go_upto_region 9 with (fail)
                go_wp2_with fail
                refine (HT3.out _).mono ?_
                rintro e w10 ⟨rfl, hb10⟩
                have HX10 := Lib.hid (HX9.out.trans (hb10.mono HX9.out.size))
                clear k1 k2 k3 k4 l1 l2 l3 m1 m2 m3 hb10 HT3 HX9
                go_wp2_with fail
                refine (HAW.out _).mono ?_
                rintro e w11 ⟨rfl, hb11⟩
                have HX11 := Lib.hid (HX10.out.trans (hb11.mono HX10.out.size))
                clear hb11 HAW HX10
                go_wp2
                go_ret
                exact ⟨rfl, HX2.out.trans ((HX4.out.trans (HX11.out.mono HX4.out.size)).mono HX2.out.size)⟩
end Go.Proofs.YtdbfimdcaacjhaaGreat.coverPoints
