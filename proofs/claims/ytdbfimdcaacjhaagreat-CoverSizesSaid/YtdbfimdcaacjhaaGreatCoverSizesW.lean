/- The walk of the law CoverSizes. -/
import Derived.Test.YtdbfimdcaacjhaaGreatPackAK
import Derived.Test.YtdbfimdcaacjhaaGreatPackAL
namespace Go.Proofs.YtdbfimdcaacjhaaGreat.coverSizes
open Go.RowKit Go.Lib Wd Cv

theorem rem12 (r : Int) : ∃ (s : Int) (R : Nat), r.tmod 12 = s ∧ -12 < s ∧ s < 12 ∧ (s + 12).tmod 12 = (R : Int) ∧ R ≤ 11 := by
  have h : (-12 < r.tmod 12 ∧ r.tmod 12 < 12) := by
    rcases Int.lt_or_le r 0 with h | h
    · have e : r.tmod 12 = -((-r) % 12) := by rw [← Int.tmod_eq_emod_of_nonneg (show 0 ≤ -r by omega), Int.neg_tmod, Int.neg_neg]
      omega
    · rw [Int.tmod_eq_emod_of_nonneg h]; omega
  refine ⟨_, ((r.tmod 12 + 12) % 12).toNat, rfl, h.1, h.2, ?_, by omega⟩
  rw [Int.tmod_eq_emod_of_nonneg (by omega)]; omega
set_option maxRecDepth 100000 in
set_option maxHeartbeats 16000000 in
theorem walk {w : World} (a0 : Int) (_w0 : (Lit.int .i64 a0).wf = true) (a1 : Int) (_w1 : (Lit.int .i64 a1).wf = true) (a2 : Int) (_w2 : (Lit.int .i64 a2).wf = true) :
    Calls Tryz.prog 3 #[.int .i64 a0, .int .i64 a1, .int .i64 a2] w fun e w' => e = .returned (.bool true) ∧ Below w.heap.size w w' := by
  have e0 : bits BinOp.and IntKind.i64 a0 536870911 = a0 % 536870912 := i64_and_mask a0 29 (by omega) 536870911 rfl
  have e1 : bits BinOp.and IntKind.i64 a1 536870911 = a1 % 536870912 := i64_and_mask a1 29 (by omega) 536870911 rfl
  obtain ⟨s, R, q1, q2, q3, q4, hR⟩ := rem12 a2
  obtain ⟨x, qx, hx⟩ : ∃ x, a0 % 536870912 + 268435456 = x ∧ (268435456 ≤ x ∧ x < 805306368) := ⟨_, rfl, by omega⟩
  obtain ⟨y, qy, hy⟩ : ∃ y, a1 % 536870912 + 268435456 = y ∧ (268435456 ≤ y ∧ y < 805306368) := ⟨_, rfl, by omega⟩
  obtain ⟨K, hK⟩ : ∃ K : Nat, K = R + 1 := ⟨_, rfl⟩
  have q7 : (R : Int) + 1 = (K : Int) := by omega
  have hK12 : K ≤ 12 := by omega
  have hK1 : 1 ≤ K := by omega
  have hxw : 0 ≤ x ∧ x < 1073741824 := by omega
  have hyw : 0 ≤ y ∧ y < 1073741824 := by omega
  have hm0 : 0 ≤ a0 % 536870912 ∧ a0 % 536870912 < 536870912 := by omega
  have hm1 : 0 ≤ a1 % 536870912 ∧ a1 % 536870912 < 536870912 := by omega
  generalize a0 % 536870912 = u0 at *
  generalize a1 % 536870912 = u1 at *
  have hok := near_ok0 hxw hyw hK12
  have HNR := Lib.hid (fun w => rnear_in x y hxw hyw K hK12 w)
  have hcp : cpE K (nearE x y K) = 0 := by unfold cpE; rw [if_pos hok, if_neg (by omega)]
  have HPA := Lib.hid (fun w => rpar_any K (nearE x y K) w)
  rw [hcp, if_pos rfl, if_pos rfl, show (K : Int) - 1 = (R : Int) by omega] at HPA
  have HWD := Lib.hid (fun w => word_any K (nearE x y K) w)
  rw [(ofW_okF hok).1, (ofW_okF hok).2] at HWD
  obtain ⟨S, hS⟩ : ∃ S, sizeN (12 - K) = S := ⟨_, rfl⟩
  have hS1 : 52 ≤ S ∧ S ≤ 6689109 := by rw [← hS]; exact sizeN_pos (by omega)
  have hwb : worldB x y = true := (worldB_iff _ _).2 ⟨hxw, hyw⟩
  have hch : chE (x, y) (x, y) K = 0 := by
    unfold chE
    rw [if_neg (by omega), if_pos ⟨hwb, hwb⟩, if_neg (by simp)]
  have HBX := Lib.hid (fun w => box_few (x, y) (x, y) hch (by simp only; omega) (by simp only; omega) w)
  have hpar := parent_near (R := R) (by omega) x y
  rw [← hK, hS] at hpar
  have HT1 := Lib.hid (fun w => ctouch_any R (upE (nearE x y K)) (x - 2 * S, y - 2 * S) (x + 2 * S, y + 2 * S) w)
  rw [(ct_iff R _ _ _).2 ⟨(bxOk_iff _ _).2 (by simp only; omega), up_ok (by rw [← hK]; exact hok), cen_touch (by omega) hpar⟩] at HT1
  have HT2 := Lib.hid (fun w => ctouch_any K (nearE x y K) (x - 2 * S, y - 2 * S) (x + 2 * S, y + 2 * S) w)
  rw [ct_near hK12 hxw hyw (by simp only; omega) (by simp only; omega) ((bxOk_iff _ _).2 (by simp only; omega))] at HT2
  have HIN : Hid (∀ L, IsBox K (x, y) (x, y) L → hasF L (wordN K (nearE x y K) : Nat) = true ∧ Rising L ∧ 1 ≤ L.length ∧ L.length ≤ 3) := fun L hL => by
    have hm := point_some hK12 hxw hyw hL
    exact ⟨(hasF_iff _ _).2 hm, hL.1.rising, List.length_pos_of_mem hm, point_few hK12 hL⟩
  have HSZ : Hid (sizeN (12 - K) = S) := hS
  have HAW := Lib.hid awake10_any
  generalize wordN K (nearE x y K) = W at *
  generalize upE (nearE x y K) = zp at *
  generalize nearE x y K = z at *
  simp only [vE, vC] at *
  clear hok hch hwb hcp hpar hS hK
  go_enter Tryz.func3, Tryz.ntmps3
  go_upto_region 3 with (fail)
  go_wp2_with fail
  refine (HNR.out _).mono ?_
  rintro e w1 ⟨rfl, hb1⟩
  have HX1 := Lib.hid hb1
  clear hb1 HNR
  go_upto_region 5 with (fail)
  have K1 : Below w.heap.size w ((w1.alloc (.cells #[.int .i64 z.1, .int .i64 z.2] 23)).alloc (.cells #[.int .i64 K, .int .i64 z.1, .int .i64 z.2] 27)) := (HX1.out.alloc HX1.out.size _).alloc (by have := HX1.out.size; simp only [World.size_alloc]; omega) _
  have x1 : ((w1.alloc (.cells #[.int .i64 z.1, .int .i64 z.2] 23)).alloc (.cells #[.int .i64 K, .int .i64 z.1, .int .i64 z.2] 27)).heap[w1.heap.size + 1]? = some (.cells #[.int .i64 K, .int .i64 z.1, .int .i64 z.2] 27 (0, 0)) := heap_new _ _ _ (by simp)
  generalize (w1.alloc (.cells #[.int .i64 z.1, .int .i64 z.2] 23)).alloc (.cells #[.int .i64 K, .int .i64 z.1, .int .i64 z.2] 27) = w2 at *
  generalize w1.heap.size = d at *
  have HX2 := Lib.hid K1
  have HD := Lib.hid (stay_of x1)
  obtain ⟨k1, k2, k3, k4⟩ := cel3 x1
  clear K1 x1 HX1
  as_aux_lemma =>
    go_wp2_with fail
    refine (HPA.out _).mono ?_
    rintro e w3 ⟨rfl, hb3⟩
    have HX3 := Lib.hid hb3
    clear hb3 HPA k1 k2 k3 k4
    go_upto_region 8 with (fail)
    have K3 : Below w2.heap.size w2 (w3.alloc (.cells #[.int .i64 R, .int .i64 zp.1, .int .i64 zp.2] 27)) := HX3.out.alloc HX3.out.size _
    have x3 : (w3.alloc (.cells #[.int .i64 R, .int .i64 zp.1, .int .i64 zp.2] 27)).heap[w3.heap.size]? = some (.cells #[.int .i64 R, .int .i64 zp.1, .int .i64 zp.2] 27 (0, 0)) := heap_new _ _ _ rfl
    generalize w3.alloc (.cells #[.int .i64 R, .int .i64 zp.1, .int .i64 zp.2] 27) = w4 at *
    generalize w3.heap.size = dp at *
    have HX4 := Lib.hid K3
    have HD4 := Lib.hid (HD.out.later K3)
    have HDP := Lib.hid (stay_of x3)
    clear K3 x3 HX3 HD
    as_aux_lemma =>
      go_loopw [12, 13] (fun sv iv wr => ∃ (i : Nat) (t : Int), K ≤ i ∧ i ≤ 12 ∧ sv = .int .i64 t ∧ iv = .int .i64 i ∧ wr = w4 ∧ Hid (t = sizeN (i - K))) (fun _ iv _ => 12 - (intOf iv).toNat)
      case atStart => exact ⟨K, 52, Nat.le_refl _, hK12, rfl, rfl, rfl, by show _ = _; rw [Nat.sub_self]; rfl⟩
      case round =>
        obtain ⟨i, t, hRi, hi12, rfl, rfl, rfl, HS⟩ := hrel
        obtain ⟨s1, s2⟩ := sizeN_pos (m := i - K) (by omega)
        rw [← HS.out] at s1 s2
        by_cases hlt : i < 12
        · have hN : Hid (t * 8 / 3 = sizeN (i + 1 - K)) := by
            show _ = _
            rw [show i + 1 - K = (i - K) + 1 by omega, HS.out]; rfl
          have hi0 : (i : Int) < 12 := by omega
          clear HS
          go_wp2
          refine ⟨⟨i + 1, t * 8 / 3, by omega, by omega, rfl, by rw [show ((i + 1 : Nat) : Int) = (i : Int) + 1 by omega], trivial, hN.out⟩, by simp [intOf]; omega⟩
        · obtain rfl : i = 12 := by omega
          obtain rfl : t = S := by rw [HS.out, HSZ.out]
          clear HS hRi HSZ
          go_upto_region 12 with (fail)
          have K5 : Below wr.heap.size wr ((wr.alloc (.cells #[.int .i64 (x - 2 * t), .int .i64 (y - 2 * t)] 30)).alloc (.cells #[.int .i64 (x + 2 * t), .int .i64 (y + 2 * t)] 30)) := ((Below.refl _ _).alloc (Nat.le_refl _) _).alloc (by simp only [World.size_alloc]; omega) _
          have x5 : ((wr.alloc (.cells #[.int .i64 (x - 2 * t), .int .i64 (y - 2 * t)] 30)).alloc (.cells #[.int .i64 (x + 2 * t), .int .i64 (y + 2 * t)] 30)).heap[wr.heap.size]? = some (.cells #[.int .i64 (x - 2 * t), .int .i64 (y - 2 * t)] 30 (0, 0)) := by rw [Below.heap_alloc _ _ _ (by simp)]; exact heap_new _ _ _ rfl
          have x6 : ((wr.alloc (.cells #[.int .i64 (x - 2 * t), .int .i64 (y - 2 * t)] 30)).alloc (.cells #[.int .i64 (x + 2 * t), .int .i64 (y + 2 * t)] 30)).heap[wr.heap.size + 1]? = some (.cells #[.int .i64 (x + 2 * t), .int .i64 (y + 2 * t)] 30 (0, 0)) := heap_new _ _ _ (by simp)
          generalize x - 2 * t = lx at *
          generalize y - 2 * t = ly at *
          generalize x + 2 * t = ux at *
          generalize y + 2 * t = uy at *
          generalize (wr.alloc (.cells #[.int .i64 lx, .int .i64 ly] 30)).alloc (.cells #[.int .i64 ux, .int .i64 uy] 30) = w5 at *
          have HX5 := Lib.hid (HX4.out.trans (K5.mono HX4.out.size))
          have HD5 := Lib.hid (HD4.out.later K5)
          have HDP5 := Lib.hid (HDP.out.later K5)
          have HL := Lib.hid (stay_of x5)
          have HU := Lib.hid (stay_of x6)
          clear K5
          generalize wr.heap.size = db at *
          clear x5 x6 HX4 HD4 HDP
          as_aux_lemma =>
            go_wp2_with fail
            refine (HBX.out _).mono ?_
            rintro e w6 ⟨L, ao, c, n, hL, rfl, hn, hown, hb6⟩
            obtain ⟨i1, i2, i3, i4⟩ := HIN.out L hL
            have HW := Lib.hid (words_own hn hown)
            have HH := Lib.hid (fun w B h => rhas_any ao c L W w B h (by omega) i2)
            rw [i1, ← hn] at HH
            have hn1 : 1 ≤ (n : Int) := by omega
            have hn3 : (n : Int) ≤ 3 := by omega
            have HX6 := Lib.hid hb6
            clear hb6 HBX HIN hL hn hown i1 i2 i3 i4
            obtain ⟨k1, k2, k3, k4⟩ := cel3 (HD5.out w6 HX6.out)
            go_upto_region 13 with (fail)
            go_wp2_with fail
            refine (HWD.out _).mono ?_
            rintro e w7 ⟨rfl, hb7⟩
            have HW7 := Lib.hid (HW.out.below hb7 (Nat.le_refl _))
            have HX7 := Lib.hid (HX6.out.trans (hb7.mono HX6.out.size))
            clear k1 k2 k3 k4 hb7 HWD HX6 HW
            obtain ⟨k1, k2, k3, k4⟩ := cel3 (HDP5.out w7 HX7.out)
            obtain ⟨l1, l2, l3⟩ := cel2 (HL.out w7 HX7.out)
            obtain ⟨m1, m2, m3⟩ := cel2 (HU.out w7 HX7.out)
            as_aux_lemma =>
              go_upto_region 14 with (fail)
              go_wp2_with fail
              refine (HH.out w7 _ HW7.out).mono ?_
              rintro e w8 ⟨rfl, rfl⟩
              clear HH HW7
              as_aux_lemma =>
                go_wp2_with fail
                refine (HT1.out _).mono ?_
                rintro e w8 ⟨rfl, hb8⟩
                have HX8 := Lib.hid (HX7.out.trans (hb8.mono HX7.out.size))
                clear k1 k2 k3 k4 l1 l2 l3 m1 m2 m3 hb8 HT1 HX7
                obtain ⟨k1, k2, k3, k4⟩ := cel3 (HD5.out w8 HX8.out)
                obtain ⟨l1, l2, l3⟩ := cel2 (HL.out w8 HX8.out)
                obtain ⟨m1, m2, m3⟩ := cel2 (HU.out w8 HX8.out)
                as_aux_lemma =>
                  go_wp2_with fail
                  refine (HT2.out _).mono ?_
                  rintro e w9 ⟨rfl, hb9⟩
                  have HX9 := Lib.hid (HX8.out.trans (hb9.mono HX8.out.size))
                  clear k1 k2 k3 k4 l1 l2 l3 m1 m2 m3 hb9 HT2 HX8
                  go_wp2_with fail
                  refine (HAW.out _).mono ?_
                  rintro e w10 ⟨rfl, hb10⟩
                  have HX10 := Lib.hid (HX9.out.trans (hb10.mono HX9.out.size))
                  clear hb10 HAW HX9
                  go_wp2
                  go_ret
                  exact ⟨rfl, HX2.out.trans ((HX5.out.trans (HX10.out.mono HX5.out.size)).mono HX2.out.size)⟩
end Go.Proofs.YtdbfimdcaacjhaaGreat.coverSizes
