/- The walk of the law CoverNext. -/
import Derived.Test.YtdbfimdcaacjhaaGreatPackAK
import Derived.Test.YtdbfimdcaacjhaaGreatPackAM
import Derived.Lib.MinMax
namespace Go.Proofs.YtdbfimdcaacjhaaGreat.coverNext
open Go.RowKit Go.Lib Wd Cv

theorem ends_in (u v s t : Int) : inB (min u s, min v t) (max u s, max v t) (u, v) = true ∧ inB (min u s, min v t) (max u s, max v t) (s, t) = true := by
  rw [inB_iff, inB_iff]; simp only; omega
theorem ct_ends {R : Nat} {z d : E2} (hz : okB R z = true) (hd : okB R d = true) (hw : (0 ≤ (atE (12 - R) z).1 ∧ (atE (12 - R) z).1 < 1073741824) ∧ 0 ≤ (atE (12 - R) z).2 ∧ (atE (12 - R) z).2 < 1073741824)
    (hb : (-20000000 ≤ (atE (12 - R) d).1 - (atE (12 - R) z).1 ∧ (atE (12 - R) d).1 - (atE (12 - R) z).1 ≤ 20000000) ∧ -20000000 ≤ (atE (12 - R) d).2 - (atE (12 - R) z).2 ∧ (atE (12 - R) d).2 - (atE (12 - R) z).2 ≤ 20000000) :
    ctB R z (min (atE (12 - R) z).1 (atE (12 - R) d).1, min (atE (12 - R) z).2 (atE (12 - R) d).2) (max (atE (12 - R) z).1 (atE (12 - R) d).1, max (atE (12 - R) z).2 (atE (12 - R) d).2) = true ∧
    ctB R d (min (atE (12 - R) z).1 (atE (12 - R) d).1, min (atE (12 - R) z).2 (atE (12 - R) d).2) (max (atE (12 - R) z).1 (atE (12 - R) d).1, max (atE (12 - R) z).2 (atE (12 - R) d).2) = true := by
  have c1 := ct_cen (lo := (min (atE (12 - R) z).1 (atE (12 - R) d).1, min (atE (12 - R) z).2 (atE (12 - R) d).2)) (hi := (max (atE (12 - R) z).1 (atE (12 - R) d).1, max (atE (12 - R) z).2 (atE (12 - R) d).2)) hz
  have c2 := ct_cen (lo := (min (atE (12 - R) z).1 (atE (12 - R) d).1, min (atE (12 - R) z).2 (atE (12 - R) d).2)) (hi := (max (atE (12 - R) z).1 (atE (12 - R) d).1, max (atE (12 - R) z).2 (atE (12 - R) d).2)) hd
  generalize atE (12 - R) z = p at *
  generalize atE (12 - R) d = q at *
  obtain ⟨p1, p2⟩ := p
  obtain ⟨q1, q2⟩ := q
  simp only at *
  have hx : bxOk (min p1 q1, min p2 q2) (max p1 q1, max p2 q2) = true := (bxOk_iff _ _).2 (by simp only; omega)
  exact ⟨c1 hx (ends_in p1 p2 q1 q2).1, c2 hx (ends_in p1 p2 q1 q2).2⟩
theorem cv_word {R : Nat} {z : E2} (h : okB R z = true) : cvR (wordN R z) = R ∧ cvZ (wordN R z) = z ∧ cvE (wordN R z) = 0 := by
  obtain ⟨v1, v2, v3⟩ := word_cell h
  unfold cvR cvZ cvE
  rw [if_pos v1, if_pos v1, if_pos v1, v2, v3]
  exact ⟨rfl, rfl, rfl⟩
/-- What is asked of any neighbour. -/
theorem pick6 (a3 : Int) : ∃ k : Nat, k < 6 ∧ (a3 % 256).tmod 6 = (k : Int) := ⟨(a3 % 256 % 6).toNat, by omega, by rw [Int.tmod_eq_emod_of_nonneg (by omega)]; omega⟩
set_option maxRecDepth 100000 in
set_option maxHeartbeats 16000000 in
theorem walk {w : World} (a0 : Int) (_w0 : (Lit.int .i64 a0).wf = true) (a1 : Int) (_w1 : (Lit.int .i64 a1).wf = true) (a2 : Int) (_w2 : (Lit.int .i64 a2).wf = true) (a3 : Int) (_w3 : (Lit.int .i64 a3).wf = true) :
    Calls Tryz.prog 10 #[.int .i64 a0, .int .i64 a1, .int .i64 a2, .int .i64 a3] w fun e w' => e = .returned (.bool true) ∧ Below w.heap.size w w' := by
  obtain ⟨Y, q6, hY⟩ : ∃ Y, bits BinOp.andNot IntKind.i64 a1 1 = Y ∧ Y % 2 = 0 := ⟨_, rfl, andNot_even a1⟩
  have e3 : bits BinOp.and IntKind.i64 a3 255 = a3 % 256 := i64_and_mask a3 8 (by omega) 255 rfl
  have HSO := Lib.hid (fun w => some_any a0 Y a2 w)
  obtain ⟨R, hRr⟩ : ∃ R : Nat, a2 % 13 = (R : Int) := ⟨(a2 % 13).toNat, by omega⟩
  have hR : R ≤ 12 := by omega
  rw [hRr, Int.toNat_natCast] at HSO
  have hok : okB R (someE a0 Y R) = true := some_ok a0 Y hR
  generalize someE a0 Y R = z at *
  obtain ⟨g1, g2, g3⟩ := ok_near hok
  have HCE := Lib.hid (fun w => rcentre_in z g2 R hR w)
  have HAW := Lib.hid awake10_any
  have HWD := Lib.hid (fun w => rworld_any (atE (12 - R) z).1 (atE (12 - R) z).2 w)
  have HWO := Lib.hid (fun w => word_any R z w)
  rw [(ofW_okF hok).1, (ofW_okF hok).2] at HWO
  have HCELL : Hid (worldB (atE (12 - R) z).1 (atE (12 - R) z).2 = true → chE (atE (12 - R) z) (atE (12 - R) z) R = 0) := fun h => by
    unfold chE
    rw [if_neg (by omega), if_pos ⟨h, h⟩, if_neg (by simp)]
  have HBX : Hid (worldB (atE (12 - R) z).1 (atE (12 - R) z).2 = true → ∀ w, Calls Tryz.prog 13 #[vE (atE (12 - R) z), vE (atE (12 - R) z), .int .i64 R] w (ToldB w fun L => L = [((wordN R z : Nat) : Int)])) := fun h w => by
    have hs := (sizeN_pos (m := 12 - R) (Nat.sub_le _ _)).1
    refine (box_few (atE (12 - R) z) (atE (12 - R) z) (HCELL.out h) (by omega) (by omega) w).mono ?_
    rintro e w' ⟨L, ao, c, n, h1, h2⟩
    exact ⟨L, ao, c, n, box_self hR hok h1, h2⟩
  have HCN : Hid (worldB (atE (12 - R) z).1 (atE (12 - R) z).2 = true → ∀ w, Calls Tryz.prog 24 #[vE (atE (12 - R) z), vE (atE (12 - R) z), .int .i64 R] w (ToldB w fun L => L = [((wordN R z : Nat) : Int)])) := fun h w => by
    have hs := (sizeN_pos (m := 12 - R) (Nat.sub_le _ _)).1
    refine (cen_few (atE (12 - R) z) (atE (12 - R) z) (HCELL.out h) (by omega) (by omega) w).mono ?_
    rintro e w' ⟨L, ao, c, n, h1, h2⟩
    exact ⟨L, ao, c, n, cen_self hR hok h1, h2⟩
  have HNB : Hid (worldB (atE (12 - R) z).1 (atE (12 - R) z).2 = true → rgsE (wordN R z) 1 1 = 0 ∧ (rgsL (wordN R z) 1 1 1).length = 6 ∧ ∀ j, j < 6 → ∃ k, k < 6 ∧ okB R (addE z (unitE k)) = true ∧ (rgsL (wordN R z) 1 1 1).getD j 0 = (wordN R (addE z (unitE k)) : Nat)) := fun h => by
    obtain ⟨h1, h2, h3⟩ := nb_all hR hok h
    exact ⟨h1, h2, fun j hj => h3 _ (getD_mem (by omega))⟩
  have HNE := Lib.hid (nei_any (wordN R z) (by have := (wordN_lt hok).1; omega))
  have HLW := (wordN_lt hok).1
  have HDC : Hid (worldB (atE (12 - R) z).1 (atE (12 - R) z).2 = true → ∀ k, k < 6 → okB R (addE z (unitE k)) = true → ∃ (d : E2) (s t : Int), (∀ w, Calls Tryz.prog 32 #[.int .u64 (wordN R (addE z (unitE k)) : Nat)] w fun e w' => e = .returned (.tuple #[vC R d, .int .i64 0]) ∧ Below w.heap.size w w') ∧
      (∀ w, Calls Tryz.prog 20 #[vE d, .int .i64 R] w fun e w' => e = .returned (.tuple #[.int .i64 s, .int .i64 t, .bool true]) ∧ Below w.heap.size w w') ∧
      (∀ w, Calls Tryz.prog 16 #[vC R d, vE (min (atE (12 - R) z).1 s, min (atE (12 - R) z).2 t), vE (max (atE (12 - R) z).1 s, max (atE (12 - R) z).2 t)] w fun e w' => e = .returned (.bool true) ∧ Below w.heap.size w w') ∧
      (∀ w, Calls Tryz.prog 16 #[vC R z, vE (min (atE (12 - R) z).1 s, min (atE (12 - R) z).2 t), vE (max (atE (12 - R) z).1 s, max (atE (12 - R) z).2 t)] w fun e w' => e = .returned (.bool true) ∧ Below w.heap.size w w') ∧
      (∀ w, Calls Tryz.prog 16 #[vC R z, vE (s, t), vE (s, t)] w fun e w' => e = .returned (.bool false) ∧ Below w.heap.size w w')) := fun hw k hk ho => by
    obtain ⟨v1, v2, v3⟩ := cv_word ho
    have hlt := (wordN_lt ho).1
    have hsm : Sm 1073741824 (addE z (unitE k)) := by
      have := (shapeB_iff R (addE z (unitE k))).1 ((okB_iff R (addE z (unitE k))).1 ho).1
      unfold Sm; omega
    have hu := at_unit (m := 12 - R) (Nat.sub_le _ _) z hk
    have hwb := (worldB_iff _ _).1 hw
    refine ⟨addE z (unitE k), (atE (12 - R) (addE z (unitE k))).1, (atE (12 - R) (addE z (unitE k))).2, fun w => ?_, fun w => rcentre_in _ hsm R hR w, fun w => ?_, fun w => ?_, fun w => ?_⟩
    · have := rcell_any (wordN R (addE z (unitE k))) (by omega) w
      rw [v1, v2, v3] at this
      exact this
    · have := ctouch_any R (addE z (unitE k)) (min (atE (12 - R) z).1 (atE (12 - R) (addE z (unitE k))).1, min (atE (12 - R) z).2 (atE (12 - R) (addE z (unitE k))).2) (max (atE (12 - R) z).1 (atE (12 - R) (addE z (unitE k))).1, max (atE (12 - R) z).2 (atE (12 - R) (addE z (unitE k))).2) w
      rw [(ct_ends hok ho hwb hu).2] at this
      exact this
    · have := ctouch_any R z (min (atE (12 - R) z).1 (atE (12 - R) (addE z (unitE k))).1, min (atE (12 - R) z).2 (atE (12 - R) (addE z (unitE k))).2) (max (atE (12 - R) z).1 (atE (12 - R) (addE z (unitE k))).1, max (atE (12 - R) z).2 (atE (12 - R) (addE z (unitE k))).2) w
      rw [(ct_ends hok ho hwb hu).1] at this
      exact this
    · have := ctouch_any R z (atE (12 - R) (addE z (unitE k))) (atE (12 - R) (addE z (unitE k))) w
      rw [ct_beside hR z] at this
      exact this
  obtain ⟨i6, hi6, e6⟩ := pick6 a3
  have h256 : 0 ≤ a3 % 256 ∧ a3 % 256 < 256 := by omega
  generalize a3 % 256 = A3 at *
  obtain ⟨u, hu⟩ : ∃ u, atE (12 - R) z = u := ⟨_, rfl⟩
  rw [hu] at HCE HWD HBX HCN HNB HDC
  obtain ⟨u, v⟩ := u
  simp only [vE, vC] at *
  generalize rgsL (wordN R z) 1 1 1 = NL at *
  generalize rgsE (wordN R z) 1 1 = NE at *
  generalize wordN R z = W at *
  generalize worldB u v = wb at *
  clear HCELL hok g1 g2 g3 hY hRr hu
  go_enter Tryz.func10, Tryz.ntmps10
  go_upto_region 1 with (fail)
  go_wp2_with fail
  refine (HSO.out _).mono ?_
  rintro e w1 ⟨rfl, hb1⟩
  have HX1 := Lib.hid hb1
  clear hb1 HSO
  go_upto_region 2 with (fail)
  have K1 : Below w.heap.size w (w1.alloc (.cells #[.int .i64 R, .int .i64 z.1, .int .i64 z.2] 27)) := HX1.out.alloc HX1.out.size _
  have x1 : (w1.alloc (.cells #[.int .i64 R, .int .i64 z.1, .int .i64 z.2] 27)).heap[w1.heap.size]? = some (.cells #[.int .i64 R, .int .i64 z.1, .int .i64 z.2] 27 (0, 0)) := heap_new _ _ _ rfl
  generalize w1.alloc (.cells #[.int .i64 R, .int .i64 z.1, .int .i64 z.2] 27) = w2 at *
  generalize w1.heap.size = d0 at *
  have HX2 := Lib.hid K1
  have HD := Lib.hid (stay_of x1)
  obtain ⟨k1, k2, k3, k4⟩ := cel3 x1
  clear K1 x1 HX1
  as_aux_lemma =>
    go_wp2_with fail
    refine (HCE.out _).mono ?_
    rintro e w3 ⟨rfl, hb3⟩
    have HX3 := Lib.hid hb3
    clear hb3 HCE k1 k2 k3 k4
    go_upto_region 3 with (fail)
    go_wp2_with fail
    refine (HWD.out _).mono ?_
    rintro e w4 ⟨rfl, rfl⟩
    clear HWD
    cases wb with
    | false =>
      clear HBX HCN HNB HDC HNE HWO
      go_wp2_with fail
      refine (HAW.out _).mono ?_
      rintro e w5 ⟨rfl, hb5⟩
      have HX5 := Lib.hid (HX3.out.trans (hb5.mono HX3.out.size))
      clear hb5 HX3
      go_wp2
      go_ret
      exact ⟨rfl, HX2.out.trans (HX5.out.mono HX2.out.size)⟩
    | true =>
      have HBX2 := Lib.hid (HBX.out rfl)
      have HCN2 := Lib.hid (HCN.out rfl)
      obtain ⟨n1, n2, n3⟩ := HNB.out rfl
      obtain ⟨k, hk, hok, hgk⟩ := n3 i6 hi6
      obtain ⟨D, s, t, h1, h2, h3, h4, h5⟩ := HDC.out rfl k hk hok
      have HC1 := Lib.hid h1
      have HC2 := Lib.hid h2
      have HC3 := Lib.hid h3
      have HC4 := Lib.hid h4
      have HC5 := Lib.hid h5
      obtain ⟨W2, hW2⟩ : ∃ W2, wordN R (addE z (unitE k)) = W2 := ⟨_, rfl⟩
      rw [hW2] at HC1 hgk
      rw [n1, ] at HNE
      have HN2 := Lib.hid n2
      have HGK := Lib.hid hgk
      obtain ⟨mx, hmx⟩ : ∃ mx, min u s = mx := ⟨_, rfl⟩
      obtain ⟨my, hmy⟩ : ∃ my, min v t = my := ⟨_, rfl⟩
      obtain ⟨Mx, hMx⟩ : ∃ Mx, max u s = Mx := ⟨_, rfl⟩
      obtain ⟨My, hMy⟩ : ∃ My, max v t = My := ⟨_, rfl⟩
      rw [hmx, hmy, hMx, hMy] at HC3 HC4
      have HMM := Lib.hid (And.intro (And.intro hmx hmy) (And.intro hMx hMy))
      clear HBX HCN HNB HDC n1 n2 n3 hok hk hgk h1 h2 h3 h4 h5 hW2 hmx hmy hMx hMy HLW
      obtain ⟨k1, k2, k3, k4⟩ := cel3 (HD.out w4 HX3.out)
      as_aux_lemma =>
        go_upto_region 5 with (fail)
        go_wp2_with fail
        refine (HWO.out _).mono ?_
        rintro e w5 ⟨rfl, hb5⟩
        have HX5 := Lib.hid (HX3.out.trans (hb5.mono HX3.out.size))
        clear hb5 HWO HX3 k1 k2 k3 k4
        obtain ⟨k1, k2, k3, k4⟩ := cel3 (HD.out w5 HX5.out)
        go_upto_region 6 with (fail)
        go_wp2_with fail
        refine (HBX2.out _).mono ?_
        rintro e w6 ⟨L, ao, c, n, rfl, rfl, hn, hown, hb6⟩
        have hn1 : n = 1 := hn
        subst hn1
        have HW6 := Lib.hid (words_own hn hown)
        have HX6 := Lib.hid (HX5.out.trans (hb6.mono HX5.out.size))
        clear hb6 HBX2 HX5 hn hown k1 k2 k3 k4
        obtain ⟨k1, k2, k3, k4⟩ := cel3 (HD.out w6 HX6.out)
        as_aux_lemma =>
          go_upto_region 7 with (fail)
          go_wp2_with fail
          refine (HCN2.out _).mono ?_
          rintro e w7 ⟨L, bo, c2, n, rfl, rfl, hn, hown, hb7⟩
          have hn1 : n = 1 := hn
          subst hn1
          have HV7 := Lib.hid (words_own hn hown)
          have HW7 := Lib.hid (HW6.out.below hb7 (Nat.le_refl _))
          have HX7 := Lib.hid (HX6.out.trans (hb7.mono HX6.out.size))
          have HZ7 := Lib.hid hb7.size
          clear hb7 HCN2 HX6 HW6 hn hown k1 k2 k3 k4
          as_aux_lemma =>
            go_upto_region 8 with (fail)
            have X8 : (w7.alloc (.cells #[.int .u64 W] 35)).heap[w7.heap.size]? = some (.cells #[.int .u64 W] 35 (0, 0)) := heap_new _ _ _ rfl
            have B8 : Below w7.heap.size w7 (w7.alloc (.cells #[.int .u64 W] 35)) := (Below.refl _ _).alloc (Nat.le_refl _) _
            have W8 : WordsAt (w7.alloc (.cells #[.int .u64 W] 35)) (w7.heap.size + 1) (some ⟨w7.heap.size, 0, none⟩) [(W : Int)] := fun _ => ⟨_, 0, rfl, Nat.lt_succ_self _, fun i hi => by
              have h0 : i = 0 := by simpa using hi
              subst h0
              exact cell_of_row _ _ 0 _ _ _ X8⟩
            have HS1 := Lib.hid (same_any ao (some ⟨w7.heap.size, 0, none⟩) c 1 [(W : Int)] [(W : Int)] _ _ _ (HW7.out.below B8 HZ7.out) W8 (by simp))
            rw [decide_eq_true rfl] at HS1
            simp only [List.length_singleton] at HS1
            go_wp2_with fail
            refine HS1.out.mono ?_
            rintro e w8 ⟨rfl, hb8⟩
            have HB78 := Lib.hid (B8.trans (hb8.mono (by simp)))
            have HV8 := Lib.hid (HV7.out.below HB78.out (Nat.le_refl _))
            have HW8 := Lib.hid (HW7.out.below HB78.out HZ7.out)
            have HX8 := Lib.hid (HX7.out.trans (HB78.out.mono HX7.out.size))
            have HS2 := Lib.hid (same_any bo ao c2 c [(W : Int)] [(W : Int)] w8 _ _ HV8.out HW8.out (by simp))
            rw [decide_eq_true rfl] at HS2
            simp only [List.length_singleton] at HS2
            clear X8 B8 W8 HS1 hb8 HB78 HV7 HW7 HX7 HZ7 HV8 HW8
            as_aux_lemma =>
              go_wp2_with fail
              refine HS2.out.mono ?_
              rintro e w9 ⟨rfl, hb9⟩
              have HX9 := Lib.hid (HX8.out.trans (hb9.mono HX8.out.size))
              clear hb9 HS2 HX8
              as_aux_lemma =>
                go_upto_region 10 with (fail)
                go_wp2_with fail
                refine (HNE.out _).mono ?_
                rintro e w10 ⟨no, nc, rfl, hnw, hb10⟩
                obtain ⟨g, off, rfl, hg, hcs⟩ := hnw (by rw [HN2.out]; omega)
                have n0 := hcs i6 (by rw [HN2.out]; exact hi6)
                rw [HGK.out] at n0
                rw [HN2.out]
                have HX10 := Lib.hid (HX9.out.trans (hb10.mono HX9.out.size))
                have hi6' : (i6 : Int) < 6 := by omega
                clear hb10 HNE HX9 hnw hcs HGK HN2
                as_aux_lemma =>
                  go_upto_region 13 with (fail)
                  go_wp2_with fail
                  refine (HC1.out _).mono ?_
                  rintro e w11 ⟨rfl, hb11⟩
                  have HX11 := Lib.hid (HX10.out.trans (hb11.mono HX10.out.size))
                  clear hb11 HC1 HX10 n0 hg
                  go_upto_region 14 with (fail)
                  have K11 : Below w2.heap.size w2 (w11.alloc (.cells #[.int .i64 R, .int .i64 D.1, .int .i64 D.2] 27)) := HX11.out.alloc HX11.out.size _
                  have x11 : (w11.alloc (.cells #[.int .i64 R, .int .i64 D.1, .int .i64 D.2] 27)).heap[w11.heap.size]? = some (.cells #[.int .i64 R, .int .i64 D.1, .int .i64 D.2] 27 (0, 0)) := heap_new _ _ _ rfl
                  generalize w11.alloc (.cells #[.int .i64 R, .int .i64 D.1, .int .i64 D.2] 27) = w12 at *
                  generalize w11.heap.size = dd at *
                  have HX12 := Lib.hid K11
                  have HDD := Lib.hid (stay_of x11)
                  obtain ⟨k1, k2, k3, k4⟩ := cel3 x11
                  clear K11 x11 HX11
                  as_aux_lemma =>
                    go_wp2_with fail
                    refine (HC2.out _).mono ?_
                    rintro e w13 ⟨rfl, hb13⟩
                    have HX13 := Lib.hid hb13
                    clear hb13 HC2 k1 k2 k3 k4
                    go_upto_region 16 with (fail)
                    rw [HMM.out.1.1, HMM.out.1.2, HMM.out.2.1, HMM.out.2.2]
                    have K13 : Below w12.heap.size w12 ((w13.alloc (.cells #[.int .i64 mx, .int .i64 my] 30)).alloc (.cells #[.int .i64 Mx, .int .i64 My] 30)) := (HX13.out.alloc HX13.out.size _).alloc (by have := HX13.out.size; simp only [World.size_alloc]; omega) _
                    have x13 : ((w13.alloc (.cells #[.int .i64 mx, .int .i64 my] 30)).alloc (.cells #[.int .i64 Mx, .int .i64 My] 30)).heap[w13.heap.size]? = some (.cells #[.int .i64 mx, .int .i64 my] 30 (0, 0)) := by rw [Below.heap_alloc _ _ _ (by simp)]; exact heap_new _ _ _ rfl
                    have x14 : ((w13.alloc (.cells #[.int .i64 mx, .int .i64 my] 30)).alloc (.cells #[.int .i64 Mx, .int .i64 My] 30)).heap[w13.heap.size + 1]? = some (.cells #[.int .i64 Mx, .int .i64 My] 30 (0, 0)) := heap_new _ _ _ (by simp)
                    generalize (w13.alloc (.cells #[.int .i64 mx, .int .i64 my] 30)).alloc (.cells #[.int .i64 Mx, .int .i64 My] 30) = w14 at *
                    generalize w13.heap.size = db at *
                    have HD14 := Lib.hid (HD.out.later (HX12.out.trans (K13.mono HX12.out.size)))
                    have HDD14 := Lib.hid (HDD.out.later K13)
                    have HX14 := Lib.hid (HX12.out.trans (K13.mono HX12.out.size))
                    have HL := Lib.hid (stay_of x13)
                    have HU := Lib.hid (stay_of x14)
                    obtain ⟨k1, k2, k3, k4⟩ := cel3 HDD14.out.at
                    obtain ⟨l1, l2, l3⟩ := cel2 x13
                    obtain ⟨m1, m2, m3⟩ := cel2 x14
                    clear K13 x13 x14 HX13 HX12 HD HDD HMM
                    as_aux_lemma =>
                      go_wp2_with fail
                      refine (HC3.out _).mono ?_
                      rintro e w15 ⟨rfl, hb15⟩
                      have HX15 := Lib.hid hb15
                      clear hb15 HC3 k1 k2 k3 k4 l1 l2 l3 m1 m2 m3
                      obtain ⟨k1, k2, k3, k4⟩ := cel3 (HD14.out w15 HX15.out)
                      obtain ⟨l1, l2, l3⟩ := cel2 (HL.out w15 HX15.out)
                      obtain ⟨m1, m2, m3⟩ := cel2 (HU.out w15 HX15.out)
                      as_aux_lemma =>
                        go_wp2_with fail
                        refine (HC4.out _).mono ?_
                        rintro e w16 ⟨rfl, hb16⟩
                        have HX16 := Lib.hid (HX15.out.trans (hb16.mono HX15.out.size))
                        clear hb16 HC4 HX15 k1 k2 k3 k4 l1 l2 l3 m1 m2 m3
                        obtain ⟨k1, k2, k3, k4⟩ := cel3 (HD14.out w16 HX16.out)
                        as_aux_lemma =>
                          go_wp2_with fail
                          refine (HC5.out _).mono ?_
                          rintro e w17 ⟨rfl, hb17⟩
                          have HX17 := Lib.hid (HX16.out.trans (hb17.mono HX16.out.size))
                          clear hb17 HC5 HX16 k1 k2 k3 k4
                          go_wp2_with fail
                          refine (HAW.out _).mono ?_
                          rintro e w18 ⟨rfl, hb18⟩
                          have HX18 := Lib.hid (HX17.out.trans (hb18.mono HX17.out.size))
                          clear hb18 HAW HX17
                          go_wp2
                          go_ret
                          exact ⟨rfl, HX2.out.trans ((HX14.out.trans (HX18.out.mono HX14.out.size)).mono HX2.out.size)⟩
end Go.Proofs.YtdbfimdcaacjhaaGreat.coverNext
