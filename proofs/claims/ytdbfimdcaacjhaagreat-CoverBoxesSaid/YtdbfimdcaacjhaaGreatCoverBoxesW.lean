/- The walk of the law CoverBoxes. -/
import Derived.Test.YtdbfimdcaacjhaaGreatPackAK
import Derived.Test.YtdbfimdcaacjhaaGreatPackBA
namespace Go.Proofs.YtdbfimdcaacjhaaGreat.coverBoxes
open Go.RowKit Go.Lib Wd Cv

theorem box_eq {R : Nat} {lo hi : E2} {A B : List Int} (hA : IsBox R lo hi A) (hB : IsBox R lo hi B) : A = B := hA.1.ext hB.1 fun x => (hA.2.1 x).trans (hB.2.1 x).symm
theorem cen_eq {R : Nat} {lo hi : E2} {A B : List Int} (hA : IsBox R lo hi A) (hB : IsCen R lo hi B) : A.filter (cenB R lo hi) = B := by
  refine (filter_up hA.1 _).ext hB.1 fun x => ?_
  rw [List.mem_filter, hA.2.1, hB.2.1]
  unfold TouchW CenW cenB
  constructor
  · rintro ⟨⟨z, h1, h2, rfl⟩, h3⟩
    rw [Int.toNat_natCast, (word_cell h1).2.2] at h3
    exact ⟨z, h1, h3, rfl⟩
  · rintro ⟨z, h1, h2, rfl⟩
    exact ⟨⟨z, h1, cen_touch (Nat.sub_le _ _) h2, rfl⟩, by rw [Int.toNat_natCast, (word_cell h1).2.2]; exact h2⟩
theorem ch_in {R : Nat} (hR : R ≤ 12) {lo hi : E2} (h1 : worldB lo.1 lo.2 = true) (h2 : worldB hi.1 hi.2 = true) (hx : lo.1 ≤ hi.1) (hy : lo.2 ≤ hi.2) : chE lo hi R = 0 := by
  unfold chE
  rw [if_neg (by omega), if_pos ⟨h1, h2⟩, if_neg (by omega)]
set_option maxRecDepth 100000 in
set_option maxHeartbeats 16000000 in
theorem walk {w : World} (l1 l2 h1 h2 : Int) (a2 : Int) (_w2 : (Lit.int .i64 a2).wf = true) (a3 : Int) (_w3 : (Lit.int .i64 a3).wf = true) (a4 : Int) (_w4 : (Lit.int .i64 a4).wf = true) (a5 : Int) (_w5 : (Lit.int .i64 a5).wf = true) (a6 : Int) (_w6 : (Lit.int .i64 a6).wf = true) (a7 : Int) (_w7 : (Lit.int .i64 a7).wf = true) :
    Calls Tryz.prog 7 #[.agg #[.int .i64 l1, .int .i64 l2], .agg #[.int .i64 h1, .int .i64 h2], .int .i64 a2, .int .i64 a3, .int .i64 a4, .int .i64 a5, .int .i64 a6, .int .i64 a7] w fun e w' => e = .returned (.bool true) ∧ Below w.heap.size w w' := by
  have HBM := Lib.hid (fun w => bmay_any (l1, l2) (h1, h2) a2 w)
  have HE1 : Hid (chE (l1, l2) (h1, h2) a2 ≠ 0 → ∀ w, Calls Tryz.prog 13 #[vE (l1, l2), vE (h1, h2), .int .i64 a2] w fun e w' => e = .returned (.tuple #[.slice none 0 0, .int .i64 (chE (l1, l2) (h1, h2) a2)]) ∧ Below w.heap.size w w') := fun h w => box_err (l1, l2) (h1, h2) h w
  have HE2 : Hid (chE (l1, l2) (h1, h2) a2 ≠ 0 → ∀ w, Calls Tryz.prog 24 #[vE (l1, l2), vE (h1, h2), .int .i64 a2] w fun e w' => e = .returned (.tuple #[.slice none 0 0, .int .i64 (chE (l1, l2) (h1, h2) a2)]) ∧ Below w.heap.size w w') := fun h w => cen_err (l1, l2) (h1, h2) h w
  generalize chE (l1, l2) (h1, h2) a2 = E at *
  obtain ⟨s, R, q1, q2, q3, q4, hR, q5⟩ := res_of a7
  have HLB := Lib.hid (fun w => lbox_any a3 a4 a5 a6 R hR w)
  obtain ⟨b1, b2, b3, b4, b5, b6⟩ := lbox_of a3 a4 a5 a6 hR
  have hsz := sizeN_pos (m := 12 - R) (Nat.sub_le _ _)
  generalize boxP a3 a4 = p at *
  generalize boxQ a3 a4 a5 a6 R = q at *
  obtain ⟨px, py⟩ := p
  obtain ⟨qx, qy⟩ := q
  have HAW := Lib.hid awake10_any
  have hch := ch_in hR b1 b2 b3 b4
  simp only at b5 b6
  have HRB := Lib.hid (fun w => rbox_any (px, py) (qx, qy) hch 400 (by omega) (by omega) w)
  have HBX := Lib.hid (fun w => box_few (px, py) (qx, qy) hch (by simp only; omega) (by simp only; omega) w)
  have HCN := Lib.hid (fun w => cen_few (px, py) (qx, qy) hch (by simp only; omega) (by simp only; omega) w)
  have HRC : Hid (∀ L, IsBox R (px, py) (qx, qy) L → L.length ≤ 20000 ∧ ∀ ao n c w, n = L.length → WordsAt w w.heap.size ao L → Calls Tryz.prog 28 #[.slice ao n c, vE (px, py), vE (qx, qy)] w (RcP w (L.filter (cenB R (px, py) (qx, qy))))) := fun L hL =>
    ⟨hL.2.2, fun ao n c w hn hw => rcens_any R hR (px, py) (qx, qy) ao n c L w hn (by have := hL.2.2; omega) hw fun x hx => by
      obtain ⟨z, z1, z2, z3⟩ := (hL.2.1 x).1 hx
      exact ⟨z, z1, z3⟩⟩
  simp only [vE] at *
  obtain ⟨w1, hw1⟩ : ∃ W, (w.alloc (.cells #[.int .i64 l1, .int .i64 l2] 30)).alloc (.cells #[.int .i64 h1, .int .i64 h2] 30) = W := ⟨_, rfl⟩
  have hb1 : Below w.heap.size w w1 := by rw [← hw1]; exact ((Below.refl _ _).alloc (Nat.le_refl _) _).alloc (by simp) _
  have x0 : w1.heap[w.heap.size]? = some (.cells #[.int .i64 l1, .int .i64 l2] 30 (0, 0)) := by
    rw [← hw1, Below.heap_alloc _ _ _ (by simp)]; exact heap_new _ _ _ rfl
  have x1 : w1.heap[w.heap.size + 1]? = some (.cells #[.int .i64 h1, .int .i64 h2] 30 (0, 0)) := by rw [← hw1]; exact heap_new _ _ _ (by simp)
  have HP0 := Lib.hid (stay_of x0)
  have HP1 := Lib.hid (stay_of x1)
  have HB1 := Lib.hid hb1
  have HW1 := Lib.hid hw1
  obtain ⟨k1, k2, k3⟩ := cel2 x0
  obtain ⟨g1, g2, g3⟩ := cel2 x1
  clear hw1 hb1 x0 x1 b1 b2 b3 b4 b5 b6 hsz hch q5
  go_enter Tryz.func7, Tryz.ntmps7
  go_upto_region 1 with (fail)
  rw [HW1.out]
  clear HW1
  go_wp2_with fail
  refine (HBM.out _).mono ?_
  rintro e w2 ⟨rfl, hb2⟩
  have HX2 := Lib.hid hb2
  clear hb2 HBM k1 k2 k3 g1 g2 g3
  by_cases hE : E = 0
  · subst hE
    clear HE1 HE2 HP0 HP1
    as_aux_lemma =>
      go_upto_region 8 with (fail)
      go_wp2_with fail
      refine (HLB.out _).mono ?_
      rintro e w4 ⟨rfl, hb4⟩
      have HX4 := Lib.hid (HX2.out.trans (hb4.mono HX2.out.size))
      clear hb4 HLB HX2
      go_upto_region 9 with (fail)
      have K4 : Below w1.heap.size w1 ((w4.alloc (.cells #[.int .i64 px, .int .i64 py] 30)).alloc (.cells #[.int .i64 qx, .int .i64 qy] 30)) := (HX4.out.alloc HX4.out.size _).alloc (by have := HX4.out.size; simp only [World.size_alloc]; omega) _
      have x4 : ((w4.alloc (.cells #[.int .i64 px, .int .i64 py] 30)).alloc (.cells #[.int .i64 qx, .int .i64 qy] 30)).heap[w4.heap.size]? = some (.cells #[.int .i64 px, .int .i64 py] 30 (0, 0)) := by rw [Below.heap_alloc _ _ _ (by simp)]; exact heap_new _ _ _ rfl
      have x5 : ((w4.alloc (.cells #[.int .i64 px, .int .i64 py] 30)).alloc (.cells #[.int .i64 qx, .int .i64 qy] 30)).heap[w4.heap.size + 1]? = some (.cells #[.int .i64 qx, .int .i64 qy] 30 (0, 0)) := heap_new _ _ _ (by simp)
      generalize (w4.alloc (.cells #[.int .i64 px, .int .i64 py] 30)).alloc (.cells #[.int .i64 qx, .int .i64 qy] 30) = w5 at *
      have HX5 := Lib.hid K4
      have HP := Lib.hid (stay_of x4)
      have HQ := Lib.hid (stay_of x5)
      obtain ⟨k1, k2, k3⟩ := cel2 x4
      obtain ⟨l1, l2, l3⟩ := cel2 x5
      clear K4 x4 x5 HX4
      as_aux_lemma =>
        go_wp2_with fail
        refine (HRB.out _).mono ?_
        rintro e w6 ⟨h6, hb6⟩
        have HX6 := Lib.hid hb6
        clear hb6 HRB k1 k2 k3 l1 l2 l3
        rcases h6 with rfl | ⟨L, lo, lc, ln, hL, _, rfl, hln, hlw⟩
        · clear HBX HCN HRC HP HQ
          go_upto_region 11 with (fail)
          go_wp2_with fail
          refine (HAW.out _).mono ?_
          rintro e w7 ⟨rfl, hb7⟩
          have HX7 := Lib.hid (HX6.out.trans (hb7.mono HX6.out.size))
          clear hb7 HAW HX6
          go_wp2
          go_ret
          exact ⟨rfl, HB1.out.trans ((HX5.out.trans (HX7.out.mono HX5.out.size)).mono HB1.out.size)⟩
        · obtain ⟨hl20, hrc⟩ := HRC.out L hL
          have HRC2 := Lib.hid hrc
          have HEB : Hid (∀ A, IsBox R (px, py) (qx, qy) A → A = L) := fun A hA => box_eq hA hL
          have HEC : Hid (∀ B, IsCen R (px, py) (qx, qy) B → B = L.filter (cenB R (px, py) (qx, qy))) := fun B hB => (cen_eq hL hB).symm
          have HLA := Lib.hid hlw
          have HLQ := Lib.hid hln
          have HLN : Hid (L.length ≤ 20000 ∧ (L.filter (cenB R (px, py) (qx, qy))).length ≤ 20000) := ⟨hl20, Nat.le_trans (List.length_filter_le _ _) hl20⟩
          generalize L.filter (cenB R (px, py) (qx, qy)) = M at *
          clear HRC hL hlw hrc hl20 hln
          obtain ⟨k1, k2, k3⟩ := cel2 (HP.out w6 HX6.out)
          obtain ⟨l1, l2, l3⟩ := cel2 (HQ.out w6 HX6.out)
          as_aux_lemma =>
            go_upto_region 12 with (fail)
            go_wp2_with fail
            refine (HBX.out _).mono ?_
            rintro e w7 ⟨A, ao, ac, an, hA, rfl, han, hown, hb7⟩
            obtain rfl := HEB.out A hA
            have HX7 := Lib.hid (HX6.out.trans (hb7.mono HX6.out.size))
            have HL7 := Lib.hid (And.intro ((HLA.out.below hb7 (Nat.le_refl _)).wider hb7.size) (words_own han hown))
            have HAN := Lib.hid han
            clear hb7 HBX HX6 HLA HEB hA han hown k1 k2 k3 l1 l2 l3
            obtain ⟨k1, k2, k3⟩ := cel2 (HP.out w7 HX7.out)
            obtain ⟨l1, l2, l3⟩ := cel2 (HQ.out w7 HX7.out)
            as_aux_lemma =>
              go_upto_region 13 with (fail)
              go_wp2_with fail
              refine (HCN.out _).mono ?_
              rintro e w8 ⟨B, bo, bc, bn, hB, rfl, hbn, hown, hb8⟩
              obtain rfl := HEC.out B hB
              have HX8 := Lib.hid (HX7.out.trans (hb8.mono HX7.out.size))
              have HL8 := Lib.hid (And.intro ((HL7.out.1.below hb8 (Nat.le_refl _)).wider hb8.size) ((HL7.out.2.below hb8 (Nat.le_refl _)).wider hb8.size))
              have HBW := Lib.hid (words_own hbn hown)
              have HBN := Lib.hid hbn
              have HSM := Lib.hid (same_n (w := w8) (ao := ao) (c := ac) (bo := lo) (d := lc) HAN.out HLQ.out (by have := HLN.out.1; have := HAN.out; omega) HL8.out.2 HL8.out.1)
              rw [decide_eq_true rfl] at HSM
              clear hb8 HCN HX7 HL7 HEC hB hbn hown k1 k2 k3 l1 l2 l3
              as_aux_lemma =>
                go_upto_region 14 with (fail)
                go_wp2_with fail
                refine HSM.out.mono ?_
                rintro e w9 ⟨rfl, hb9⟩
                have HX9 := Lib.hid (HX8.out.trans (hb9.mono HX8.out.size))
                have HL9 := Lib.hid ((HL8.out.1.below hb9 (Nat.le_refl _)).wider hb9.size)
                have HB9 := Lib.hid ((HBW.out.below hb9 (Nat.le_refl _)).wider hb9.size)
                clear hb9 HSM HX8 HL8 HBW
                obtain ⟨k1, k2, k3⟩ := cel2 (HP.out w9 HX9.out)
                obtain ⟨l1, l2, l3⟩ := cel2 (HQ.out w9 HX9.out)
                as_aux_lemma =>
                  go_wp2_with fail
                  refine (HRC2.out lo ln lc w9 HLQ.out HL9.out).mono ?_
                  rintro e w10 ⟨co, cn, cc, rfl, hcn, hcw, hb10⟩
                  have HX10 := Lib.hid (HX9.out.trans (hb10.mono HX9.out.size))
                  have HSM := Lib.hid (same_n (w := w10) (ao := bo) (c := bc) (bo := co) (d := cc) HBN.out hcn (by have := HLN.out.2; have := HBN.out; omega) ((HB9.out.below hb10 (Nat.le_refl _)).wider hb10.size) hcw)
                  rw [decide_eq_true rfl] at HSM
                  clear hb10 HRC2 HX9 HL9 HB9 hcn hcw k1 k2 k3 l1 l2 l3
                  as_aux_lemma =>
                    go_wp2_with fail
                    refine HSM.out.mono ?_
                    rintro e w11 ⟨rfl, hb11⟩
                    have HX11 := Lib.hid (HX10.out.trans (hb11.mono HX10.out.size))
                    clear hb11 HSM HX10
                    go_wp2_with fail
                    refine (HAW.out _).mono ?_
                    rintro e w12 ⟨rfl, hb12⟩
                    have HX12 := Lib.hid (HX11.out.trans (hb12.mono HX11.out.size))
                    clear hb12 HAW HX11
                    go_wp2
                    go_ret
                    exact ⟨rfl, HB1.out.trans ((HX5.out.trans (HX12.out.mono HX5.out.size)).mono HB1.out.size)⟩
  · have HF1 := Lib.hid (HE1.out hE)
    have HF2 := Lib.hid (HE2.out hE)
    have hE0 : (E == 0) = false := beq_eq_false_iff_ne.2 hE
    clear HE1 HE2
    obtain ⟨k1, k2, k3⟩ := cel2 (HP0.out w2 HX2.out)
    obtain ⟨g1, g2, g3⟩ := cel2 (HP1.out w2 HX2.out)
    as_aux_lemma =>
      go_upto_region 3 with (fail)
      go_wp2_with fail
      refine (HF1.out _).mono ?_
      rintro e w3 ⟨rfl, hb3⟩
      have HX3 := Lib.hid (HX2.out.trans (hb3.mono HX2.out.size))
      clear hb3 HF1 HX2 k1 k2 k3 g1 g2 g3
      obtain ⟨k1, k2, k3⟩ := cel2 (HP0.out w3 HX3.out)
      obtain ⟨g1, g2, g3⟩ := cel2 (HP1.out w3 HX3.out)
      as_aux_lemma =>
        go_upto_region 4 with (fail)
        go_wp2_with fail
        refine (HF2.out _).mono ?_
        rintro e w2 ⟨rfl, hb3⟩
        have HX2 := Lib.hid (HX3.out.trans (hb3.mono HX3.out.size))
        clear hb3 HF2 HX3 k1 k2 k3 g1 g2 g3 HP0 HP1
        as_aux_lemma =>
          go_upto_region 8 with (fail)
          go_wp2_with fail
          refine (HLB.out _).mono ?_
          rintro e w4 ⟨rfl, hb4⟩
          have HX4 := Lib.hid (HX2.out.trans (hb4.mono HX2.out.size))
          clear hb4 HLB HX2
          go_upto_region 9 with (fail)
          have K4 : Below w1.heap.size w1 ((w4.alloc (.cells #[.int .i64 px, .int .i64 py] 30)).alloc (.cells #[.int .i64 qx, .int .i64 qy] 30)) := (HX4.out.alloc HX4.out.size _).alloc (by have := HX4.out.size; simp only [World.size_alloc]; omega) _
          have x4 : ((w4.alloc (.cells #[.int .i64 px, .int .i64 py] 30)).alloc (.cells #[.int .i64 qx, .int .i64 qy] 30)).heap[w4.heap.size]? = some (.cells #[.int .i64 px, .int .i64 py] 30 (0, 0)) := by rw [Below.heap_alloc _ _ _ (by simp)]; exact heap_new _ _ _ rfl
          have x5 : ((w4.alloc (.cells #[.int .i64 px, .int .i64 py] 30)).alloc (.cells #[.int .i64 qx, .int .i64 qy] 30)).heap[w4.heap.size + 1]? = some (.cells #[.int .i64 qx, .int .i64 qy] 30 (0, 0)) := heap_new _ _ _ (by simp)
          generalize (w4.alloc (.cells #[.int .i64 px, .int .i64 py] 30)).alloc (.cells #[.int .i64 qx, .int .i64 qy] 30) = w5 at *
          have HX5 := Lib.hid K4
          have HP := Lib.hid (stay_of x4)
          have HQ := Lib.hid (stay_of x5)
          obtain ⟨k1, k2, k3⟩ := cel2 x4
          obtain ⟨l1, l2, l3⟩ := cel2 x5
          clear K4 x4 x5 HX4
          as_aux_lemma =>
            go_wp2_with fail
            refine (HRB.out _).mono ?_
            rintro e w6 ⟨h6, hb6⟩
            have HX6 := Lib.hid hb6
            clear hb6 HRB k1 k2 k3 l1 l2 l3
            rcases h6 with rfl | ⟨L, lo, lc, ln, hL, _, rfl, hln, hlw⟩
            · clear HBX HCN HRC HP HQ
              go_upto_region 11 with (fail)
              go_wp2_with fail
              refine (HAW.out _).mono ?_
              rintro e w7 ⟨rfl, hb7⟩
              have HX7 := Lib.hid (HX6.out.trans (hb7.mono HX6.out.size))
              clear hb7 HAW HX6
              go_wp2
              go_ret
              exact ⟨rfl, HB1.out.trans ((HX5.out.trans (HX7.out.mono HX5.out.size)).mono HB1.out.size)⟩
            · obtain ⟨hl20, hrc⟩ := HRC.out L hL
              have HRC2 := Lib.hid hrc
              have HEB : Hid (∀ A, IsBox R (px, py) (qx, qy) A → A = L) := fun A hA => box_eq hA hL
              have HEC : Hid (∀ B, IsCen R (px, py) (qx, qy) B → B = L.filter (cenB R (px, py) (qx, qy))) := fun B hB => (cen_eq hL hB).symm
              have HLA := Lib.hid hlw
              have HLQ := Lib.hid hln
              have HLN : Hid (L.length ≤ 20000 ∧ (L.filter (cenB R (px, py) (qx, qy))).length ≤ 20000) := ⟨hl20, Nat.le_trans (List.length_filter_le _ _) hl20⟩
              generalize L.filter (cenB R (px, py) (qx, qy)) = M at *
              clear HRC hL hlw hrc hl20 hln
              obtain ⟨k1, k2, k3⟩ := cel2 (HP.out w6 HX6.out)
              obtain ⟨l1, l2, l3⟩ := cel2 (HQ.out w6 HX6.out)
              as_aux_lemma =>
                go_upto_region 12 with (fail)
                go_wp2_with fail
                refine (HBX.out _).mono ?_
                rintro e w7 ⟨A, ao, ac, an, hA, rfl, han, hown, hb7⟩
                obtain rfl := HEB.out A hA
                have HX7 := Lib.hid (HX6.out.trans (hb7.mono HX6.out.size))
                have HL7 := Lib.hid (And.intro ((HLA.out.below hb7 (Nat.le_refl _)).wider hb7.size) (words_own han hown))
                have HAN := Lib.hid han
                clear hb7 HBX HX6 HLA HEB hA han hown k1 k2 k3 l1 l2 l3
                obtain ⟨k1, k2, k3⟩ := cel2 (HP.out w7 HX7.out)
                obtain ⟨l1, l2, l3⟩ := cel2 (HQ.out w7 HX7.out)
                as_aux_lemma =>
                  go_upto_region 13 with (fail)
                  go_wp2_with fail
                  refine (HCN.out _).mono ?_
                  rintro e w8 ⟨B, bo, bc, bn, hB, rfl, hbn, hown, hb8⟩
                  obtain rfl := HEC.out B hB
                  have HX8 := Lib.hid (HX7.out.trans (hb8.mono HX7.out.size))
                  have HL8 := Lib.hid (And.intro ((HL7.out.1.below hb8 (Nat.le_refl _)).wider hb8.size) ((HL7.out.2.below hb8 (Nat.le_refl _)).wider hb8.size))
                  have HBW := Lib.hid (words_own hbn hown)
                  have HBN := Lib.hid hbn
                  have HSM := Lib.hid (same_n (w := w8) (ao := ao) (c := ac) (bo := lo) (d := lc) HAN.out HLQ.out (by have := HLN.out.1; have := HAN.out; omega) HL8.out.2 HL8.out.1)
                  rw [decide_eq_true rfl] at HSM
                  clear hb8 HCN HX7 HL7 HEC hB hbn hown k1 k2 k3 l1 l2 l3
                  as_aux_lemma =>
                    go_upto_region 14 with (fail)
                    go_wp2_with fail
                    refine HSM.out.mono ?_
                    rintro e w9 ⟨rfl, hb9⟩
                    have HX9 := Lib.hid (HX8.out.trans (hb9.mono HX8.out.size))
                    have HL9 := Lib.hid ((HL8.out.1.below hb9 (Nat.le_refl _)).wider hb9.size)
                    have HB9 := Lib.hid ((HBW.out.below hb9 (Nat.le_refl _)).wider hb9.size)
                    clear hb9 HSM HX8 HL8 HBW
                    obtain ⟨k1, k2, k3⟩ := cel2 (HP.out w9 HX9.out)
                    obtain ⟨l1, l2, l3⟩ := cel2 (HQ.out w9 HX9.out)
                    as_aux_lemma =>
                      go_wp2_with fail
                      refine (HRC2.out lo ln lc w9 HLQ.out HL9.out).mono ?_
                      rintro e w10 ⟨co, cn, cc, rfl, hcn, hcw, hb10⟩
                      have HX10 := Lib.hid (HX9.out.trans (hb10.mono HX9.out.size))
                      have HSM := Lib.hid (same_n (w := w10) (ao := bo) (c := bc) (bo := co) (d := cc) HBN.out hcn (by have := HLN.out.2; have := HBN.out; omega) ((HB9.out.below hb10 (Nat.le_refl _)).wider hb10.size) hcw)
                      rw [decide_eq_true rfl] at HSM
                      clear hb10 HRC2 HX9 HL9 HB9 hcn hcw k1 k2 k3 l1 l2 l3
                      as_aux_lemma =>
                        go_wp2_with fail
                        refine HSM.out.mono ?_
                        rintro e w11 ⟨rfl, hb11⟩
                        have HX11 := Lib.hid (HX10.out.trans (hb11.mono HX10.out.size))
                        clear hb11 HSM HX10
                        go_wp2_with fail
                        refine (HAW.out _).mono ?_
                        rintro e w12 ⟨rfl, hb12⟩
                        have HX12 := Lib.hid (HX11.out.trans (hb12.mono HX11.out.size))
                        clear hb12 HAW HX11
                        go_wp2
                        go_ret
                        exact ⟨rfl, HB1.out.trans ((HX5.out.trans (HX12.out.mono HX5.out.size)).mono HB1.out.size)⟩
end Go.Proofs.YtdbfimdcaacjhaaGreat.coverBoxes
