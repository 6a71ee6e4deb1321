/- The walk of the law CoverParts. -/
import Derived.Test.YtdbfimdcaacjhaaGreatPackAK
import Derived.Test.YtdbfimdcaacjhaaGreatPackAL
import Derived.Test.YtdbfimdcaacjhaaGreatPackAO
namespace Go.Proofs.YtdbfimdcaacjhaaGreat.coverParts
open Go.RowKit Go.Lib Wd Cv

theorem pick_part {p q i : Int} (h : p < q) (h2 : q - p < 100000000) : ∃ u, p + i % 4294967296 % (q - p) = u ∧ p ≤ u ∧ u < q ∧ ((q - p : Int) == 0) = false ∧ (i % 4294967296).tmod (q - p) = u - p := by
  have h1 := Int.emod_nonneg (i % 4294967296) (show q - p ≠ 0 by omega)
  have h3 := Int.emod_lt_of_pos (i % 4294967296) (show 0 < q - p by omega)
  refine ⟨_, rfl, by omega, by omega, by simp; omega, ?_⟩
  rw [Int.tmod_eq_emod_of_nonneg (by omega)]
  omega
theorem ch_in {R : Nat} (hR : R ≤ 12) {lo hi : E2} (h1 : worldB lo.1 lo.2 = true) (h2 : worldB hi.1 hi.2 = true) (hx : lo.1 ≤ hi.1) (hy : lo.2 ≤ hi.2) : chE lo hi R = 0 := by
  unfold chE
  rw [if_neg (by omega), if_pos ⟨h1, h2⟩, if_neg (by omega)]
set_option maxRecDepth 100000 in
set_option maxHeartbeats 16000000 in
theorem walk {w : World} (a0 : Int) (_w0 : (Lit.int .i64 a0).wf = true) (a1 : Int) (_w1 : (Lit.int .i64 a1).wf = true) (a2 : Int) (_w2 : (Lit.int .i64 a2).wf = true) (a3 : Int) (_w3 : (Lit.int .i64 a3).wf = true) (a4 : Int) (_w4 : (Lit.int .i64 a4).wf = true) (a5 : Int) (_w5 : (Lit.int .i64 a5).wf = true) :
    Calls Tryz.prog 8 #[.int .i64 a0, .int .i64 a1, .int .i64 a2, .int .i64 a3, .int .i64 a4, .int .i64 a5] w fun e w' => e = .returned (.bool true) ∧ Below w.heap.size w w' := by
  have e5 : bits BinOp.and IntKind.i64 a5 4294967295 = a5 % 4294967296 := i64_and_mask a5 32 (by omega) 4294967295 rfl
  obtain ⟨s, R, q1, q2, q3, q4, hR, q5⟩ := res_of a4
  have HLB := Lib.hid (fun w => lbox_any a0 a1 a2 a3 R hR w)
  obtain ⟨b1, b2, b3, b4, b5, b6⟩ := lbox_of a0 a1 a2 a3 hR
  have hsz := sizeN_pos (m := 12 - R) (Nat.sub_le _ _)
  generalize boxP a0 a1 = p at *
  generalize boxQ a0 a1 a2 a3 R = q at *
  obtain ⟨px, py⟩ := p
  obtain ⟨qx, qy⟩ := q
  have c1 := (worldB_iff _ _).1 b1
  have c2 := (worldB_iff _ _).1 b2
  simp only at b3 b4 b5 b6 c1 c2
  have HAW := Lib.hid awake10_any
  have hi5 : 0 ≤ a5 % 4294967296 ∧ a5 % 4294967296 < 4294967296 := by omega
  by_cases hpq : qx = px
  · subst hpq
    simp only [vE] at *
    clear q5 b1 b2 b3 b4 b5 b6 e5 hi5
    go_enter Tryz.func8, Tryz.ntmps8
    go_upto_region 2 with (fail)
    go_wp2_with fail
    refine (HLB.out _).mono ?_
    rintro e w1 ⟨rfl, hb1⟩
    have HX1 := Lib.hid hb1
    clear hb1 HLB
    go_upto_region 3 with (fail)
    have K1 : Below w.heap.size w ((w1.alloc (.cells #[.int .i64 qx, .int .i64 py] 30)).alloc (.cells #[.int .i64 qx, .int .i64 qy] 30)) := (HX1.out.alloc HX1.out.size _).alloc (by have := HX1.out.size; simp only [World.size_alloc]; omega) _
    have x1 : ((w1.alloc (.cells #[.int .i64 qx, .int .i64 py] 30)).alloc (.cells #[.int .i64 qx, .int .i64 qy] 30)).heap[w1.heap.size]? = some (.cells #[.int .i64 qx, .int .i64 py] 30 (0, 0)) := by rw [Below.heap_alloc _ _ _ (by simp)]; exact heap_new _ _ _ rfl
    have x2 : ((w1.alloc (.cells #[.int .i64 qx, .int .i64 py] 30)).alloc (.cells #[.int .i64 qx, .int .i64 qy] 30)).heap[w1.heap.size + 1]? = some (.cells #[.int .i64 qx, .int .i64 qy] 30 (0, 0)) := heap_new _ _ _ (by simp)
    generalize (w1.alloc (.cells #[.int .i64 qx, .int .i64 py] 30)).alloc (.cells #[.int .i64 qx, .int .i64 qy] 30) = w2 at *
    have HX2 := Lib.hid K1
    obtain ⟨k1, k2, k3⟩ := cel2 x1
    obtain ⟨l1, l2, l3⟩ := cel2 x2
    clear K1 x1 x2 HX1
    go_wp2_with fail
    refine (HAW.out _).mono ?_
    rintro e w3 ⟨rfl, hb3⟩
    have HX3 := Lib.hid (HX2.out.trans (hb3.mono HX2.out.size))
    clear hb3 HAW HX2 k1 k2 k3 l1 l2 l3
    go_wp2
    go_ret
    exact ⟨rfl, HX3.out⟩
  · obtain ⟨u, _, u1, u2, u3, u4⟩ := pick_part (i := a5) (show px < qx by omega) (by omega)
    generalize a5 % 4294967296 = I at *
    have hneq : (qx == px) = false := beq_eq_false_iff_ne.2 hpq
    have W1 : worldB u qy = true := (worldB_iff _ _).2 (by omega)
    have W2 : worldB (u + 1) py = true := (worldB_iff _ _).2 (by omega)
    have W3 : worldB u py = true := (worldB_iff _ _).2 (by omega)
    have HC1 := Lib.hid (fun w => cen_few (px, py) (qx, qy) (ch_in hR b1 b2 b3 b4) (by simp only; omega) (by simp only; omega) w)
    have HC2 := Lib.hid (fun w => cen_few (px, py) (u, qy) (ch_in hR b1 W1 u1 b4) (by simp only; omega) (by simp only; omega) w)
    have HC3 := Lib.hid (fun w => cen_few (u + 1, py) (qx, qy) (ch_in hR W2 b2 (by simp only; omega) b4) (by simp only; omega) (by simp only; omega) w)
    have HC4 := Lib.hid (fun w => box_few (px, py) (qx, qy) (ch_in hR b1 b2 b3 b4) (by simp only; omega) (by simp only; omega) w)
    have HC5 := Lib.hid (fun w => box_few (px, py) (u, qy) (ch_in hR b1 W1 u1 b4) (by simp only; omega) (by simp only; omega) w)
    have HC6 := Lib.hid (fun w => box_few (u, py) (qx, qy) (ch_in hR W3 b2 (by simp only; omega) b4) (by simp only; omega) (by simp only; omega) w)
    have HPC : Hid (∀ L A B, IsCen R (px, py) (qx, qy) L → IsCen R (px, py) (u, qy) A → IsCen R (u + 1, py) (qx, qy) B → setF (A ++ B) = L ∧ A.length + B.length = L.length) := fun L A B hL hA hB => isCen_parts (lo := (px, py)) (hi := (qx, qy)) (c := u) u1 u2 hL hA hB
    have HPB : Hid (∀ L A B, IsBox R (px, py) (qx, qy) L → IsBox R (px, py) (u, qy) A → IsBox R (u, py) (qx, qy) B → setF (A ++ B) = L) := fun L A B hL hA hB => isBox_parts hR (lo := (px, py)) (hi := (qx, qy)) (c := u) u1 (by simp only; omega) b4 hL hA hB
    have HL1 : Hid (∀ lo hi L, IsCen R lo hi L → L.length ≤ 20000) := fun lo hi L h => h.2.2
    have HL2 : Hid (∀ lo hi L, IsBox R lo hi L → L.length ≤ 20000) := fun lo hi L h => h.2.2
    simp only [vE] at *
    clear b1 b2 b4 W1 W2 W3 q5 hpq
    go_enter Tryz.func8, Tryz.ntmps8
    go_upto_region 2 with (fail)
    go_wp2_with fail
    refine (HLB.out _).mono ?_
    rintro e w1 ⟨rfl, hb1⟩
    have HX1 := Lib.hid hb1
    clear hb1 HLB
    go_upto_region 3 with (fail)
    have K1 : Below w.heap.size w ((w1.alloc (.cells #[.int .i64 px, .int .i64 py] 30)).alloc (.cells #[.int .i64 qx, .int .i64 qy] 30)) := (HX1.out.alloc HX1.out.size _).alloc (by have := HX1.out.size; simp only [World.size_alloc]; omega) _
    have x1 : ((w1.alloc (.cells #[.int .i64 px, .int .i64 py] 30)).alloc (.cells #[.int .i64 qx, .int .i64 qy] 30)).heap[w1.heap.size]? = some (.cells #[.int .i64 px, .int .i64 py] 30 (0, 0)) := by rw [Below.heap_alloc _ _ _ (by simp)]; exact heap_new _ _ _ rfl
    have x2 : ((w1.alloc (.cells #[.int .i64 px, .int .i64 py] 30)).alloc (.cells #[.int .i64 qx, .int .i64 qy] 30)).heap[w1.heap.size + 1]? = some (.cells #[.int .i64 qx, .int .i64 qy] 30 (0, 0)) := heap_new _ _ _ (by simp)
    generalize (w1.alloc (.cells #[.int .i64 px, .int .i64 py] 30)).alloc (.cells #[.int .i64 qx, .int .i64 qy] 30) = w2 at *
    have HX2 := Lib.hid K1
    have HP := Lib.hid (stay_of x1)
    have HQ := Lib.hid (stay_of x2)
    obtain ⟨k1, k2, k3⟩ := cel2 x1
    obtain ⟨l1, l2, l3⟩ := cel2 x2
    clear K1 x1 x2 HX1
    as_aux_lemma =>
      go_upto_region 5 with (fail)
      go_region
      rw [show px + (u - px) = u by omega]
      clear u3 u4 e5 k1 k2 k3 l1 l2 l3 hi5
      have HX3 : Hid (Below w2.heap.size w2 w2.drew) := (Below.refl w2.heap.size w2).drew
      obtain ⟨k1, k2, k3⟩ := cel2 (HP.out _ HX3.out)
      obtain ⟨l1, l2, l3⟩ := cel2 (HQ.out _ HX3.out)
      as_aux_lemma =>
        go_upto_region 6 with (fail)
        go_wp2_with fail
        refine (HC1.out _).mono ?_
        rintro e w4 ⟨L, lo, lc, ln, hL, rfl, hln, hown, hb4⟩
        have HX4 := Lib.hid (HX3.out.trans (hb4.mono HX3.out.size))
        have HA4 := Lib.hid (LAt.of_own hln hown)
        clear hb4 HC1 HX3 hln hown k1 k2 k3 l1 l2 l3
        obtain ⟨k1, k2, k3⟩ := cel2 (HP.out _ HX4.out)
        obtain ⟨l1, l2, l3⟩ := cel2 (HQ.out _ HX4.out)
        as_aux_lemma =>
          go_upto_region 7 with (fail)
          go_wp2_with fail
          refine (HC2.out _).mono ?_
          rintro e w5 ⟨A, ao, ac, an, hA, rfl, han, hown, hb5⟩
          have HX5 := Lib.hid (HX4.out.trans (hb5.mono HX4.out.size))
          have HA5 := Lib.hid (And.intro (HA4.out.later hb5) (LAt.of_own han hown))
          clear hb5 HC2 HX4 HA4 han hown k1 k2 k3 l1 l2 l3
          obtain ⟨k1, k2, k3⟩ := cel2 (HP.out _ HX5.out)
          obtain ⟨l1, l2, l3⟩ := cel2 (HQ.out _ HX5.out)
          as_aux_lemma =>
            go_upto_region 8 with (fail)
            go_wp2_with fail
            refine (HC3.out _).mono ?_
            rintro e w6 ⟨B, bo, bc, bn, hB, rfl, hbn, hown, hb6⟩
            have HX6 := Lib.hid (HX5.out.trans (hb6.mono HX5.out.size))
            have HA6 := Lib.hid (And.intro (HA5.out.1.later hb6) (And.intro (HA5.out.2.later hb6) (LAt.of_own hbn hown)))
            have HFC := Lib.hid (HPC.out L A B hL hA hB)
            have HN1 : Hid (L.length ≤ 20000 ∧ A.length ≤ 20000 ∧ B.length ≤ 20000) := ⟨HL1.out _ _ _ hL, HL1.out _ _ _ hA, HL1.out _ _ _ hB⟩
            clear hb6 HC3 HX5 HA5 hbn hown HPC HL1 hL hA hB k1 k2 k3 l1 l2 l3
            obtain ⟨k1, k2, k3⟩ := cel2 (HP.out _ HX6.out)
            obtain ⟨l1, l2, l3⟩ := cel2 (HQ.out _ HX6.out)
            as_aux_lemma =>
              go_upto_region 9 with (fail)
              go_wp2_with fail
              refine (HC4.out _).mono ?_
              rintro e w7 ⟨C, co, cc, cn, hC, rfl, hcn, hown, hb7⟩
              have HX7 := Lib.hid (HX6.out.trans (hb7.mono HX6.out.size))
              have HA7 := Lib.hid (And.intro (HA6.out.1.later hb7) (And.intro (HA6.out.2.1.later hb7) (HA6.out.2.2.later hb7)))
              have HB7 := Lib.hid (LAt.of_own hcn hown)
              clear hb7 HC4 HX6 HA6 hcn hown k1 k2 k3 l1 l2 l3
              obtain ⟨k1, k2, k3⟩ := cel2 (HP.out _ HX7.out)
              obtain ⟨l1, l2, l3⟩ := cel2 (HQ.out _ HX7.out)
              as_aux_lemma =>
                go_upto_region 10 with (fail)
                go_wp2_with fail
                refine (HC5.out _).mono ?_
                rintro e w8 ⟨D, dO, dc, dn, hD, rfl, hdn, hown, hb8⟩
                have HX8 := Lib.hid (HX7.out.trans (hb8.mono HX7.out.size))
                have HA8 := Lib.hid (And.intro (HA7.out.1.later hb8) (And.intro (HA7.out.2.1.later hb8) (HA7.out.2.2.later hb8)))
                have HB8 := Lib.hid (And.intro (HB7.out.later hb8) (LAt.of_own hdn hown))
                clear hb8 HC5 HX7 HA7 HB7 hdn hown k1 k2 k3 l1 l2 l3
                obtain ⟨k1, k2, k3⟩ := cel2 (HP.out _ HX8.out)
                obtain ⟨l1, l2, l3⟩ := cel2 (HQ.out _ HX8.out)
                as_aux_lemma =>
                  go_upto_region 11 with (fail)
                  go_wp2_with fail
                  refine (HC6.out _).mono ?_
                  rintro e w9 ⟨K, ko, kc, kn, hK, rfl, hkn, hown, hb9⟩
                  have HX9 := Lib.hid (HX8.out.trans (hb9.mono HX8.out.size))
                  have HA9 := Lib.hid (And.intro (HA8.out.1.later hb9) (And.intro (HA8.out.2.1.later hb9) (HA8.out.2.2.later hb9)))
                  have HB9 := Lib.hid (And.intro (HB8.out.1.later hb9) (And.intro (HB8.out.2.later hb9) (LAt.of_own hkn hown)))
                  have HFB := Lib.hid (HPB.out C D K hC hD hK)
                  have HN2 : Hid (C.length ≤ 20000 ∧ D.length ≤ 20000 ∧ K.length ≤ 20000) := ⟨HL2.out _ _ _ hC, HL2.out _ _ _ hD, HL2.out _ _ _ hK⟩
                  clear hb9 HC6 HX8 HA8 HB8 hkn hown HPB HL2 hC hD hK k1 k2 k3 l1 l2 l3 HP HQ
                  have hs1 : ln = L.length := HA9.out.1.1
                  have hs2 : an = A.length := HA9.out.2.1.1
                  have hs3 : bn = B.length := HA9.out.2.2.1
                  have hn1 := HN1.out
                  have hab : (an : Int) + (bn : Int) ≤ 40000 ∧ 0 ≤ (an : Int) + (bn : Int) := by omega
                  have hsum : ((an : Int) + (bn : Int) == (ln : Int)) = true := by have := HFC.out.2; simp; omega
                  obtain ⟨y1, wA, xo, xc, wB, r1, r2, hown, hbB⟩ := two_append (w := w9) hs2 hs3 HA9.out.2.1.2.1 HA9.out.2.2.2.1 HA9.out.2.1.2.2 HA9.out.2.2.2.2 (by omega)
                  have hsl : an + bn = (A ++ B).length := by rw [List.length_append]; omega
                  have HST := Lib.hid (rset_n (ao := xo) (c := xc) hsl (by omega) (words_own hsl hown))
                  rw [HFC.out.1] at HST
                  have HR1 := Lib.hid r1
                  have HR2 := Lib.hid r2
                  have HX10 := Lib.hid (HX9.out.trans (hbB.mono HX9.out.size))
                  have HA10 := Lib.hid (HA9.out.1.later hbB)
                  have HB10 := Lib.hid (And.intro (HB9.out.1.later hbB) (And.intro (HB9.out.2.1.later hbB) (HB9.out.2.2.later hbB)))
                  obtain ⟨hab1, hab2⟩ := hab
                  clear hs1 hs2 hs3 hn1 r1 r2 hown hbB hsl HX9 HA9 HB9
                  as_aux_lemma =>
                    go_upto_region 14 with (fail)
                    go_wp2_with (at_builtin; first | refine wpList_append_want _ (by kernel_rfl) (.tmp 135) (.tmp 136) 31 31 rfl _ _ rfl rfl _ _ HR1.out ?_ | refine wpList_append_want _ (by kernel_rfl) (.tmp 137) (.tmp 138) 31 31 rfl _ _ rfl rfl _ _ HR2.out ?_)
                    refine HST.out.mono ?_
                    rintro e w11 ⟨so, sc, rfl, hws, hb11⟩
                    have HX11 := Lib.hid (HX10.out.trans (hb11.mono HX10.out.size))
                    have HSM := Lib.hid (same_n (w := w11) (ao := so) (c := sc) (bo := lo) (d := lc) (a := L) (b := L) rfl (HA10.out.later hb11).1 (by have := HN1.out; omega) hws (HA10.out.later hb11).2.1)
                    rw [decide_eq_true rfl] at HSM
                    have HB11 := Lib.hid (And.intro (HB10.out.1.later hb11) (And.intro (HB10.out.2.1.later hb11) (HB10.out.2.2.later hb11)))
                    clear HST HR1 HR2 HX10 HA10 HB10 hws hb11
                    as_aux_lemma =>
                      go_wp2_with fail
                      refine HSM.out.mono ?_
                      rintro e w12 ⟨rfl, hb12⟩
                      have HX12 := Lib.hid (HX11.out.trans (hb12.mono HX11.out.size))
                      have HB12 := Lib.hid (And.intro (HB11.out.1.later hb12) (And.intro (HB11.out.2.1.later hb12) (HB11.out.2.2.later hb12)))
                      clear hb12 HSM HX11 HB11
                      have hn2 := HN2.out
                      have hs2 : dn = D.length := HB12.out.2.1.1
                      have hs3 : kn = K.length := HB12.out.2.2.1
                      obtain ⟨y1, wA, xo, xc, wB, r1, r2, hown, hbB⟩ := two_append (w := w12) hs2 hs3 HB12.out.2.1.2.1 HB12.out.2.2.2.1 HB12.out.2.1.2.2 HB12.out.2.2.2.2 (by omega)
                      have hsl : dn + kn = (D ++ K).length := by rw [List.length_append]; omega
                      have HST := Lib.hid (rset_n (ao := xo) (c := xc) hsl (by omega) (words_own hsl hown))
                      rw [HFB.out] at HST
                      have HR1 := Lib.hid r1
                      have HR2 := Lib.hid r2
                      have HX13 := Lib.hid (HX12.out.trans (hbB.mono HX12.out.size))
                      have HA13 := Lib.hid (HB12.out.1.later hbB)
                      clear hn2 hs2 hs3 r1 r2 hown hbB hsl HX12 HB12
                      as_aux_lemma =>
                        go_wp2_with (at_builtin; first | refine wpList_append_want _ (by kernel_rfl) (.tmp 154) (.tmp 155) 31 31 rfl (.slice (some ⟨w12.heap.size, 0, none⟩) 0 0) (.slice dO dn dc) (by kernel_rfl) (by kernel_rfl) _ _ HR1.out ?_ | refine wpList_append_want _ (by kernel_rfl) (.tmp 156) (.tmp 157) 31 31 rfl y1 (.slice ko kn kc) (by kernel_rfl) (by kernel_rfl) _ _ HR2.out ?_)
                        refine HST.out.mono ?_
                        rintro e w14 ⟨so2, sc2, rfl, hws, hb14⟩
                        have HX14 := Lib.hid (HX13.out.trans (hb14.mono HX13.out.size))
                        have HSM := Lib.hid (same_n (w := w14) (ao := so2) (c := sc2) (bo := co) (d := cc) (a := C) (b := C) rfl (HA13.out.later hb14).1 (by have := HN2.out; omega) hws (HA13.out.later hb14).2.1)
                        rw [decide_eq_true rfl] at HSM
                        clear HST HR1 HR2 HX13 HA13 hws hb14
                        as_aux_lemma =>
                          go_wp2_with fail
                          refine HSM.out.mono ?_
                          rintro e w15 ⟨rfl, hb15⟩
                          have HX15 := Lib.hid (HX14.out.trans (hb15.mono HX14.out.size))
                          clear hb15 HSM HX14
                          go_wp2_with fail
                          refine (HAW.out _).mono ?_
                          rintro e w16 ⟨rfl, hb16⟩
                          have HX16 := Lib.hid (HX15.out.trans (hb16.mono HX15.out.size))
                          clear hb16 HAW HX15
                          go_wp2
                          go_ret
                          exact ⟨rfl, HX2.out.trans (HX16.out.mono HX2.out.size)⟩
end Go.Proofs.YtdbfimdcaacjhaaGreat.coverParts
