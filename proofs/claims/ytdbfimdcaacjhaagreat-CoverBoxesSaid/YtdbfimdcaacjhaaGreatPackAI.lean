/- Joined: RtA, FlD, FlE, NfJ, NfE, NfL, NcM, NcQ: contracts and plain laws, each with its own heading below. -/
import Derived.Test.YtdbfimdcaacjhaaGreatPackAH
import Derived.Maps.AppendAt
import Derived.Test.YtdbfimdcaacjhaaGreatPackAF
import Derived.Test.YtdbfimdcaacjhaaGreatPackAD
import Derived.Test.YtdbfimdcaacjhaaGreatPackAE
import Derived.Deep.CutRange
/- Contracts of the document's answer: far, Centre, Hex. -/
namespace Go.Proofs.YtdbfimdcaacjhaaGreat
open Go.RowKit Go.Lib Wd

def farB (x y : Int) : Bool := decide (x < -2147483648) || decide (2147483648 < x) || (decide (y < -2147483648) || decide (2147483648 < y))
theorem far_any (x y : Int) (w : World) : Calls Tryz.prog 50 #[.int .i64 x, .int .i64 y] w fun e w' => e = .returned (.bool (farB x y)) ∧ w' = w := by
  have HF : Hid (farB x y = (decide (x < -2147483648) || decide (2147483648 < x) || (decide (y < -2147483648) || decide (2147483648 < y)))) := rfl
  obtain ⟨b, hb⟩ : ∃ b, farB x y = b := ⟨_, rfl⟩
  rw [hb] at HF ⊢
  clear hb
  obtain ⟨b0, h0⟩ : ∃ b, decide (x < -2147483648) = b := ⟨_, rfl⟩
  obtain ⟨b1, h1⟩ : ∃ b, decide (2147483648 < x) = b := ⟨_, rfl⟩
  obtain ⟨b2, h2⟩ : ∃ b, decide (y < -2147483648) = b := ⟨_, rfl⟩
  obtain ⟨b3, h3⟩ : ∃ b, decide (2147483648 < y) = b := ⟨_, rfl⟩
  rw [h0, h1, h2, h3] at HF
  cases b0 <;> cases b1 <;> cases b2 <;> cases b3
  all_goals
    go_enter Tryz.func50, Tryz.ntmps50
    go_wp2
    go_ret
    exact ⟨ret_bool (by rw [HF.out]; rfl), rfl⟩
theorem put_two {w : World} {g : Nat} {a b : Value} {t : TypeId} (h : w.heap[g]? = some (.cells #[a, b] t (0, 0))) (c d : Value) : ((w.setCell ⟨g, 0, none⟩ c).setCell ⟨g, 1, none⟩ d).heap[g]? = some (.cells #[c, d] t (0, 0)) := by
  rw [Sort.setCell_eq, Sort.setCell_eq]
  simp [Sort.mapBlock, Array.getElem?_modify, h, Sort.onCells]
theorem mul_flip (x y : E2) : mulE x y = mulE y x := by unfold mulE; ext <;> simp only <;> grind
set_option maxRecDepth 100000 in
set_option maxHeartbeats 4000000 in
theorem rcentre_in (z : E2) (hz : Sm 1073741824 z) (r : Nat) (hr : r ≤ 12) (w : World) :
    Calls Tryz.prog 20 #[vE z, .int .i64 r] w fun e w' => e = .returned (.tuple #[.int .i64 (atE (12 - r) z).1, .int .i64 (atE (12 - r) z).2, .bool true]) ∧ Below w.heap.size w w' := by
  have hm : (12 : Int) - (r : Int) = ((12 - r : Nat) : Int) := by omega
  have hm12 : 12 - r ≤ 12 := by omega
  have HBE := Lib.hid (rbeta_in (12 - r) hm12)
  have hms := mid_sm hm12 (hz.mono (show (1073741824 : Int) ≤ 3221225472 by decide))
  have HMU := Lib.hid (rmul_in z (bE (12 - r)) (hz.mono (by decide)) ((bE_sm hm12).mono (by decide)) (by rw [mul_flip]; exact hms.mono (by decide)))
  have he : atE (12 - r) z = (52 * (mulE (bE (12 - r)) z).1 + 26 * (mulE (bE (12 - r)) z).2, 45 * (mulE (bE (12 - r)) z).2) := rfl
  rw [he]
  rw [mul_flip] at HMU
  generalize mulE (bE (12 - r)) z = u at *
  generalize bE (12 - r) = b at *
  generalize 12 - r = m at *
  obtain ⟨z1, z2⟩ := z
  obtain ⟨u1, u2⟩ := u
  simp only [vE] at *
  unfold Sm at hz hms
  simp only at hz hms
  obtain ⟨hz1, hz2, hz3, hz4⟩ := hz
  obtain ⟨hm1, hm2, hm3, hm4⟩ := hms
  have d1 : decide ((r : Int) < 0) = false := decide_eq_false (by omega)
  have d2 : decide (12 < (r : Int)) = false := decide_eq_false (by omega)
  have d3 : decide (z1 < -1073741824) = false := decide_eq_false (by omega)
  have d4 : decide (1073741824 < z1) = false := decide_eq_false (by omega)
  have d5 : decide (z2 < -1073741824) = false := decide_eq_false (by omega)
  have d6 : decide (1073741824 < z2) = false := decide_eq_false (by omega)
  have T0 : Hid (Two (w.alloc (.cells #[.int .i64 z1, .int .i64 z2] 23)) w.heap.size (.int .i64 z1) (.int .i64 z2)) := Two.of_row (t := 23) (f := _) (heap_new _ _ _ rfl)
  have B0 : Hid (Below w.heap.size w (w.alloc (.cells #[.int .i64 z1, .int .i64 z2] 23))) := (Below.refl _ _).alloc (Nat.le_refl _) _
  have s0 : w.heap.size < (w.alloc (.cells #[.int .i64 z1, .int .i64 z2] 23)).heap.size := by simp
  clear he
  go_enter Tryz.func20, Tryz.ntmps20
  go_upto_region 1 with (fail)
  generalize w.alloc (.cells #[.int .i64 z1, .int .i64 z2] 23) = w1 at *
  obtain ⟨t0, t1⟩ := T0.out
  go_wp2_with fail
  refine (HBE.out _).mono ?_
  rintro e w3 ⟨rfl, hb3⟩
  have K3 := hb3.alloc hb3.size (.cells #[.int .i64 b.1, .int .i64 b.2] 23)
  have P3 := Lib.hid (T0.out.later s0 K3)
  have B3 : Hid (Below w.heap.size w (w3.alloc (.cells #[.int .i64 b.1, .int .i64 b.2] 23))) := B0.out.trans (K3.mono B0.out.size)
  have T3 : Hid (Two (w3.alloc (.cells #[.int .i64 b.1, .int .i64 b.2] 23)) w3.heap.size (.int .i64 b.1) (.int .i64 b.2)) := Two.of_row (t := 23) (f := _) (heap_new _ _ _ rfl)
  have hs3 : w3.heap.size < (w3.alloc (.cells #[.int .i64 b.1, .int .i64 b.2] 23)).heap.size := by simp
  have hs4 : w.heap.size < w3.heap.size := by have := hb3.size; omega
  clear hb3 K3 T0 B0 t0 t1
  go_upto_region 4 with (fail)
  generalize w3.alloc (.cells #[.int .i64 b.1, .int .i64 b.2] 23) = w4 at *
  obtain ⟨t0, t1⟩ := T3.out
  obtain ⟨p0, p1⟩ := P3.out
  go_wp2_with fail
  refine (HMU.out _).mono ?_
  rintro e w5 ⟨rfl, hb5⟩
  have K5 := hb5.alloc hb5.size (.cells #[.int .i64 u1, .int .i64 u2] 23)
  have B5 : Hid (Below w.heap.size w (w5.alloc (.cells #[.int .i64 u1, .int .i64 u2] 23)).drew) := (B3.out.trans (K5.mono B3.out.size)).drew
  have T5 : Hid (Two (w5.alloc (.cells #[.int .i64 u1, .int .i64 u2] 23)) w5.heap.size (.int .i64 u1) (.int .i64 u2)) := Two.of_row (t := 23) (f := _) (heap_new _ _ _ rfl)
  have hs5 : w5.heap.size < (w5.alloc (.cells #[.int .i64 u1, .int .i64 u2] 23)).heap.size := by simp
  clear hb5 K5 T3 P3 B3 t0 t1 p0 p1
  go_upto_region 5 with (fail)
  generalize w5.alloc (.cells #[.int .i64 u1, .int .i64 u2] 23) = w6 at *
  obtain ⟨t0, t1⟩ := T5.out
  go_wp2_with (first | (with_reducible refine wp_region_lex (by kernel_rfl) (by kernel_rfl) ?_) | (with_reducible refine OnlyG.intro (by kernel_rfl) ?_))
  exact bodyPost_ret (v := .tuple #[.int .i64 (52 * u1 + 26 * u2), .int .i64 (45 * u2), .bool true]) (by simp [results, Tryz.results20, go_sem, *]) rfl ⟨rfl, B5.out⟩
theorem hexC_mul (m : Nat) (z : E2) (k : Nat) : spotE (mulE (3 * z.1 + (kapE k).1, 3 * z.2 + (kapE k).2) (bE m)) = hexC m z k := by
  unfold hexC midE
  generalize bE m = b
  generalize kapE k = c
  congr 1
  unfold mulE addE
  ext <;> simp only <;> grind
theorem sm_tri {z κ : E2} (hz : Sm 1073741824 z) (hk : Sm 2 κ) : Sm 3221225474 (3 * z.1 + κ.1, 3 * z.2 + κ.2) := by
  unfold Sm at *
  simp only
  omega
theorem mid_sm' {m : Nat} (hm : m ≤ 12) {y : E2} (hy : Sm 3221225474 y) : Sm 1000000000000000 (mulE (bE m) y) := by
  obtain ⟨q0, q1, q2, q3, q4, q5, q6, q7, q8, q9, q10, q11, q12⟩ := bE_tab
  obtain ⟨y1, y2⟩ := y
  unfold Sm at hy ⊢
  unfold mulE
  rcases upto12 hm with rfl | rfl | rfl | rfl | rfl | rfl | rfl | rfl | rfl | rfl | rfl | rfl | rfl <;> simp only [q0, q1, q2, q3, q4, q5, q6, q7, q8, q9, q10, q11, q12] at hy ⊢ <;> omega
set_option maxRecDepth 100000 in
set_option maxHeartbeats 8000000 in
theorem rhex_in (z : E2) (hz : Sm 1073741824 z) (r : Nat) (hr : r ≤ 12) (w : World) :
    Calls Tryz.prog 51 #[vE z, .int .i64 r] w fun e w' => ∃ ao c, e = .returned (.slice ao 6 c) ∧ w'.ownsRow w.heap.size 30 2 (.slice ao 6 c) 6 (prV (hexL (12 - r) z)) ∧ Below w.heap.size w w' := by
  obtain ⟨i1, hi1, hy0, hy1, hy2⟩ := info_parts info_pt
  have HCE := Lib.hid (rcentre_in z hz r hr)
  have hm : (12 : Int) - (r : Int) = ((12 - r : Nat) : Int) := by omega
  have hm12 : 12 - r ≤ 12 := by omega
  have HBE := Lib.hid (rbeta_in (12 - r) hm12)
  have HKK : Hid (∀ k, k < 6 → (∀ w, Calls Tryz.prog 33 #[vE (3 * z.1 + (kapE k).1, 3 * z.2 + (kapE k).2), vE (bE (12 - r))] w fun e w' => e = .returned (.tuple #[vE (mulE (3 * z.1 + (kapE k).1, 3 * z.2 + (kapE k).2) (bE (12 - r))), .bool true]) ∧ Below w.heap.size w w') ∧
      Sm 1000000000000000 (mulE (3 * z.1 + (kapE k).1, 3 * z.2 + (kapE k).2) (bE (12 - r))) ∧ spotE (mulE (3 * z.1 + (kapE k).1, 3 * z.2 + (kapE k).2) (bE (12 - r))) = prG (hexL (12 - r) z) k ∧ Sm 2 (kapE k)) := fun k hk => by
    have h1 := sm_tri hz (kap_sm k)
    have h2 := mid_sm' hm12 h1
    rw [mul_flip] at h2
    exact ⟨fun w => rmul_in _ _ (h1.mono (by decide)) ((bE_sm hm12).mono (by decide)) (h2.mono (by decide)) w, h2, by rw [hexC_mul, hexL_get _ _ hk], kap_sm k⟩
  have HTK : Hid (∀ k, k < 6 → prV ((hexL (12 - r) z).take (k + 1)) = prV ((hexL (12 - r) z).take k) ++ [.int .i64 (prG (hexL (12 - r) z) k).1, .int .i64 (prG (hexL (12 - r) z) k).2]) := fun k hk => by
    rw [take_pr _ (by rw [hexL_len]; exact hk), prV_snoc]
  have HTE : Hid ((hexL (12 - r) z).take 6 = hexL (12 - r) z) := List.take_of_length_le (by rw [hexL_len]; exact Nat.le_refl _)
  generalize hexL (12 - r) z = L at *
  generalize atE (12 - r) z = ce at *
  generalize bE (12 - r) = b at *
  generalize 12 - r = m at *
  obtain ⟨z1, z2⟩ := z
  obtain ⟨b1, b2⟩ := b
  simp only [vE] at *
  unfold Sm at hz
  simp only at hz
  obtain ⟨hz1, hz2, hz3, hz4⟩ := hz
  have T0 : Hid (Two (w.alloc (.cells #[.int .i64 z1, .int .i64 z2] 23)) w.heap.size (.int .i64 z1) (.int .i64 z2)) := Two.of_row (t := 23) (f := _) (heap_new _ _ _ rfl)
  have B0 : Hid (Below w.heap.size w (w.alloc (.cells #[.int .i64 z1, .int .i64 z2] 23))) := (Below.refl _ _).alloc (Nat.le_refl _) _
  have s0 : w.heap.size < (w.alloc (.cells #[.int .i64 z1, .int .i64 z2] 23)).heap.size := by simp
  go_enter Tryz.func51, Tryz.ntmps51
  go_upto_region 1 with (fail)
  generalize w.alloc (.cells #[.int .i64 z1, .int .i64 z2] 23) = w1 at *
  obtain ⟨t0, t1⟩ := T0.out
  go_wp2_with fail
  refine (HCE.out _).mono ?_
  rintro e w2 ⟨rfl, hb2⟩
  have T2 := Lib.hid (T0.out.later s0 hb2)
  have B2 := Lib.hid (B0.out.trans (hb2.mono B0.out.size))
  have s2 : w.heap.size < w2.heap.size := by have := hb2.size; omega
  clear hb2 T0 B0 t0 t1
  go_wp2_with fail
  refine (HBE.out _).mono ?_
  rintro e w3 ⟨rfl, hb3⟩
  have K3 := hb3.alloc hb3.size (.cells #[.int .i64 b1, .int .i64 b2] 23)
  have T3 := Lib.hid (T2.out.later s2 K3)
  have B3 : Hid (Below w.heap.size w (w3.alloc (.cells #[.int .i64 b1, .int .i64 b2] 23))) := B2.out.trans (K3.mono B2.out.size)
  have P3 : Hid (Two (w3.alloc (.cells #[.int .i64 b1, .int .i64 b2] 23)) w3.heap.size (.int .i64 b1) (.int .i64 b2)) := Two.of_row (t := 23) (f := _) (heap_new _ _ _ rfl)
  have s3 : w3.heap.size < (w3.alloc (.cells #[.int .i64 b1, .int .i64 b2] 23)).heap.size ∧ w.heap.size < w3.heap.size := ⟨by simp, by have := hb3.size; omega⟩
  clear hb3 K3 T2 B2
  go_upto_region 5 with (fail)
  generalize w3.alloc (.cells #[.int .i64 b1, .int .i64 b2] 23) = w4 at *
  go_wp2
  have hkl : (prV ((List.range 6).map kapE)).toArray = #[.int .i64 1, .int .i64 1, .int .i64 (-1), .int .i64 2, .int .i64 (-2), .int .i64 1, .int .i64 (-1), .int .i64 (-1), .int .i64 1, .int .i64 (-2), .int .i64 2, .int .i64 (-1)] := rfl
  have hka := prAt_new w4 ((List.range 6).map kapE) 136
  rw [hkl] at hka
  have K7 := (Below.refl w4.heap.size w4).alloc (Nat.le_refl _) (.cells #[.int .i64 1, .int .i64 1, .int .i64 (-1), .int .i64 2, .int .i64 (-2), .int .i64 1, .int .i64 (-1), .int .i64 (-1), .int .i64 1, .int .i64 (-2), .int .i64 2, .int .i64 (-1)] 136)
  have B7 := Lib.hid (B3.out.trans (K7.mono B3.out.size))
  have T7 := Lib.hid (T3.out.later (by omega) K7)
  have P7 := Lib.hid (P3.out.later s3.1 K7)
  have HKA := Lib.hid hka
  have s7 : w4.heap.size < (w4.alloc (.cells #[.int .i64 1, .int .i64 1, .int .i64 (-1), .int .i64 2, .int .i64 (-2), .int .i64 1, .int .i64 (-1), .int .i64 (-1), .int .i64 1, .int .i64 (-2), .int .i64 2, .int .i64 (-1)] 136)).heap.size := by simp
  clear hka hkl K7 B3 T3 P3
  generalize w4.alloc (.cells #[.int .i64 1, .int .i64 1, .int .i64 (-1), .int .i64 2, .int .i64 (-2), .int .i64 1, .int .i64 (-1), .int .i64 (-1), .int .i64 1, .int .i64 (-2), .int .i64 2, .int .i64 (-1)] 136) = w7 at *
  have hs7 := B7.out.size
  have HKG : Hid (∀ k, k < 6 → prG ((List.range 6).map kapE) k = kapE k) := fun k hk => by
    unfold prG
    rw [List.getD_eq_getElem?_getD, List.getElem?_map, List.getElem?_range hk]; rfl
  go_loopw [11, 12] (fun ov iv wr => ∃ (k : Nat) (oo : Option Addr) (oc : Nat), k ≤ 6 ∧ iv = .int .i64 k ∧ ov = .slice oo k oc ∧ Hid (wr.ownsRow w7.heap.size 30 2 (.slice oo k oc) k (prV (L.take k)) ∧ Below w7.heap.size w7 wr)) (fun _ i _ => 6 - (intOf i).toNat)
  case atStart => exact ⟨0, none, 0, by omega, rfl, rfl, World.ownsRow_nil _ _ _ _, Below.refl _ _⟩
  case round =>
    obtain ⟨k, oo, oc, hk, rfl, rfl, HI⟩ := hrel
    obtain ⟨wo, rfl⟩ : ∃ wo, wo = wr := ⟨_, rfl⟩
    by_cases hlt : k < 6
    · have q1 : decide ((k : Int) < 6) = true := decide_eq_true (by omega)
      obtain ⟨g, off, hg0, hg, hc⟩ := (HKA.out.below HI.out.2) (by simp)
      cases hg0
      obtain ⟨c0, c1⟩ := hc k (by simpa using hlt)
      rw [HKG.out k hlt] at c0 c1
      rw [Nat.zero_add] at c0 c1
      obtain ⟨hmu, hsm, hsp, hks⟩ := HKK.out k hlt
      have HTS := Lib.hid (HTK.out k hlt)
      generalize prG L k = x at *
      generalize kapE k = κ at *
      obtain ⟨κ1, κ2⟩ := κ
      simp only at hmu hsm hsp c0 c1
      have HMU := Lib.hid hmu
      have HSP := Lib.hid hsp
      generalize mulE (3 * z1 + κ1, 3 * z2 + κ2) (b1, b2) = u at *
      obtain ⟨u1, u2⟩ := u
      unfold Sm at hsm hks
      simp only at hsm hks
      obtain ⟨hs1, hs2, hs3, hs4⟩ := hsm
      obtain ⟨hk1, hk2, hk3, hk4⟩ := hks
      obtain ⟨t0, t1⟩ := T7.out.later (by omega) HI.out.2
      obtain ⟨p0, p1⟩ := P7.out.later (by omega) HI.out.2
      have hso := HI.out.2.size
      have hkk : (k : Int) < 6 := by omega
      have hkk0 : (0 : Int) ≤ (k : Int) := by omega
      clear hc hmu hsp
      go_upto_region 10 with (fail)
      have HC : Hid (∀ wx, Below wo.heap.size wo wx → Two wx w.heap.size (.int .i64 z1) (.int .i64 z2) ∧ Two wx w3.heap.size (.int .i64 b1) (.int .i64 b2)) := fun wx hx => ⟨T7.out.later (by omega) (HI.out.2.trans (hx.mono hso)), P7.out.later (by omega) (HI.out.2.trans (hx.mono hso))⟩
      have HD : Hid (∀ wx, Below wo.heap.size wo wx → wx.cell? ⟨w4.heap.size, k * 2, none⟩ = some (.int .i64 κ1) ∧ wx.cell? ⟨w4.heap.size, k * 2 + 1, none⟩ = some (.int .i64 κ2)) := fun wx hx => ⟨(hx.cell (p := ⟨w4.heap.size, _, none⟩) hg).trans c0, (hx.cell (p := ⟨w4.heap.size, _, none⟩) hg).trans c1⟩
      clear t0 t1 p0 p1 c0 c1
      refine wp_region_ind ([.val (.pointer (some ⟨w.heap.size, 0, none⟩)), .val (.int .i64 z1), .val (.int .i64 (3 * z1)), .val (.int .i64 k), .val (.pointer (some ⟨w4.heap.size, k * 2, none⟩)), .val (.pointer (some ⟨w4.heap.size, k * 2, none⟩)), .val (.int .i64 κ1), .val (.int .i64 (3 * z1 + κ1)), .val (.pointer (some ⟨w.heap.size, 1, none⟩)), .val (.int .i64 z2), .val (.int .i64 (3 * z2)), .val (.int .i64 k), .val (.pointer (some ⟨w4.heap.size, k * 2, none⟩)), .val (.pointer (some ⟨w4.heap.size, k * 2 + 1, none⟩)), .val (.int .i64 κ2), .val (.int .i64 (3 * z2 + κ2)), .val (.agg #[.int .i64 (3 * z1 + κ1), .int .i64 (3 * z2 + κ2)]), .val (.agg #[.int .i64 b1, .int .i64 b2]), .val (.tuple #[.agg #[.int .i64 u1, .int .i64 u2], .bool true]), .val (.tuple #[.agg #[.int .i64 u1, .int .i64 u2], .bool true]), .val (.agg #[.int .i64 u1, .int .i64 u2]), .val (.bool true), .prop (pNew wo.heap.size #[.int .i64 0, .int .i64 0] 23), .of 22 (pNew wo.heap.size #[.int .i64 u1, .int .i64 u2] 23), .val (.bool true)] : List Want3) [23] (by kernel_rfl) (by kernel_rfl) (by kernel_rfl) (by kernel_rfl) ?_
      refine ind_cons (fun wx hg hd => ?_) (fun v0 => ?_)
      · have hx := ((Below.refl wo.heap.size wo).drew).trans hg
        clear hd hg
        go_wp2
        exact ⟨_, rfl, Below.refl _ _, rfl⟩
      (try simp only [List.nil_append, Act.put, List.setIfInBounds_toArray, List.set_cons_zero, List.set_cons_succ])
      refine ind_cons (fun wx hg hd => ?_) (fun v1 => ?_)
      · have hx := ((Below.refl wo.heap.size wo).drew).trans hg
        (try (have ee : v0 = (.pointer (some ⟨w.heap.size, 0, none⟩) : Value) := hd 0 (by simp) (by decide); subst ee))
        clear hd hg
        obtain ⟨k1, k2⟩ := (HC.out _ hx).1
        go_wp2
        exact ⟨_, rfl, Below.refl _ _, rfl⟩
      (try simp only [List.cons_append, List.nil_append, Act.put, List.setIfInBounds_toArray, List.set_cons_zero, List.set_cons_succ])
      refine ind_cons (fun wx hg hd => ?_) (fun v2 => ?_)
      · have hx := ((Below.refl wo.heap.size wo).drew).trans hg
        (try (have ee : v1 = (.int .i64 z1 : Value) := hd 1 (by simp) (by decide); subst ee))
        clear hd hg
        go_wp2
        exact ⟨_, rfl, Below.refl _ _, rfl⟩
      (try simp only [List.cons_append, List.nil_append, Act.put, List.setIfInBounds_toArray, List.set_cons_zero, List.set_cons_succ])
      refine ind_cons (fun wx hg hd => ?_) (fun v3 => ?_)
      · have hx := ((Below.refl wo.heap.size wo).drew).trans hg
        clear hd hg
        go_wp2
        exact ⟨_, rfl, Below.refl _ _, rfl⟩
      (try simp only [List.cons_append, List.nil_append, Act.put, List.setIfInBounds_toArray, List.set_cons_zero, List.set_cons_succ])
      refine ind_cons (fun wx hg hd => ?_) (fun v4 => ?_)
      · have hx := ((Below.refl wo.heap.size wo).drew).trans hg
        (try (have ee : v3 = (.int .i64 k : Value) := hd 3 (by simp) (by decide); subst ee))
        clear hd hg
        go_wp2
        exact ⟨_, rfl, Below.refl _ _, rfl⟩
      (try simp only [List.cons_append, List.nil_append, Act.put, List.setIfInBounds_toArray, List.set_cons_zero, List.set_cons_succ])
      refine ind_cons (fun wx hg hd => ?_) (fun v5 => ?_)
      · have hx := ((Below.refl wo.heap.size wo).drew).trans hg
        (try (have ee : v4 = (.pointer (some ⟨w4.heap.size, k * 2, none⟩) : Value) := hd 4 (by simp) (by decide); subst ee))
        clear hd hg
        go_wp2
        exact ⟨_, rfl, Below.refl _ _, rfl⟩
      (try simp only [List.cons_append, List.nil_append, Act.put, List.setIfInBounds_toArray, List.set_cons_zero, List.set_cons_succ])
      refine ind_cons (fun wx hg hd => ?_) (fun v6 => ?_)
      · have hx := ((Below.refl wo.heap.size wo).drew).trans hg
        (try (have ee : v5 = (.pointer (some ⟨w4.heap.size, k * 2, none⟩) : Value) := hd 5 (by simp) (by decide); subst ee))
        clear hd hg
        obtain ⟨k1, k2⟩ := HD.out _ hx
        go_wp2
        exact ⟨_, rfl, Below.refl _ _, rfl⟩
      (try simp only [List.cons_append, List.nil_append, Act.put, List.setIfInBounds_toArray, List.set_cons_zero, List.set_cons_succ])
      refine ind_cons (fun wx hg hd => ?_) (fun v7 => ?_)
      · have hx := ((Below.refl wo.heap.size wo).drew).trans hg
        (try (have ee : v2 = (.int .i64 (3 * z1) : Value) := hd 2 (by simp) (by decide); subst ee))
        (try (have ee : v6 = (.int .i64 κ1 : Value) := hd 6 (by simp) (by decide); subst ee))
        clear hd hg
        go_wp2
        exact ⟨_, rfl, Below.refl _ _, rfl⟩
      (try simp only [List.cons_append, List.nil_append, Act.put, List.setIfInBounds_toArray, List.set_cons_zero, List.set_cons_succ])
      refine ind_cons (fun wx hg hd => ?_) (fun v8 => ?_)
      · have hx := ((Below.refl wo.heap.size wo).drew).trans hg
        clear hd hg
        go_wp2
        exact ⟨_, rfl, Below.refl _ _, rfl⟩
      (try simp only [List.cons_append, List.nil_append, Act.put, List.setIfInBounds_toArray, List.set_cons_zero, List.set_cons_succ])
      refine ind_cons (fun wx hg hd => ?_) (fun v9 => ?_)
      · have hx := ((Below.refl wo.heap.size wo).drew).trans hg
        (try (have ee : v8 = (.pointer (some ⟨w.heap.size, 1, none⟩) : Value) := hd 8 (by simp) (by decide); subst ee))
        clear hd hg
        obtain ⟨k1, k2⟩ := (HC.out _ hx).1
        go_wp2
        exact ⟨_, rfl, Below.refl _ _, rfl⟩
      (try simp only [List.cons_append, List.nil_append, Act.put, List.setIfInBounds_toArray, List.set_cons_zero, List.set_cons_succ])
      refine ind_cons (fun wx hg hd => ?_) (fun v10 => ?_)
      · have hx := ((Below.refl wo.heap.size wo).drew).trans hg
        (try (have ee : v9 = (.int .i64 z2 : Value) := hd 9 (by simp) (by decide); subst ee))
        clear hd hg
        go_wp2
        exact ⟨_, rfl, Below.refl _ _, rfl⟩
      (try simp only [List.cons_append, List.nil_append, Act.put, List.setIfInBounds_toArray, List.set_cons_zero, List.set_cons_succ])
      refine ind_cons (fun wx hg hd => ?_) (fun v11 => ?_)
      · have hx := ((Below.refl wo.heap.size wo).drew).trans hg
        clear hd hg
        go_wp2
        exact ⟨_, rfl, Below.refl _ _, rfl⟩
      (try simp only [List.cons_append, List.nil_append, Act.put, List.setIfInBounds_toArray, List.set_cons_zero, List.set_cons_succ])
      refine ind_cons (fun wx hg hd => ?_) (fun v12 => ?_)
      · have hx := ((Below.refl wo.heap.size wo).drew).trans hg
        (try (have ee : v11 = (.int .i64 k : Value) := hd 11 (by simp) (by decide); subst ee))
        clear hd hg
        go_wp2
        exact ⟨_, rfl, Below.refl _ _, rfl⟩
      (try simp only [List.cons_append, List.nil_append, Act.put, List.setIfInBounds_toArray, List.set_cons_zero, List.set_cons_succ])
      refine ind_cons (fun wx hg hd => ?_) (fun v13 => ?_)
      · have hx := ((Below.refl wo.heap.size wo).drew).trans hg
        (try (have ee : v12 = (.pointer (some ⟨w4.heap.size, k * 2, none⟩) : Value) := hd 12 (by simp) (by decide); subst ee))
        clear hd hg
        go_wp2
        exact ⟨_, rfl, Below.refl _ _, rfl⟩
      (try simp only [List.cons_append, List.nil_append, Act.put, List.setIfInBounds_toArray, List.set_cons_zero, List.set_cons_succ])
      refine ind_cons (fun wx hg hd => ?_) (fun v14 => ?_)
      · have hx := ((Below.refl wo.heap.size wo).drew).trans hg
        (try (have ee : v13 = (.pointer (some ⟨w4.heap.size, k * 2 + 1, none⟩) : Value) := hd 13 (by simp) (by decide); subst ee))
        clear hd hg
        obtain ⟨k1, k2⟩ := HD.out _ hx
        go_wp2
        exact ⟨_, rfl, Below.refl _ _, rfl⟩
      (try simp only [List.cons_append, List.nil_append, Act.put, List.setIfInBounds_toArray, List.set_cons_zero, List.set_cons_succ])
      refine ind_cons (fun wx hg hd => ?_) (fun v15 => ?_)
      · have hx := ((Below.refl wo.heap.size wo).drew).trans hg
        (try (have ee : v10 = (.int .i64 (3 * z2) : Value) := hd 10 (by simp) (by decide); subst ee))
        (try (have ee : v14 = (.int .i64 κ2 : Value) := hd 14 (by simp) (by decide); subst ee))
        clear hd hg
        go_wp2
        exact ⟨_, rfl, Below.refl _ _, rfl⟩
      (try simp only [List.cons_append, List.nil_append, Act.put, List.setIfInBounds_toArray, List.set_cons_zero, List.set_cons_succ])
      refine ind_cons (fun wx hg hd => ?_) (fun v16 => ?_)
      · have hx := ((Below.refl wo.heap.size wo).drew).trans hg
        (try (have ee : v7 = (.int .i64 (3 * z1 + κ1) : Value) := hd 7 (by simp) (by decide); subst ee))
        (try (have ee : v15 = (.int .i64 (3 * z2 + κ2) : Value) := hd 15 (by simp) (by decide); subst ee))
        clear hd hg
        go_wp2
        exact ⟨_, rfl, Below.refl _ _, rfl⟩
      (try simp only [List.cons_append, List.nil_append, Act.put, List.setIfInBounds_toArray, List.set_cons_zero, List.set_cons_succ])
      refine ind_cons (fun wx hg hd => ?_) (fun v17 => ?_)
      · have hx := ((Below.refl wo.heap.size wo).drew).trans hg
        clear hd hg
        obtain ⟨k1, k2⟩ := (HC.out _ hx).2
        go_wp2
        exact ⟨_, rfl, Below.refl _ _, rfl⟩
      (try simp only [List.cons_append, List.nil_append, Act.put, List.setIfInBounds_toArray, List.set_cons_zero, List.set_cons_succ])
      refine ind_cons (fun wx hg hd => ?_) (fun v18 => ?_)
      · have hx := ((Below.refl wo.heap.size wo).drew).trans hg
        (try (have ee : v16 = (.agg #[.int .i64 (3 * z1 + κ1), .int .i64 (3 * z2 + κ2)] : Value) := hd 16 (by simp) (by decide); subst ee))
        (try (have ee : v17 = (.agg #[.int .i64 b1, .int .i64 b2] : Value) := hd 17 (by simp) (by decide); subst ee))
        clear hd hg
        go_wp2_with fail
        refine (HMU.out _).mono ?_
        rintro e w' ⟨rfl, hb⟩
        go_wp2
        exact ⟨_, rfl, hb, rfl⟩
      (try simp only [List.cons_append, List.nil_append, Act.put, List.setIfInBounds_toArray, List.set_cons_zero, List.set_cons_succ])
      refine ind_cons (fun wx hg hd => ?_) (fun v19 => ?_)
      · have hx := ((Below.refl wo.heap.size wo).drew).trans hg
        (try (have ee : v18 = (.tuple #[.agg #[.int .i64 u1, .int .i64 u2], .bool true] : Value) := hd 18 (by simp) (by decide); subst ee))
        clear hd hg
        go_wp2
        exact ⟨_, rfl, Below.refl _ _, rfl⟩
      (try simp only [List.cons_append, List.nil_append, Act.put, List.setIfInBounds_toArray, List.set_cons_zero, List.set_cons_succ])
      refine ind_cons (fun wx hg hd => ?_) (fun v20 => ?_)
      · have hx := ((Below.refl wo.heap.size wo).drew).trans hg
        (try (have ee : v19 = (.tuple #[.agg #[.int .i64 u1, .int .i64 u2], .bool true] : Value) := hd 19 (by simp) (by decide); subst ee))
        clear hd hg
        go_wp2
        exact ⟨_, rfl, Below.refl _ _, rfl⟩
      (try simp only [List.cons_append, List.nil_append, Act.put, List.setIfInBounds_toArray, List.set_cons_zero, List.set_cons_succ])
      refine ind_cons (fun wx hg hd => ?_) (fun v21 => ?_)
      · have hx := ((Below.refl wo.heap.size wo).drew).trans hg
        (try (have ee : v19 = (.tuple #[.agg #[.int .i64 u1, .int .i64 u2], .bool true] : Value) := hd 19 (by simp) (by decide); subst ee))
        clear hd hg
        go_wp2
        exact ⟨_, rfl, Below.refl _ _, rfl⟩
      (try simp only [List.cons_append, List.nil_append, Act.put, List.setIfInBounds_toArray, List.set_cons_zero, List.set_cons_succ])
      refine ind_cons (fun wx hg hd => ?_) (fun v22 => ?_)
      · have hx := ((Below.refl wo.heap.size wo).drew).trans hg
        clear hd hg
        go_wp2
        exact ⟨_, rfl, (Below.refl _ _).alloc (Nat.le_refl _) _, _, rfl, hx.size, by simp, heap_new _ _ _ rfl⟩
      (try simp only [List.cons_append, List.nil_append, Act.put, List.setIfInBounds_toArray, List.set_cons_zero, List.set_cons_succ])
      refine ind_cons (fun wx hg hd => ?_) (fun v23 => ?_)
      · have hx := ((Below.refl wo.heap.size wo).drew).trans hg
        (try (have ee : v20 = (.agg #[.int .i64 u1, .int .i64 u2] : Value) := hd 20 (by simp) (by decide); subst ee))
        have hp22 : (pNew wo.heap.size #[.int .i64 0, .int .i64 0] 23 : SP).1 v22 wx := hd 22 (by simp) (by decide)
        clear hd
        obtain ⟨g, rfl, hg1, hg2, hg3⟩ := hp22
        have hP : Two2 wx g (.int .i64 0) (.int .i64 0) := Two2.of_row (t := 23) hg3
        obtain ⟨⟨y0, y1⟩, y2, y3⟩ := hP
        go_wp2
        exact ⟨undef, rfl, ((Below.refl _ wx).setCell (p := ⟨g, 0, none⟩) hg1 (.int .i64 u1)).setCell (p := ⟨g, 1, none⟩) hg1 (.int .i64 u2), fun _ => ⟨g, rfl, hg1, (by simpa using hg2), put_two hg3 (.int .i64 u1) (.int .i64 u2)⟩⟩
      (try simp only [List.cons_append, List.nil_append, Act.put])
      refine ind_cons (fun wx hg hd => ?_) (fun v24 => ?_)
      · have hx := ((Below.refl wo.heap.size wo).drew).trans hg
        (try (have ee : v21 = (.bool true : Value) := hd 21 (by simp) (by decide); subst ee))
        clear hd hg
        go_wp2
        exact ⟨_, rfl, Below.refl _ _, rfl⟩
      (try simp only [List.cons_append, List.nil_append, Act.put, List.setIfInBounds_toArray, List.set_cons_zero, List.set_cons_succ])
      refine ind_done (fun wx hg hd => ?_)
      have hx := ((Below.refl wo.heap.size wo).drew).trans hg
      (have ee : v0 = (.pointer (some ⟨w.heap.size, 0, none⟩) : Value) := hd 0 (by simp) (by kernel_rfl); subst ee)
      (have ee : v1 = (.int .i64 z1 : Value) := hd 1 (by simp) (by kernel_rfl); subst ee)
      (have ee : v2 = (.int .i64 (3 * z1) : Value) := hd 2 (by simp) (by kernel_rfl); subst ee)
      (have ee : v3 = (.int .i64 k : Value) := hd 3 (by simp) (by kernel_rfl); subst ee)
      (have ee : v4 = (.pointer (some ⟨w4.heap.size, k * 2, none⟩) : Value) := hd 4 (by simp) (by kernel_rfl); subst ee)
      (have ee : v5 = (.pointer (some ⟨w4.heap.size, k * 2, none⟩) : Value) := hd 5 (by simp) (by kernel_rfl); subst ee)
      (have ee : v6 = (.int .i64 κ1 : Value) := hd 6 (by simp) (by kernel_rfl); subst ee)
      (have ee : v7 = (.int .i64 (3 * z1 + κ1) : Value) := hd 7 (by simp) (by kernel_rfl); subst ee)
      (have ee : v8 = (.pointer (some ⟨w.heap.size, 1, none⟩) : Value) := hd 8 (by simp) (by kernel_rfl); subst ee)
      (have ee : v9 = (.int .i64 z2 : Value) := hd 9 (by simp) (by kernel_rfl); subst ee)
      (have ee : v10 = (.int .i64 (3 * z2) : Value) := hd 10 (by simp) (by kernel_rfl); subst ee)
      (have ee : v11 = (.int .i64 k : Value) := hd 11 (by simp) (by kernel_rfl); subst ee)
      (have ee : v12 = (.pointer (some ⟨w4.heap.size, k * 2, none⟩) : Value) := hd 12 (by simp) (by kernel_rfl); subst ee)
      (have ee : v13 = (.pointer (some ⟨w4.heap.size, k * 2 + 1, none⟩) : Value) := hd 13 (by simp) (by kernel_rfl); subst ee)
      (have ee : v14 = (.int .i64 κ2 : Value) := hd 14 (by simp) (by kernel_rfl); subst ee)
      (have ee : v15 = (.int .i64 (3 * z2 + κ2) : Value) := hd 15 (by simp) (by kernel_rfl); subst ee)
      (have ee : v16 = (.agg #[.int .i64 (3 * z1 + κ1), .int .i64 (3 * z2 + κ2)] : Value) := hd 16 (by simp) (by kernel_rfl); subst ee)
      (have ee : v17 = (.agg #[.int .i64 b1, .int .i64 b2] : Value) := hd 17 (by simp) (by kernel_rfl); subst ee)
      (have ee : v18 = (.tuple #[.agg #[.int .i64 u1, .int .i64 u2], .bool true] : Value) := hd 18 (by simp) (by kernel_rfl); subst ee)
      (have ee : v19 = (.tuple #[.agg #[.int .i64 u1, .int .i64 u2], .bool true] : Value) := hd 19 (by simp) (by kernel_rfl); subst ee)
      (have ee : v20 = (.agg #[.int .i64 u1, .int .i64 u2] : Value) := hd 20 (by simp) (by kernel_rfl); subst ee)
      (have ee : v21 = (.bool true : Value) := hd 21 (by simp) (by kernel_rfl); subst ee)
      have hp23 : (pNew wo.heap.size #[.int .i64 u1, .int .i64 u2] 23 : SP).1 v22 wx := hd 23 (by simp) (by kernel_rfl) (by decide)
      (have ee : v24 = (.bool true : Value) := hd 24 (by simp) (by kernel_rfl); subst ee)
      clear hd hg
      (try go_simp)
      obtain ⟨g, rfl, hg1, hg2, hg3⟩ := hp23
      obtain ⟨y0, y1⟩ : Two wx g (.int .i64 u1) (.int .i64 u2) := Two.of_row (t := 23) hg3
      have hown := own_later HI.out.1 hx
      have hbB := HI.out.2.trans (hx.mono hso)
      have hsb : w7.heap.size ≤ wx.heap.size := hbB.size
      have HBB := Lib.hid hbB
      have hxx : x = (52 * u1 + 26 * u2, 45 * u2) := HSP.out.symm
      have HXX := Lib.hid hxx
      clear hx HC HD HI hg3 hg1 hbB hxx HMU
      go_wp2_with (at_builtin; refine wpList_append_own _ rfl (.tmp 63) (.tmp 75) 92 rfl w7.heap.size 30 i1 (.agg #[.int .i64 0, .int .i64 0]) 2 16 Tryz.underlying92 hi1 hy0 hy1 hy2 rfl (by decide) _ _ _ rfl (hown.alloc _) ⟨wx.heap.size, 0, none⟩ 1 1 [.int .i64 (52 * u1 + 26 * u2), .int .i64 (45 * u2)] rfl rfl (cells_new _ _ _ _ rfl) (by simp [Value.oneCell']) (by unfold maxLen; omega) (by omega) (by simp; omega) ?_; intro v' w8 hown1 hgrow _)
      have HB8 : Hid (Below w7.heap.size w7 w8) := below_append (HBB.out.alloc hsb (.cells #[.int .i64 (52 * u1 + 26 * u2), .int .i64 (45 * u2)] 30)) (hown.alloc (.cells #[.int .i64 (52 * u1 + 26 * u2), .int .i64 (45 * u2)] 30)) (by simp; omega) hgrow
      obtain ⟨ao', c', rfl, _⟩ := own_form hown1
      have HO8 : Hid (w8.ownsRow w7.heap.size 30 2 (.slice ao' (k + 1) c') (k + 1) (prV (L.take (k + 1)))) := by rw [HTS.out, HXX.out]; exact hown1
      clear hown1 hgrow hown HBB y0 y1 hg2
      go_wp2
      go_roundw
      case rel => exact ⟨k + 1, ao', c', by omega, by go_num, rfl, HO8.out, HB8.out⟩
      case measure => simp [intOf]; omega
    · obtain rfl : k = 6 := by omega
      have q1 : decide (((6 : Nat) : Int) < 6) = false := by decide
      have hown := HI.out.1
      rw [HTE.out] at hown
      have HO := Lib.hid (own_base hown hs7)
      have HB := Lib.hid (B7.out.trans (HI.out.2.mono hs7))
      clear HI hown
      go_wp2
      go_ret
      exact ⟨oo, oc, rfl, HO.out, HB.out⟩
end Go.Proofs.YtdbfimdcaacjhaaGreat
/- The contract of cover.Box. -/
namespace Go.Proofs.YtdbfimdcaacjhaaGreat
open Go.RowKit Go.Lib Wd

def wsL (r : Nat) (D : List E2) : List Int := (D.filter fun z => okB r z).map fun z => ((wordN r z : Nat) : Int)
/-- What Box tells. -/
def BoxP (w : World) (lo hi : E2) (r : Int) (e : Ending) (w' : World) : Prop :=
  if chE lo hi r = 0 then
    (∃ D ao c n, AllOf (12 - r.toNat) (triE lo) (triE hi) D ∧ D.length ≤ 20000 ∧ e = .returned (.tuple #[.slice ao n c, .int .i64 0]) ∧ n = (wsL r.toNat D).length ∧ w'.ownsRow w.heap.size 35 1 (.slice ao n c) n (uV (srt (wsL r.toNat D)))) ∨
    (∃ D : List E2, D.Nodup ∧ D.length = 20001 ∧ (∀ z ∈ D, TouchP (hexC (12 - r.toNat) z) (triE lo) (triE hi)) ∧ e = .returned (.tuple #[.slice none 0 0, .int .i64 7]))
  else e = .returned (.tuple #[.slice none 0 0, .int .i64 (chE lo hi r)])
theorem own_eq {w w' : World} {base n size : Nat} {e : TypeId} {v : Value} {xs : List Value} (h : w.ownsRow base e size v n xs) (he : ∀ k, v.ownBlock = some k → w'.heap[k]? = w.heap[k]?) : w'.ownsRow base e size v n xs := by
  refine ⟨h.1, ?_⟩
  rcases h.2 with h1 | ⟨g, cap, cur, hv, hbg, hh, hx⟩
  · exact .inl h1
  · exact .inr ⟨g, cap, cur, hv, hbg, (he g (by rw [hv]; rfl)).trans hh, hx⟩
theorem own_blk {w : World} {base n size : Nat} {e : TypeId} {v : Value} {xs : List Value} (h : w.ownsRow base e size v n xs) {k : Nat} (hk : v.ownBlock = some k) : base ≤ k ∧ k < w.heap.size := by
  rcases h.2 with ⟨h1, _⟩ | ⟨g, cap, cur, hv, hbg, hh, hx⟩
  · rw [h1] at hk; cases hk
  · rw [hv] at hk; cases hk; exact ⟨hbg, (Array.getElem?_eq_some_iff.1 hh).1⟩
theorem turn_by {w w' : World} {row : Option Nat} (h : w.grownBy w' row) : Turn (fun k => some k = row) w w' := ⟨h.os, h.tape, h.output, h.size, fun k hk hs => h.block k hk hs⟩
theorem Fls.less {Q Q' : Nat → Prop} {w0 wr : World} {B fb mb r : Nat} {lo hi : E2} {D L : List E2} {f : E2 → Option Int} {K : Nat} (h : Fls Q w0 wr B fb mb r lo hi D L f K) (hq : ∀ k, Q' k → Q k) : Fls Q' w0 wr B fb mb r lo hi D L f K := by
  obtain ⟨mm, ⟨vo, c, h1, h2, h3⟩, hF⟩ := h
  exact ⟨mm, ⟨vo, c, h1, fun k hk => h2 k (hq k hk), h3⟩, hF⟩
/-- At the head of the loop over what is to do. -/
def OutI (w wr : World) (fb mb k : Nat) (u v z0 : E2) (n : Nat) (ao : Option Addr) (dc : Nat) : Prop :=
  ∃ D L f K, D.length = n ∧ Fls (InRow (.slice ao n dc)) w wr w.heap.size fb mb k u v D L f K ∧ wr.ownsRow w.heap.size 23 2 (.slice ao n dc) n (prV D) ∧ K ≤ 1 + 6 * n ∧ 0 < (f z0).getD 0 ∧ Shut D f
/-- At the head of the loop over a cell's neighbours. -/
def InI (Q : Nat → Prop) (w w1 wr : World) (fb mb k : Nat) (u v z0 : E2) (D : List E2) (z : E2) (n j : Nat) : Prop :=
  ∃ L f K, Fls Q w wr w.heap.size fb mb k u v (D ++ [z]) L f K ∧ K ≤ 1 + 6 * n + j ∧ 0 < (f z0).getD 0 ∧ Shut D f ∧ (∀ i, i < j → 0 < (f (addE z (unitE i))).getD 0) ∧ w1.heap.size ≤ wr.heap.size ∧ ∀ q, Q q → wr.heap[q]? = w1.heap[q]?
theorem own_pr {w : World} {B n c : Nat} {ao : Option Addr} {D : List E2} (ho : w.ownsRow B 23 2 (.slice ao n c) n (prV D)) (hn : D.length = n) {i : Nat} (hi : i < n) : ∃ g, ao = some ⟨g, 0, none⟩ ∧ g < w.heap.size ∧ w.cell? ⟨g, i * 2, none⟩ = some (.int .i64 (prG D i).1) ∧ w.cell? ⟨g, i * 2 + 1, none⟩ = some (.int .i64 (prG D i).2) := by
  rcases ho.2 with ⟨_, h1⟩ | ⟨g, cap, cur, hv, _, hh, _⟩
  · omega
  · cases hv
    have := prV_get D i (by omega)
    exact ⟨g, rfl, (Array.getElem?_eq_some_iff.1 hh).1, (ho.cellAt (i * 2) (by omega)).trans this.1, (ho.cellAt (i * 2 + 1) (by omega)).trans this.2⟩
theorem own_apart2 {w : World} {b1 b2 n1 n2 s1 s2 : Nat} {e1 e2 : TypeId} {v1 v2 : Value} {x1 x2 : List Value} (h1 : w.ownsRow b1 e1 s1 v1 n1 x1) (h2 : w.ownsRow b2 e2 s2 v2 n2 x2) (hne : e1 ≠ e2) : ∀ q, v1.ownBlock = some q → v2.ownBlock ≠ some q := fun q hq hq2 => by
  rcases h1.2 with ⟨a, _⟩ | ⟨g, cap, cur, hv, _, hh, _⟩
  · rw [a] at hq; cases hq
  · rcases h2.2 with ⟨a, _⟩ | ⟨g', cap', cur', hv', _, hh', _⟩
    · rw [a] at hq2; cases hq2
    · rw [hv] at hq; rw [hv'] at hq2; cases hq; cases hq2
      rw [hh] at hh'
      cases hh'
      exact hne rfl
theorem sort_own {w : World} {base n c : Nat} {ao : Option Addr} {l : List Int} (h : w.ownsRow base 35 1 (.slice ao n c) n (uV l)) (hl : l.length = n) (hn : n ≤ 1000000) :
    Calls Tryz.prog 47 #[.slice ao n c] w fun e w' => e = .returned (.tuple #[]) ∧ w'.ownsRow base 35 1 (.slice ao n c) n (uV (srt l)) ∧ (base ≤ w.heap.size → Below base w w') := by
  by_cases h0 : n = 0
  · subst h0
    obtain rfl : l = [] := List.eq_nil_of_length_eq_zero hl
    refine (u64_Sort_int_nil ao c w).mono ?_
    rintro e w' ⟨rfl, rfl⟩
    exact ⟨rfl, by rw [show srt [] = [] by simp [srt]]; exact h, fun _ => Below.refl _ _⟩
  · obtain ⟨g, rfl, hg0, hg, hnc, hH⟩ := holds_own (by omega) h
    subst hl
    refine (u64_slices_Sort_int g 0 c l w hH hg (by omega)).mono ?_
    rintro e w' ⟨rfl, q, os, rfl⟩
    have h1 := ownsRow_putRow (q := q) (k := l.length) (ys := srt l) h (by rw [srt_length]) (Nat.le_refl _)
    rw [show (srt l).take l.length = srt l from List.take_of_length_le (by rw [srt_length]; exact Nat.le_refl _)] at h1
    have hsz : (Sort.putRow encU (Sort.ahead w q) g 0 (srt l).toArray).heap.size = w.heap.size := by simp [Sort.putRow, Sort.mapBlock, Sort.ahead]
    refine ⟨rfl, own_later h1 (below_growU (Below.refl _ _) (Nat.le_refl _)), fun _ => ?_⟩
    exact below_growU (below_putRow (Below.refl _ _) hg0) (by show base ≤ (Sort.putRow encU (Sort.ahead w q) g 0 (srt l).toArray).heap.size; omega)
theorem wsL_snoc (k : Nat) (D : List E2) (z : E2) : wsL k (D ++ [z]) = wsL k D ++ if okB k z = true then [((wordN k z : Nat) : Int)] else [] := by
  unfold wsL
  rw [List.filter_append, List.map_append]
  by_cases h : okB k z = true
  · rw [if_pos h, List.filter_cons_of_pos (by simpa using h)]; rfl
  · rw [if_neg h, List.filter_cons_of_neg (by simpa using h)]; rfl
theorem wsL_le (k : Nat) (D : List E2) : (wsL k D).length ≤ D.length := by unfold wsL; rw [List.length_map]; exact List.length_filter_le _ _
theorem ofW_okF {r : Nat} {z : E2} (h : okB r z = true) : ofW r z = wordN r z ∧ ofE r z = 0 := by
  unfold ofW ofE
  rw [if_pos h, if_pos h]
  exact ⟨rfl, rfl⟩
theorem ch_ok {lo hi : E2} {r : Int} (h : chE lo hi r = 0) : (0 ≤ r ∧ r ≤ 12) ∧ worldB lo.1 lo.2 = true ∧ worldB hi.1 hi.2 = true ∧ lo.1 ≤ hi.1 ∧ lo.2 ≤ hi.2 := by
  unfold chE at h
  split at h
  · cases h
  · split at h
    · split at h
      · cases h
      · rename_i h1 h2 h3; exact ⟨by omega, h2.1, h2.2, by omega, by omega⟩
    · cases h
def lenOf : Value → Nat
  | .slice _ n _ => n
  | _ => 0
set_option maxRecDepth 100000 in
set_option maxHeartbeats 16000000 in
theorem box_any (lo hi : E2) (r : Int) (w : World) : Calls Tryz.prog 13 #[vE lo, vE hi, .int .i64 r] w fun e w' => BoxP w lo hi r e w' ∧ Below w.heap.size w w' := by
  have hmf : ∀ (fn : Fn) (first cap : Array Value) (w : World), (Instr.makeFunc fn first cap).run Tryz.prog w = .ok (.func fn first cap) w := fun _ _ _ _ => rfl
  have hmk : ∀ w : World, (Instr.makeMap 81 none).run Tryz.prog w = .ok (.map (some w.heap.size)) (w.alloc (.map #[] 0)) := fun _ => by kernel_rfl
  have HCH := Lib.hid (fun w => check_any lo hi r w)
  have HBAD : Hid (chE lo hi r ≠ 0 → ∀ w', BoxP w lo hi r (.returned (.tuple #[.slice none 0 0, .int .i64 (chE lo hi r)])) w') := fun h w' => by unfold BoxP; rw [if_neg h]
  have HYES : Hid (chE lo hi r = 0 → ∀ k : Nat, r = k → ∀ D ao c n w', AllOf (12 - k) (triE lo) (triE hi) D → D.length ≤ 20000 → n = (wsL k D).length → w'.ownsRow w.heap.size 35 1 (.slice ao n c) n (uV (srt (wsL k D))) → BoxP w lo hi r (.returned (.tuple #[.slice ao n c, .int .i64 0])) w') := fun h k hk D ao c n w' h1 h2 h3 h4 => by
    subst hk
    unfold BoxP; rw [if_pos h]
    exact .inl ⟨D, ao, c, n, h1, h2, rfl, h3, h4⟩
  have HMANY : Hid (chE lo hi r = 0 → ∀ k : Nat, r = k → ∀ (D : List E2) w', D.Nodup → D.length = 20001 → (∀ z ∈ D, TouchP (hexC (12 - k) z) (triE lo) (triE hi)) → BoxP w lo hi r (.returned (.tuple #[.slice none 0 0, .int .i64 7])) w') := fun h k hk D w' h1 h2 h3 => by
    subst hk
    unfold BoxP; rw [if_pos h]
    exact .inr ⟨D, h1, h2, h3, rfl⟩
  have HIN := Lib.hid (fun w => inth_any lo hi w)
  have HOK := Lib.hid (fun h : chE lo hi r = 0 => ch_ok h)
  obtain ⟨w1, hw1⟩ : ∃ W, (w.alloc (.cells #[.int .i64 lo.1, .int .i64 lo.2] 30)).alloc (.cells #[.int .i64 hi.1, .int .i64 hi.2] 30) = W := ⟨_, rfl⟩
  have hb1 : Below w.heap.size w w1 := by rw [← hw1]; exact ((Below.refl _ _).alloc (Nat.le_refl _) _).alloc (by simp) _
  have hx : w1.heap[w.heap.size]? = some (.cells #[.int .i64 lo.1, .int .i64 lo.2] 30 (0, 0)) := by
    rw [← hw1, Below.heap_alloc _ _ _ (by simp)]; exact heap_new _ _ _ rfl
  have hy : w1.heap[w.heap.size + 1]? = some (.cells #[.int .i64 hi.1, .int .i64 hi.2] 30 (0, 0)) := by rw [← hw1]; exact heap_new _ _ _ (by simp)
  have PL1 := Lib.hid hx
  have PH1 := Lib.hid hy
  have a0 : w1.cell? ⟨w.heap.size, 0, none⟩ = some (.int .i64 lo.1) := cell_of_row w1 _ 0 _ _ _ hx
  have a1 : w1.cell? ⟨w.heap.size, 1, none⟩ = some (.int .i64 lo.2) := cell_of_row w1 _ 1 _ _ _ hx
  have b0 : w1.cell? ⟨w.heap.size + 1, 0, none⟩ = some (.int .i64 hi.1) := cell_of_row w1 _ 0 _ _ _ hy
  have b1 : w1.cell? ⟨w.heap.size + 1, 1, none⟩ = some (.int .i64 hi.2) := cell_of_row w1 _ 1 _ _ _ hy
  have s0 := (Array.getElem?_eq_some_iff.1 hx).1
  have s1 := (Array.getElem?_eq_some_iff.1 hy).1
  have HW1 := Lib.hid hw1
  have HB1 := Lib.hid hb1
  clear hw1 hb1 hx hy
  generalize hX : chE lo hi r = X at *
  simp only [vE] at *
  by_cases hX0 : X = 0
  · subst hX0
    obtain ⟨⟨r0, r1⟩, hwl, hwh, ho1, ho2⟩ := HOK.out rfl
    obtain ⟨k, rfl⟩ : ∃ k : Nat, r = k := ⟨r.toNat, by omega⟩
    have hk : k ≤ 12 := by omega
    have HYES2 := Lib.hid (HYES.out rfl k rfl)
    have HMANY2 := Lib.hid (HMANY.out rfl k rfl)
    have hbx : bxOk lo hi = true := by
      rw [worldB_iff] at hwl hwh
      unfold bxOk axOk axG
      simp
      omega
    rw [hbx] at HIN
    have HCO := Lib.hid (fun w => cof_in lo.1 lo.2 hwl k hk w)
    have sl : Sm 3300000000 (triE lo) := by rw [worldB_iff] at hwl; unfold Sm triE; simp only; omega
    have sh : Sm 3300000000 (triE hi) := by rw [worldB_iff] at hwh; unfold Sm triE; simp only; omega
    have ox : (triE lo).1 ≤ (triE hi).1 := by unfold triE; simp only; omega
    have oy : (triE lo).2 ≤ (triE hi).2 := by unfold triE; simp only; omega
    have HZ0 : Hid (InZ (12 - k) (nearE lo.1 lo.2 k) ((triE lo).1 : Rat) ((triE lo).2 : Rat)) := inZ_near hk
    have hT0 : Sm 1073741824 (nearE lo.1 lo.2 k) ∧ RingSm (hexL (12 - k) (nearE lo.1 lo.2 k)) := by
      have hxr : ((triE lo).1 : Rat) ≤ (triE hi).1 := by exact_mod_cast ox
      have hyr : ((triE lo).2 : Rat) ≤ (triE hi).2 := by exact_mod_cast oy
      have ht := (touch_iff (show 12 - k ≤ 12 by omega) (nearE lo.1 lo.2 k) (triE lo) (triE hi) ox oy).2 ⟨_, _, Rat.le_refl, hxr, Rat.le_refl, hyr, HZ0.out⟩
      have hc := touch_sm (by omega) ht sl sh
      have h1 := cen_sm (by omega) hc
      exact ⟨by unfold Sm at *; omega, ring_sm (by omega) (by unfold Sm at *; omega)⟩
    have HALL : Hid (∀ (f : E2 → Option Int) (D : List E2) (K mm : Nat), Flow (ttB (12 - k) (triE lo) (triE hi)) f D [] K mm → 0 < (f (nearE lo.1 lo.2 k)).getD 0 → Shut D f → AllOf (12 - k) (triE lo) (triE hi) D) := fun f D K mm h1 h2 h3 =>
      all_of (by omega) ox oy HZ0.out h1 h2 h3
    have HNX : Hid (∀ z, ttB (12 - k) (triE lo) (triE hi) z = true → ∀ j, j < 6 → Sm 1073741824 (addE z (unitE j)) ∧ RingSm (hexL (12 - k) (addE z (unitE j)))) := fun z hz j hj =>
      next_sm (by omega) (touch_sm (by omega) ((tt_iff _ _ _ _).1 hz) sl sh) hj
    have HNS : Hid (∀ z, ttB (12 - k) (triE lo) (triE hi) z = true → Sm 1000000000 z) := fun z hz => cen_sm (show 12 - k ≤ 12 by omega) (touch_sm (by omega) ((tt_iff _ _ _ _).1 hz) sl sh)
    have gl : Sm 10000000000 (triE lo) := by unfold Sm at *; omega
    have gh : Sm 10000000000 (triE hi) := by unfold Sm at *; omega
    clear ox oy hwl hwh sl sh HYES HMANY HBAD HOK HZ0 hbx r0 r1
    generalize triE lo = tl at *
    generalize triE hi = th at *
    generalize nearE lo.1 lo.2 k = z0 at *
    simp only [vC] at HCO
    go_enter Tryz.func13, Tryz.ntmps13
    go_upto_region 1 with (fail)
    rw [HW1.out]
    go_wp2_with fail
    refine (HCH.out _).mono ?_
    rintro e w2 ⟨rfl, hb2⟩
    have B2 := Lib.hid (HB1.out.trans (hb2.mono HB1.out.size))
    have PL2 : Hid (w2.heap[w.heap.size]? = some (.cells #[.int .i64 lo.1, .int .i64 lo.2] 30 (0, 0))) := (hb2.block _ s0).trans PL1.out
    have PH2 : Hid (w2.heap[w.heap.size + 1]? = some (.cells #[.int .i64 hi.1, .int .i64 hi.2] 30 (0, 0))) := (hb2.block _ s1).trans PH1.out
    clear hb2 PL1 PH1 HB1 HW1 HCH a0 a1 b0 b1 s0 s1
    have a0 : w2.cell? ⟨w.heap.size, 0, none⟩ = some (.int .i64 lo.1) := cell_of_row w2 _ 0 _ _ _ PL2.out
    have a1 : w2.cell? ⟨w.heap.size, 1, none⟩ = some (.int .i64 lo.2) := cell_of_row w2 _ 1 _ _ _ PL2.out
    have b0 : w2.cell? ⟨w.heap.size + 1, 0, none⟩ = some (.int .i64 hi.1) := cell_of_row w2 _ 0 _ _ _ PH2.out
    have b1 : w2.cell? ⟨w.heap.size + 1, 1, none⟩ = some (.int .i64 hi.2) := cell_of_row w2 _ 1 _ _ _ PH2.out
    have s0 := (Array.getElem?_eq_some_iff.1 PL2.out).1
    have s1 := (Array.getElem?_eq_some_iff.1 PH2.out).1
    go_wp2_with fail
    refine (HIN.out _).mono ?_
    rintro e w3 ⟨⟨u, v, rfl, huv⟩, hb3⟩
    obtain ⟨rfl, rfl⟩ := huv rfl
    have B3 := Lib.hid (B2.out.trans (hb3.mono B2.out.size))
    have PL3 : Hid (w3.heap[w.heap.size]? = some (.cells #[.int .i64 lo.1, .int .i64 lo.2] 30 (0, 0))) := (hb3.block _ s0).trans PL2.out
    clear hb3 PL2 PH2 B2 a0 a1 b0 b1 s0 s1 HIN huv
    go_upto_region 5 with (fail)
    have Q3 : Hid (Quad (w3.alloc (.cells #[.int .i64 u.1, .int .i64 u.2, .int .i64 v.1, .int .i64 v.2] 76)) w3.heap.size u v) := heap_new _ _ _ rfl
    obtain ⟨q0, q1, q2, q3, -, -, -, -, q4⟩ := Q3.out.cells
    go_upto_region 6 with (fail)
    obtain ⟨w5, hw5⟩ : ∃ W, (((w3.alloc (.cells #[.int .i64 u.1, .int .i64 u.2, .int .i64 v.1, .int .i64 v.2] 76)).alloc (.map #[] 0)).alloc (.cells #[.int .i64 k, .func (.func 41) #[.agg #[.int .i64 u.1, .int .i64 u.2, .int .i64 v.1, .int .i64 v.2]] #[], .slice none 0 0, .map (some (w3.heap.size + 1))] 85)) = W := ⟨_, rfl⟩
    have K5 : Below w3.heap.size w3 w5 := by rw [← hw5]; exact (((Below.refl _ _).alloc (Nat.le_refl _) _).alloc (by simp) _).alloc (by simp; omega) _
    have B5 := Lib.hid (B3.out.trans (K5.mono B3.out.size))
    have hsw := B3.out.size
    have hx5 : w5.heap[w3.heap.size + 1 + 1]? = some (.cells #[.int .i64 k, .func (.func 41) #[.agg #[.int .i64 u.1, .int .i64 u.2, .int .i64 v.1, .int .i64 v.2]] #[], .slice none 0 0, .map (some (w3.heap.size + 1))] 85 (0, 0)) := by rw [← hw5]; exact heap_new _ _ _ (by simp)
    have F5 : Hid (FloodAt w5 w.heap.size (w3.heap.size + 1 + 1) (w3.heap.size + 1) k u v none 0 [] (fun _ => none) 0) := by
      refine ⟨⟨cell_of_row w5 _ 0 _ _ _ hx5, cell_of_row w5 _ 1 _ _ _ hx5, cell_of_row w5 _ 3 _ _ _ hx5⟩, ⟨cell_of_row w5 _ 2 _ _ _ hx5, frozen_of_row _ _ _ _ _ hx5, ⟨rfl, .inl ⟨rfl, rfl⟩⟩, fun _ _ _ e => (by cases e), by simp⟩, ?_, by omega, by omega⟩
      have hm := mapE_new (w3.alloc (.cells #[.int .i64 u.1, .int .i64 u.2, .int .i64 v.1, .int .i64 v.2] 76))
      rw [World.size_alloc] at hm
      refine hm.heap ?_
      rw [← hw5]
      exact Below.heap_alloc _ _ _ (by simp)
    have PL5 : Hid (w5.heap[w.heap.size]? = some (.cells #[.int .i64 lo.1, .int .i64 lo.2] 30 (0, 0))) := (K5.block _ (Array.getElem?_eq_some_iff.1 PL3.out).1).trans PL3.out
    have a0 : w5.cell? ⟨w.heap.size, 0, none⟩ = some (.int .i64 lo.1) := cell_of_row w5 _ 0 _ _ _ PL5.out
    have a1 : w5.cell? ⟨w.heap.size, 1, none⟩ = some (.int .i64 lo.2) := cell_of_row w5 _ 1 _ _ _ PL5.out
    have s0 := (Array.getElem?_eq_some_iff.1 PL5.out).1
    rw [hw5]
    clear hw5 K5 hsw hx5 B3 PL3 Q3 q0 q1 q2 q3 q4 hmf hmk
    generalize w3.heap.size + 1 + 1 = fb at *
    generalize w3.heap.size + 1 = mb at *
    go_wp2_with fail
    refine (HCO.out _).mono ?_
    rintro e w6 ⟨rfl, hb6⟩
    have F6 : Hid (FloodAt w6 w.heap.size fb mb k u v none 0 [] (fun _ => none) 0) := F5.out.below hb6
    have B6 := Lib.hid (B5.out.trans (hb6.mono B5.out.size))
    clear F5 B5 PL5 a0 a1 s0 hb6 HCO
    go_upto_region 7 with (fail)
    have K7 : Below w6.heap.size w6 (w6.alloc (.cells #[.int .i64 k, .int .i64 z0.1, .int .i64 z0.2] 27)) := (Below.refl _ _).alloc (Nat.le_refl _) _
    have F7 : Hid (Fls (fun _ => False) w (w6.alloc (.cells #[.int .i64 k, .int .i64 z0.1, .int .i64 z0.2] 27)) w.heap.size fb mb k u v [] [] (fun _ => none) 0) :=
      ⟨0, ⟨none, 0, F6.out.below K7, fun _ h => h.elim, B6.out.trans (K7.mono B6.out.size)⟩, flow_new _⟩
    have hx7 : (w6.alloc (.cells #[.int .i64 k, .int .i64 z0.1, .int .i64 z0.2] 27)).heap[w6.heap.size]? = some (.cells #[.int .i64 k, .int .i64 z0.1, .int .i64 z0.2] 27 (0, 0)) := heap_new _ _ _ rfl
    generalize w6.alloc (.cells #[.int .i64 k, .int .i64 z0.1, .int .i64 z0.2] 27) = w7 at *
    have a1 : w7.cell? ⟨w6.heap.size, 1, none⟩ = some (.int .i64 z0.1) := cell_of_row w7 _ 1 _ _ _ hx7
    have a2 : w7.cell? ⟨w6.heap.size, 2, none⟩ = some (.int .i64 z0.2) := cell_of_row w7 _ 2 _ _ _ hx7
    have s7 := (Array.getElem?_eq_some_iff.1 hx7).1
    have HLK := Lib.hid (look_st F7.out z0 hT0.1 hT0.2 hk gl gh (by decide))
    clear hx7 K7 F7 F6 B6
    simp only [vE] at HLK
    go_wp2_with fail
    refine HLK.out.mono ?_
    rintro e w8 ⟨rfl, hl8⟩
    have HL8 := Lib.hid hl8
    clear hl8 a1 a2 s7 HLK
    go_upto_region 9 with (fail)
    have HO8 : Hid (OutI w w8 fb mb k u v z0 0 none 0) := by
      obtain ⟨L', h1, -, -⟩ := HL8.out
      refine ⟨[], L', _, _, rfl, h1.less (fun q hq => by cases hq), ⟨rfl, .inl ⟨rfl, rfl⟩⟩, by omega, ?_, fun y hy => by cases hy⟩
      exact (seen_upd _ (fun y => by simp) z0 z0).2 (.inl rfl)
    clear HL8
    go_loopw [14] (fun dv wr => ∃ (n : Nat) (ao : Option Addr) (dc : Nat), n ≤ 20000 ∧ dv = .slice ao n dc ∧ Hid (OutI w wr fb mb k u v z0 n ao dc)) (fun dv _ => 20001 - lenOf dv)
    case atStart => exact ⟨0, none, 0, by omega, rfl, HO8.out⟩
    case round =>
      obtain ⟨n, ao, dc, hn, rfl, HI⟩ := hrel
      obtain ⟨D, L, f, K, hDn, hF, hO, hK, hs0, hsh⟩ := HI.out
      clear HI HO8
      obtain ⟨hfb, vo, c, c2⟩ := hF.row
      have HF := Lib.hid hF
      have HO := Lib.hid hO
      have HD := Lib.hid (And.intro hDn (And.intro hs0 hsh))
      clear hF hO hDn hs0 hsh
      obtain ⟨l, hl⟩ : ∃ l, L.length = l := ⟨_, rfl⟩
      rw [hl] at c2
      have HLN := Lib.hid (flen_any vo l c wr)
      by_cases hl0 : l = 0
      · subst hl0
        obtain rfl : L = [] := List.eq_nil_of_length_eq_zero hl
        have HA : Hid (AllOf (12 - k) u v D) := by
          obtain ⟨mm, h1, h2⟩ := HF.out
          exact HALL.out f D K mm h2 HD.out.2.1 HD.out.2.2
        clear hl
        go_wp2_with fail
        refine HLN.out.mono ?_
        rintro e w9 ⟨rfl, rfl⟩
        have HBW : Hid (Below w.heap.size w wr) := HF.out.below
        have HDn : Hid (D.length = n) := HD.out.1
        clear HF HD HALL HNX HNS HMANY2 c2 hfb HLN hK
        go_upto_region 22 with (fail)
        have HTN : Hid (D.take n = D) := List.take_of_length_le (by rw [HDn.out]; exact Nat.le_refl _)
        have HTK : Hid (∀ i, i < n → D.take (i + 1) = D.take i ++ [prG D i]) := fun i hi => take_pr D (by rw [HDn.out]; exact hi)
        go_loopw [20, 95] (fun ov iv wi => ∃ (i on : Nat) (oo : Option Addr) (oc : Nat), i ≤ n ∧ on ≤ i ∧ ov = .slice oo on oc ∧ iv = .int .i64 i ∧ Hid (wi.ownsRow w.heap.size 35 1 (.slice oo on oc) on (uV (wsL k (D.take i))) ∧ wi.ownsRow w.heap.size 23 2 (.slice ao n dc) n (prV D) ∧ Below w.heap.size w wi ∧ (wsL k (D.take i)).length = on)) (fun _ iv _ => n - (intOf iv).toNat)
        case atStart => exact ⟨0, 0, none, 0, by omega, by omega, rfl, rfl, ⟨rfl, .inl ⟨rfl, rfl⟩⟩, HO.out, HBW.out, rfl⟩
        case round =>
          obtain ⟨i, on, oo, oc, hil, hon, rfl, rfl, HW⟩ := hrel
          obtain ⟨hw1, hw2, hw3, hw4⟩ := HW.out
          by_cases hlt : i < n
          · obtain ⟨g, rfl, hg, c0, c1⟩ := own_pr hw2 HDn.out hlt
            have htk := HTK.out i hlt
            generalize prG D i = y at *
            have HTI := Lib.hid htk
            have hi0 : (0 : Int) ≤ (i : Int) := by omega
            have hiN : (i : Int) < (n : Int) := by omega
            clear htk HW
            go_upto_region 24 with (fail)
            have K1 : Below wr.heap.size wr (wr.alloc (.cells #[.int .i64 y.1, .int .i64 y.2] 23)) := (Below.refl _ _).alloc (Nat.le_refl _) _
            have hx1 : (wr.alloc (.cells #[.int .i64 y.1, .int .i64 y.2] 23)).heap[wr.heap.size]? = some (.cells #[.int .i64 y.1, .int .i64 y.2] 23 (0, 0)) := heap_new _ _ _ rfl
            have O1 := Lib.hid (own_later hw1 K1)
            have O2 := Lib.hid (own_later hw2 K1)
            have B1 := Lib.hid (hw3.trans (K1.mono hw3.size))
            generalize wr.alloc (.cells #[.int .i64 y.1, .int .i64 y.2] 23) = wa at *
            have t0 : wa.cell? ⟨wr.heap.size, 0, none⟩ = some (.int .i64 y.1) := cell_of_row wa _ 0 _ _ _ hx1
            have t1 : wa.cell? ⟨wr.heap.size, 1, none⟩ = some (.int .i64 y.2) := cell_of_row wa _ 1 _ _ _ hx1
            have hza : wr.heap.size < wa.heap.size := (Array.getElem?_eq_some_iff.1 hx1).1
            have HOF := Lib.hid (fun w => of_any k y w)
            simp only [vC] at HOF
            have HW4 := Lib.hid hw4
            clear K1 hx1 hw1 hw2 hw3 hw4 c0 c1 hg
            by_cases hok : okB k y = true
            · rw [(ofW_okF hok).1, (ofW_okF hok).2] at HOF
              have HWS : Hid (wsL k (D.take (i + 1)) = wsL k (D.take i) ++ [((wordN k y : Nat) : Int)]) := by show _ = _; rw [HTI.out, wsL_snoc, if_pos hok]
              clear hok
              go_wp2_with fail
              refine (HOF.out _).mono ?_
              rintro e wb ⟨rfl, hb⟩
              have hO1 := own_later O1.out hb
              have O2b := Lib.hid (own_later O2.out hb)
              have B2 := Lib.hid (B1.out.trans (hb.mono B1.out.size))
              have hBs := B2.out.size
              clear hb O1 O2 B1 t0 t1 hza HOF
              obtain ⟨i1, hi1, hy0, hy1, hy2⟩ := info_parts info_u
              generalize (wordN k y : Nat) = W at *
              go_upto_region 27 with (at_builtin; refine wpList_append_own_at _ rfl (.tmp 108) (.tmp 110) 31 rfl w.heap.size 35 i1 (.int .u64 0) 1 8 Tryz.underlying31 hi1 hy0 hy1 hy2 rfl (by decide) _ on (uV (wsL k (D.take i))) rfl (hO1.alloc _) ⟨wb.heap.size, 0, none⟩ 1 1 [.int .u64 W] rfl rfl (cells_new _ _ _ _ rfl) (by simp [Value.oneCell']) (by unfold maxLen; omega) (by omega) (by simp; omega) ?_; intro v3 w3' hown3 hg3 hnil3 hat3; clear hnil3 hat3; have HO3 := Lib.hid hown3; have HG3 := Lib.hid hg3; clear hown3 hg3)
              obtain ⟨oo', oc', rfl, _⟩ := own_form HO3.out
              have HE : Hid (w3'.ownsRow w.heap.size 35 1 (.slice oo' (on + 1) oc') (on + 1) (uV (wsL k (D.take (i + 1)))) ∧ w3'.ownsRow w.heap.size 23 2 (.slice (some ⟨g, 0, none⟩) n dc) n (prV D) ∧ Below w.heap.size w w3' ∧ (wsL k (D.take (i + 1))).length = on + 1) := by
                have kA : Below wb.heap.size wb (wb.alloc (.cells #[.int .u64 W] 35)) := (Below.refl _ _).alloc (Nat.le_refl _) _
                have o2 := own_later O2b.out kA
                refine ⟨by rw [HWS.out]; unfold uV; rw [List.map_append]; exact HO3.out, own_eq o2 fun q hq => HG3.out.block q (own_blk o2 hq).2 fun e => own_apart2 o2 (hO1.alloc _) (by decide) q hq e.symm, ?_, by rw [HWS.out, List.length_append, HW4.out]; rfl⟩
                exact below_append (B2.out.alloc hBs _) (hO1.alloc _) (by simp; omega) HG3.out
              clear HO3 HG3 O2b B2 hO1 HWS HW4 hBs hi1 hy0 hy1 hy2
              go_wp2
              go_roundw
              case rel => exact ⟨i + 1, on + 1, oo', oc', by omega, by omega, rfl, by first | rfl | go_num, HE.out⟩
              case measure => simp [intOf]; omega
            · have hof : ofE k y = 2 := by unfold ofE; rw [if_neg hok]
              rw [hof] at HOF
              have HWS : Hid (wsL k (D.take (i + 1)) = wsL k (D.take i)) := by show _ = _; rw [HTI.out, wsL_snoc, if_neg hok, List.append_nil]
              clear hok hof
              go_wp2_with fail
              refine (HOF.out _).mono ?_
              rintro e wb ⟨rfl, hb⟩
              have HE : Hid (wb.ownsRow w.heap.size 35 1 (.slice oo on oc) on (uV (wsL k (D.take (i + 1)))) ∧ wb.ownsRow w.heap.size 23 2 (.slice (some ⟨g, 0, none⟩) n dc) n (prV D) ∧ Below w.heap.size w wb ∧ (wsL k (D.take (i + 1))).length = on) := by
                rw [HWS.out]
                exact ⟨own_later O1.out hb, own_later O2.out hb, B1.out.trans (hb.mono B1.out.size), HW4.out⟩
              clear hb O1 O2 B1 t0 t1 hza HOF HWS HW4
              go_wp2
              go_roundw
              case rel => exact ⟨i + 1, on, oo, oc, by omega, by omega, rfl, by first | rfl | go_num, HE.out⟩
              case measure => simp [intOf]; omega
          · have hin : i = n := by omega
            rw [hin, HTN.out] at hw1 hw4
            have HS := Lib.hid (sort_own hw1 hw4 (by omega))
            have HB := Lib.hid hw3
            have HY : Hid (∀ w', w'.ownsRow w.heap.size 35 1 (.slice oo on oc) on (uV (srt (wsL k D))) → BoxP w lo hi k (.returned (.tuple #[.slice oo on oc, .int .i64 0])) w') := fun w' h => HYES2.out D oo oc on w' HA.out (by rw [HDn.out]; exact hn) hw4.symm h
            clear hw1 hw2 hw4 HW hin HTN HTK HYES2 hw3
            go_wp2_with fail
            refine HS.out.mono ?_
            rintro e w9 ⟨rfl, h1, h2⟩
            have HE := Lib.hid (And.intro (HY.out w9 h1) (HB.out.trans (h2 HB.out.size)))
            clear h1 h2
            go_wp2
            go_ret2
            exact HE.out
      · obtain ⟨l', rfl⟩ : ∃ l', l = l' + 1 := ⟨l - 1, by omega⟩
        have hta : ∀ (a b : Int) (w : World), (Instr.typeAssert (.iface 23 (.agg #[.int .i64 a, .int .i64 b])) 20 23 true).run Tryz.prog w = .ok (.tuple #[.agg #[.int .i64 a, .int .i64 b], .bool true]) w := fun _ _ _ => by kernel_rfl
        have HPO := Lib.hid (pop_st HF.out hl)
        unfold ifcE at HPO
        generalize prG L 0 = z at HPO
        clear hl HALL HYES2
        go_wp2_with fail
        refine HLN.out.mono ?_
        rintro e w9 ⟨rfl, rfl⟩
        clear HLN
        go_wp2_with fail
        refine HPO.out.mono ?_
        rintro e w10 ⟨rfl, hp⟩
        have HP := Lib.hid hp
        clear hp HPO c2 hfb
        go_upto_region 11 with (fail)
        have K11 : Below w10.heap.size w10 (w10.alloc (.cells #[.int .i64 z.1, .int .i64 z.2] 23)) := (Below.refl _ _).alloc (Nat.le_refl _) _
        have hx11 : (w10.alloc (.cells #[.int .i64 z.1, .int .i64 z.2] 23)).heap[w10.heap.size]? = some (.cells #[.int .i64 z.1, .int .i64 z.2] 23 (0, 0)) := heap_new _ _ _ rfl
        have HZ : Hid (ttB (12 - k) u v z = true) := by
          obtain ⟨L', h1, h2, -⟩ := HP.out
          exact h2
        have H11 : Hid (∃ L', Fls (fun q => InRow (.slice ao n dc) q ∨ q = w10.heap.size) w (w10.alloc (.cells #[.int .i64 z.1, .int .i64 z.2] 23)) w.heap.size fb mb k u v (D ++ [z]) L' f K) := by
          obtain ⟨L', h1, h2, h3, h4⟩ := HP.out
          refine ⟨L', h1.beside (Turn.of_below (S := fun _ => False) K11) (fun _ h => h.elim) (fun _ h => h.elim) fun q hq => ?_⟩
          rw [World.size_alloc]
          rcases hq with e | e
          · have := (own_blk HO.out e).2
            exact ⟨by omega, .inl e⟩
          · exact ⟨by omega, .inr (by omega)⟩
        have hO11 : (w10.alloc (.cells #[.int .i64 z.1, .int .i64 z.2] 23)).ownsRow w.heap.size 23 2 (.slice ao n dc) n (prV D) := by
          obtain ⟨L', h1, h2, h3, h4⟩ := HP.out
          exact own_later (own_eq HO.out fun q hq => h4 q hq) K11
        have hB11 : w.heap.size ≤ (w10.alloc (.cells #[.int .i64 z.1, .int .i64 z.2] 23)).heap.size := by
          obtain ⟨L', h1, -⟩ := HP.out
          have := h1.below.size
          rw [World.size_alloc]; omega
        have HNE : Hid (∀ q, InRow (.slice ao n dc) q → q ≠ w10.heap.size) := fun q e => by
          obtain ⟨L', h1, h2, h3, h4⟩ := HP.out
          have := (own_blk HO.out e).2
          omega
        generalize w10.alloc (.cells #[.int .i64 z.1, .int .i64 z.2] 23) = w11 at *
        generalize w10.heap.size = zb at *
        have z0' : w11.cell? ⟨zb, 0, none⟩ = some (.int .i64 z.1) := cell_of_row w11 _ 0 _ _ _ hx11
        have z1' : w11.cell? ⟨zb, 1, none⟩ = some (.int .i64 z.2) := cell_of_row w11 _ 1 _ _ _ hx11
        have hzb : zb < w11.heap.size := (Array.getElem?_eq_some_iff.1 hx11).1
        have HX11 := Lib.hid hx11
        clear hx11 K11 HP HO HF
        obtain ⟨i0, hi, hz0, hz1, hz2⟩ := info_parts info_eE
        go_upto_region 12 with (at_builtin; refine wpList_append_own_at _ rfl (.tmp 72) (.tmp 74) 82 rfl w.heap.size 23 i0 (.agg #[.int .i64 0, .int .i64 0]) 2 16 Tryz.underlying82 hi hz0 hz1 hz2 rfl (by decide) _ n (prV D) rfl (hO11.alloc _) ⟨w11.heap.size, 0, none⟩ 1 1 [.int .i64 z.1, .int .i64 z.2] rfl rfl (cells_new _ _ _ _ rfl) (by simp [Value.oneCell']) (by unfold maxLen; omega) (by omega) (by simp; omega) ?_; intro v12 w12 hown12 hg12 hnil12 hat12; clear hnil12; have HO12 := Lib.hid hown12; have HG12 := Lib.hid hg12; have HT12 := Lib.hid hat12; clear hown12 hg12 hat12)
        obtain ⟨ao', c', rfl, _⟩ := own_form HO12.out
        have hA : Below w11.heap.size w11 (w11.alloc (.cells #[.int .i64 z.1, .int .i64 z.2] 23)) := (Below.refl _ _).alloc (Nat.le_refl _) _
        have HOA : Hid (w12.ownsRow w.heap.size 23 2 (.slice ao' (n + 1) c') (n + 1) (prV (D ++ [z]))) := by show World.ownsRow _ _ _ _ _ _ _; rw [prV_snoc]; exact HO12.out
        have HFA : Hid (∃ L', Fls (fun q => InRow (.slice ao' (n + 1) c') q ∨ q = zb) w w12 w.heap.size fb mb k u v (D ++ [z]) L' f K) := by
          obtain ⟨L', h1⟩ := H11.out
          refine ⟨L', (h1.later hA).beside (turn_by HG12.out) (fun q e _ => .inl e.symm) (fun q e => (own_blk hO11 e.symm).1) fun q hq => ?_⟩
          rcases hq with e | e
          · refine ⟨(own_blk HO12.out e).2, ?_⟩
            rcases HT12.out with t | t
            · exact .inl (.inl (t.symm.trans e))
            · have : some q = some _ := e.symm.trans t
              cases this; exact .inr (Nat.le_refl _)
          · have := HG12.out.size
            have h2 := hA.size
            exact ⟨by omega, .inl (.inr e)⟩
        have HXA : Hid (w12.heap[zb]? = some (.cells #[.int .i64 z.1, .int .i64 z.2] 23 (0, 0))) := by
          refine (HG12.out.block zb (by have := hA.size; omega) fun e => ?_).trans ((hA.block zb hzb).trans HX11.out)
          exact HNE.out zb e.symm rfl
        clear HO12 HG12 HT12 hA H11 HX11 hO11 hB11 hzb z0' z1' HNE hi hz0 hz1 hz2
        by_cases hm : n = 20000
        · subst hm
          have HE : Hid (BoxP w lo hi k (.returned (.tuple #[.slice none 0 0, .int .i64 7])) w12 ∧ Below w.heap.size w w12) := by
            obtain ⟨L', h1⟩ := HFA.out
            refine ⟨?_, h1.below⟩
            obtain ⟨mm, -, h2, h3, -⟩ := h1
            exact HMANY2.out (D ++ [z]) w12 (List.nodup_append.1 h2).1 (by rw [List.length_append, HD.out.1]; rfl) fun y hy => (tt_iff _ _ _ _).1 ((h3 y).1 (List.mem_append_left _ hy)).1
          clear HMANY2 HFA HOA HXA HD HNX HNS HZ
          go_wp2
          go_ret2
          exact HE.out
        · have HB0 : Hid (InI (fun q => InRow (.slice ao' (n + 1) c') q ∨ q = zb) w w12 w12 fb mb k u v z0 D z n 0) := by
            obtain ⟨L', h1⟩ := HFA.out
            exact ⟨L', f, K, h1, by omega, HD.out.2.1, HD.out.2.2, fun i h => by omega, Nat.le_refl _, fun _ _ => rfl⟩
          have HDn : Hid (D.length = n) := HD.out.1
          have hn2 : n + 1 ≤ 20000 := by omega
          clear HMANY2 HFA HD hK hm
          go_upto_region 15 with (fail)
          go_loopw [79] (fun jv wi => ∃ j : Nat, j ≤ 6 ∧ jv = .int .i64 j ∧ Hid (InI (fun q => InRow (.slice ao' (n + 1) c') q ∨ q = zb) w w12 wi fb mb k u v z0 D z n j)) (fun jv _ => 6 - (intOf jv).toNat)
          case atStart => exact ⟨0, by omega, rfl, HB0.out⟩
          case round =>
            obtain ⟨j, hj, rfl, HJ⟩ := hrel
            obtain ⟨L2, f2, K2, hF2, hK2, hs2, hsh2, hnb2, hsz2, hkeep2⟩ := HJ.out
            clear HJ HB0
            have HF2 := Lib.hid hF2
            have HP2 := Lib.hid (And.intro hs2 (And.intro hsh2 hnb2))
            have HK2 := Lib.hid hkeep2
            have hx2 : wr.heap[zb]? = some (.cells #[.int .i64 z.1, .int .i64 z.2] 23 (0, 0)) := (hkeep2 zb (.inr rfl)).trans HXA.out
            clear hF2 hs2 hsh2 hnb2 hkeep2
            by_cases hlt : j < 6
            · obtain ⟨m1, m2⟩ := HNX.out z HZ.out j hlt
              have m3 := HNS.out z HZ.out
              have HUN := Lib.hid (fun w => unit_in j hlt w)
              have m4 : Sm 1 (unitE j) := by
                rcases (show j = 0 ∨ j = 1 ∨ j = 2 ∨ j = 3 ∨ j = 4 ∨ j = 5 by omega) with rfl | rfl | rfl | rfl | rfl | rfl <;> simp [Sm, unitE]
              have HAD := Lib.hid (fun w => add_in z (unitE j) (by unfold Sm at *; omega) (by unfold Sm at *; omega) w)
              obtain ⟨nn, hnn⟩ : ∃ nn, addE z (unitE j) = nn := ⟨_, rfl⟩
              rw [hnn] at m1 m2 HAD
              have HNN := Lib.hid hnn
              have hzw : zb < wr.heap.size := (Array.getElem?_eq_some_iff.1 hx2).1
              have HTW : Hid (∀ wx, Below wr.heap.size wr wx → Two wx zb (.int .i64 z.1) (.int .i64 z.2)) := fun wx hx => Two.of_row (t := 23) ((hx.block zb hzw).trans hx2)
              clear hnn hx2
              generalize unitE j = uu at HUN HAD
              simp only [vE] at HUN HAD
              go_upto_region 17 with (fail)
              have q80 : decide ((j : Int) < 6) = true := by simp; omega
              rw [q80]
              clear q80
              refine wp_region_ind ([.val (.agg #[.int .i64 z.1, .int .i64 z.2]), .val (.int .i64 j), .val (.agg #[.int .i64 uu.1, .int .i64 uu.2]), .val (.tuple #[.agg #[.int .i64 nn.1, .int .i64 nn.2], .bool true]), .val (.tuple #[.agg #[.int .i64 nn.1, .int .i64 nn.2], .bool true]), .val (.agg #[.int .i64 nn.1, .int .i64 nn.2]), .val (.bool true), .prop (pNew wr.heap.size #[.int .i64 0, .int .i64 0] 23), .of 7 (pNew wr.heap.size #[.int .i64 nn.1, .int .i64 nn.2] 23), .val (.bool true)] : List Want3) [8] (by kernel_rfl) (by kernel_rfl) (by kernel_rfl) (by kernel_rfl) ?_
              refine ind_cons (fun wx hg hd => ?_) (fun v0 => ?_)
              · have hx := ((Below.refl wr.heap.size wr).drew).trans hg
                clear hd hg
                obtain ⟨k1, k2⟩ := HTW.out _ hx
                have k3 := hx.size
                go_wp2
                exact ⟨_, rfl, Below.refl _ _, rfl⟩
              (try simp only [List.nil_append, Act.put, List.setIfInBounds_toArray, List.set_cons_zero, List.set_cons_succ])
              refine ind_cons (fun wx hg hd => ?_) (fun v1 => ?_)
              · have hx := ((Below.refl wr.heap.size wr).drew).trans hg
                clear hd hg
                go_wp2
                exact ⟨_, rfl, Below.refl _ _, rfl⟩
              (try simp only [List.cons_append, List.nil_append, Act.put, List.setIfInBounds_toArray, List.set_cons_zero, List.set_cons_succ])
              refine ind_cons (fun wx hg hd => ?_) (fun v2 => ?_)
              · have hx := ((Below.refl wr.heap.size wr).drew).trans hg
                (try (have ee : v1 = (.int .i64 j : Value) := hd 1 (by simp) (by decide); subst ee))
                clear hd hg
                go_wp2_with fail
                refine (HUN.out _).mono ?_
                rintro e w' ⟨rfl, hb⟩
                go_wp2
                exact ⟨_, rfl, hb, rfl⟩
              (try simp only [List.cons_append, List.nil_append, Act.put, List.setIfInBounds_toArray, List.set_cons_zero, List.set_cons_succ])
              refine ind_cons (fun wx hg hd => ?_) (fun v3 => ?_)
              · have hx := ((Below.refl wr.heap.size wr).drew).trans hg
                (try (have ee : v0 = (.agg #[.int .i64 z.1, .int .i64 z.2] : Value) := hd 0 (by simp) (by decide); subst ee))
                (try (have ee : v2 = (.agg #[.int .i64 uu.1, .int .i64 uu.2] : Value) := hd 2 (by simp) (by decide); subst ee))
                clear hd hg
                go_wp2_with fail
                refine (HAD.out _).mono ?_
                rintro e w' ⟨rfl, hb⟩
                go_wp2
                exact ⟨_, rfl, hb, rfl⟩
              (try simp only [List.cons_append, List.nil_append, Act.put, List.setIfInBounds_toArray, List.set_cons_zero, List.set_cons_succ])
              refine ind_cons (fun wx hg hd => ?_) (fun v4 => ?_)
              · have hx := ((Below.refl wr.heap.size wr).drew).trans hg
                (try (have ee : v3 = (.tuple #[.agg #[.int .i64 nn.1, .int .i64 nn.2], .bool true] : Value) := hd 3 (by simp) (by decide); subst ee))
                clear hd hg
                go_wp2
                exact ⟨_, rfl, Below.refl _ _, rfl⟩
              (try simp only [List.cons_append, List.nil_append, Act.put, List.setIfInBounds_toArray, List.set_cons_zero, List.set_cons_succ])
              refine ind_cons (fun wx hg hd => ?_) (fun v5 => ?_)
              · have hx := ((Below.refl wr.heap.size wr).drew).trans hg
                (try (have ee : v4 = (.tuple #[.agg #[.int .i64 nn.1, .int .i64 nn.2], .bool true] : Value) := hd 4 (by simp) (by decide); subst ee))
                clear hd hg
                go_wp2
                exact ⟨_, rfl, Below.refl _ _, rfl⟩
              (try simp only [List.cons_append, List.nil_append, Act.put, List.setIfInBounds_toArray, List.set_cons_zero, List.set_cons_succ])
              refine ind_cons (fun wx hg hd => ?_) (fun v6 => ?_)
              · have hx := ((Below.refl wr.heap.size wr).drew).trans hg
                (try (have ee : v4 = (.tuple #[.agg #[.int .i64 nn.1, .int .i64 nn.2], .bool true] : Value) := hd 4 (by simp) (by decide); subst ee))
                clear hd hg
                go_wp2
                exact ⟨_, rfl, Below.refl _ _, rfl⟩
              (try simp only [List.cons_append, List.nil_append, Act.put, List.setIfInBounds_toArray, List.set_cons_zero, List.set_cons_succ])
              refine ind_cons (fun wx hg hd => ?_) (fun v7 => ?_)
              · have hx := ((Below.refl wr.heap.size wr).drew).trans hg
                clear hd hg
                go_wp2
                exact ⟨_, rfl, (Below.refl _ _).alloc (Nat.le_refl _) _, _, rfl, hx.size, by simp, heap_new _ _ _ rfl⟩
              (try simp only [List.cons_append, List.nil_append, Act.put, List.setIfInBounds_toArray, List.set_cons_zero, List.set_cons_succ])
              refine ind_cons (fun wx hg hd => ?_) (fun v8 => ?_)
              · have hx := ((Below.refl wr.heap.size wr).drew).trans hg
                (try (have ee : v5 = (.agg #[.int .i64 nn.1, .int .i64 nn.2] : Value) := hd 5 (by simp) (by decide); subst ee))
                have hp7 : (pNew wr.heap.size #[.int .i64 0, .int .i64 0] 23 : SP).1 v7 wx := hd 7 (by simp) (by decide)
                clear hd
                obtain ⟨g, rfl, hg1, hg2, hg3⟩ := hp7
                have hP : Two2 wx g (.int .i64 0) (.int .i64 0) := Two2.of_row (t := 23) hg3
                obtain ⟨⟨y0, y1⟩, y2, y3⟩ := hP
                go_wp2
                exact ⟨undef, rfl, ((Below.refl _ wx).setCell (p := ⟨g, 0, none⟩) hg1 (.int .i64 nn.1)).setCell (p := ⟨g, 1, none⟩) hg1 (.int .i64 nn.2), fun _ => ⟨g, rfl, hg1, (by simpa using hg2), put_two hg3 (.int .i64 nn.1) (.int .i64 nn.2)⟩⟩
              (try simp only [List.cons_append, List.nil_append, Act.put])
              refine ind_cons (fun wx hg hd => ?_) (fun v9 => ?_)
              · have hx := ((Below.refl wr.heap.size wr).drew).trans hg
                (try (have ee : v6 = (.bool true : Value) := hd 6 (by simp) (by decide); subst ee))
                clear hd hg
                go_wp2
                exact ⟨_, rfl, Below.refl _ _, rfl⟩
              (try simp only [List.cons_append, List.nil_append, Act.put, List.setIfInBounds_toArray, List.set_cons_zero, List.set_cons_succ])
              refine ind_done (fun wx hg hd => ?_)
              have hx := ((Below.refl wr.heap.size wr).drew).trans hg
              (have ee : v0 = (.agg #[.int .i64 z.1, .int .i64 z.2] : Value) := hd 0 (by simp) (by kernel_rfl); subst ee)
              (have ee : v1 = (.int .i64 j : Value) := hd 1 (by simp) (by kernel_rfl); subst ee)
              (have ee : v2 = (.agg #[.int .i64 uu.1, .int .i64 uu.2] : Value) := hd 2 (by simp) (by kernel_rfl); subst ee)
              (have ee : v3 = (.tuple #[.agg #[.int .i64 nn.1, .int .i64 nn.2], .bool true] : Value) := hd 3 (by simp) (by kernel_rfl); subst ee)
              (have ee : v4 = (.tuple #[.agg #[.int .i64 nn.1, .int .i64 nn.2], .bool true] : Value) := hd 4 (by simp) (by kernel_rfl); subst ee)
              (have ee : v5 = (.agg #[.int .i64 nn.1, .int .i64 nn.2] : Value) := hd 5 (by simp) (by kernel_rfl); subst ee)
              (have ee : v6 = (.bool true : Value) := hd 6 (by simp) (by kernel_rfl); subst ee)
              have hp8 : (pNew wr.heap.size #[.int .i64 nn.1, .int .i64 nn.2] 23 : SP).1 v7 wx := hd 8 (by simp) (by kernel_rfl) (by decide)
              (have ee : v9 = (.bool true : Value) := hd 9 (by simp) (by kernel_rfl); subst ee)
              clear hd hg
              (try go_simp)
              obtain ⟨g, rfl, hg1, hg2, hg3⟩ := hp8
              obtain ⟨y0, y1⟩ : Two wx g (.int .i64 nn.1) (.int .i64 nn.2) := Two.of_row (t := 23) hg3
              have HLK := Lib.hid (look_st (HF2.out.later hx) nn m1 m2 hk gl gh (by omega))
              have HXX := Lib.hid hx
              clear hx HTW HUN HAD hg3
              simp only [vE] at HLK
              go_wp2_with fail
              refine HLK.out.mono ?_
              rintro e w9 ⟨rfl, hl9⟩
              have HE : Hid (InI (fun q => InRow (.slice ao' (n + 1) c') q ∨ q = zb) w w12 w9 fb mb k u v z0 D z n (j + 1)) := by
                obtain ⟨L', h1, h2, h3⟩ := hl9
                have hnn := HF2.out.nonneg
                obtain ⟨p1, p2, p3⟩ := HP2.out
                refine ⟨L', _, _, h1, by omega, (seen_upd _ hnn nn z0).2 (.inr p1), shut_upd hnn nn p2, fun i hi => (seen_upd _ hnn nn _).2 ?_, by have := HXX.out.size; omega, fun q hq => ?_⟩
                · by_cases e : i = j
                  · subst e; exact .inl HNN.out
                  · exact .inr (p3 i (by omega))
                · obtain ⟨mm, ⟨vo, c, _, g2, _⟩, _⟩ := HF2.out
                  exact (h3 q hq).trans ((HXX.out.block q (g2 q hq).1).trans (HK2.out q hq))
              clear hl9 HLK HF2 HP2 HK2 HXX HNN m1 m2 m3 m4 y0 y1
              go_wp2
              go_roundw
              case rel => exact ⟨j + 1, by omega, by first | rfl | go_num, HE.out⟩
              case measure => simp [intOf]; omega
            · have HE : Hid (OutI w wr fb mb k u v z0 (n + 1) ao' c') := by
                obtain ⟨p1, p2, p3⟩ := HP2.out
                refine ⟨D ++ [z], L2, f2, K2, by rw [List.length_append, HDn.out]; rfl, HF2.out.less fun q hq => .inl hq, own_eq HOA.out fun q hq => HK2.out q (.inl hq), by omega, p1, fun y hy i hi => ?_⟩
                rcases List.mem_append.1 hy with hy | hy
                · exact p2 y hy i hi
                · rw [List.mem_singleton.1 hy]; exact p3 i (by omega)
              clear HF2 HP2 HK2 hx2 HOA HXA
              go_wp2
              go_roundw
              case rel => exact ⟨n + 1, ao', c', hn2, rfl, HE.out⟩
              case measure => simp [lenOf]; omega
  · have hX1 : (X != 0) = true := by simpa using hX0
    go_enter Tryz.func13, Tryz.ntmps13
    go_upto_region 1 with (fail)
    rw [HW1.out]
    go_wp2_with fail
    refine (HCH.out _).mono ?_
    rintro e w2 ⟨rfl, hb2⟩
    have B2 := Lib.hid (HB1.out.trans (hb2.mono HB1.out.size))
    clear hb2
    go_wp2
    go_ret2
    exact ⟨HBAD.out hX0 _, B2.out⟩
end Go.Proofs.YtdbfimdcaacjhaaGreat
/- The one cell that touches its own middle's box; apiarylaw10.awake. -/
namespace Go.Proofs.YtdbfimdcaacjhaaGreat
open Go.RowKit Go.Lib Wd

theorem near_one : nearE 52 0 12 = (1, 0) := by decide
theorem one_yes : ttB 0 (156, 0) (156, 0) (1, 0) = true := by decide
theorem one_no : ∀ k, k < 6 → ttB 0 (156, 0) (156, 0) (addE (1, 0) (unitE k)) = false := by
  intro k hk
  rcases (show k = 0 ∨ k = 1 ∨ k = 2 ∨ k = 3 ∨ k = 4 ∨ k = 5 by omega) with rfl | rfl | rfl | rfl | rfl | rfl <;> decide
theorem one_all (z : E2) : TouchP (hexC 0 z) (156, 0) (156, 0) ↔ z = (1, 0) := by
  constructor
  · have h0 : InZ 0 (1, 0) (((156, 0) : E2).1 : Rat) (((156, 0) : E2).2 : Rat) := by
      have h := inZ_near (x := 52) (y := 0) (r := 12) (by decide)
      rw [near_one] at h
      exact h
    refine flood_all (m := 0) (by decide) (by decide) (by decide) h0 (fun y => y = (1, 0)) rfl ?_ z
    intro y hy _ k hk ht
    subst hy
    have h1 := (tt_iff _ _ _ _).2 ht
    rw [one_no k hk] at h1
    cases h1
  · rintro rfl
    exact (tt_iff _ _ _ _).1 one_yes
theorem one_list {D : List E2} (h : AllOf 0 (156, 0) (156, 0) D) : D = [(1, 0)] := by
  obtain ⟨h1, h2⟩ := h
  have h3 : ∀ z ∈ D, z = (1, 0) := fun z hz => (one_all z).1 ((h2 z).1 hz)
  have h4 : (1, 0) ∈ D := (h2 _).2 ((one_all _).2 rfl)
  cases D with
  | nil => cases h4
  | cons a t =>
    have ha := h3 a List.mem_cons_self
    subst ha
    cases t with
    | nil => rfl
    | cons b t =>
      have hb := h3 b (List.mem_cons_of_mem _ List.mem_cons_self)
      subst hb
      exact absurd List.mem_cons_self (List.nodup_cons.1 h1).1
theorem one_few {D : List E2} (h1 : D.Nodup) (h2 : ∀ z ∈ D, TouchP (hexC 0 z) (156, 0) (156, 0)) : D.length ≤ 1 := by
  cases D with
  | nil => simp
  | cons a t =>
    cases t with
    | nil => simp
    | cons b t =>
      have ha := (one_all a).1 (h2 a List.mem_cons_self)
      have hb := (one_all b).1 (h2 b (List.mem_cons_of_mem _ List.mem_cons_self))
      subst ha; subst hb
      exact absurd List.mem_cons_self (List.nodup_cons.1 h1).1
theorem ok_12 : okB (12 : Nat) (1, 0) = true := by decide
theorem box_one (w : World) : Calls Tryz.prog 13 #[vE (52, 0), vE (52, 0), .int .i64 12] w fun e w' => (∃ ao c, e = .returned (.tuple #[.slice ao 1 c, .int .i64 0]) ∧ w'.ownsRow w.heap.size 35 1 (.slice ao 1 c) 1 (uV [((wordN 12 (1, 0) : Nat) : Int)])) ∧ Below w.heap.size w w' := by
  refine (box_any (52, 0) (52, 0) 12 w).mono ?_
  rintro e w' ⟨hP, hb⟩
  refine ⟨?_, hb⟩
  unfold BoxP at hP
  rw [if_pos (show chE (52, 0) (52, 0) 12 = 0 by decide)] at hP
  have e1 : triE (52, 0) = (156, 0) := by decide
  have e2 : (12 - ((12 : Int)).toNat : Nat) = 0 := rfl
  rw [e1, e2, show ((12 : Int)).toNat = 12 from rfl] at hP
  rcases hP with ⟨D, ao, c, n, h1, -, h3, h4, h5⟩ | ⟨D, h1, h2, h3, -⟩
  · have := one_list h1
    subst this
    have hw : wsL 12 [(1, 0)] = [((wordN 12 (1, 0) : Nat) : Int)] := by
      have := wsL_snoc 12 [] (1, 0)
      rw [if_pos ok_12] at this
      exact this
    rw [hw] at h4 h5
    have hn : n = 1 := h4
    subst hn
    rw [show srt [((wordN 12 (1, 0) : Nat) : Int)] = [((wordN 12 (1, 0) : Nat) : Int)] by simp [srt]] at h5
    exact ⟨ao, c, h3, h5⟩
  · have := one_few h1 h3
    omega
theorem box_bad (w : World) : Calls Tryz.prog 13 #[vE (5, 5), vE (4, 5), .int .i64 3] w fun e w' => e = .returned (.tuple #[.slice none 0 0, .int .i64 1]) ∧ Below w.heap.size w w' := by
  refine (box_any (5, 5) (4, 5) 3 w).mono ?_
  rintro e w' ⟨hP, hb⟩
  unfold BoxP at hP
  have hc : chE (5, 5) (4, 5) 3 = 1 := by decide
  rw [hc, if_neg (by decide)] at hP
  exact ⟨hP, hb⟩
theorem touch_00 : ctB 12 (0, 0) (0, 0) (0, 0) = true := by decide
set_option maxRecDepth 100000 in
set_option maxHeartbeats 4000000 in
theorem awake10_any (w : World) : Calls Tryz.prog 17 #[] w fun e w' => e = .returned (.bool true) ∧ Below w.heap.size w w' := by
  have HB := Lib.hid box_one
  have HBB := Lib.hid box_bad
  have HW : Hid (∀ w, Calls Tryz.prog 14 #[.agg #[.int .i64 12, .int .i64 1, .int .i64 0]] w fun e w' => e = .returned (.tuple #[.int .u64 (wordN 12 (1, 0) : Nat), .int .i64 0]) ∧ Below w.heap.size w w') := fun w => by
    have h := word_any ((12 : Nat) : Int) (1, 0) w
    rw [(ofW_okF ok_12).1, (ofW_okF ok_12).2] at h
    exact h
  have HT : Hid (∀ w, Calls Tryz.prog 16 #[.agg #[.int .i64 12, .int .i64 0, .int .i64 0], .agg #[.int .i64 0, .int .i64 0], .agg #[.int .i64 0, .int .i64 0]] w fun e w' => e = .returned (.bool true) ∧ Below w.heap.size w w') := fun w => by
    have h := ctouch_any 12 (0, 0) (0, 0) (0, 0) w
    rw [touch_00] at h
    exact h
  have HS : Hid (∀ ao bo c d w, WordsAt w w.heap.size ao [((wordN 12 (1, 0) : Nat) : Int)] → WordsAt w w.heap.size bo [((wordN 12 (1, 0) : Nat) : Int)] → Calls Tryz.prog 27 #[.slice ao 1 c, .slice bo 1 d] w fun e w' => e = .returned (.bool true) ∧ Below w.heap.size w w') := fun ao bo c d w h1 h2 => by
    have h := same_any ao bo c d _ _ w _ _ h1 h2 (by simp)
    rw [decide_eq_true rfl] at h
    exact h
  generalize (wordN 12 (1, 0) : Nat) = W at *
  simp only [vE] at *
  go_enter Tryz.func17, Tryz.ntmps17
  go_wp2_with fail
  refine (HB.out _).mono ?_
  rintro e w1 ⟨⟨ao, c, rfl, ho⟩, hb1⟩
  have HO1 := Lib.hid ho
  have B1 := Lib.hid hb1
  clear ho hb1 HB
  go_wp2_with fail
  refine (HW.out _).mono ?_
  rintro e w2 ⟨rfl, hb2⟩
  have HO2 := Lib.hid (own_later HO1.out hb2)
  have B2 := Lib.hid (B1.out.trans (hb2.mono B1.out.size))
  clear hb2 HO1 B1 HW
  go_wp2_with fail
  refine (HBB.out _).mono ?_
  rintro e w3 ⟨rfl, hb3⟩
  have HO3 := Lib.hid (own_later HO2.out hb3)
  have B3 := Lib.hid (B2.out.trans (hb3.mono B2.out.size))
  clear hb3 HO2 B2 HBB
  have K4 : Below w3.heap.size w3 (w3.alloc (.cells #[.int .u64 W] 35)) := (Below.refl _ _).alloc (Nat.le_refl _) _
  have HSS := Lib.hid (HS.out ao (some ⟨w3.heap.size, 0, none⟩) c 1 (w3.alloc (.cells #[.int .u64 W] 35)) (words_own rfl (own_later HO3.out K4)) (fun _ => ⟨w3.heap.size, 0, rfl, by simp, fun k hk => by
    have : k = 0 := by simpa using hk
    subst this
    exact cell_of_row _ _ 0 _ _ _ (heap_new _ _ _ rfl)⟩))
  have B4 := Lib.hid (B3.out.trans (K4.mono B3.out.size))
  clear K4 HS HO3
  go_wp2_with fail
  refine HSS.out.mono ?_
  rintro e w5 ⟨rfl, hb5⟩
  have B5 := Lib.hid (B4.out.trans (hb5.mono B4.out.size))
  clear hb5 B4 HSS
  go_wp2_with fail
  refine (HT.out _).mono ?_
  rintro e w6 ⟨rfl, hb6⟩
  have B6 := Lib.hid (B5.out.trans (hb6.mono B5.out.size))
  clear hb6 B5 HT
  go_wp2
  go_ret
  exact ⟨rfl, B6.out⟩
end Go.Proofs.YtdbfimdcaacjhaaGreat
/- Contracts of apiarylaw3.Point, apiarylaw4.Some and apiarylaw5.Word at even y: the word of a point's cell. -/
namespace Go.Proofs.YtdbfimdcaacjhaaGreat
open Go.RowKit Go.Lib Wd

theorem point_in (x y : Int) (w : World) : Calls Tryz.prog 53 #[.int .i64 x, .int .i64 y] w fun e w' => e = .returned (.tuple #[.int .i64 (x % 1073741824), .int .i64 (y % 1073741824)]) ∧ Below w.heap.size w w' := by
  have e1 : bits BinOp.and IntKind.i64 x 1073741823 = x % 1073741824 := i64_and_mask x 30 (by omega) 1073741823 rfl
  have e2 : bits BinOp.and IntKind.i64 y 1073741823 = y % 1073741824 := i64_and_mask y 30 (by omega) 1073741823 rfl
  generalize x % 1073741824 = a at *
  generalize y % 1073741824 = b at *
  go_enter Tryz.func53, Tryz.ntmps53
  go_wp2
  exact bodyPost_ret (v := .tuple #[.int .i64 a, .int .i64 b]) (by simp [results, Tryz.results53, go_sem]) rfl ⟨rfl, by first | exact Below.refl _ _ | exact below_drewN (Below.refl _ _) _⟩
theorem rem13 (r : Int) : (-13 < r.tmod 13 ∧ r.tmod 13 < 13) ∧ (r.tmod 13 + 13).tmod 13 = r % 13 := by
  have h : (-13 < r.tmod 13 ∧ r.tmod 13 < 13) ∧ (r.tmod 13 + 13) % 13 = r % 13 := by
    rcases Int.lt_or_le r 0 with h | h
    · have e : r.tmod 13 = -((-r) % 13) := by rw [← Int.tmod_eq_emod_of_nonneg (show 0 ≤ -r by omega), Int.neg_tmod, Int.neg_neg]
      omega
    · rw [Int.tmod_eq_emod_of_nonneg h]; omega
  refine ⟨h.1, ?_⟩
  rw [Int.tmod_eq_emod_of_nonneg (by omega)]
  exact h.2
set_option maxRecDepth 100000 in
set_option maxHeartbeats 4000000 in
theorem some_even (x y r : Int) (hy : y % 2 = 0) (w : World) :
    Calls Tryz.prog 19 #[.int .i64 x, .int .i64 y, .int .i64 r] w fun e w' => e = .returned (vC (r % 13) (nearE (x % 1073741824) (y % 1073741824) (r % 13).toNat)) ∧ Below w.heap.size w w' := by
  have e1 : bits BinOp.and IntKind.i64 y 1 = 0 := by rw [i64_and_mask y 1 (by omega) 1 rfl]; exact hy
  obtain ⟨hr2, hr1⟩ := rem13 r
  have hR : r % 13 = ((r % 13).toNat : Int) := by omega
  have hR2 : (r % 13).toNat ≤ 12 := by omega
  have HP := Lib.hid (point_in x y)
  have HNE := Lib.hid (rnear_in (x % 1073741824) (y % 1073741824) (by omega) (by omega) (r % 13).toNat hR2)
  generalize nearE (x % 1073741824) (y % 1073741824) (r % 13).toNat = z at *
  generalize x % 1073741824 = a at *
  generalize y % 1073741824 = b at *
  generalize (r % 13).toNat = R at *
  rw [hR] at hr1 ⊢
  simp only [vE] at HNE
  obtain ⟨s, hs⟩ : ∃ s, r.tmod 13 = s := ⟨_, rfl⟩
  rw [hs] at hr1 hr2
  obtain ⟨hr3, hr4⟩ := hr2
  clear hR hy
  go_enter Tryz.func19, Tryz.ntmps19
  go_wp2_with fail
  refine (HP.out _).mono ?_
  rintro e w1 ⟨rfl, hb1⟩
  have hz := hb1.size
  simp at hz
  have H1 : Hid (Tri w1 w.heap.size 0 (0, 0)) := Tri.later (heap_new _ _ _ rfl) hb1
  have HQ : Hid (Below w.heap.size w w1) := ((Below.refl _ _).alloc (Nat.le_refl _) _).trans (hb1.mono (by simp))
  clear hb1
  go_wp2_with fail
  refine (HNE.out _).mono ?_
  rintro e w2 ⟨rfl, hb2⟩
  have hz2 := hb2.size
  have HT : Hid (Two (w2.alloc (.cells #[.int .i64 z.1, .int .i64 z.2] 23)) w2.heap.size (.int .i64 z.1) (.int .i64 z.2)) := Two.of_row (t := 23) (f := _) (heap_new _ _ _ rfl)
  have H2 : Hid (Tri (w2.alloc (.cells #[.int .i64 z.1, .int .i64 z.2] 23)) w.heap.size 0 (0, 0)) := (H1.out.later hb2).later ((Below.refl _ _).alloc (Nat.le_refl _) _)
  have HQ3 : Hid (Below w.heap.size w (w2.alloc (.cells #[.int .i64 z.1, .int .i64 z.2] 23))) := (HQ.out.trans (hb2.mono (by omega))).alloc (by omega) _
  have hs : w2.heap.size < (w2.alloc (.cells #[.int .i64 z.1, .int .i64 z.2] 23)).heap.size := by simp
  clear hb2 HQ H1
  go_upto_region 5 with (fail)
  generalize w2.alloc (.cells #[.int .i64 z.1, .int .i64 z.2] 23) = w4 at *
  obtain ⟨t0, t1, t2, t3, t4, t5, t6⟩ := H2.out.cells
  obtain ⟨c0, c1⟩ := HT.out
  clear HT H2
  go_wp2
  exact bodyPost_ret (v := .agg #[.int .i64 R, .int .i64 z.1, .int .i64 z.2]) (by simp [results, Tryz.results19, go_sem, *]) rfl ⟨rfl, ((HQ3.out.setCell (p := ⟨w.heap.size, 0, none⟩) (Nat.le_refl _) _).setCell (p := ⟨w.heap.size, 1, none⟩) (Nat.le_refl _) _).setCell (p := ⟨w.heap.size, 2, none⟩) (Nat.le_refl _) _⟩
end Go.Proofs.YtdbfimdcaacjhaaGreat
/- Contracts of apiaryref1: Cell, IsWord. -/
namespace Go.Proofs.YtdbfimdcaacjhaaGreat
open Go.RowKit Go.Lib Wd

set_option maxRecDepth 100000 in
set_option maxHeartbeats 8000000 in
theorem rcell_any (w0 : Nat) (hw : w0 < 18446744073709551616) (w : World) :
    Calls Tryz.prog 32 #[.int .u64 w0] w fun e w' => e = .returned (.tuple #[vC (cvR w0) (cvZ w0), .int .i64 (cvE w0)]) ∧ Below w.heap.size w w' := by
  obtain ⟨v1, v2, v3⟩ := head_val w0 hw
  obtain ⟨R, hR⟩ : ∃ R, rW w0 = R := ⟨_, rfl⟩
  obtain ⟨A, hA⟩ : ∃ A, w0 / 70368744177664 % 1024 = A := ⟨_, rfl⟩
  obtain ⟨B, hB⟩ : ∃ A, w0 / 68719476736 % 1024 = A := ⟨_, rfl⟩
  have hA1 : A < 1024 := by omega
  have hB1 : B < 1024 := by omega
  have HBW : Hid (bW w0 = ((A : Int) - 512, (B : Int) - 512)) := by show _ = _; unfold bW; rw [hA, hB]
  have HIS : Hid (isW w0 = (decide (w0 / 1152921504606846976 = 1) && decide (R ≤ 12) && okD (dgW w0) R 12)) := by show _ = _; rw [← hR]; rfl
  have hr16 : R < 16 := by rw [← hR]; exact Nat.mod_lt _ (by decide)
  have HYES : Hid (isW w0 = true → cvR w0 = (R : Int) ∧ cvZ w0 = dn (dgW w0) ((A : Int) - 512, (B : Int) - 512) R ∧ cvE w0 = 0) := fun h => by
    unfold cvR cvZ cvE zW
    simp only [h, if_pos]
    rw [hR, HBW.out]
    exact ⟨rfl, rfl, trivial⟩
  have HNO : Hid (isW w0 = false → cvR w0 = 0 ∧ cvZ w0 = (0, 0) ∧ cvE w0 = 5) := fun h => by
    unfold cvR cvZ cvE
    simp only [h, Bool.false_eq_true, if_false]
    exact ⟨trivial, trivial, trivial⟩
  rw [hR] at v1
  rw [hA] at v2
  rw [hB] at v3
  clear hR hA hB
  have hbad : isW w0 = false → Hid (∀ w', Below w.heap.size w w' → ((Ending.returned (.tuple #[.agg #[.int .i64 0, .int .i64 0, .int .i64 0], .int .i64 5]) : Ending) = .returned (.tuple #[vC (cvR w0) (cvZ w0), .int .i64 (cvE w0)]) ∧ Below w.heap.size w w')) := fun h w' hb => by
    obtain ⟨e1, e2, e3⟩ := HNO.out h
    exact ⟨by rw [e1, e2, e3], hb⟩
  have hdig0 : ∀ k : Nat, k < 12 → bits .and .u64 ((w0 : Int) / 2 ^ (36 - 3 * (k + 1))) 7 = ((dgW w0 (k + 1) : Nat) : Int) := fun k hk => by
    have e : ((w0 : Int) / 2 ^ (36 - 3 * (k + 1))) = ((w0 / 8 ^ (12 - (k + 1)) : Nat) : Int) := by
      rw [show 36 - 3 * (k + 1) = 3 * (12 - (k + 1)) by omega, show (8 : Nat) ^ (12 - (k + 1)) = 2 ^ (3 * (12 - (k + 1))) by rw [Nat.pow_mul]]
      simp
    have := Nat.div_le_self w0 (8 ^ (12 - (k + 1)))
    rw [e, show (7 : Int) = ((7 : Nat) : Int) by rfl, bits_and_u64_nat _ _ (by omega) (by decide), nat_mask3]
    rfl
  have HDO := Lib.hid hdig0
  clear hdig0
  by_cases h0 : w0 / 1152921504606846976 = 1
  · have q1 : ((w0 : Int) / 1152921504606846976 != 1) = false := by simp; omega
    by_cases h12 : R ≤ 12
    · have q2 : decide (12 < (R : Int)) = false := decide_eq_false (by omega)
      go_enter Tryz.func32, Tryz.ntmps32
      go_wp2
      have T0 : Hid (Tri ((w.alloc (.cells #[.int .i64 0, .int .i64 0, .int .i64 0] 27)).alloc (.cells #[.int .i64 ((A : Int) - 512), .int .i64 ((B : Int) - 512)] 23)) w.heap.size 0 (0, 0)) := by
        show _ = _
        rw [Below.heap_alloc _ _ _ (by simp)]
        exact heap_new _ _ _ rfl
      have C0 : Hid (Two2 ((w.alloc (.cells #[.int .i64 0, .int .i64 0, .int .i64 0] 27)).alloc (.cells #[.int .i64 ((A : Int) - 512), .int .i64 ((B : Int) - 512)] 23)) (w.heap.size + 1) (.int .i64 ((A : Int) - 512)) (.int .i64 ((B : Int) - 512))) := Two2.of_row (t := 23) (heap_new _ _ _ (by simp))
      have HB0 : Hid (Below w.heap.size w ((w.alloc (.cells #[.int .i64 0, .int .i64 0, .int .i64 0] 27)).alloc (.cells #[.int .i64 ((A : Int) - 512), .int .i64 ((B : Int) - 512)] 23))) := ((Below.refl _ _).alloc (Nat.le_refl _) _).alloc (by simp) _
      have k2 : ((w.alloc (.cells #[.int .i64 0, .int .i64 0, .int .i64 0] 27)).alloc (.cells #[.int .i64 ((A : Int) - 512), .int .i64 ((B : Int) - 512)] 23)).heap.size = w.heap.size + 2 := by simp
      generalize (w.alloc (.cells #[.int .i64 0, .int .i64 0, .int .i64 0] 27)).alloc (.cells #[.int .i64 ((A : Int) - 512), .int .i64 ((B : Int) - 512)] 23) = w2 at *
      have HBB : Hid (baseB ((A : Int) - 512, (B : Int) - 512) = true) := by show _ = _; rw [baseB_iff]; simp only; omega
      have HOK : Hid (isW w0 = okD (dgW w0) R 12) := by show _ = _; rw [HIS.out, decide_eq_true h0, decide_eq_true h12]; rfl
      have HD8 := Lib.hid (dgW_lt w0)
      have C0 : Hid (Two2 w2 (w.heap.size + 1) (.int .i64 (((A : Int) - 512, (B : Int) - 512) : E2).1) (.int .i64 (((A : Int) - 512, (B : Int) - 512) : E2).2)) := C0.out
      generalize (((A : Int) - 512, (B : Int) - 512) : E2) = b at *
      clear v1 v2 v3 hA1 hB1 HBW HIS q1 q2 h0
      obtain ⟨D, hD⟩ : ∃ D, dgW w0 = D := ⟨_, rfl⟩
      rw [hD] at HYES HOK HD8
      simp only [hD] at HDO
      clear hD
      go_loopw [6] (fun i wr => ∃ k : Nat, k ≤ 12 ∧ i = .int .i64 (k + 1 : Nat) ∧ okD D R k = true ∧ Hid (Two2 wr (w.heap.size + 1) (.int .i64 (dn D b (min k R)).1) (.int .i64 (dn D b (min k R)).2) ∧ Turn (fun q => q = w.heap.size + 1) w2 wr)) (fun i _ => 13 - (intOf i).toNat)
      case atStart => exact ⟨0, by omega, rfl, rfl, by rw [Nat.zero_min]; exact C0.out, Turn.refl _ _⟩
      case round =>
        obtain ⟨k, hk, rfl, hok, HI⟩ := hrel
        have hTri := HI.out.1
        have hturn := HI.out.2
        have hsz := hturn.2.2.2.1
        have HT := Lib.hid (T0.out.turn hturn (by omega))
        have HBR : Hid (Below w.heap.size w wr) := HB0.out.trans (hturn.below (by omega) fun q hq e => by omega)
        have HTU := Lib.hid hturn
        have HTR := Lib.hid hTri
        clear hTri hturn HI
        by_cases hk12 : k < 12
        · have hd8 := HD8.out (k + 1)
          have hdv := HDO.out k hk12
          have HST : Hid (okD D R (k + 1) = (okD D R k && ((D (k + 1) == 7) == decide (R < k + 1)))) := rfl
          have HDN : Hid (dn D b (k + 1) = downE (dn D b k) (D (k + 1))) := rfl
          have q1 : decide (((k + 1 : Nat) : Int) ≤ 12) = true := decide_eq_true (by omega)
          have q1' : decide ((k : Int) + 1 ≤ 12) = true := decide_eq_true (by omega)
          have qs : decide (36 - 3 * ((k : Int) + 1) < 0) = false := decide_eq_false (by omega)
          obtain ⟨d, hd⟩ : ∃ d, D (k + 1) = d := ⟨_, rfl⟩
          rw [hd] at hd8 hdv HST HDN
          clear hd
          by_cases hd7 : d = 7
          · by_cases hkr : R < k + 1
            · have q2 : decide ((R : Int) < ((k + 1 : Nat) : Int)) = true := decide_eq_true (by omega)
              have q2' : decide ((R : Int) < (k : Int) + 1) = true := decide_eq_true (by omega)
              have HN : okD D R (k + 1) = true := by rw [HST.out, hok, hd7, decide_eq_true hkr]; rfl
              have HM : Hid (Two2 wr (w.heap.size + 1) (.int .i64 (dn D b (min (k + 1) R)).1) (.int .i64 (dn D b (min (k + 1) R)).2)) := by
                have := HTR.out
                rw [show min k R = min (k + 1) R by omega] at this
                exact this
              subst hd7
              go_wp2
              go_roundw
              case rel => exact ⟨k + 1, by omega, by go_num, HN, HM.out, HTU.out⟩
              case measure => simp [intOf]; omega
            · have q2 : decide ((R : Int) < ((k + 1 : Nat) : Int)) = false := decide_eq_false (by omega)
              have q2' : decide ((R : Int) < (k : Int) + 1) = false := decide_eq_false (by omega)
              have HF := hbad (by rw [HOK.out]; exact okD_stop (k := k + 1) (by rw [HST.out, hok, hd7, decide_eq_false hkr]; rfl) (by omega))
              subst hd7
              obtain ⟨t0, t1, t2, t3, t4, t5, t6⟩ := HT.out.cells
              go_wp2
              exact bodyPost_ret (v := .tuple #[.agg #[.int .i64 0, .int .i64 0, .int .i64 0], .int .i64 5]) (by simp [results, Tryz.results32, go_sem, *]) rfl (HF.out _ (((HBR.out.setCell (p := ⟨w.heap.size, 0, none⟩) (Nat.le_refl _) _).setCell (p := ⟨w.heap.size, 1, none⟩) (Nat.le_refl _) _).setCell (p := ⟨w.heap.size, 2, none⟩) (Nat.le_refl _) _))
          · have q3 : ((d : Int) == 7) = false := by simp; omega
            have q4 : ((d : Int) != 7) = true := by simp; omega
            by_cases hkr : R < k + 1
            · have q2 : decide ((R : Int) < ((k + 1 : Nat) : Int)) = true := decide_eq_true (by omega)
              have q2' : decide ((R : Int) < (k : Int) + 1) = true := decide_eq_true (by omega)
              have HF := hbad (by rw [HOK.out]; exact okD_stop (k := k + 1) (by rw [HST.out, hok, decide_eq_true hkr, beq_eq_false_iff_ne.2 hd7]; rfl) (by omega))
              obtain ⟨t0, t1, t2, t3, t4, t5, t6⟩ := HT.out.cells
              go_wp2
              exact bodyPost_ret (v := .tuple #[.agg #[.int .i64 0, .int .i64 0, .int .i64 0], .int .i64 5]) (by simp [results, Tryz.results32, go_sem, *]) rfl (HF.out _ (((HBR.out.setCell (p := ⟨w.heap.size, 0, none⟩) (Nat.le_refl _) _).setCell (p := ⟨w.heap.size, 1, none⟩) (Nat.le_refl _) _).setCell (p := ⟨w.heap.size, 2, none⟩) (Nat.le_refl _) _))
            · have q2 : decide ((R : Int) < ((k + 1 : Nat) : Int)) = false := decide_eq_false (by omega)
              have q2' : decide ((R : Int) < (k : Int) + 1) = false := decide_eq_false (by omega)
              have HN : okD D R (k + 1) = true := by rw [HST.out, hok, decide_eq_false hkr, beq_eq_false_iff_ne.2 hd7]; rfl
              have hmk : min k R = k := by omega
              have hmk2 : min (k + 1) R = k + 1 := by omega
              rw [hmk] at HTR
              have hdig : ∀ j, 0 < j → j ≤ k → D j < 7 := fun j h1 h2 => by
                have h3 := (okD_iff D R k).1 hok j h1 h2
                have := HD8.out j
                omega
              have hhx := (dn_hex HBB.out hdig (Nat.le_refl k)).mono (hexH_le hk)
              have HMU := Lib.hid (rmul_in (dn D b k) (2, 1) (hhx.sm.mono (by decide)) (by unfold Sm; simp) (by unfold Hex at hhx; unfold Sm mulE; simp only; omega))
              have hmb : Sm 8589934592 (mulE (dn D b k) (2, 1)) := by unfold Hex at hhx; unfold Sm mulE; simp only; omega
              obtain ⟨x, hx⟩ : ∃ x, dn D b k = x := ⟨_, rfl⟩
              rw [hx] at HMU HTR HDN hmb
              have HDE : Hid (dn D b (k + 1) = addE (mulE x (2, 1)) (leftE d)) := HDN.out
              generalize mulE x (2, 1) = m at *
              simp only [vE] at HMU
              obtain ⟨⟨c0, c1⟩, c2, c3⟩ := HTR.out
              unfold Sm at hmb
              obtain ⟨hm1, hm2, hm3, hm4⟩ := hmb
              clear hhx hdig hx hmk HDN HST hbad HNO HBB HD8
              go_wp2_with fail
              refine (HMU.out _).mono ?_
              rintro e w5 ⟨rfl, hb5⟩
              have hz5 := hb5.size
              have h5 := HTR.out.later (by omega) hb5
              have HP := Lib.hid (h5.put (.int .i64 m.1) (.int .i64 m.2))
              have HTU2 : Hid (Turn (fun q => q = w.heap.size + 1) w2 ((w5.setCell ⟨w.heap.size + 1, 0, none⟩ (.int .i64 m.1)).setCell ⟨w.heap.size + 1, 1, none⟩ (.int .i64 m.2))) := (HTU.out.trans (Turn.of_below hb5) fun _ _ h => h).trans HP.out.2 fun _ _ h => h
              have hz6 := HP.out.2.2.2.2.1
              obtain ⟨⟨e0, e1⟩, e2, e3⟩ := h5
              clear hb5 c0 c1 c2 c3 HTR HT HTU HMU HBR
              go_upto_region 15 with (fail)
              generalize ((w5.setCell ⟨w.heap.size + 1, 0, none⟩ (.int .i64 m.1)).setCell ⟨w.heap.size + 1, 1, none⟩ (.int .i64 m.2)) = w6 at *
              obtain ⟨⟨g0, g1⟩, g2, g3⟩ := HP.out.1
              clear e0 e1 e2 e3
              cases d with
              | zero =>
                have HDZ : Hid (dn D b (k + 1) = m) := by show _ = _; rw [HDE.out]; show (m.1 + 0, m.2 + 0) = m; simp
                have HFI : Hid (Two2 w6 (w.heap.size + 1) (.int .i64 (dn D b (min (k + 1) R)).1) (.int .i64 (dn D b (min (k + 1) R)).2) ∧ Turn (fun q => q = w.heap.size + 1) w2 w6) := ⟨by rw [hmk2, HDZ.out]; exact HP.out.1, HTU2.out⟩
                go_wp2
                go_roundw
                case rel => exact ⟨k + 1, by omega, by go_num, HN, HFI.out⟩
                case measure => simp [intOf]; omega
              | succ d =>
                have HDZ : Hid (dn D b (k + 1) = addE m (leftE (d + 1))) := HDE.out
                have HUN := Lib.hid (runit_in d (by omega))
                have hul := left_sm (d + 1)
                have hle : leftE (d + 1) = unitE d := rfl
                rw [hle] at HDZ hul
                simp only [vE] at HUN
                generalize unitE d = u at *
                unfold Sm at hul
                obtain ⟨hu1, hu2, hu3, hu4⟩ := hul
                have hws : w.heap.size + 1 < w6.heap.size := by omega
                clear hle
                go_wp2_with fail
                refine (HUN.out _).mono ?_
                rintro e w7 ⟨rfl, hb7⟩
                have hz7 := hb7.size
                have hal : Below w7.heap.size w7 (w7.alloc (.cells #[.int .i64 u.1, .int .i64 u.2] 23)) := (Below.refl _ _).alloc (Nat.le_refl _) _
                have k7 := World.size_alloc w7 (.cells #[.int .i64 u.1, .int .i64 u.2] 23)
                have h8 := (HP.out.1.later hws hb7).later (by omega) hal
                have hU8 : Two (w7.alloc (.cells #[.int .i64 u.1, .int .i64 u.2] 23)) w7.heap.size (.int .i64 u.1) (.int .i64 u.2) := Two.of_row (t := 23) (f := _) (heap_new _ _ _ rfl)
                have HT8 : Hid (Turn (fun q => q = w.heap.size + 1) w2 (w7.alloc (.cells #[.int .i64 u.1, .int .i64 u.2] 23))) := (HTU2.out.trans (Turn.of_below hb7) fun _ _ h => h).trans (Turn.of_below hal) fun _ _ h => h
                clear hal hb7 g0 g1 g2 g3
                go_upto_region 17 with (fail)
                generalize w7.alloc (.cells #[.int .i64 u.1, .int .i64 u.2] 23) = w8 at *
                have hp := h8.put (.int .i64 (m.1 + u.1)) (.int .i64 (m.2 + u.2))
                have HFI : Hid (Two2 ((w8.setCell ⟨w.heap.size + 1, 0, none⟩ (.int .i64 (m.1 + u.1))).setCell ⟨w.heap.size + 1, 1, none⟩ (.int .i64 (m.2 + u.2))) (w.heap.size + 1) (.int .i64 (dn D b (min (k + 1) R)).1) (.int .i64 (dn D b (min (k + 1) R)).2) ∧ Turn (fun q => q = w.heap.size + 1) w2 ((w8.setCell ⟨w.heap.size + 1, 0, none⟩ (.int .i64 (m.1 + u.1))).setCell ⟨w.heap.size + 1, 1, none⟩ (.int .i64 (m.2 + u.2)))) := ⟨by rw [hmk2, HDZ.out]; exact hp.1, HT8.out.trans hp.2 fun _ _ h => h⟩
                obtain ⟨⟨g0, g1⟩, g2, g3⟩ := h8
                obtain ⟨i0, i1⟩ := hU8
                have hl7 : w7.heap.size < w8.heap.size := by omega
                have hl8 : w.heap.size + 1 < w8.heap.size := by omega
                clear hp k7
                go_wp2
                go_roundw
                case rel => exact ⟨k + 1, by omega, by go_num, HN, HFI.out⟩
                case measure => simp [intOf]; omega
        · obtain rfl : k = 12 := by omega
          rw [Nat.min_eq_right h12] at HTR
          obtain ⟨y1, y2, y3⟩ := HYES.out (by rw [HOK.out]; exact hok)
          have HY : Hid (vC (cvR w0) (cvZ w0) = vC R (dn D b R) ∧ cvE w0 = 0) := ⟨by rw [y1, y2], y3⟩
          obtain ⟨⟨c0, c1⟩, c2, c3⟩ := HTR.out
          obtain ⟨t0, t1, t2, t3, t4, t5, t6⟩ := HT.out.cells
          generalize dn D b R = x at *
          clear y1 y2 y3 HTR HT HYES
          go_wp2
          exact bodyPost_ret (v := .tuple #[.agg #[.int .i64 R, .int .i64 x.1, .int .i64 x.2], .int .i64 0]) (by simp [results, Tryz.results32, go_sem, *]) rfl ⟨by rw [HY.out.1, HY.out.2], (((HBR.out.setCell (p := ⟨w.heap.size, 0, none⟩) (Nat.le_refl _) _).setCell (p := ⟨w.heap.size, 1, none⟩) (Nat.le_refl _) _).setCell (p := ⟨w.heap.size, 2, none⟩) (Nat.le_refl _) _)⟩
    · have HF := hbad (by rw [HIS.out, decide_eq_false h12]; simp)
      have q2 : decide (12 < (R : Int)) = true := decide_eq_true (by omega)
      clear h0
      go_enter Tryz.func32, Tryz.ntmps32
      go_wp2
      exact bodyPost_ret (v := .tuple #[.agg #[.int .i64 0, .int .i64 0, .int .i64 0], .int .i64 5]) (by simp [results, Tryz.results32, go_sem]) rfl (HF.out _ ((Below.refl _ _).alloc (Nat.le_refl _) _))
  · have HF := hbad (by rw [HIS.out, decide_eq_false h0]; rfl)
    have q1 : ((w0 : Int) / 1152921504606846976 != 1) = true := by simp; omega
    clear h0
    go_enter Tryz.func32, Tryz.ntmps32
    go_wp2
    exact bodyPost_ret (v := .tuple #[.agg #[.int .i64 0, .int .i64 0, .int .i64 0], .int .i64 5]) (by simp [results, Tryz.results32, go_sem]) rfl (HF.out _ ((Below.refl _ _).alloc (Nat.le_refl _) _))
end Go.Proofs.YtdbfimdcaacjhaaGreat
/- Lists of cells in memory; the contract of apiaryref1.Children. -/
namespace Go.Proofs.YtdbfimdcaacjhaaGreat
open Go.RowKit Go.Lib Wd

abbrev Cl := Int × E2
def cV (l : List Cl) : List Value := l.flatMap fun c => [.int .i64 c.1, .int .i64 c.2.1, .int .i64 c.2.2]
def cg (l : List Cl) (k : Nat) : Cl := l.getD k (0, (0, 0))
theorem cV_length (l : List Cl) : (cV l).length = l.length * 3 := by
  induction l with
  | nil => rfl
  | cons p l ih => simp only [cV, List.flatMap_cons, List.length_append, List.length_cons, List.length_nil] at *; omega
theorem cV_append (a b : List Cl) : cV (a ++ b) = cV a ++ cV b := by simp [cV]
theorem cV_one (c : Cl) : cV [c] = [.int .i64 c.1, .int .i64 c.2.1, .int .i64 c.2.2] := rfl
theorem cV_get : ∀ (l : List Cl) (k : Nat), k < l.length → (cV l)[k * 3]? = some (.int .i64 (cg l k).1) ∧ (cV l)[k * 3 + 1]? = some (.int .i64 (cg l k).2.1) ∧ (cV l)[k * 3 + 2]? = some (.int .i64 (cg l k).2.2)
  | [], k, h => by simp at h
  | p :: l, 0, _ => by simp [cV, cg]
  | p :: l, k + 1, h => by
    have ih := cV_get l k (by simpa using h)
    have e : cV (p :: l) = [.int .i64 p.1, .int .i64 p.2.1, .int .i64 p.2.2] ++ cV l := rfl
    have g : cg (p :: l) (k + 1) = cg l k := rfl
    rw [e, g, List.getElem?_append_right (by simp; omega), List.getElem?_append_right (by simp; omega), List.getElem?_append_right (by simp; omega)]
    simp only [List.length_cons, List.length_nil]
    rw [show (k + 1) * 3 - (0 + 1 + 1 + 1) = k * 3 by omega, show (k + 1) * 3 + 1 - (0 + 1 + 1 + 1) = k * 3 + 1 by omega, show (k + 1) * 3 + 2 - (0 + 1 + 1 + 1) = k * 3 + 2 by omega]
    exact ih
theorem cV_cell (l : List Cl) : ∀ u ∈ cV l, u.oneCell' = true := fun u hu => by
  simp only [cV, List.mem_flatMap] at hu
  obtain ⟨p, _, hp⟩ := hu
  simp at hp
  rcases hp with rfl | rfl | rfl <;> rfl
/-- In w a slice's address leads to cells. -/
def CAt (w : World) (ao : Option Addr) (l : List Cl) : Prop :=
  0 < l.length → ∃ b off, ao = some ⟨b, off, none⟩ ∧ b < w.heap.size ∧ ∀ k, k < l.length →
    w.cell? ⟨b, off + k * 3, none⟩ = some (.int .i64 (cg l k).1) ∧ w.cell? ⟨b, off + k * 3 + 1, none⟩ = some (.int .i64 (cg l k).2.1) ∧ w.cell? ⟨b, off + k * 3 + 2, none⟩ = some (.int .i64 (cg l k).2.2)
theorem CAt.below {w w' : World} {ao : Option Addr} {l : List Cl} (h : CAt w ao l) (hb : Below w.heap.size w w') : CAt w' ao l := fun h0 => by
  obtain ⟨b, off, e, hlt, hc⟩ := h h0
  refine ⟨b, off, e, Nat.lt_of_lt_of_le hlt hb.size, fun k hk => ?_⟩
  rw [hb.cell (p := ⟨b, _, none⟩) hlt, hb.cell (p := ⟨b, _, none⟩) hlt, hb.cell (p := ⟨b, _, none⟩) hlt]
  exact hc k hk
theorem cAt_own {w : World} {base n c : Nat} {ao : Option Addr} {l : List Cl} (hn : n = l.length) (h : w.ownsRow base 27 3 (.slice ao n c) n (cV l)) : CAt w ao l := fun h0 => by
  subst hn
  obtain ⟨ao', c', e, _, hh⟩ := own_form h
  cases e
  obtain ⟨g, rfl, _, hlt, hc⟩ := hh h0
  exact ⟨g, 0, rfl, hlt, fun i hi => by
    have := cV_get l i hi
    rw [Nat.zero_add]
    exact ⟨hc _ _ this.1, hc _ _ this.2.1, hc _ _ this.2.2⟩⟩
/-- What is told: cells in memory, and an error. -/
def ToldC (w : World) (L : List Cl) (E : Int) (e : Ending) (w' : World) : Prop := ∃ ao c, e = .returned (.tuple #[.slice ao L.length c, .int .i64 E]) ∧ CAt w' ao L ∧ Below w.heap.size w w'
theorem ToldC.nil {w w' : World} {E : Int} (h : Below w.heap.size w w') : ToldC w [] E (.returned (.tuple #[.slice none 0 0, .int .i64 E])) w' := ⟨Option.none, 0, rfl, fun h => by simp at h, h⟩
/-- The same, in a new block. -/
def ToldN (w : World) (L : List Cl) (E : Int) (e : Ending) (w' : World) : Prop := ∃ ao c, e = .returned (.tuple #[.slice ao L.length c, .int .i64 E]) ∧ CAt w' ao L ∧ Below w.heap.size w w' ∧ ∀ b o s, ao = some ⟨b, o, s⟩ → w.heap.size ≤ b ∧ b < w'.heap.size
theorem ToldN.nil {w w' : World} {E : Int} (h : Below w.heap.size w w') : ToldN w [] E (.returned (.tuple #[.slice none 0 0, .int .i64 E])) w' := ⟨Option.none, 0, rfl, fun h => by simp at h, h, fun _ _ _ h => by cases h⟩
/-- A cell's children. -/
def kidsL (r : Int) (z : E2) : List Cl := (List.range 7).map fun d => (r + 1, downE z d)
def kdE (r : Int) (z : E2) : Int := if okB r z = true then (if r = 12 then 1 else 0) else 2
def kdL (r : Int) (z : E2) : List Cl := if kdE r z = 0 then kidsL r z else []
theorem kidsL_take (r : Int) (z : E2) {k : Nat} (h : k < 7) : (kidsL r z).take (k + 1) = (kidsL r z).take k ++ [(r + 1, downE z k)] := by
  rw [List.take_add_one]
  congr 1
  unfold kidsL
  rw [List.getElem?_map, List.getElem?_range h]
  rfl
theorem kidsL_get (r : Int) (z : E2) {k : Nat} (h : k < 7) : cg (kidsL r z) k = (r + 1, downE z k) := by
  unfold cg kidsL
  rw [List.getD_eq_getElem?_getD, List.getElem?_map, List.getElem?_range h]
  rfl
theorem info_c : (Tryz.prog.info? 27).map (fun i => (i.zero, i.size, i.bytes)) = some (some (.agg #[.int .i64 0, .int .i64 0, .int .i64 0]), 3, 24) := by kernel_rfl
theorem ok_parts {r : Int} {z : E2} (h : okB r z = true) : 0 ≤ r ∧ r ≤ 12 ∧ Sm 1073741824 z := by
  have h1 := (shapeB_iff _ _).1 ((okB_iff _ _).1 h).1
  exact ⟨h1.1, h1.2.1, h1.2.2.1, h1.2.2.2.1, h1.2.2.2.2.1, h1.2.2.2.2.2⟩
set_option maxRecDepth 100000 in
set_option maxHeartbeats 4000000 in
theorem rkids_new (r : Int) (z : E2) (w : World) : Calls Tryz.prog 54 #[vC r z] w (ToldN w (kdL r z) (kdE r z)) := by
  obtain ⟨i1, hj, hy0, hy1, hy2⟩ := info_parts info_c
  have HOK := Lib.hid (rok_any r z)
  have HAL : Hid (Below w.heap.size w (w.alloc (.cells #[.int .i64 r, .int .i64 z.1, .int .i64 z.2] 27))) := (Below.refl _ _).alloc (Nat.le_refl _) _
  have HTR : Hid (Tri (w.alloc (.cells #[.int .i64 r, .int .i64 z.1, .int .i64 z.2] 27)) w.heap.size r z) := heap_new _ _ _ rfl
  have kA : (w.alloc (.cells #[.int .i64 r, .int .i64 z.1, .int .i64 z.2] 27)).heap.size = w.heap.size + 1 := by simp
  by_cases h : okB r z = true
  · obtain ⟨r0, r12, hsm⟩ := ok_parts h
    rw [h] at HOK
    by_cases hr : r = 12
    · subst hr
      have hE : kdE 12 z = 1 := by unfold kdE; rw [if_pos h, if_pos rfl]
      have hL : kdL 12 z = [] := by unfold kdL; rw [hE]; rfl
      rw [hE, hL]
      clear hE hL h hsm r0 r12
      simp only [vC] at *
      go_enter Tryz.func54, Tryz.ntmps54
      go_wp2_with fail
      refine (HOK.out _).mono ?_
      rintro e w1 ⟨rfl, hb1⟩
      obtain ⟨c0, c1, c2, c3, c4, c5, c6⟩ := (HTR.out.later hb1).cells
      have HB := Lib.hid (HAL.out.trans (hb1.mono (by omega)))
      clear hb1
      go_wp2
      go_ret2
      exact ToldN.nil HB.out
    · have hE : kdE r z = 0 := by unfold kdE; rw [if_pos h, if_neg hr]
      have hL : kdL r z = kidsL r z := by unfold kdL; rw [if_pos hE]
      have q1 : (r == 12) = false := by simp [hr]
      have hm : Sm 4294967296 (mulE z (2, 1)) := by unfold Sm mulE at *; simp only; omega
      have HMU := Lib.hid (rmul_in z (2, 1) (hsm.mono (by decide)) (by unfold Sm; simp) (hm.mono (by decide)))
      have HDN : Hid (∀ k, downE z (k + 1) = ((mulE z (2, 1)).1 + (unitE k).1, (mulE z (2, 1)).2 + (unitE k).2)) := fun k => rfl
      have HD0 : Hid (downE z 0 = mulE z (2, 1)) := by
        show addE (mulE z (2, 1)) (0, 0) = _
        unfold addE; simp
      rw [hE, hL]
      have HTK := Lib.hid (fun k (h : k < 7) => kidsL_take r z h)
      have HLN : Hid ((kidsL r z).length = 7) := by show _ = _; unfold kidsL; simp
      have HT1 : Hid ((kidsL r z).take 1 = [(r + 1, downE z 0)]) := rfl
      generalize kidsL r z = L at *
      generalize mulE z (2, 1) = m at *
      unfold Sm at hm
      obtain ⟨m1, m2, m3, m4⟩ := hm
      clear hE hL h hsm hr
      simp only [vC, vE] at *
      go_enter Tryz.func54, Tryz.ntmps54
      go_wp2_with fail
      refine (HOK.out _).mono ?_
      rintro e w1 ⟨rfl, hb1⟩
      have HTR1 := Lib.hid (HTR.out.later hb1)
      obtain ⟨c0, c1, c2, c3, c4, c5, c6⟩ := HTR1.out.cells
      have HB1 := Lib.hid (HAL.out.trans (hb1.mono (by omega)))
      have hz1 := hb1.size
      clear hb1 HTR HAL
      go_wp2_with fail
      refine (HMU.out _).mono ?_
      rintro e w2 ⟨rfl, hb2⟩
      have HTR2 := Lib.hid (HTR1.out.later hb2)
      have HB2 := Lib.hid (HB1.out.trans (hb2.mono (by omega)))
      have hz2 := hb2.size
      clear hb2 HTR1 HB1 c0 c1 c2 c3 c4 c5 c6
      have hal : Below w2.heap.size w2 (w2.alloc (.cells #[.int .i64 m.1, .int .i64 m.2] 23)) := (Below.refl _ _).alloc (Nat.le_refl _) _
      have M0 : Hid (Two (w2.alloc (.cells #[.int .i64 m.1, .int .i64 m.2] 23)) w2.heap.size (.int .i64 m.1) (.int .i64 m.2)) := Two.of_row (t := 23) (f := _) (heap_new _ _ _ rfl)
      have HTR3 := Lib.hid (HTR2.out.later hal)
      have HB3 := Lib.hid (HB2.out.trans (hal.mono (by omega)))
      have hz3 : w2.heap.size < (w2.alloc (.cells #[.int .i64 m.1, .int .i64 m.2] 23)).heap.size := by simp
      clear hal HTR2 HB2
      go_upto_region 6 with (fail)
      generalize w2.alloc (.cells #[.int .i64 m.1, .int .i64 m.2] 23) = w3 at *
      obtain ⟨c0, c1, c2, c3, c4, c5, c6⟩ := HTR3.out.cells
      obtain ⟨d0, d1⟩ := M0.out
      have q3 : IntKind.i64.wrap (r + 1) = r + 1 := wrap_in (by omega) (by omega)
      go_upto_region 7 with (fail)
      have HO0 : Hid ((w3.alloc (.cells #[.int .i64 (r + 1), .int .i64 m.1, .int .i64 m.2] 27)).ownsRow w3.heap.size 27 3 (.slice (some ⟨w3.heap.size, 0, none⟩) 1 1) 1 (cV (L.take 1))) := by rw [HT1.out, HD0.out]; exact World.ownsRow_lit (size := 3) (e := 27) w3 #[.int .i64 (r + 1), .int .i64 m.1, .int .i64 m.2] 1 (Nat.le_refl _) (by decide) rfl
      have HB4 : Hid (Below w3.heap.size w3 (w3.alloc (.cells #[.int .i64 (r + 1), .int .i64 m.1, .int .i64 m.2] 27))) := (Below.refl _ _).alloc (Nat.le_refl _) _
      generalize w3.alloc (.cells #[.int .i64 (r + 1), .int .i64 m.1, .int .i64 m.2] 27) = w4 at *
      clear c0 c1 c2 c3 c4 c5 d0 d1
      have hb4 := HB4.out.size
      go_wp2
      go_loopw [6, 7] (fun sl i wr => ∃ (k : Nat) (ao : Option Addr) (c : Nat), k ≤ 6 ∧ i = .int .i64 k ∧ sl = .slice ao (k + 1) c ∧ Hid (wr.ownsRow w3.heap.size 27 3 (.slice ao (k + 1) c) (k + 1) (cV (L.take (k + 1))) ∧ Below w3.heap.size w3 wr)) (fun _ i _ => 6 - (intOf i).toNat)
      case atStart => exact ⟨0, _, _, by omega, rfl, rfl, HO0.out, HB4.out⟩
      case round =>
        obtain ⟨k, ao, c, hk, rfl, rfl, HI⟩ := hrel
        by_cases hlt : k < 6
        · have q2 : decide ((k : Int) < 6) = true := decide_eq_true (by omega)
          have HUN := Lib.hid (runit_in k hlt)
          have hu := left_sm (k + 1)
          rw [show leftE (k + 1) = unitE k from rfl] at hu
          unfold Sm at hu
          obtain ⟨u1, u2, u3, u4⟩ := hu
          have HTK2 := Lib.hid (HTK.out (k + 1) (by omega))
          rw [HDN.out k] at HTK2
          simp only [vE] at HUN
          generalize unitE k = u at *
          have hsr := HI.out.2.size
          have HTX := Lib.hid (HTR3.out.later HI.out.2)
          have HMX := Lib.hid (M0.out.later (by omega) HI.out.2)
          have HOW := Lib.hid HI.out.1
          have HBW := Lib.hid (HB3.out.trans (HI.out.2.mono (by omega)))
          have HBX := Lib.hid HI.out.2
          clear HI
          go_wp2_with fail
          refine (HUN.out _).mono ?_
          rintro e w5 ⟨rfl, hb5⟩
          have hz5 := hb5.size
          have HTY := Lib.hid (HTX.out.later hb5)
          have HMY := Lib.hid (HMX.out.later (by omega) hb5)
          have HOY := Lib.hid (own_later HOW.out hb5)
          have HBY := Lib.hid (HBX.out.trans (hb5.mono (by omega)))
          clear hb5 HTX HMX HOW HBX HBW
          have hal : Below w5.heap.size w5 (w5.alloc (.cells #[.int .i64 u.1, .int .i64 u.2] 23)) := (Below.refl _ _).alloc (Nat.le_refl _) _
          have U0 : Hid (Two (w5.alloc (.cells #[.int .i64 u.1, .int .i64 u.2] 23)) w5.heap.size (.int .i64 u.1) (.int .i64 u.2)) := Two.of_row (t := 23) (f := _) (heap_new _ _ _ rfl)
          have HTZ := Lib.hid (HTY.out.later hal)
          have HMZ := Lib.hid (HMY.out.later (by omega) hal)
          have HOZ := Lib.hid (own_later HOY.out hal)
          have HBZ := Lib.hid (HBY.out.trans (hal.mono (by omega)))
          have hz6 : w5.heap.size < (w5.alloc (.cells #[.int .i64 u.1, .int .i64 u.2] 23)).heap.size := by simp
          clear hal HTY HMY HOY HBY
          go_upto_region 11 with (fail)
          generalize w5.alloc (.cells #[.int .i64 u.1, .int .i64 u.2] 23) = w6 at *
          obtain ⟨c0, c1, c2, c3, c4, c5, c6⟩ := HTZ.out.cells
          obtain ⟨d0, d1⟩ := HMZ.out
          obtain ⟨e0, e1⟩ := U0.out
          clear HTZ HMZ U0 c1 c2 c3 c4 c5
          have hown := HOZ.out
          clear HOZ
          go_wp2_with (at_builtin; refine wpList_append_own _ rfl (.tmp 36) (.tmp 52) 100 rfl w3.heap.size 27 i1 (.agg #[.int .i64 0, .int .i64 0, .int .i64 0]) 3 24 Tryz.underlying100 hj hy0 hy1 hy2 rfl (by decide) _ _ _ rfl (hown.alloc _) ⟨w6.heap.size, 0, none⟩ 1 1 [.int .i64 (r + 1), .int .i64 (m.1 + u.1), .int .i64 (m.2 + u.2)] rfl rfl (cells_new _ _ _ _ rfl) (by simp [Value.oneCell']) (by unfold maxLen; omega) (by omega) (by simp; omega) ?_; intro v' w7 hown1 hgrow _)
          have HB7 : Hid (Below w3.heap.size w3 w7) := below_append (HBZ.out.alloc (by omega) (.cells #[.int .i64 (r + 1), .int .i64 (m.1 + u.1), .int .i64 (m.2 + u.2)] 27)) (hown.alloc (.cells #[.int .i64 (r + 1), .int .i64 (m.1 + u.1), .int .i64 (m.2 + u.2)] 27)) (by simp; omega) hgrow
          obtain ⟨ao', c', rfl, _⟩ := own_form hown1
          have HO7 : Hid (w7.ownsRow w3.heap.size 27 3 (.slice ao' (k + 1 + 1) c') (k + 1 + 1) (cV (L.take (k + 1 + 1)))) := by rw [HTK2.out, cV_append]; exact hown1
          clear hown1 hgrow hown
          go_wp2
          go_roundw
          case rel => exact ⟨k + 1, ao', c', by omega, by go_num, rfl, HO7.out, HB7.out⟩
          case measure => simp [intOf]; omega
        · obtain rfl : k = 6 := by omega
          have HF : Hid (ToldN w L 0 (.returned (.tuple #[.slice ao 7 c, .int .i64 0])) wr) := by
            have h1 := HI.out.1
            rw [show L.take (6 + 1) = L from List.take_of_length_le (by rw [HLN.out]; exact Nat.le_refl _)] at h1
            exact ⟨ao, c, by rw [HLN.out], cAt_own (by rw [HLN.out]) h1, HB3.out.trans (HI.out.2.mono (by omega)), fun b o s e => ⟨by have := (own_lt h1 b o s e).1; omega, (own_lt h1 b o s e).2⟩⟩
          clear HI
          go_wp2
          go_ret2
          exact HF.out
  · have hE : kdE r z = 2 := by unfold kdE; rw [if_neg h]
    have hL : kdL r z = [] := by unfold kdL; rw [hE]; rfl
    rw [hE, hL]
    rw [Bool.eq_false_iff.2 h] at HOK
    clear hE hL h
    simp only [vC] at *
    go_enter Tryz.func54, Tryz.ntmps54
    go_wp2_with fail
    refine (HOK.out _).mono ?_
    rintro e w1 ⟨rfl, hb1⟩
    have HB := Lib.hid (HAL.out.trans (hb1.mono (by omega)))
    clear hb1
    go_wp2
    go_ret2
    exact ToldN.nil HB.out
theorem rkids_any (r : Int) (z : E2) (w : World) : Calls Tryz.prog 54 #[vC r z] w (ToldC w (kdL r z) (kdE r z)) :=
  (rkids_new r z w).mono fun _ _ ⟨ao, c, h1, h2, h3, _⟩ => ⟨ao, c, h1, h2, h3⟩
end Go.Proofs.YtdbfimdcaacjhaaGreat
/- Words of cells that may be; children of cells that may be (for seats without package near). Plain, but for the names. -/
namespace Go.Proofs.YtdbfimdcaacjhaaGreat
open Go.RowKit Go.Lib Wd

theorem ofW_ok {r : Nat} {z : E2} (h : okB r z = true) : ofW r z = wordN r z ∧ ofE r z = 0 ∧ ofW r z < 18446744073709551616 := by
  unfold ofW ofE
  rw [if_pos h, if_pos h]
  have := wordN_lt h
  exact ⟨rfl, rfl, by show wordN r z < _; omega⟩
theorem ofW_inj {r : Nat} {y z : E2} (hy : okB r y = true) (hz : okB r z = true) : ofW r y = ofW r z ↔ y = z := by
  constructor
  · intro h
    rw [(ofW_ok hy).1, (ofW_ok hz).1] at h
    exact (word_inj hy hz h).2
  · rintro rfl; rfl
theorem kid_ok {r : Nat} {z : E2} (h : okB r z = true) (hr : r + 1 ≤ 12) {d : Nat} (hd : d < 7) : okB (r + 1 : Nat) (downE z d) = true := by
  refine ok_of_base hr ?_
  have e : upN (r + 1) (downE z d) = upN r z := by
    show upN r (upE (downE z d)) = _
    rw [upE_down z hd]
  rw [e]
  exact (okB_parts h).2
theorem cv_ok {r : Nat} {z : E2} (h : okB r z = true) : cvR (ofW r z) = r ∧ cvZ (ofW r z) = z ∧ cvE (ofW r z) = 0 := by
  obtain ⟨a1, a2, a3⟩ := word_cell h
  rw [(ofW_ok h).1]
  unfold cvR cvZ cvE
  rw [if_pos a1, if_pos a1, if_pos a1, a2, a3]
  exact ⟨rfl, rfl, rfl⟩
theorem kd_ok {r : Nat} {z : E2} (h : okB r z = true) (hr : r + 1 ≤ 12) : kdE r z = 0 ∧ kdL r z = kidsL r z := by
  have hE : kdE r z = 0 := by unfold kdE; rw [if_pos h, if_neg (by omega)]
  exact ⟨hE, by unfold kdL; rw [if_pos hE]⟩
/-- A list of words, one more. -/
theorem take_w (V : List Int) {k : Nat} (h : k < V.length) : V.take (k + 1) = V.take k ++ [V.getD k 0] := by
  rw [List.take_add_one, List.getElem?_eq_getElem h, List.getD_eq_getElem?_getD, List.getElem?_eq_getElem h]
  rfl
theorem rem12 (r : Int) : (-12 < r.tmod 12 ∧ r.tmod 12 < 12) ∧ (r.tmod 12 + 12).tmod 12 = r % 12 := by
  have h : (-12 < r.tmod 12 ∧ r.tmod 12 < 12) ∧ (r.tmod 12 + 12) % 12 = r % 12 := by
    rcases Int.lt_or_le r 0 with h | h
    · have e : r.tmod 12 = -((-r) % 12) := by rw [← Int.tmod_eq_emod_of_nonneg (show 0 ≤ -r by omega), Int.neg_tmod, Int.neg_neg]
      omega
    · rw [Int.tmod_eq_emod_of_nonneg h]; omega
  refine ⟨h.1, ?_⟩
  rw [Int.tmod_eq_emod_of_nonneg (by omega)]
  exact h.2
theorem andNot_even (y : Int) : bits .andNot .i64 y 1 % 2 = 0 := by
  show IntKind.i64.wrap ((BitVec.ofInt 64 y &&& ~~~BitVec.ofInt 64 1).toNat : Int) % 2 = 0
  have h : (BitVec.ofInt 64 y &&& ~~~BitVec.ofInt 64 1).toNat % 2 = 0 := by
    rw [BitVec.toNat_and]
    have := Nat.and_mod_two_pow (a := (BitVec.ofInt 64 y).toNat) (b := (~~~BitVec.ofInt 64 1).toNat) (n := 1)
    rw [Nat.pow_one] at this
    rw [this, show (~~~BitVec.ofInt 64 1 : BitVec 64).toNat % 2 = 0 by decide, Nat.and_zero]
  rw [IntKind.wrap_i64]
  omega
end Go.Proofs.YtdbfimdcaacjhaaGreat
/- Contracts of apiarylaw4.Some and apiarylaw5.Word at any numbers. -/
namespace Go.Proofs.YtdbfimdcaacjhaaGreat
open Go.RowKit Go.Lib Wd

/-- The digits that a number tells; the base cell. -/
def digS (y : Int) (i : Nat) : Nat := (y / 2 ^ (3 * i + 1) % 64 % 7).toNat
def baseS (x : Int) : E2 := (x % 1024 - 512, x / 1024 % 1024 - 512)
def downS (y : Int) (b : E2) : Nat → E2
  | 0 => b
  | i + 1 => downE (downS y b i) (digS y i)
def someE (x y : Int) (r : Nat) : E2 := if y % 2 = 0 then nearE (x % 1073741824) (y % 1073741824) r else downS y (baseS x) r
theorem digS_lt (y : Int) (i : Nat) : digS y i < 7 := by unfold digS; omega
theorem downS_ok (y x : Int) : ∀ i : Nat, i ≤ 12 → okB i (downS y (baseS x) i) = true
  | 0, _ => by
    refine ok_of_base (r := 0) (by omega) ?_
    show baseB (baseS x) = true
    rw [baseB_iff]
    unfold baseS
    simp only
    omega
  | i + 1, h => kid_ok (downS_ok y x i (by omega)) h (digS_lt y i)
theorem some_ok (x y : Int) {r : Nat} (hr : r ≤ 12) : okB r (someE x y r) = true := by
  unfold someE
  split
  · exact near_ok0 (by omega) (by omega) hr
  · exact downS_ok y x r hr
set_option maxRecDepth 100000 in
set_option maxHeartbeats 4000000 in
theorem some_any (x y r : Int) (w : World) : Calls Tryz.prog 19 #[.int .i64 x, .int .i64 y, .int .i64 r] w fun e w' => e = .returned (vC (r % 13) (someE x y (r % 13).toNat)) ∧ Below w.heap.size w w' := by
  by_cases hy : y % 2 = 0
  · have h := some_even x y r hy w
    rw [show nearE (x % 1073741824) (y % 1073741824) (r % 13).toNat = someE x y (r % 13).toNat by unfold someE; rw [if_pos hy]] at h
    exact h
  · have hE : someE x y (r % 13).toNat = downS y (baseS x) (r % 13).toNat := by unfold someE; rw [if_neg hy]
    have e1 : bits BinOp.and IntKind.i64 y 1 = 1 := by rw [i64_and_mask y 1 (by omega) 1 rfl]; omega
    have e2 : bits BinOp.and IntKind.i64 x 1023 = x % 1024 := i64_and_mask x 10 (by omega) 1023 rfl
    have e3 : bits BinOp.and IntKind.i64 (x / 1024) 1023 = x / 1024 % 1024 := i64_and_mask (x / 1024) 10 (by omega) 1023 rfl
    obtain ⟨hr2, hr1⟩ := rem13 r
    have hR : r % 13 = ((r % 13).toNat : Int) := by omega
    have hR2 : (r % 13).toNat ≤ 12 := by omega
    rw [hE]
    generalize (r % 13).toNat = R at *
    rw [hR] at hr1 ⊢
    obtain ⟨s, hs⟩ : ∃ s, r.tmod 13 = s := ⟨_, rfl⟩
    rw [hs] at hr1 hr2
    obtain ⟨hr3, hr4⟩ := hr2
    have HKI : Hid (∀ i : Nat, i < 12 → ∀ w, Calls Tryz.prog 54 #[vC i (downS y (baseS x) i)] w (ToldC w (kidsL i (downS y (baseS x) i)) 0)) := fun i hi w => by
      have h := rkids_any i (downS y (baseS x) i) w
      obtain ⟨d1, d2⟩ := kd_ok (downS_ok y x i (by omega)) (by omega)
      rw [d1, d2] at h
      exact h
    have HGT : Hid (∀ i : Nat, cg (kidsL i (downS y (baseS x) i)) (digS y i) = (((i + 1 : Nat) : Int), downS y (baseS x) (i + 1))) := fun i => by rw [kidsL_get _ _ (digS_lt y i)]; rfl
    have HLN : Hid (∀ (i : Nat) z, (kidsL i z).length = 7) := fun i z => by unfold kidsL; simp
    have HDG : Hid (∀ i : Nat, i < 12 → bits BinOp.and IntKind.i64 (y / 2 ^ (3 * i + 1)) 63 = y / 2 ^ (3 * i + 1) % 64 ∧ (y / 2 ^ (3 * i + 1) % 64).tmod 7 = (digS y i : Int) ∧ digS y i < 7) := fun i _ => by
      refine ⟨i64_and_mask _ 6 (by omega) 63 rfl, ?_, digS_lt y i⟩
      rw [Int.tmod_eq_emod_of_nonneg (Int.emod_nonneg _ (by omega))]
      unfold digS
      omega
    have HD0 : Hid (downS y (baseS x) 0 = (x % 1024 - 512, x / 1024 % 1024 - 512)) := rfl
    obtain ⟨S, hS⟩ : ∃ S, downS y (baseS x) = S := ⟨_, rfl⟩
    rw [hS] at HKI HGT HD0 ⊢
    clear hR hy hE hS
    have m1 : x % 1024 < 1024 := Int.emod_lt_of_pos _ (by omega)
    have m2 : x / 1024 % 1024 < 1024 := Int.emod_lt_of_pos _ (by omega)
    have m3 : 0 ≤ x % 1024 := Int.emod_nonneg _ (by omega)
    have m4 : 0 ≤ x / 1024 % 1024 := Int.emod_nonneg _ (by omega)
    generalize x / 1024 % 1024 = b at *
    generalize x % 1024 = a at *
    simp only [vC] at *
    go_enter Tryz.func19, Tryz.ntmps19
    have k2 : ((w.alloc (.cells #[.int .i64 0, .int .i64 0, .int .i64 0] 27)).alloc (.cells #[.int .i64 0, .int .i64 (a - 512), .int .i64 (b - 512)] 27)).heap.size = w.heap.size + 2 := by simp
    have T0 : Hid (Tri ((w.alloc (.cells #[.int .i64 0, .int .i64 0, .int .i64 0] 27)).alloc (.cells #[.int .i64 0, .int .i64 (a - 512), .int .i64 (b - 512)] 27)) w.heap.size 0 (0, 0)) := by
      show _ = _
      rw [Below.heap_alloc _ _ _ (by simp)]
      exact heap_new _ _ _ rfl
    have C0 : Hid (Tri ((w.alloc (.cells #[.int .i64 0, .int .i64 0, .int .i64 0] 27)).alloc (.cells #[.int .i64 0, .int .i64 (a - 512), .int .i64 (b - 512)] 27)) (w.heap.size + 1) 0 (S 0)) := by rw [HD0.out]; exact heap_new _ _ _ (by simp)
    have HB0 : Hid (Below w.heap.size w ((w.alloc (.cells #[.int .i64 0, .int .i64 0, .int .i64 0] 27)).alloc (.cells #[.int .i64 0, .int .i64 (a - 512), .int .i64 (b - 512)] 27))) := ((Below.refl _ _).alloc (Nat.le_refl _) _).alloc (by simp) _
    go_upto_region 7 with (fail)
    generalize (w.alloc (.cells #[.int .i64 0, .int .i64 0, .int .i64 0] 27)).alloc (.cells #[.int .i64 0, .int .i64 (a - 512), .int .i64 (b - 512)] 27) = w2 at *
    have k3 : w.heap.size + 2 ≤ w2.heap.size := by omega
    clear k2 e2 e3 m1 m2 m3 m4 HD0
    go_wp2
    go_loopw [10] (fun i wr => ∃ k : Nat, k ≤ R ∧ i = .int .i64 k ∧ Hid (Tri wr (w.heap.size + 1) k (S k) ∧ Turn (fun q => q = w.heap.size + 1) w2 wr)) (fun i _ => R - (intOf i).toNat)
    case atStart => exact ⟨0, by omega, rfl, C0.out, Turn.refl _ _⟩
    case round =>
      obtain ⟨k, hk, rfl, HI⟩ := hrel
      have hTri := HI.out.1
      have hturn := HI.out.2
      have hsz := hturn.2.2.2.1
      have HT := Lib.hid (T0.out.turn hturn (by omega))
      have HBR : Hid (Below w.heap.size w wr) := HB0.out.trans (hturn.below (by omega) fun q hq e => by omega)
      have HTU := Lib.hid hturn
      have HTR := Lib.hid hTri
      clear hTri hturn HI
      by_cases hlt : k < R
      · have HK := Lib.hid (HKI.out k (by omega))
        obtain ⟨g1, g2, g3⟩ := HDG.out k (by omega)
        have HG := Lib.hid (HGT.out k)
        have HL7 := Lib.hid (HLN.out k (S k))
        generalize kidsL (k : Int) (S k) = L at *
        generalize digS y k = d at *
        generalize S k = z at *
        obtain ⟨z2, hz2⟩ : ∃ z2, S (k + 1) = z2 := ⟨_, rfl⟩
        rw [hz2] at HG
        have HZ2 := Lib.hid hz2
        clear hz2
        obtain ⟨c0, c1, c2, c3, c4, c5, c6⟩ := HTR.out.cells
        go_wp2_with fail
        refine (HK.out _).mono ?_
        rintro e w4 ⟨ao, c, rfl, h4, hb4⟩
        have HTR2 := Lib.hid (HTR.out.later hb4)
        have HTU2 : Hid (Turn (fun q => q = w.heap.size + 1) w2 w4) := HTU.out.trans (Turn.of_below hb4) fun _ _ h => h
        obtain ⟨g, off, rfl, hg, hc⟩ := h4 (by rw [HL7.out]; omega)
        obtain ⟨v0, v1, v2⟩ := hc d (by rw [HL7.out]; exact g3)
        rw [HG.out] at v0 v1 v2
        simp only at v0 v1 v2
        rw [HL7.out]
        clear c0 c1 c2 c3 c4 c5 c6 hb4 h4 hc HTR HTU HT HBR
        obtain ⟨c0, c1, c2, c3, c4, c5, c6⟩ := HTR2.out.cells
        have hput := HTR2.out.put ((k + 1 : Nat) : Int) z2
        have HF : Hid (Tri (((w4.setCell ⟨w.heap.size + 1, 0, none⟩ (.int .i64 ((k + 1 : Nat) : Int))).setCell ⟨w.heap.size + 1, 1, none⟩ (.int .i64 z2.1)).setCell ⟨w.heap.size + 1, 2, none⟩ (.int .i64 z2.2)) (w.heap.size + 1) ((k + 1 : Nat) : Int) (S (k + 1)) ∧ Turn (fun q => q = w.heap.size + 1) w2 (((w4.setCell ⟨w.heap.size + 1, 0, none⟩ (.int .i64 ((k + 1 : Nat) : Int))).setCell ⟨w.heap.size + 1, 1, none⟩ (.int .i64 z2.1)).setCell ⟨w.heap.size + 1, 2, none⟩ (.int .i64 z2.2))) := ⟨by rw [HZ2.out]; exact hput.1, (HTU2.out).trans hput.2 fun _ _ h => h⟩
        clear hput
        go_wp2
        go_roundw
        case rel => exact ⟨k + 1, by omega, by go_num, HF.out⟩
        case measure => simp [intOf]; omega
      · obtain rfl : k = R := by omega
        obtain ⟨c0, c1, c2, c3, c4, c5, c6⟩ := HTR.out.cells
        obtain ⟨t0, t1, t2, t3, t4, t5, t6⟩ := HT.out.cells
        clear HTR HT HGT HKI HDG
        go_wp2
        exact bodyPost_ret (v := .agg #[.int .i64 k, .int .i64 (S k).1, .int .i64 (S k).2]) (by simp [results, Tryz.results19, go_sem, *]) rfl ⟨rfl, ((HBR.out.setCell (p := ⟨w.heap.size, 0, none⟩) (Nat.le_refl _) _).setCell (p := ⟨w.heap.size, 1, none⟩) (Nat.le_refl _) _).setCell (p := ⟨w.heap.size, 2, none⟩) (Nat.le_refl _) _⟩
end Go.Proofs.YtdbfimdcaacjhaaGreat
