/- Joined: PdD, NcR, NcC, PdE, PkP, PkQ, PkR, PcA, PdF: contracts and plain laws, each with its own heading below. -/
import Derived.Test.YtkjfdaleamonaaaGreatPackAF
import Derived.Maps.AppendAt
import Derived.Deep.RegionLaw
import Derived.Deep.AppendLies
import Derived.Test.YtkjfdaleamonaaaGreatPackAC
/- Contracts of cell.child, cell.Children, cell.climb. -/
namespace Go.Proofs.YtkjfdaleamonaaaGreat
open Go.RowKit Go.Lib Wd

theorem mul21 (z : E2) (hz : Sm 1073741824 z) (w : World) : Calls Tryz.prog 99 #[.agg #[.int .i64 z.1, .int .i64 z.2], .agg #[.int .i64 2, .int .i64 1]] w fun e w' => e = .returned (.tuple #[.agg #[.int .i64 (mulE z (2, 1)).1, .int .i64 (mulE z (2, 1)).2], .bool true]) ∧ Below w.heap.size w w' := by
  obtain ⟨h1, h2, h3, h4⟩ := hz
  exact mul_in z.1 z.2 2 1 (by omega) (by omega) (by decide) (by decide) (by omega) (by omega) w
/-- Three new blocks: a cell and a number that are handed in, a cell that is to be told. -/
theorem three_new (w : World) (r : Int) (z l : E2) :
    Hid (Tri (((w.alloc (.cells #[.int .i64 r, .int .i64 z.1, .int .i64 z.2] 32)).alloc (.cells #[.int .i64 l.1, .int .i64 l.2] 30)).alloc (.cells #[.int .i64 0, .int .i64 0, .int .i64 0] 32)) w.heap.size r z) ∧
    Hid (Two (((w.alloc (.cells #[.int .i64 r, .int .i64 z.1, .int .i64 z.2] 32)).alloc (.cells #[.int .i64 l.1, .int .i64 l.2] 30)).alloc (.cells #[.int .i64 0, .int .i64 0, .int .i64 0] 32)) (w.heap.size + 1) (.int .i64 l.1) (.int .i64 l.2)) ∧
    Hid (Tri (((w.alloc (.cells #[.int .i64 r, .int .i64 z.1, .int .i64 z.2] 32)).alloc (.cells #[.int .i64 l.1, .int .i64 l.2] 30)).alloc (.cells #[.int .i64 0, .int .i64 0, .int .i64 0] 32)) (w.heap.size + 1 + 1) 0 (0, 0)) ∧
    Hid (Below w.heap.size w (((w.alloc (.cells #[.int .i64 r, .int .i64 z.1, .int .i64 z.2] 32)).alloc (.cells #[.int .i64 l.1, .int .i64 l.2] 30)).alloc (.cells #[.int .i64 0, .int .i64 0, .int .i64 0] 32))) := by
  have e0 : Tri (w.alloc (.cells #[.int .i64 r, .int .i64 z.1, .int .i64 z.2] 32)) w.heap.size r z := heap_new _ _ _ rfl
  have e1 : Two ((w.alloc (.cells #[.int .i64 r, .int .i64 z.1, .int .i64 z.2] 32)).alloc (.cells #[.int .i64 l.1, .int .i64 l.2] 30)) (w.heap.size + 1) (.int .i64 l.1) (.int .i64 l.2) := Two.of_row (t := 30) (f := _) (heap_new _ _ _ (by simp))
  refine ⟨(e0.later ((Below.refl _ _).alloc (Nat.le_refl _) _)).later ((Below.refl _ _).alloc (Nat.le_refl _) _), e1.later (by simp) ((Below.refl _ _).alloc (Nat.le_refl _) _), heap_new _ _ _ (by simp), (((Below.refl _ w).alloc (Nat.le_refl _) _).alloc (by simp) _).alloc (by simp; omega) _⟩
set_option maxRecDepth 100000 in
set_option maxHeartbeats 4000000 in
theorem child_in (r : Int) (z l : E2) (hz : Sm 1073741824 z) (hl : Sm 1 l) (h0 : 0 ≤ r) (h12 : r ≤ 12) (w : World) : Calls Tryz.prog 86 #[vC r z, vE l] w fun e w' => e = .returned (vC (r + 1) (addE (mulE z (2, 1)) l)) ∧ Below w.heap.size w w' := by
  have HM := Lib.hid (mul21 z hz)
  have hm : Sm 4294967296 (mulE z (2, 1)) := by unfold Sm mulE at *; simp only; omega
  have HA := Lib.hid (add_in (mulE z (2, 1)) l (hm.mono (by decide)) (hl.mono (by decide)))
  generalize mulE z (2, 1) = m at *
  generalize addE m l = p at *
  obtain ⟨T0, L0, G0, B0⟩ := three_new w r z l
  simp only [vC, vE] at *
  clear hz hl hm
  go_enter Tryz.func86, Tryz.ntmps86
  go_upto_region 1 with (fail)
  generalize ((w.alloc (.cells #[.int .i64 r, .int .i64 z.1, .int .i64 z.2] 32)).alloc (.cells #[.int .i64 l.1, .int .i64 l.2] 30)).alloc (.cells #[.int .i64 0, .int .i64 0, .int .i64 0] 32) = w0 at *
  obtain ⟨t0, t1, t2, t3, t4, t5, t6⟩ := T0.out.cells
  have lb := G0.out.lt
  go_wp2_with fail
  refine (HM.out _).mono ?_
  rintro e w1 ⟨rfl, hb1⟩
  have hal : Below w1.heap.size w1 (w1.alloc (.cells #[.int .i64 m.1, .int .i64 m.2] 30)) := (Below.refl _ _).alloc (Nat.le_refl _) _
  have hb2 := hb1.trans (hal.mono hb1.size)
  have M1 : Hid (Two (w1.alloc (.cells #[.int .i64 m.1, .int .i64 m.2] 30)) w1.heap.size (.int .i64 m.1) (.int .i64 m.2)) := Two.of_row (t := 30) (f := _) (heap_new _ _ _ rfl)
  have T1 := Lib.hid (T0.out.later hb2)
  have L1 := Lib.hid (L0.out.later (by omega) hb2)
  have G1 := Lib.hid (G0.out.later hb2)
  have B1 := Lib.hid (B0.out.trans (hb2.mono B0.out.size))
  have lm : w1.heap.size < (w1.alloc (.cells #[.int .i64 m.1, .int .i64 m.2] 30)).heap.size := by simp
  clear hb1 hal hb2 t0 t1 t2 t3 t4 t5 t6 T0 L0 G0 B0 lb
  go_upto_region 2 with (fail)
  generalize w1.alloc (.cells #[.int .i64 m.1, .int .i64 m.2] 30) = w2 at *
  obtain ⟨t0, t1, t2, t3, t4, t5, t6⟩ := T1.out.cells
  obtain ⟨k0, k1⟩ := L1.out
  obtain ⟨m0, m1⟩ := M1.out
  have lb := G1.out.lt
  go_wp2_with fail
  refine (HA.out _).mono ?_
  rintro e w3 ⟨rfl, hb3⟩
  have hal : Below w3.heap.size w3 (w3.alloc (.cells #[.int .i64 p.1, .int .i64 p.2] 30)) := (Below.refl _ _).alloc (Nat.le_refl _) _
  have hb4 := hb3.trans (hal.mono hb3.size)
  have P1 : Hid (Two (w3.alloc (.cells #[.int .i64 p.1, .int .i64 p.2] 30)) w3.heap.size (.int .i64 p.1) (.int .i64 p.2)) := Two.of_row (t := 30) (f := _) (heap_new _ _ _ rfl)
  have T2 := Lib.hid (T1.out.later hb4)
  have G2 := Lib.hid (G1.out.later hb4)
  have B2 := Lib.hid (B1.out.trans (hb4.mono B1.out.size))
  clear hb3 hal hb4 t0 t1 t2 t3 t4 t5 t6 T1 L1 G1 B1 k0 k1 m0 m1 M1 lb
  go_upto_region 3 with (fail)
  generalize w3.alloc (.cells #[.int .i64 p.1, .int .i64 p.2] 30) = w4 at *
  obtain ⟨t0, t1, t2, t3, t4, t5, t6⟩ := T2.out.cells
  obtain ⟨g0, g1, g2, g3, g4, g5, g6⟩ := G2.out.cells
  obtain ⟨p0, p1⟩ := P1.out
  have q : IntKind.i64.wrap (r + 1) = r + 1 := wrap_in (by omega) (by omega)
  go_wp2
  exact bodyPost_ret (v := .agg #[.int .i64 (r + 1), .int .i64 p.1, .int .i64 p.2]) (by simp [results, Tryz.results86, go_sem, *]) rfl ⟨rfl, below3 B2.out (by omega) _ _ _⟩
set_option maxRecDepth 100000 in
set_option maxHeartbeats 4000000 in
theorem ckids_any (r : Int) (z : E2) (w : World) : Calls Tryz.prog 52 #[vC r z] w (ToldC w (kdL r z) (kdE r z)) := by
  obtain ⟨i1, hj, hy0, hy1, hy2⟩ := info_parts info_c
  have HOK := Lib.hid (ok_any r z)
  have HAL : Hid (Below w.heap.size w (w.alloc (.cells #[.int .i64 r, .int .i64 z.1, .int .i64 z.2] 32))) := (Below.refl _ _).alloc (Nat.le_refl _) _
  have HTR : Hid (Tri (w.alloc (.cells #[.int .i64 r, .int .i64 z.1, .int .i64 z.2] 32)) w.heap.size r z) := heap_new _ _ _ rfl
  have kA : (w.alloc (.cells #[.int .i64 r, .int .i64 z.1, .int .i64 z.2] 32)).heap.size = w.heap.size + 1 := by simp
  by_cases h : okB r z = true
  · obtain ⟨r0, r12, hsm⟩ := ok_parts h
    rw [h] at HOK
    by_cases hr : r = 12
    · subst hr
      have hE : kdE 12 z = 1 := by unfold kdE; rw [if_pos h, if_pos rfl]
      have hL : kdL 12 z = [] := by unfold kdL; rw [hE]; rfl
      rw [hE, hL]
      clear hE hL h hsm r0 r12
      simp only [vC] at *
      go_enter Tryz.func52, Tryz.ntmps52
      go_upto_region 1 with (fail)
      generalize w.alloc (.cells #[.int .i64 12, .int .i64 z.1, .int .i64 z.2] 32) = w0 at *
      obtain ⟨c0, c1, c2, c3, c4, c5, c6⟩ := HTR.out.cells
      go_wp2_with fail
      refine (HOK.out _).mono ?_
      rintro e w1 ⟨rfl, hb1⟩
      obtain ⟨c0, c1, c2, c3, c4, c5, c6⟩ := (HTR.out.later hb1).cells
      have HB := Lib.hid (HAL.out.trans (hb1.mono (by omega)))
      clear hb1
      go_wp2
      go_ret2
      exact ⟨none, 0, rfl, fun h => by simp at h, HB.out⟩
    · have hE : kdE r z = 0 := by unfold kdE; rw [if_pos h, if_neg hr]
      have hL : kdL r z = kidsL r z := by unfold kdL; rw [if_pos hE]
      have q1 : (r == 12) = false := by simp [hr]
      have HCH : Hid (∀ l, Sm 1 l → ∀ w, Calls Tryz.prog 86 #[vC r z, vE l] w fun e w' => e = .returned (vC (r + 1) (addE (mulE z (2, 1)) l)) ∧ Below w.heap.size w w') := fun l hl w => child_in r z l hsm hl r0 r12 w
      rw [hE, hL]
      have HTK := Lib.hid (fun k (h : k < 7) => kidsL_take r z h)
      have HLN : Hid ((kidsL r z).length = 7) := by show _ = _; unfold kidsL; simp
      have HDN : Hid (∀ k, downE z k = addE (mulE z (2, 1)) (leftE k)) := fun k => rfl
      have HT1 : Hid ((kidsL r z).take 1 = [(r + 1, downE z 0)]) := rfl
      generalize kidsL r z = L at *
      generalize mulE z (2, 1) = m at *
      clear hE hL h hsm hr
      simp only [vC, vE] at *
      go_enter Tryz.func52, Tryz.ntmps52
      go_upto_region 1 with (fail)
      generalize w.alloc (.cells #[.int .i64 r, .int .i64 z.1, .int .i64 z.2] 32) = w0 at *
      obtain ⟨c0, c1, c2, c3, c4, c5, c6⟩ := HTR.out.cells
      go_wp2_with fail
      refine (HOK.out _).mono ?_
      rintro e w1 ⟨rfl, hb1⟩
      have HTR1 := Lib.hid (HTR.out.later hb1)
      have HB1 := Lib.hid (HAL.out.trans (hb1.mono (by omega)))
      have hz1 := hb1.size
      clear hb1 HTR HAL c0 c1 c2 c3 c4 c5 c6
      obtain ⟨c0, c1, c2, c3, c4, c5, c6⟩ := HTR1.out.cells
      have HC0 := Lib.hid (HCH.out (0, 0) (by unfold Sm; simp))
      have HP0 : Hid (downE z 0 = addE m (0, 0)) := HDN.out 0
      generalize addE m (0, 0) = p0 at *
      go_wp2_with fail
      refine (HC0.out _).mono ?_
      rintro e w2 ⟨rfl, hb2⟩
      have HTR2 := Lib.hid (HTR1.out.later hb2)
      have HB2 := Lib.hid (HB1.out.trans (hb2.mono (by omega)))
      have hz2 := hb2.size
      clear hb2 HTR1 HB1 c0 c1 c2 c3 c4 c5 c6
      have HO0 : Hid ((w2.alloc (.cells #[.int .i64 (r + 1), .int .i64 p0.1, .int .i64 p0.2] 32)).ownsRow w2.heap.size 32 3 (.slice (some ⟨w2.heap.size, 0, none⟩) 1 1) 1 (cV (L.take 1))) := by rw [HT1.out, HP0.out]; exact World.ownsRow_lit (size := 3) (e := 32) w2 #[.int .i64 (r + 1), .int .i64 p0.1, .int .i64 p0.2] 1 (Nat.le_refl _) (by decide) rfl
      have HB4 : Hid (Below w2.heap.size w2 (w2.alloc (.cells #[.int .i64 (r + 1), .int .i64 p0.1, .int .i64 p0.2] 32))) := (Below.refl _ _).alloc (Nat.le_refl _) _
      go_upto_region 6 with (fail)
      generalize w2.alloc (.cells #[.int .i64 (r + 1), .int .i64 p0.1, .int .i64 p0.2] 32) = w4 at *
      have hb4 := HB4.out.size
      go_wp2
      go_loopw [4, 5, 18] (fun sl _ i wr => ∃ (k : Nat) (ao : Option Addr) (c : Nat), k ≤ 6 ∧ i = .int .i64 k ∧ sl = .slice ao (k + 1) c ∧ Hid (wr.ownsRow w2.heap.size 32 3 (.slice ao (k + 1) c) (k + 1) (cV (L.take (k + 1))) ∧ Below w2.heap.size w2 wr)) (fun _ _ i _ => 6 - (intOf i).toNat)
      case atStart => exact ⟨0, _, _, by omega, rfl, rfl, HO0.out, HB4.out⟩
      case round =>
        obtain ⟨k, ao, c, hk, rfl, rfl, HI⟩ := hrel
        by_cases hlt : k < 6
        · have q2 : decide ((k : Int) < 6) = true := decide_eq_true (by omega)
          have HUN := Lib.hid (unit_in k hlt)
          have HTK2 := Lib.hid (HTK.out (k + 1) (by omega))
          have HLE : Hid (leftE (k + 1) = unitE k) := rfl
          have hu := left_sm (k + 1)
          rw [HLE.out] at hu
          have HC1 := Lib.hid (HCH.out (unitE k) (hu.mono (by decide)))
          have HD1 : Hid (downE z (k + 1) = addE m (unitE k)) := by rw [← HLE.out]; exact HDN.out (k + 1)
          simp only [vE] at HUN
          generalize unitE k = u at *
          generalize addE m u = p at *
          have hsr := HI.out.2.size
          have HTX := Lib.hid ((HTR2.out.later (HI.out.2)).later (Below.refl _ _).drew)
          have HOW := Lib.hid (own_later HI.out.1 (Below.refl _ _).drew)
          have HBX := Lib.hid HI.out.2.drew
          obtain ⟨c0, c1, c2, c3, c4, c5, c6⟩ := HTX.out.cells
          clear HI hu
          go_upto_region 9 with (fail)
          go_region_law (first
            | (refine step_append_lies _ rfl (.tmp 21) (.tmp 26) 35 rfl w2.heap.size 32 i1 (.agg #[.int .i64 0, .int .i64 0, .int .i64 0]) 3 24 Tryz.underlying35 hj hy0 hy1 hy2 rfl (by decide) (.slice ao (k + 1) c) (k + 1) (cV (L.take (k + 1))) (by simp [Act.eval]) (hO6.alloc _) ⟨w6.heap.size, 0, none⟩ 1 1 [.int .i64 (r + 1), .int .i64 p.1, .int .i64 p.2] (by simp [Act.eval]) rfl (cells_new _ _ _ _ rfl) (by simp [Value.oneCell']) (by decide) (by unfold maxLen; omega) (by omega) hbs _ rfl ?_; intro xg xcap w7 hown1 hgrow hat hxl)
            | (go_simp; go_at_call 87; refine (HUN.out _).mono ?_; rintro e w5 ⟨rfl, hb5⟩; have hO5 := own_later HOW.out hb5; have HT5 := HTX.out.later hb5; obtain ⟨d0, d1, d2, d3, d4, d5, d6⟩ := HT5.cells)
            | (go_simp; go_at_call 86; refine (HC1.out _).mono ?_; rintro e w6 ⟨rfl, hb6⟩; have hO6 := own_later hO5 hb6; have HB6 := Lib.hid (HBX.out.trans ((hb5.trans (hb6.mono hb5.size)).mono HBX.out.size)); have hbs : w2.heap.size ≤ (w6.alloc (.cells #[.int .i64 (r + 1), .int .i64 p.1, .int .i64 p.2] 32)).heap.size := by rw [World.size_alloc]; exact Nat.le_succ_of_le HB6.out.size))
          all_goals
            have HB7 := Lib.hid (below_append (HB6.out.alloc HB6.out.size (.cells #[.int .i64 (r + 1), .int .i64 p.1, .int .i64 p.2] 32)) (hO6.alloc (.cells #[.int .i64 (r + 1), .int .i64 p.1, .int .i64 p.2] 32)) hbs hgrow)
            have HO7 : Hid (w7.ownsRow w2.heap.size 32 3 (.slice (some ⟨xg, 0, none⟩) (k + 1 + 1) xcap) (k + 1 + 1) (cV (L.take (k + 1 + 1)))) := by rw [HTK2.out, HD1.out, cV_append]; exact hown1
            clear hown1 hgrow hat hxl hO6 hO5 HB6 hbs hb5 hb6 HT5 d0 d1 d2 d3 d4 d5 d6 c0 c1 c2 c3 c4 c5 c6
            go_wp2
            go_roundw
            case rel => exact ⟨k + 1, _, xcap, by omega, by go_num, rfl, HO7.out, HB7.out⟩
            case measure => simp [intOf]; omega
        · obtain rfl : k = 6 := by omega
          have HF : Hid (ToldC w L 0 (.returned (.tuple #[.slice ao 7 c, .int .i64 0])) wr) := by
            have h1 := HI.out.1
            rw [show L.take (6 + 1) = L from List.take_of_length_le (by rw [HLN.out]; exact Nat.le_refl _)] at h1
            exact ⟨ao, c, by rw [HLN.out], cAt_own (by rw [HLN.out]) h1, HB2.out.trans (HI.out.2.mono (by omega))⟩
          clear HI
          go_wp2
          go_ret2
          exact HF.out
  · have hE : kdE r z = 2 := by unfold kdE; rw [if_neg h]
    have hL : kdL r z = [] := by unfold kdL; rw [hE]; rfl
    rw [hE, hL]
    rw [Bool.eq_false_iff.2 h] at HOK
    clear hE hL h
    simp only [vC] at *
    go_enter Tryz.func52, Tryz.ntmps52
    go_upto_region 1 with (fail)
    generalize w.alloc (.cells #[.int .i64 r, .int .i64 z.1, .int .i64 z.2] 32) = w0 at *
    obtain ⟨c0, c1, c2, c3, c4, c5, c6⟩ := HTR.out.cells
    go_wp2_with fail
    refine (HOK.out _).mono ?_
    rintro e w1 ⟨rfl, hb1⟩
    have HB := Lib.hid (HAL.out.trans (hb1.mono (by omega)))
    clear hb1
    go_wp2
    go_ret2
    exact ⟨none, 0, rfl, fun h => by simp at h, HB.out⟩
end Go.Proofs.YtkjfdaleamonaaaGreat
/- Plain laws: the words of a cell's children; all children of some cells, by their parents. -/
namespace Go.Proofs.YtkjfdaleamonaaaGreat
open Go.RowKit Go.Lib Wd

theorem hd_sevens {f : Nat → Nat} {r : Nat} (h : ∀ k, r < k → f k = 7) (j : Nat) : hd f (r + j) + 1 = 8 ^ j * (hd f r + 1) := by
  induction j with
  | zero => simp
  | succ j ih =>
    show hd f (r + j) * 8 + f (r + j + 1) + 1 = _
    rw [h _ (by omega), Nat.pow_succ, Nat.mul_comm (8 ^ j) 8, Nat.mul_assoc, ← ih]
    omega
theorem hd_one {f g : Nat → Nat} {m : Nat} (h : ∀ k, k ≠ m + 1 → f k = g k) (j : Nat) : hd f (m + 1 + j) + g (m + 1) * 8 ^ j = hd g (m + 1 + j) + f (m + 1) * 8 ^ j := by
  induction j with
  | zero =>
    show hd f m * 8 + f (m + 1) + g (m + 1) * 8 ^ 0 = hd g m * 8 + g (m + 1) + f (m + 1) * 8 ^ 0
    have : hd f m = hd g m := hd_congr fun k _ hk => h k (by omega)
    rw [this]
    omega
  | succ j ih =>
    show hd f (m + 1 + j) * 8 + f (m + 1 + j + 1) + g (m + 1) * 8 ^ (j + 1) = hd g (m + 1 + j) * 8 + g (m + 1 + j + 1) + f (m + 1) * 8 ^ (j + 1)
    rw [h (m + 1 + j + 1) (by omega), Nat.pow_succ, ← Nat.mul_assoc, ← Nat.mul_assoc]
    omega
/-- A child's word. -/
theorem word_kid {r : Nat} {z : E2} (hr : r + 1 ≤ 12) {d : Nat} (hd' : d < 7) : wordN (r + 1) (downE z d) + (7 - d) * 8 ^ (11 - r) = wordN r z + 72057594037927936 := by
  have hu : ∀ k, upN (k + 1) (downE z d) = upN k z := fun k => by
    show upN k (upE (downE z d)) = _
    rw [upE_down z hd']
  have h1 := hd_one (f := dgt (r + 1) (downE z d)) (g := dgt r z) (m := r) (fun k hk => by
    unfold dgt
    by_cases hkr : k ≤ r
    · rw [if_pos (by omega), if_pos hkr, show r + 1 - k = r - k + 1 by omega, hu]
    · rw [if_neg (by omega), if_neg hkr]) (11 - r)
  have e1 : dgt (r + 1) (downE z d) (r + 1) = d := by
    unfold dgt
    rw [if_pos (Nat.le_refl _), Nat.sub_self]
    exact digE_down z hd'
  have e2 : dgt r z (r + 1) = 7 := by
    unfold dgt
    rw [if_neg (by omega)]
  rw [e1, e2, show r + 1 + (11 - r) = 12 by omega] at h1
  unfold wordN topN
  rw [hu r]
  have e3 : (7 - d) * 8 ^ (11 - r) + d * 8 ^ (11 - r) = 7 * 8 ^ (11 - r) := by rw [← Nat.add_mul, show 7 - d + d = 7 by omega]
  omega
/-- A word and one is so many eighths. -/
theorem word_mul {r : Nat} (hr : r ≤ 12) (z : E2) : ∃ A, wordN r z + 1 = 8 ^ (12 - r) * A := by
  have h1 := hd_sevens (f := dgt r z) (r := r) (fun k hk => by unfold dgt; rw [if_neg (by omega)]) (12 - r)
  rw [show r + (12 - r) = 12 by omega] at h1
  refine ⟨8 ^ r * (16777216 + r * 1048576 + ((upN r z).1 + 512).toNat * 1024 + ((upN r z).2 + 512).toNat) + (hd (dgt r z) r + 1), ?_⟩
  unfold wordN topN
  rw [Nat.mul_add, ← h1, ← Nat.mul_assoc, ← Nat.pow_add, show 12 - r + r = 12 by omega, show (8 : Nat) ^ 12 = 68719476736 by decide]
  omega
/-- The words of a cell's children, from its word. -/
def kidsW (r : Nat) (W : Int) : List Int := (List.range 7).map fun d => W + 72057594037927936 - ((7 - d : Nat) : Int) * ((8 ^ (11 - r) : Nat) : Int)
/-- Words of cells of one size. -/
def Sized (r : Nat) (l : List Int) : Prop := ∀ W ∈ l, ∃ z, okB r z = true ∧ W = (wordN r z : Int)
theorem kidsW_get {r : Nat} {z : E2} (hr : r + 1 ≤ 12) {d : Nat} (hd : d < 7) : (kidsW r (wordN r z)).getD d 0 = (wordN (r + 1) (downE z d) : Int) := by
  have h := word_kid (z := z) hr hd
  unfold kidsW
  rw [List.getD_eq_getElem?_getD, List.getElem?_map, List.getElem?_range hd]
  show (wordN r z : Int) + 72057594037927936 - ((7 - d : Nat) : Int) * ((8 ^ (11 - r) : Nat) : Int) = _
  rw [← Int.natCast_mul]
  omega
theorem kidsW_mem {r : Nat} {z : E2} (hr : r + 1 ≤ 12) (v : Int) : v ∈ kidsW r (wordN r z) ↔ ∃ d, d < 7 ∧ v = (wordN (r + 1) (downE z d) : Int) := by
  unfold kidsW
  rw [List.mem_map]
  constructor
  · rintro ⟨d, hd, rfl⟩
    have hd := List.mem_range.1 hd
    have h := word_kid (z := z) hr hd
    refine ⟨d, hd, ?_⟩
    rw [← Int.natCast_mul]
    omega
  · rintro ⟨d, hd, rfl⟩
    have h := word_kid (z := z) hr hd
    refine ⟨d, List.mem_range.2 hd, ?_⟩
    rw [← Int.natCast_mul]
    omega
theorem kids_apart {r : Nat} (hr : r + 1 ≤ 12) {y z : E2} (h : wordN r y < wordN r z) {d e : Nat} (hd : d < 7) (he : e < 7) : wordN (r + 1) (downE y d) < wordN (r + 1) (downE z e) := by
  obtain ⟨A, hA⟩ := word_mul (show r ≤ 12 by omega) y
  obtain ⟨B, hB⟩ := word_mul (show r ≤ 12 by omega) z
  have h1 := word_kid (z := y) hr hd
  have h2 := word_kid (z := z) hr he
  have e8 : (8 : Nat) ^ (12 - r) = 8 ^ (11 - r) * 8 := by rw [← Nat.pow_succ, show (11 - r).succ = 12 - r by omega]
  have hu : 0 < (8 : Nat) ^ (11 - r) := Nat.pow_pos (by decide)
  rw [e8] at hA hB
  generalize (8 : Nat) ^ (11 - r) = u at *
  have hAB : A < B := by
    rcases Nat.lt_or_ge A B with h' | h'
    · exact h'
    · have := Nat.mul_le_mul_left (u * 8) h'; omega
  have h3 := Nat.mul_le_mul_left (u * 8) (show A + 1 ≤ B from hAB)
  rw [Nat.mul_add, Nat.mul_one] at h3
  have h4 : (7 - d) * u ≤ 7 * u := Nat.mul_le_mul_right u (by omega)
  have h5 : (7 - e) * u ≤ 7 * u := Nat.mul_le_mul_right u (by omega)
  omega
theorem kids_up {r : Nat} (_hr : r + 1 ≤ 12) (z : E2) : Up (kidsW r (wordN r z)) := by
  unfold kidsW
  refine List.pairwise_map.2 ((List.pairwise_lt_range (n := 7)).imp_of_mem fun {a b} ha hb hab => ?_)
  have ha := List.mem_range.1 ha
  have hb := List.mem_range.1 hb
  have hu : 0 < (8 : Nat) ^ (11 - r) := Nat.pow_pos (by decide)
  have : (7 - b) * 8 ^ (11 - r) + 8 ^ (11 - r) ≤ (7 - a) * 8 ^ (11 - r) := by
    rw [← Nat.succ_mul]; exact Nat.mul_le_mul_right _ (by omega)
  rw [← Int.natCast_mul, ← Int.natCast_mul]
  omega
theorem all_up {r : Nat} (hr : r + 1 ≤ 12) : ∀ {S : List Int}, Up S → Sized r S → Up (S.flatMap (kidsW r))
  | [], _, _ => List.Pairwise.nil
  | W :: S, h, hs => by
    obtain ⟨h1, h2⟩ := List.pairwise_cons.1 h
    obtain ⟨z, hz, rfl⟩ := hs W (List.mem_cons_self)
    rw [List.flatMap_cons]
    refine List.pairwise_append.2 ⟨kids_up hr z, all_up hr h2 fun V hV => hs V (List.mem_cons_of_mem _ hV), fun a ha b hb => ?_⟩
    obtain ⟨V, hV, hb⟩ := List.mem_flatMap.1 hb
    obtain ⟨y, hy, rfl⟩ := hs V (List.mem_cons_of_mem _ hV)
    obtain ⟨d, hd, rfl⟩ := (kidsW_mem hr a).1 ha
    obtain ⟨e, he, rfl⟩ := (kidsW_mem hr b).1 hb
    have := kids_apart hr (show wordN r z < wordN r y by have := h1 _ hV; omega) hd he
    omega
/-- All children, set. -/
theorem setF_kids {r : Nat} (hr : r + 1 ≤ 12) {l K : List Int} (hs : Sized r l) (hK : ∀ v, v ∈ K ↔ ∃ W ∈ l, v ∈ kidsW r W) : setF K = (setF l).flatMap (kidsW r) := by
  refine (setF_up K).ext (all_up hr (setF_up l) fun W hW => hs W ((setF_mem l W).1 hW)) fun v => ?_
  rw [setF_mem, hK, List.mem_flatMap]
  constructor
  · rintro ⟨W, h1, h2⟩; exact ⟨W, (setF_mem l W).2 h1, h2⟩
  · rintro ⟨W, h1, h2⟩; exact ⟨W, (setF_mem l W).1 h1, h2⟩
theorem par_kid {r : Nat} (hr : r + 1 ≤ 12) {z : E2} (hz : okB r z = true) {d : Nat} (hd : d < 7) : parE (wordN (r + 1) (downE z d)) = 0 ∧ parW (wordN (r + 1) (downE z d)) = wordN r z := by
  have hk := kid_ok hz hr hd
  obtain ⟨a1, a2, a3⟩ := word_cell hk
  refine ⟨by unfold parE; rw [if_pos a1, if_neg (by omega)], ?_⟩
  unfold parW
  rw [if_pos ⟨a1, by omega⟩, a2, a3, upE_down z hd, show ((r + 1 : Nat) : Int) - 1 = (r : Int) by omega, (ofW_ok hz).1]
/-- One cell's children more. -/
theorem gAll_kids {r : Nat} (hr : r + 1 ≤ 12) {z : E2} (hz : okB r z = true) {l : List Int} {o : List (List Int)} {p : Int} {b : Bool} (h : gAll l = ⟨o, p, b⟩) (hn : b = true → p ≠ (wordN r z : Int)) :
    gAll (l ++ kidsW r (wordN r z)) = ⟨o ++ [kidsW r (wordN r z)], (wordN r z : Int), true⟩ := by
  have step : ∀ n, n < 7 → gAll (l ++ (kidsW r (wordN r z)).take (n + 1)) = ⟨o ++ [(kidsW r (wordN r z)).take (n + 1)], (wordN r z : Int), true⟩ := by
    intro n
    have hL : (kidsW r (wordN r z)).length = 7 := by unfold kidsW; simp
    induction n with
    | zero =>
      intro _
      obtain ⟨e1, e2⟩ := par_kid hr hz (show 0 < 7 by omega)
      have e3 := kidsW_get (z := z) hr (show 0 < 7 by omega)
      rw [take_w _ (by omega), e3]
      show gAll (l ++ ([] ++ [_])) = ⟨o ++ [[] ++ [_]], _, _⟩
      rw [List.nil_append, gAll_snoc, h]
      unfold gStep
      rw [Int.toNat_natCast, e1, e2, if_neg (by decide), if_neg (fun h3 => hn h3.2.1 h3.2.2.symm)]
      rfl
    | succ n ih =>
      intro hn7
      obtain ⟨e1, e2⟩ := par_kid hr hz (show n + 1 < 7 by omega)
      have e3 := kidsW_get (z := z) hr (show n + 1 < 7 by omega)
      rw [take_w _ (by omega), e3, ← List.append_assoc, gAll_snoc, ih (by omega)]
      unfold gStep
      rw [Int.toNat_natCast, e1, e2, if_neg (by decide), if_pos ⟨rfl, rfl, rfl⟩]
      simp
  have := step 6 (by omega)
  rwa [List.take_of_length_le (by unfold kidsW; simp)] at this
theorem gAll_all {r : Nat} (hr : r + 1 ≤ 12) (S : List Int) (hu : S.Nodup) (hs : Sized r S) : (gAll (S.flatMap (kidsW r))).out = S.map (kidsW r) ∧ ((gAll (S.flatMap (kidsW r))).has = true → (gAll (S.flatMap (kidsW r))).last ∈ S) := by
  induction S using snoc_ind with
  | h0 => exact ⟨rfl, fun h => by cases h⟩
  | h1 S W ih =>
    obtain ⟨h1, h2⟩ := ih (List.nodup_append.1 hu).1 fun V hV => hs V (List.mem_append_left _ hV)
    obtain ⟨z, hz, rfl⟩ := hs W (List.mem_append_right _ (List.mem_singleton.2 rfl))
    have hW : (wordN r z : Int) ∉ S := fun h => (List.nodup_append.1 hu).2.2 _ h _ (List.mem_singleton.2 rfl) rfl
    rw [List.flatMap_append, show [(wordN r z : Int)].flatMap (kidsW r) = kidsW r (wordN r z) by simp]
    rw [gAll_kids hr hz (o := (gAll (S.flatMap (kidsW r))).out) (p := (gAll (S.flatMap (kidsW r))).last) (b := (gAll (S.flatMap (kidsW r))).has) rfl (fun h e => hW (by rw [← e]; exact h2 h)), h1]
    exact ⟨by simp, fun _ => by simp⟩
theorem grp_kids {r : Nat} (hr : r + 1 ≤ 12) {l K : List Int} (hs : Sized r l) (hK : ∀ v, v ∈ K ↔ ∃ W ∈ l, v ∈ kidsW r W) : grpF K = (setF l).map (kidsW r) := by
  unfold grpF
  rw [setF_kids hr hs hK]
  refine (gAll_all hr _ ?_ fun W hW => hs W ((setF_mem l W).1 hW)).1
  rw [List.nodup_iff_pairwise_ne]
  exact (setF_up l).imp fun h => by omega
end Go.Proofs.YtkjfdaleamonaaaGreat
/- The contract of cells.Check. -/
namespace Go.Proofs.YtkjfdaleamonaaaGreat
open Go.RowKit Go.Lib Wd

/-- Numbers of 64 bits. -/
def In64 (l : List Int) : Prop := ∀ v ∈ l, 0 ≤ v ∧ v < 18446744073709551616
theorem drop_w (l : List Int) {k : Nat} (h : k < l.length) : l.drop k = l.getD k 0 :: l.drop (k + 1) := by
  rw [List.drop_eq_getElem_cons h, List.getD_eq_getElem?_getD, List.getElem?_eq_getElem h]
  rfl
theorem chk_step (r : Int) (l : List Int) {k : Nat} (h : k < l.length) : chkF r (l.drop k) = if isW (l.getD k 0).toNat = true then (if (rW (l.getD k 0).toNat : Int) = r then chkF r (l.drop (k + 1)) else 8) else 5 := by
  rw [drop_w l h]
  rfl
set_option maxRecDepth 100000 in
set_option maxHeartbeats 4000000 in
theorem check_any (ao : Option Addr) (c : Nat) (l : List Int) (r : Int) (w : World) (B : Nat) (h : WordsAt w B ao l) (hB : B ≤ w.heap.size) (hn : l.length ≤ 1000000000) (h64 : In64 l) :
    Calls Tryz.prog 19 #[.slice ao l.length c, .int .i64 r] w fun e w' => e = .returned (.int .i64 (chkF r l)) ∧ Below w.heap.size w w' := by
  obtain ⟨n, hnn⟩ : ∃ n, l.length = n := ⟨_, rfl⟩
  have HN := Lib.hid hnn
  have HW := Lib.hid h
  have H64 : Hid (∀ k, k < n → 0 ≤ l.getD k 0 ∧ l.getD k 0 < 18446744073709551616) := fun k hk => h64 _ (getD_mem (by rw [hnn]; exact hk))
  have HST : Hid (∀ k, k < n → chkF r (l.drop k) = if isW (l.getD k 0).toNat = true then (if (rW (l.getD k 0).toNat : Int) = r then chkF r (l.drop (k + 1)) else 8) else 5) := fun k hk => chk_step r l (by rw [hnn]; exact hk)
  have HEN : Hid (chkF r (l.drop n) = 0) := by show _ = _; rw [← hnn, List.drop_length]; rfl
  have HS0 : Hid (chkF r l = chkF r (l.drop 0)) := rfl
  rw [hnn] at hn ⊢
  generalize chkF r l = E at *
  clear hnn h h64
  go_enter Tryz.func19, Tryz.ntmps19
  go_wp2
  go_loopw [9] (fun i wr => ∃ k : Nat, k ≤ n ∧ i = .int .i64 k ∧ Hid (E = chkF r (l.drop k)) ∧ Hid (Below w.heap.size w wr ∧ True)) (fun i _ => n - (intOf i).toNat)
  case atStart => exact ⟨0, by omega, rfl, HS0.out, Below.refl _ _, trivial⟩
  case round =>
    obtain ⟨k, hk, rfl, HE, hbi, -⟩ := hrel
    have HBI := Lib.hid hbi
    clear hbi
    by_cases hlt : k < n
    · obtain ⟨g, off, rfl, hg, hc⟩ := (HW.out.below HBI.out hB) (by rw [HN.out]; omega)
      have c0 := hc k (by rw [HN.out]; exact hlt)
      obtain ⟨v1, v2⟩ := H64.out k hlt
      have hs := HST.out k hlt
      generalize l.getD k 0 = v at *
      obtain ⟨u, rfl⟩ : ∃ u : Nat, v = u := ⟨v.toNat, by omega⟩
      rw [Int.toNat_natCast] at hs
      have HR := Lib.hid (ires_any u (by omega))
      have hgw : g < wr.heap.size := by have := HBI.out.size; omega
      clear hc
      by_cases hW : isW u = true
      · have e1 : resW u = (rW u : Int) := by unfold resW; rw [if_pos hW]
        rw [e1] at HR
        rw [if_pos hW] at hs
        by_cases hr : (rW u : Int) = r
        · rw [if_pos hr] at hs
          rw [hr] at HR
          have q1 : (r == -1) = false := by simp; omega
          have HE2 : Hid (E = chkF r (l.drop (k + 1))) := by show _ = _; rw [HE.out, hs]
          clear hs e1 hW hr HE
          go_wp2_with fail
          refine (HR.out _).mono ?_
          rintro e w2 ⟨rfl, hb2⟩
          have HB2 := Lib.hid (HBI.out.trans (hb2.mono HBI.out.size))
          clear hb2
          go_wp2
          go_roundw
          case rel => exact ⟨k + 1, by omega, by go_num, HE2.out, HB2.out, trivial⟩
          case measure => simp [intOf]; omega
        · rw [if_neg hr] at hs
          obtain ⟨q, hq⟩ : ∃ q, (rW u : Int) = q := ⟨_, rfl⟩
          rw [hq] at HR hr
          have q1 : (q == -1) = false := by simp; omega
          have q2 : (q == r) = false := by simp [hr]
          have HE2 : Hid (E = 8) := by show _ = _; rw [HE.out, hs]
          clear hs e1 hW hr HE hq
          go_wp2_with fail
          refine (HR.out _).mono ?_
          rintro e w2 ⟨rfl, hb2⟩
          have HB2 := Lib.hid (HBI.out.trans (hb2.mono HBI.out.size))
          clear hb2
          go_wp2
          go_ret
          exact ⟨by rw [HE2.out]; rfl, HB2.out⟩
      · have e1 : resW u = -1 := by unfold resW; rw [if_neg hW]
        rw [e1] at HR
        rw [if_neg hW] at hs
        have HE2 : Hid (E = 5) := by show _ = _; rw [HE.out, hs]
        clear hs e1 hW HE
        go_wp2_with fail
        refine (HR.out _).mono ?_
        rintro e w2 ⟨rfl, hb2⟩
        have HB2 := Lib.hid (HBI.out.trans (hb2.mono HBI.out.size))
        clear hb2
        go_wp2
        go_ret
        exact ⟨by rw [HE2.out]; rfl, HB2.out⟩
    · obtain hkn : n ≤ k := by omega
      have HE2 : Hid (E = 0) := by show _ = _; rw [HE.out, show k = n by omega, HEN.out]
      clear HE
      go_wp2
      go_ret
      exact ⟨by rw [HE2.out]; rfl, HBI.out⟩
end Go.Proofs.YtkjfdaleamonaaaGreat
/- Contracts of cell.climb, cell.Within, pack.Covers. -/
namespace Go.Proofs.YtkjfdaleamonaaaGreat
open Go.RowKit Go.Lib Wd

theorem upN_ok : ∀ (k : Nat) {r : Nat} {z : E2}, okB (r + k : Nat) z = true → okB r (upN k z) = true
  | 0, r, z, h => h
  | k + 1, r, z, h => by
    rw [upN_up]
    exact up_ok (upN_ok k (r := r + 1) (by rw [show r + 1 + k = r + (k + 1) by omega]; exact h))
set_option maxRecDepth 100000 in
set_option maxHeartbeats 4000000 in
theorem climb_any {R : Nat} {z : E2} (hz : okB R z = true) {s : Nat} (hs : s ≤ R) (w : World) : Calls Tryz.prog 101 #[vC R z, .int .i64 s] w fun e w' => e = .returned (vC s (upN (R - s) z)) ∧ Below w.heap.size w w' := by
  have hR := (okB_parts hz).1
  obtain ⟨T0, G0, B0⟩ := two_new w R z
  have HST : Hid (∀ k, s ≤ k → k + 1 ≤ R → ∀ w, Calls Tryz.prog 93 #[vC (k + 1 : Nat) (upN (R - (k + 1)) z)] w fun e w' => e = .returned (vC (k : Nat) (upN (R - k) z)) ∧ Below w.heap.size w w') := fun k h1 h2 w => by
    have ho : okB (k + 1 : Nat) (upN (R - (k + 1)) z) = true := upN_ok _ (by rw [show k + 1 + (R - (k + 1)) = R by omega]; exact hz)
    have h := step_in ((k + 1 : Nat) : Int) _ (ok_parts ho).2.2 (by omega) (by omega) w
    rw [← upN_up, show ((k + 1 : Nat) : Int) - 1 = (k : Int) by omega, show R - (k + 1) + 1 = R - k by omega] at h
    exact h
  have H0 : Hid (upN (R - R) z = z) := by show _ = _; rw [Nat.sub_self]; rfl
  obtain ⟨y, hy⟩ : ∃ y, upN (R - s) z = y := ⟨_, rfl⟩
  have HY := Lib.hid hy
  rw [hy]
  clear hz hy
  simp only [vC] at *
  go_enter Tryz.func101, Tryz.ntmps101
  go_upto_region 1 with (fail)
  generalize (w.alloc (.cells #[.int .i64 R, .int .i64 z.1, .int .i64 z.2] 32)).alloc (.cells #[.int .i64 0, .int .i64 0, .int .i64 0] 32) = w0 at *
  go_loopg [5] R (fun q _ wr => ∃ k : Nat, s ≤ k ∧ k ≤ R ∧ k ≤ q ∧ Hid (Tri wr w.heap.size k (upN (R - k) z) ∧ Tri wr (w.heap.size + 1) 0 (0, 0) ∧ Below w.heap.size w wr))
  case atStart => exact ⟨R, hs, Nat.le_refl _, Nat.le_refl _, by rw [H0.out]; exact T0.out, G0.out, B0.out⟩
  case round =>
    obtain ⟨k, hk1, hk2, hq, HI⟩ := hrel
    obtain ⟨t0, t1, t2, t3, t4, t5, t6⟩ := HI.out.1.cells
    by_cases hlt : s < k
    · obtain ⟨j, rfl⟩ : ∃ j, k = j + 1 := ⟨k - 1, by omega⟩
      have HS := Lib.hid (HST.out j (by omega) hk2)
      generalize upN (R - (j + 1)) z = y at *
      have q1 : decide ((s : Int) < ((j + 1 : Nat) : Int)) = true := decide_eq_true (by omega)
      have q1n : decide (s < j + 1) = true := decide_eq_true hlt
      obtain ⟨x, hx⟩ : ∃ x, upN (R - j) z = x := ⟨_, rfl⟩
      rw [hx] at HS
      have HX := Lib.hid hx
      clear hx
      go_wp2_with fail
      refine (HS.out _).mono ?_
      rintro e w1 ⟨rfl, hb1⟩
      have hsz := HI.out.2.2.size
      have T1 := HI.out.1.later hb1
      have G1 := HI.out.2.1.later hb1
      have B1 := HI.out.2.2.trans (hb1.mono hsz)
      obtain ⟨p1, p2⟩ := T1.put (j : Int) x
      have HI2 : Hid (Tri (((w1.setCell ⟨w.heap.size, 0, none⟩ (.int .i64 j)).setCell ⟨w.heap.size, 1, none⟩ (.int .i64 x.1)).setCell ⟨w.heap.size, 2, none⟩ (.int .i64 x.2)) w.heap.size j (upN (R - j) z) ∧ Tri (((w1.setCell ⟨w.heap.size, 0, none⟩ (.int .i64 j)).setCell ⟨w.heap.size, 1, none⟩ (.int .i64 x.1)).setCell ⟨w.heap.size, 2, none⟩ (.int .i64 x.2)) (w.heap.size + 1) 0 (0, 0) ∧ Below w.heap.size w (((w1.setCell ⟨w.heap.size, 0, none⟩ (.int .i64 j)).setCell ⟨w.heap.size, 1, none⟩ (.int .i64 x.1)).setCell ⟨w.heap.size, 2, none⟩ (.int .i64 x.2))) := ⟨by rw [HX.out]; exact p1, G1.turn p2 (by omega), below3 B1 (Nat.le_refl _) _ _ _⟩
      have hjq := Nat.le_trans (Nat.le_succ j) hq
      clear t0 t1 t2 t3 t4 t5 t6
      obtain ⟨t0, t1, t2, t3, t4, t5, t6⟩ := T1.cells
      clear T1 G1 B1 p1 p2 hb1 HI HS
      go_wp2
      go_roundg j
      case measure => omega
      case rel => exact ⟨j, by omega, by omega, Nat.le_refl _, HI2.out⟩
    · obtain rfl : k = s := by omega
      have q1 : decide ((k : Int) < (k : Int)) = false := decide_eq_false (by omega)
      obtain ⟨g0, g1, g2, g3, g4, g5, g6⟩ := HI.out.2.1.cells
      have HB := Lib.hid HI.out.2.2
      rw [HY.out] at t1 t2
      clear HI
      go_wp2
      exact bodyPost_ret (v := .agg #[.int .i64 k, .int .i64 y.1, .int .i64 y.2]) (by simp [results, Tryz.results101, go_sem, *]) rfl ⟨rfl, below3 HB.out (by omega) _ _ _⟩
/-- Whether a cell is another one, or within it. -/
def winB (r : Int) (z : E2) (s : Int) (y : E2) : Bool := okB r z && okB s y && decide (s ≤ r) && decide (upN (r - s).toNat z = y)
theorem win_new (w : World) (r s : Int) (z y : E2) :
    Hid (Tri ((w.alloc (.cells #[.int .i64 r, .int .i64 z.1, .int .i64 z.2] 32)).alloc (.cells #[.int .i64 s, .int .i64 y.1, .int .i64 y.2] 32)) w.heap.size r z) ∧ Hid (Tri ((w.alloc (.cells #[.int .i64 r, .int .i64 z.1, .int .i64 z.2] 32)).alloc (.cells #[.int .i64 s, .int .i64 y.1, .int .i64 y.2] 32)) (w.heap.size + 1) s y) ∧ Hid (Below w.heap.size w ((w.alloc (.cells #[.int .i64 r, .int .i64 z.1, .int .i64 z.2] 32)).alloc (.cells #[.int .i64 s, .int .i64 y.1, .int .i64 y.2] 32))) := by
  refine ⟨?_, heap_new _ _ _ (by simp), ((Below.refl _ _).alloc (Nat.le_refl _) _).alloc (by simp) _⟩
  show _ = _
  rw [Below.heap_alloc _ _ _ (by simp)]
  exact heap_new _ _ _ rfl
set_option maxRecDepth 100000 in
set_option maxHeartbeats 4000000 in
theorem cwithin_any (r s : Int) (z y : E2) (w : World) : Calls Tryz.prog 67 #[vC r z, vC s y] w fun e w' => e = .returned (.bool (winB r z s y)) ∧ Below w.heap.size w w' := by
  have HOC := Lib.hid (ok_any r z)
  have HOA := Lib.hid (ok_any s y)
  obtain ⟨T0, T1, B0⟩ := win_new w r s z y
  simp only [vC] at *
  by_cases h1 : okB r z = true
  · by_cases h2 : okB s y = true
    · by_cases h3 : s ≤ r
      · obtain ⟨S, rfl⟩ : ∃ S : Nat, s = S := by obtain ⟨k, hk, -⟩ := okB_nat h2; exact ⟨k, hk⟩
        obtain ⟨R, rfl⟩ : ∃ R : Nat, r = R := by obtain ⟨k, hk, -⟩ := okB_nat h1; exact ⟨k, hk⟩
        have hcl := climb_any h1 (s := S) (by omega)
        have hW : winB R z S y = decide (upN (R - S) z = y) := by unfold winB; rw [h1, h2, decide_eq_true h3, show ((R : Int) - S).toNat = R - S by omega]; simp
        rw [hW]
        generalize upN (R - S) z = x at *
        rw [h1] at HOC
        rw [h2] at HOA
        obtain ⟨o, ho⟩ : ∃ o, decide (x = y) = o := ⟨_, rfl⟩
        have HQ1 : Hid (x.1 = y.1 → x.2 = y.2 → o = true) := fun h1 h2 => by rw [← ho]; exact decide_eq_true (Prod.ext h1 h2)
        have HQ2 : Hid (¬ x.1 = y.1 → o = false) := fun h1 => by rw [← ho]; exact decide_eq_false fun e => h1 (by rw [e])
        have HQ3 : Hid (¬ x.2 = y.2 → o = false) := fun h1 => by rw [← ho]; exact decide_eq_false fun e => h1 (by rw [e])
        rw [ho]
        have HCL := Lib.hid hcl
        have q1 : decide ((S : Int) ≤ R) = true := decide_eq_true h3
        have q1n : decide (S ≤ R) = true := decide_eq_true (by omega)
        simp only [vC] at HCL
        clear h1 h2 h3 hW hcl ho
        go_enter Tryz.func67, Tryz.ntmps67
        go_upto_region 1 with (fail)
        generalize (w.alloc (.cells #[.int .i64 R, .int .i64 z.1, .int .i64 z.2] 32)).alloc (.cells #[.int .i64 S, .int .i64 y.1, .int .i64 y.2] 32) = w0 at *
        refine wp_region_inv (fun w w' => Below w.heap.size w w') (fun qi_ qv_ _ => qv_ = ([.agg #[.int .i64 R, .int .i64 z.1, .int .i64 z.2], .bool true, .bool true, .agg #[.int .i64 S, .int .i64 y.1, .int .i64 y.2], .bool true, .bool true, .bool true, .pointer (some ⟨w.heap.size, 0, none⟩), .int .i64 R, .pointer (some ⟨w.heap.size + 1, 0, none⟩), .int .i64 S, .bool true, .bool true, .bool true, .agg #[.int .i64 R, .int .i64 z.1, .int .i64 z.2], .pointer (some ⟨w.heap.size + 1, 0, none⟩), .int .i64 S, .agg #[.int .i64 S, .int .i64 x.1, .int .i64 x.2], .agg #[.int .i64 S, .int .i64 y.1, .int .i64 y.2], .bool o, .bool o, .bool o] : List Value).getD qi_ undef) (by kernel_rfl) (by kernel_rfl) (fun _ => Below.refl _ _) (fun _ _ _ h1 h2 => below_later h1 h1.size h2) (fun _ _ _ _ _ _ h => h) ?_
        refine inv_cons (fun wx hg hd => ?_) (fun v0 => ?_)
        · have hx := ((Below.refl w0.heap.size w0).drew).trans hg
          clear hd hg
          have T := T0.out.later hx
          obtain ⟨t0, t1, t2, t3, t4, t5, t6⟩ := T.cells
          go_wp2
          exact ⟨_, rfl, Below.refl _ _, rfl⟩
        (try simp only [List.nil_append, Act.put, List.setIfInBounds_toArray, List.set_cons_zero, List.set_cons_succ])
        refine inv_cons (fun wx hg hd => ?_) (fun v1 => ?_)
        · have hx := ((Below.refl w0.heap.size w0).drew).trans hg
          (try (have ee : v0 = (.agg #[.int .i64 R, .int .i64 z.1, .int .i64 z.2] : Value) := hd 0 (by simp) (by decide); subst ee))
          clear hd hg
          go_wp2_with fail
          refine (HOC.out _).mono ?_
          rintro e w' ⟨rfl, hb⟩
          go_wp2
          exact ⟨_, rfl, hb, rfl⟩
        (try simp only [List.cons_append, List.nil_append, Act.put, List.setIfInBounds_toArray, List.set_cons_zero, List.set_cons_succ])
        refine inv_cons (fun wx hg hd => ?_) (fun v2 => ?_)
        · have hx := ((Below.refl w0.heap.size w0).drew).trans hg
          (try (have ee : v1 = (.bool true : Value) := hd 1 (by simp) (by decide); subst ee))
          clear hd hg
          go_wp2
          exact ⟨_, rfl, Below.refl _ _, rfl⟩
        (try simp only [List.cons_append, List.nil_append, Act.put, List.setIfInBounds_toArray, List.set_cons_zero, List.set_cons_succ])
        refine inv_cons (fun wx hg hd => ?_) (fun v3 => ?_)
        · have hx := ((Below.refl w0.heap.size w0).drew).trans hg
          (try (have ee : v2 = (.bool true : Value) := hd 2 (by simp) (by decide); subst ee))
          clear hd hg
          have T := T1.out.later hx
          obtain ⟨t0, t1, t2, t3, t4, t5, t6⟩ := T.cells
          go_wp2
          exact ⟨_, rfl, Below.refl _ _, rfl⟩
        (try simp only [List.cons_append, List.nil_append, Act.put, List.setIfInBounds_toArray, List.set_cons_zero, List.set_cons_succ])
        refine inv_cons (fun wx hg hd => ?_) (fun v4 => ?_)
        · have hx := ((Below.refl w0.heap.size w0).drew).trans hg
          (try (have ee : v2 = (.bool true : Value) := hd 2 (by simp) (by decide); subst ee))
          (try (have ee : v3 = (.agg #[.int .i64 S, .int .i64 y.1, .int .i64 y.2] : Value) := hd 3 (by simp) (by decide); subst ee))
          clear hd hg
          go_wp2_with fail
          refine (HOA.out _).mono ?_
          rintro e w' ⟨rfl, hb⟩
          go_wp2
          exact ⟨_, rfl, hb, rfl⟩
        (try simp only [List.cons_append, List.nil_append, Act.put, List.setIfInBounds_toArray, List.set_cons_zero, List.set_cons_succ])
        refine inv_cons (fun wx hg hd => ?_) (fun v5 => ?_)
        · have hx := ((Below.refl w0.heap.size w0).drew).trans hg
          (try (have ee : v2 = (.bool true : Value) := hd 2 (by simp) (by decide); subst ee))
          (try (have ee : v4 = (.bool true : Value) := hd 4 (by simp) (by decide); subst ee))
          clear hd hg
          go_wp2
          exact ⟨_, rfl, Below.refl _ _, rfl⟩
        (try simp only [List.cons_append, List.nil_append, Act.put, List.setIfInBounds_toArray, List.set_cons_zero, List.set_cons_succ])
        refine inv_cons (fun wx hg hd => ?_) (fun v6 => ?_)
        · have hx := ((Below.refl w0.heap.size w0).drew).trans hg
          (try (have ee : v5 = (.bool true : Value) := hd 5 (by simp) (by decide); subst ee))
          clear hd hg
          go_wp2
          exact ⟨_, rfl, Below.refl _ _, rfl⟩
        (try simp only [List.cons_append, List.nil_append, Act.put, List.setIfInBounds_toArray, List.set_cons_zero, List.set_cons_succ])
        refine inv_cons (fun wx hg hd => ?_) (fun v7 => ?_)
        · have hx := ((Below.refl w0.heap.size w0).drew).trans hg
          (try (have ee : v6 = (.bool true : Value) := hd 6 (by simp) (by decide); subst ee))
          clear hd hg
          go_wp2
          exact ⟨_, rfl, Below.refl _ _, rfl⟩
        (try simp only [List.cons_append, List.nil_append, Act.put, List.setIfInBounds_toArray, List.set_cons_zero, List.set_cons_succ])
        refine inv_cons (fun wx hg hd => ?_) (fun v8 => ?_)
        · have hx := ((Below.refl w0.heap.size w0).drew).trans hg
          (try (have ee : v6 = (.bool true : Value) := hd 6 (by simp) (by decide); subst ee))
          (try (have ee : v7 = (.pointer (some ⟨w.heap.size, 0, none⟩) : Value) := hd 7 (by simp) (by decide); subst ee))
          clear hd hg
          have T := T0.out.later hx
          obtain ⟨t0, t1, t2, t3, t4, t5, t6⟩ := T.cells
          go_wp2
          exact ⟨_, rfl, Below.refl _ _, rfl⟩
        (try simp only [List.cons_append, List.nil_append, Act.put, List.setIfInBounds_toArray, List.set_cons_zero, List.set_cons_succ])
        refine inv_cons (fun wx hg hd => ?_) (fun v9 => ?_)
        · have hx := ((Below.refl w0.heap.size w0).drew).trans hg
          (try (have ee : v6 = (.bool true : Value) := hd 6 (by simp) (by decide); subst ee))
          clear hd hg
          go_wp2
          exact ⟨_, rfl, Below.refl _ _, rfl⟩
        (try simp only [List.cons_append, List.nil_append, Act.put, List.setIfInBounds_toArray, List.set_cons_zero, List.set_cons_succ])
        refine inv_cons (fun wx hg hd => ?_) (fun v10 => ?_)
        · have hx := ((Below.refl w0.heap.size w0).drew).trans hg
          (try (have ee : v6 = (.bool true : Value) := hd 6 (by simp) (by decide); subst ee))
          (try (have ee : v9 = (.pointer (some ⟨w.heap.size + 1, 0, none⟩) : Value) := hd 9 (by simp) (by decide); subst ee))
          clear hd hg
          have T := T1.out.later hx
          obtain ⟨t0, t1, t2, t3, t4, t5, t6⟩ := T.cells
          go_wp2
          exact ⟨_, rfl, Below.refl _ _, rfl⟩
        (try simp only [List.cons_append, List.nil_append, Act.put, List.setIfInBounds_toArray, List.set_cons_zero, List.set_cons_succ])
        refine inv_cons (fun wx hg hd => ?_) (fun v11 => ?_)
        · have hx := ((Below.refl w0.heap.size w0).drew).trans hg
          (try (have ee : v6 = (.bool true : Value) := hd 6 (by simp) (by decide); subst ee))
          (try (have ee : v8 = (.int .i64 R : Value) := hd 8 (by simp) (by decide); subst ee))
          (try (have ee : v10 = (.int .i64 S : Value) := hd 10 (by simp) (by decide); subst ee))
          clear hd hg
          go_wp2
          exact ⟨_, rfl, Below.refl _ _, rfl⟩
        (try simp only [List.cons_append, List.nil_append, Act.put, List.setIfInBounds_toArray, List.set_cons_zero, List.set_cons_succ])
        refine inv_cons (fun wx hg hd => ?_) (fun v12 => ?_)
        · have hx := ((Below.refl w0.heap.size w0).drew).trans hg
          (try (have ee : v6 = (.bool true : Value) := hd 6 (by simp) (by decide); subst ee))
          (try (have ee : v11 = (.bool true : Value) := hd 11 (by simp) (by decide); subst ee))
          clear hd hg
          go_wp2
          exact ⟨_, rfl, Below.refl _ _, rfl⟩
        (try simp only [List.cons_append, List.nil_append, Act.put, List.setIfInBounds_toArray, List.set_cons_zero, List.set_cons_succ])
        refine inv_cons (fun wx hg hd => ?_) (fun v13 => ?_)
        · have hx := ((Below.refl w0.heap.size w0).drew).trans hg
          (try (have ee : v12 = (.bool true : Value) := hd 12 (by simp) (by decide); subst ee))
          clear hd hg
          go_wp2
          exact ⟨_, rfl, Below.refl _ _, rfl⟩
        (try simp only [List.cons_append, List.nil_append, Act.put, List.setIfInBounds_toArray, List.set_cons_zero, List.set_cons_succ])
        refine inv_cons (fun wx hg hd => ?_) (fun v14 => ?_)
        · have hx := ((Below.refl w0.heap.size w0).drew).trans hg
          (try (have ee : v13 = (.bool true : Value) := hd 13 (by simp) (by decide); subst ee))
          clear hd hg
          have T := T0.out.later hx
          obtain ⟨t0, t1, t2, t3, t4, t5, t6⟩ := T.cells
          go_wp2
          exact ⟨_, rfl, Below.refl _ _, rfl⟩
        (try simp only [List.cons_append, List.nil_append, Act.put, List.setIfInBounds_toArray, List.set_cons_zero, List.set_cons_succ])
        refine inv_cons (fun wx hg hd => ?_) (fun v15 => ?_)
        · have hx := ((Below.refl w0.heap.size w0).drew).trans hg
          (try (have ee : v13 = (.bool true : Value) := hd 13 (by simp) (by decide); subst ee))
          clear hd hg
          go_wp2
          exact ⟨_, rfl, Below.refl _ _, rfl⟩
        (try simp only [List.cons_append, List.nil_append, Act.put, List.setIfInBounds_toArray, List.set_cons_zero, List.set_cons_succ])
        refine inv_cons (fun wx hg hd => ?_) (fun v16 => ?_)
        · have hx := ((Below.refl w0.heap.size w0).drew).trans hg
          (try (have ee : v13 = (.bool true : Value) := hd 13 (by simp) (by decide); subst ee))
          (try (have ee : v15 = (.pointer (some ⟨w.heap.size + 1, 0, none⟩) : Value) := hd 15 (by simp) (by decide); subst ee))
          clear hd hg
          have T := T1.out.later hx
          obtain ⟨t0, t1, t2, t3, t4, t5, t6⟩ := T.cells
          go_wp2
          exact ⟨_, rfl, Below.refl _ _, rfl⟩
        (try simp only [List.cons_append, List.nil_append, Act.put, List.setIfInBounds_toArray, List.set_cons_zero, List.set_cons_succ])
        refine inv_cons (fun wx hg hd => ?_) (fun v17 => ?_)
        · have hx := ((Below.refl w0.heap.size w0).drew).trans hg
          (try (have ee : v13 = (.bool true : Value) := hd 13 (by simp) (by decide); subst ee))
          (try (have ee : v14 = (.agg #[.int .i64 R, .int .i64 z.1, .int .i64 z.2] : Value) := hd 14 (by simp) (by decide); subst ee))
          (try (have ee : v16 = (.int .i64 S : Value) := hd 16 (by simp) (by decide); subst ee))
          clear hd hg
          go_wp2_with fail
          refine (HCL.out _).mono ?_
          rintro e w' ⟨rfl, hb⟩
          go_wp2
          exact ⟨_, rfl, hb, rfl⟩
        (try simp only [List.cons_append, List.nil_append, Act.put, List.setIfInBounds_toArray, List.set_cons_zero, List.set_cons_succ])
        refine inv_cons (fun wx hg hd => ?_) (fun v18 => ?_)
        · have hx := ((Below.refl w0.heap.size w0).drew).trans hg
          (try (have ee : v13 = (.bool true : Value) := hd 13 (by simp) (by decide); subst ee))
          clear hd hg
          have T := T1.out.later hx
          obtain ⟨t0, t1, t2, t3, t4, t5, t6⟩ := T.cells
          go_wp2
          exact ⟨_, rfl, Below.refl _ _, rfl⟩
        (try simp only [List.cons_append, List.nil_append, Act.put, List.setIfInBounds_toArray, List.set_cons_zero, List.set_cons_succ])
        refine inv_cons (fun wx hg hd => ?_) (fun v19 => ?_)
        · have hx := ((Below.refl w0.heap.size w0).drew).trans hg
          (try (have ee : v13 = (.bool true : Value) := hd 13 (by simp) (by decide); subst ee))
          (try (have ee : v17 = (.agg #[.int .i64 S, .int .i64 x.1, .int .i64 x.2] : Value) := hd 17 (by simp) (by decide); subst ee))
          (try (have ee : v18 = (.agg #[.int .i64 S, .int .i64 y.1, .int .i64 y.2] : Value) := hd 18 (by simp) (by decide); subst ee))
          clear hd hg
          go_wp2
          all_goals (first | exact ⟨_, rfl, Below.refl _ _, by rw [show o = true from HQ1.out ‹_› ‹_›] <;> rfl⟩ | exact ⟨_, rfl, Below.refl _ _, by rw [show o = false from HQ2.out ‹_›] <;> rfl⟩ | exact ⟨_, rfl, Below.refl _ _, by rw [show o = false from HQ3.out ‹_›] <;> rfl⟩)
        (try simp only [List.cons_append, List.nil_append, Act.put, List.setIfInBounds_toArray, List.set_cons_zero, List.set_cons_succ])
        refine inv_cons (fun wx hg hd => ?_) (fun v20 => ?_)
        · have hx := ((Below.refl w0.heap.size w0).drew).trans hg
          (try (have ee : v13 = (.bool true : Value) := hd 13 (by simp) (by decide); subst ee))
          (try (have ee : v19 = (.bool o : Value) := hd 19 (by simp) (by decide); subst ee))
          clear hd hg
          go_wp2
          exact ⟨_, rfl, Below.refl _ _, rfl⟩
        (try simp only [List.cons_append, List.nil_append, Act.put, List.setIfInBounds_toArray, List.set_cons_zero, List.set_cons_succ])
        refine inv_cons (fun wx hg hd => ?_) (fun v21 => ?_)
        · have hx := ((Below.refl w0.heap.size w0).drew).trans hg
          (try (have ee : v20 = (.bool o : Value) := hd 20 (by simp) (by decide); subst ee))
          clear hd hg
          go_wp2
          exact ⟨_, rfl, Below.refl _ _, rfl⟩
        (try simp only [List.cons_append, List.nil_append, Act.put, List.setIfInBounds_toArray, List.set_cons_zero, List.set_cons_succ])
        refine inv_done (fun wx hg hd => ?_)
        have hx := ((Below.refl w0.heap.size w0).drew).trans hg
        (have ee : v0 = (.agg #[.int .i64 R, .int .i64 z.1, .int .i64 z.2] : Value) := hd 0 (by simp); subst ee)
        (have ee : v1 = (.bool true : Value) := hd 1 (by simp); subst ee)
        (have ee : v2 = (.bool true : Value) := hd 2 (by simp); subst ee)
        (have ee : v3 = (.agg #[.int .i64 S, .int .i64 y.1, .int .i64 y.2] : Value) := hd 3 (by simp); subst ee)
        (have ee : v4 = (.bool true : Value) := hd 4 (by simp); subst ee)
        (have ee : v5 = (.bool true : Value) := hd 5 (by simp); subst ee)
        (have ee : v6 = (.bool true : Value) := hd 6 (by simp); subst ee)
        (have ee : v7 = (.pointer (some ⟨w.heap.size, 0, none⟩) : Value) := hd 7 (by simp); subst ee)
        (have ee : v8 = (.int .i64 R : Value) := hd 8 (by simp); subst ee)
        (have ee : v9 = (.pointer (some ⟨w.heap.size + 1, 0, none⟩) : Value) := hd 9 (by simp); subst ee)
        (have ee : v10 = (.int .i64 S : Value) := hd 10 (by simp); subst ee)
        (have ee : v11 = (.bool true : Value) := hd 11 (by simp); subst ee)
        (have ee : v12 = (.bool true : Value) := hd 12 (by simp); subst ee)
        (have ee : v13 = (.bool true : Value) := hd 13 (by simp); subst ee)
        (have ee : v14 = (.agg #[.int .i64 R, .int .i64 z.1, .int .i64 z.2] : Value) := hd 14 (by simp); subst ee)
        (have ee : v15 = (.pointer (some ⟨w.heap.size + 1, 0, none⟩) : Value) := hd 15 (by simp); subst ee)
        (have ee : v16 = (.int .i64 S : Value) := hd 16 (by simp); subst ee)
        (have ee : v17 = (.agg #[.int .i64 S, .int .i64 x.1, .int .i64 x.2] : Value) := hd 17 (by simp); subst ee)
        (have ee : v18 = (.agg #[.int .i64 S, .int .i64 y.1, .int .i64 y.2] : Value) := hd 18 (by simp); subst ee)
        (have ee : v19 = (.bool o : Value) := hd 19 (by simp); subst ee)
        (have ee : v20 = (.bool o : Value) := hd 20 (by simp); subst ee)
        (have ee : v21 = (.bool o : Value) := hd 21 (by simp); subst ee)
        clear hd hg
        (try go_simp)
        have B1 := Lib.hid (B0.out.trans (hx.mono B0.out.size))
        clear hx
        go_wp2
        go_ret
        exact ⟨rfl, B1.out⟩
      · have hW : winB r z s y = false := by unfold winB; rw [decide_eq_false h3]; simp
        rw [hW]
        rw [h1] at HOC
        rw [h2] at HOA
        have q1 : decide (s ≤ r) = false := decide_eq_false h3
        clear h1 h2 h3 hW
        go_enter Tryz.func67, Tryz.ntmps67
        go_upto_region 1 with (fail)
        generalize (w.alloc (.cells #[.int .i64 r, .int .i64 z.1, .int .i64 z.2] 32)).alloc (.cells #[.int .i64 s, .int .i64 y.1, .int .i64 y.2] 32) = w0 at *
        refine wp_region_inv (fun w w' => Below w.heap.size w w') (fun qi_ qv_ _ => qv_ = ([.agg #[.int .i64 r, .int .i64 z.1, .int .i64 z.2], .bool true, .bool true, .agg #[.int .i64 s, .int .i64 y.1, .int .i64 y.2], .bool true, .bool true, .bool true, .pointer (some ⟨w.heap.size, 0, none⟩), .int .i64 r, .pointer (some ⟨w.heap.size + 1, 0, none⟩), .int .i64 s, .bool false, .bool false, .bool false, undef, undef, undef, undef, undef, undef, .bool false, .bool false] : List Value).getD qi_ undef) (by kernel_rfl) (by kernel_rfl) (fun _ => Below.refl _ _) (fun _ _ _ h1 h2 => below_later h1 h1.size h2) (fun _ _ _ _ _ _ h => h) ?_
        refine inv_cons (fun wx hg hd => ?_) (fun v0 => ?_)
        · have hx := ((Below.refl w0.heap.size w0).drew).trans hg
          clear hd hg
          have T := T0.out.later hx
          obtain ⟨t0, t1, t2, t3, t4, t5, t6⟩ := T.cells
          go_wp2
          exact ⟨_, rfl, Below.refl _ _, rfl⟩
        (try simp only [List.nil_append, Act.put, List.setIfInBounds_toArray, List.set_cons_zero, List.set_cons_succ])
        refine inv_cons (fun wx hg hd => ?_) (fun v1 => ?_)
        · have hx := ((Below.refl w0.heap.size w0).drew).trans hg
          (try (have ee : v0 = (.agg #[.int .i64 r, .int .i64 z.1, .int .i64 z.2] : Value) := hd 0 (by simp) (by decide); subst ee))
          clear hd hg
          go_wp2_with fail
          refine (HOC.out _).mono ?_
          rintro e w' ⟨rfl, hb⟩
          go_wp2
          exact ⟨_, rfl, hb, rfl⟩
        (try simp only [List.cons_append, List.nil_append, Act.put, List.setIfInBounds_toArray, List.set_cons_zero, List.set_cons_succ])
        refine inv_cons (fun wx hg hd => ?_) (fun v2 => ?_)
        · have hx := ((Below.refl w0.heap.size w0).drew).trans hg
          (try (have ee : v1 = (.bool true : Value) := hd 1 (by simp) (by decide); subst ee))
          clear hd hg
          go_wp2
          exact ⟨_, rfl, Below.refl _ _, rfl⟩
        (try simp only [List.cons_append, List.nil_append, Act.put, List.setIfInBounds_toArray, List.set_cons_zero, List.set_cons_succ])
        refine inv_cons (fun wx hg hd => ?_) (fun v3 => ?_)
        · have hx := ((Below.refl w0.heap.size w0).drew).trans hg
          (try (have ee : v2 = (.bool true : Value) := hd 2 (by simp) (by decide); subst ee))
          clear hd hg
          have T := T1.out.later hx
          obtain ⟨t0, t1, t2, t3, t4, t5, t6⟩ := T.cells
          go_wp2
          exact ⟨_, rfl, Below.refl _ _, rfl⟩
        (try simp only [List.cons_append, List.nil_append, Act.put, List.setIfInBounds_toArray, List.set_cons_zero, List.set_cons_succ])
        refine inv_cons (fun wx hg hd => ?_) (fun v4 => ?_)
        · have hx := ((Below.refl w0.heap.size w0).drew).trans hg
          (try (have ee : v2 = (.bool true : Value) := hd 2 (by simp) (by decide); subst ee))
          (try (have ee : v3 = (.agg #[.int .i64 s, .int .i64 y.1, .int .i64 y.2] : Value) := hd 3 (by simp) (by decide); subst ee))
          clear hd hg
          go_wp2_with fail
          refine (HOA.out _).mono ?_
          rintro e w' ⟨rfl, hb⟩
          go_wp2
          exact ⟨_, rfl, hb, rfl⟩
        (try simp only [List.cons_append, List.nil_append, Act.put, List.setIfInBounds_toArray, List.set_cons_zero, List.set_cons_succ])
        refine inv_cons (fun wx hg hd => ?_) (fun v5 => ?_)
        · have hx := ((Below.refl w0.heap.size w0).drew).trans hg
          (try (have ee : v2 = (.bool true : Value) := hd 2 (by simp) (by decide); subst ee))
          (try (have ee : v4 = (.bool true : Value) := hd 4 (by simp) (by decide); subst ee))
          clear hd hg
          go_wp2
          exact ⟨_, rfl, Below.refl _ _, rfl⟩
        (try simp only [List.cons_append, List.nil_append, Act.put, List.setIfInBounds_toArray, List.set_cons_zero, List.set_cons_succ])
        refine inv_cons (fun wx hg hd => ?_) (fun v6 => ?_)
        · have hx := ((Below.refl w0.heap.size w0).drew).trans hg
          (try (have ee : v5 = (.bool true : Value) := hd 5 (by simp) (by decide); subst ee))
          clear hd hg
          go_wp2
          exact ⟨_, rfl, Below.refl _ _, rfl⟩
        (try simp only [List.cons_append, List.nil_append, Act.put, List.setIfInBounds_toArray, List.set_cons_zero, List.set_cons_succ])
        refine inv_cons (fun wx hg hd => ?_) (fun v7 => ?_)
        · have hx := ((Below.refl w0.heap.size w0).drew).trans hg
          (try (have ee : v6 = (.bool true : Value) := hd 6 (by simp) (by decide); subst ee))
          clear hd hg
          go_wp2
          exact ⟨_, rfl, Below.refl _ _, rfl⟩
        (try simp only [List.cons_append, List.nil_append, Act.put, List.setIfInBounds_toArray, List.set_cons_zero, List.set_cons_succ])
        refine inv_cons (fun wx hg hd => ?_) (fun v8 => ?_)
        · have hx := ((Below.refl w0.heap.size w0).drew).trans hg
          (try (have ee : v6 = (.bool true : Value) := hd 6 (by simp) (by decide); subst ee))
          (try (have ee : v7 = (.pointer (some ⟨w.heap.size, 0, none⟩) : Value) := hd 7 (by simp) (by decide); subst ee))
          clear hd hg
          have T := T0.out.later hx
          obtain ⟨t0, t1, t2, t3, t4, t5, t6⟩ := T.cells
          go_wp2
          exact ⟨_, rfl, Below.refl _ _, rfl⟩
        (try simp only [List.cons_append, List.nil_append, Act.put, List.setIfInBounds_toArray, List.set_cons_zero, List.set_cons_succ])
        refine inv_cons (fun wx hg hd => ?_) (fun v9 => ?_)
        · have hx := ((Below.refl w0.heap.size w0).drew).trans hg
          (try (have ee : v6 = (.bool true : Value) := hd 6 (by simp) (by decide); subst ee))
          clear hd hg
          go_wp2
          exact ⟨_, rfl, Below.refl _ _, rfl⟩
        (try simp only [List.cons_append, List.nil_append, Act.put, List.setIfInBounds_toArray, List.set_cons_zero, List.set_cons_succ])
        refine inv_cons (fun wx hg hd => ?_) (fun v10 => ?_)
        · have hx := ((Below.refl w0.heap.size w0).drew).trans hg
          (try (have ee : v6 = (.bool true : Value) := hd 6 (by simp) (by decide); subst ee))
          (try (have ee : v9 = (.pointer (some ⟨w.heap.size + 1, 0, none⟩) : Value) := hd 9 (by simp) (by decide); subst ee))
          clear hd hg
          have T := T1.out.later hx
          obtain ⟨t0, t1, t2, t3, t4, t5, t6⟩ := T.cells
          go_wp2
          exact ⟨_, rfl, Below.refl _ _, rfl⟩
        (try simp only [List.cons_append, List.nil_append, Act.put, List.setIfInBounds_toArray, List.set_cons_zero, List.set_cons_succ])
        refine inv_cons (fun wx hg hd => ?_) (fun v11 => ?_)
        · have hx := ((Below.refl w0.heap.size w0).drew).trans hg
          (try (have ee : v6 = (.bool true : Value) := hd 6 (by simp) (by decide); subst ee))
          (try (have ee : v8 = (.int .i64 r : Value) := hd 8 (by simp) (by decide); subst ee))
          (try (have ee : v10 = (.int .i64 s : Value) := hd 10 (by simp) (by decide); subst ee))
          clear hd hg
          go_wp2
          exact ⟨_, rfl, Below.refl _ _, rfl⟩
        (try simp only [List.cons_append, List.nil_append, Act.put, List.setIfInBounds_toArray, List.set_cons_zero, List.set_cons_succ])
        refine inv_cons (fun wx hg hd => ?_) (fun v12 => ?_)
        · have hx := ((Below.refl w0.heap.size w0).drew).trans hg
          (try (have ee : v6 = (.bool true : Value) := hd 6 (by simp) (by decide); subst ee))
          (try (have ee : v11 = (.bool false : Value) := hd 11 (by simp) (by decide); subst ee))
          clear hd hg
          go_wp2
          exact ⟨_, rfl, Below.refl _ _, rfl⟩
        (try simp only [List.cons_append, List.nil_append, Act.put, List.setIfInBounds_toArray, List.set_cons_zero, List.set_cons_succ])
        refine inv_cons (fun wx hg hd => ?_) (fun v13 => ?_)
        · have hx := ((Below.refl w0.heap.size w0).drew).trans hg
          (try (have ee : v12 = (.bool false : Value) := hd 12 (by simp) (by decide); subst ee))
          clear hd hg
          go_wp2
          exact ⟨_, rfl, Below.refl _ _, rfl⟩
        (try simp only [List.cons_append, List.nil_append, Act.put, List.setIfInBounds_toArray, List.set_cons_zero, List.set_cons_succ])
        refine inv_cons (fun wx hg hd => ?_) (fun v14 => ?_)
        · have hx := ((Below.refl w0.heap.size w0).drew).trans hg
          (try (have ee : v13 = (.bool false : Value) := hd 13 (by simp) (by decide); subst ee))
          clear hd hg
          go_wp2
          exact ⟨_, rfl, Below.refl _ _, rfl⟩
        (try simp only [List.cons_append, List.nil_append, Act.put, List.setIfInBounds_toArray, List.set_cons_zero, List.set_cons_succ])
        refine inv_cons (fun wx hg hd => ?_) (fun v15 => ?_)
        · have hx := ((Below.refl w0.heap.size w0).drew).trans hg
          (try (have ee : v13 = (.bool false : Value) := hd 13 (by simp) (by decide); subst ee))
          clear hd hg
          go_wp2
          exact ⟨_, rfl, Below.refl _ _, rfl⟩
        (try simp only [List.cons_append, List.nil_append, Act.put, List.setIfInBounds_toArray, List.set_cons_zero, List.set_cons_succ])
        refine inv_cons (fun wx hg hd => ?_) (fun v16 => ?_)
        · have hx := ((Below.refl w0.heap.size w0).drew).trans hg
          (try (have ee : v13 = (.bool false : Value) := hd 13 (by simp) (by decide); subst ee))
          (try (have ee : v15 = (undef : Value) := hd 15 (by simp) (by decide); subst ee))
          clear hd hg
          go_wp2
          exact ⟨_, rfl, Below.refl _ _, rfl⟩
        (try simp only [List.cons_append, List.nil_append, Act.put, List.setIfInBounds_toArray, List.set_cons_zero, List.set_cons_succ])
        refine inv_cons (fun wx hg hd => ?_) (fun v17 => ?_)
        · have hx := ((Below.refl w0.heap.size w0).drew).trans hg
          (try (have ee : v13 = (.bool false : Value) := hd 13 (by simp) (by decide); subst ee))
          (try (have ee : v14 = (undef : Value) := hd 14 (by simp) (by decide); subst ee))
          (try (have ee : v16 = (undef : Value) := hd 16 (by simp) (by decide); subst ee))
          clear hd hg
          go_wp2
          exact ⟨_, rfl, Below.refl _ _, rfl⟩
        (try simp only [List.cons_append, List.nil_append, Act.put, List.setIfInBounds_toArray, List.set_cons_zero, List.set_cons_succ])
        refine inv_cons (fun wx hg hd => ?_) (fun v18 => ?_)
        · have hx := ((Below.refl w0.heap.size w0).drew).trans hg
          (try (have ee : v13 = (.bool false : Value) := hd 13 (by simp) (by decide); subst ee))
          clear hd hg
          go_wp2
          exact ⟨_, rfl, Below.refl _ _, rfl⟩
        (try simp only [List.cons_append, List.nil_append, Act.put, List.setIfInBounds_toArray, List.set_cons_zero, List.set_cons_succ])
        refine inv_cons (fun wx hg hd => ?_) (fun v19 => ?_)
        · have hx := ((Below.refl w0.heap.size w0).drew).trans hg
          (try (have ee : v13 = (.bool false : Value) := hd 13 (by simp) (by decide); subst ee))
          (try (have ee : v17 = (undef : Value) := hd 17 (by simp) (by decide); subst ee))
          (try (have ee : v18 = (undef : Value) := hd 18 (by simp) (by decide); subst ee))
          clear hd hg
          go_wp2
          exact ⟨_, rfl, Below.refl _ _, rfl⟩
        (try simp only [List.cons_append, List.nil_append, Act.put, List.setIfInBounds_toArray, List.set_cons_zero, List.set_cons_succ])
        refine inv_cons (fun wx hg hd => ?_) (fun v20 => ?_)
        · have hx := ((Below.refl w0.heap.size w0).drew).trans hg
          (try (have ee : v13 = (.bool false : Value) := hd 13 (by simp) (by decide); subst ee))
          (try (have ee : v19 = (undef : Value) := hd 19 (by simp) (by decide); subst ee))
          clear hd hg
          go_wp2
          exact ⟨_, rfl, Below.refl _ _, rfl⟩
        (try simp only [List.cons_append, List.nil_append, Act.put, List.setIfInBounds_toArray, List.set_cons_zero, List.set_cons_succ])
        refine inv_cons (fun wx hg hd => ?_) (fun v21 => ?_)
        · have hx := ((Below.refl w0.heap.size w0).drew).trans hg
          (try (have ee : v20 = (.bool false : Value) := hd 20 (by simp) (by decide); subst ee))
          clear hd hg
          go_wp2
          exact ⟨_, rfl, Below.refl _ _, rfl⟩
        (try simp only [List.cons_append, List.nil_append, Act.put, List.setIfInBounds_toArray, List.set_cons_zero, List.set_cons_succ])
        refine inv_done (fun wx hg hd => ?_)
        have hx := ((Below.refl w0.heap.size w0).drew).trans hg
        (have ee : v0 = (.agg #[.int .i64 r, .int .i64 z.1, .int .i64 z.2] : Value) := hd 0 (by simp); subst ee)
        (have ee : v1 = (.bool true : Value) := hd 1 (by simp); subst ee)
        (have ee : v2 = (.bool true : Value) := hd 2 (by simp); subst ee)
        (have ee : v3 = (.agg #[.int .i64 s, .int .i64 y.1, .int .i64 y.2] : Value) := hd 3 (by simp); subst ee)
        (have ee : v4 = (.bool true : Value) := hd 4 (by simp); subst ee)
        (have ee : v5 = (.bool true : Value) := hd 5 (by simp); subst ee)
        (have ee : v6 = (.bool true : Value) := hd 6 (by simp); subst ee)
        (have ee : v7 = (.pointer (some ⟨w.heap.size, 0, none⟩) : Value) := hd 7 (by simp); subst ee)
        (have ee : v8 = (.int .i64 r : Value) := hd 8 (by simp); subst ee)
        (have ee : v9 = (.pointer (some ⟨w.heap.size + 1, 0, none⟩) : Value) := hd 9 (by simp); subst ee)
        (have ee : v10 = (.int .i64 s : Value) := hd 10 (by simp); subst ee)
        (have ee : v11 = (.bool false : Value) := hd 11 (by simp); subst ee)
        (have ee : v12 = (.bool false : Value) := hd 12 (by simp); subst ee)
        (have ee : v13 = (.bool false : Value) := hd 13 (by simp); subst ee)
        (have ee : v14 = (undef : Value) := hd 14 (by simp); subst ee)
        (have ee : v15 = (undef : Value) := hd 15 (by simp); subst ee)
        (have ee : v16 = (undef : Value) := hd 16 (by simp); subst ee)
        (have ee : v17 = (undef : Value) := hd 17 (by simp); subst ee)
        (have ee : v18 = (undef : Value) := hd 18 (by simp); subst ee)
        (have ee : v19 = (undef : Value) := hd 19 (by simp); subst ee)
        (have ee : v20 = (.bool false : Value) := hd 20 (by simp); subst ee)
        (have ee : v21 = (.bool false : Value) := hd 21 (by simp); subst ee)
        clear hd hg
        (try go_simp)
        have B1 := Lib.hid (B0.out.trans (hx.mono B0.out.size))
        clear hx
        go_wp2
        go_ret
        exact ⟨rfl, B1.out⟩
    · have hW : winB r z s y = false := by unfold winB; rw [Bool.eq_false_iff.2 h2]; simp
      rw [hW]
      rw [h1] at HOC
      rw [Bool.eq_false_iff.2 h2] at HOA
      clear h1 h2 hW
      go_enter Tryz.func67, Tryz.ntmps67
      go_upto_region 1 with (fail)
      generalize (w.alloc (.cells #[.int .i64 r, .int .i64 z.1, .int .i64 z.2] 32)).alloc (.cells #[.int .i64 s, .int .i64 y.1, .int .i64 y.2] 32) = w0 at *
      refine wp_region_inv (fun w w' => Below w.heap.size w w') (fun qi_ qv_ _ => qv_ = ([.agg #[.int .i64 r, .int .i64 z.1, .int .i64 z.2], .bool true, .bool true, .agg #[.int .i64 s, .int .i64 y.1, .int .i64 y.2], .bool false, .bool false, .bool false, undef, undef, undef, undef, undef, .bool false, .bool false, undef, undef, undef, undef, undef, undef, .bool false, .bool false] : List Value).getD qi_ undef) (by kernel_rfl) (by kernel_rfl) (fun _ => Below.refl _ _) (fun _ _ _ h1 h2 => below_later h1 h1.size h2) (fun _ _ _ _ _ _ h => h) ?_
      refine inv_cons (fun wx hg hd => ?_) (fun v0 => ?_)
      · have hx := ((Below.refl w0.heap.size w0).drew).trans hg
        clear hd hg
        have T := T0.out.later hx
        obtain ⟨t0, t1, t2, t3, t4, t5, t6⟩ := T.cells
        go_wp2
        exact ⟨_, rfl, Below.refl _ _, rfl⟩
      (try simp only [List.nil_append, Act.put, List.setIfInBounds_toArray, List.set_cons_zero, List.set_cons_succ])
      refine inv_cons (fun wx hg hd => ?_) (fun v1 => ?_)
      · have hx := ((Below.refl w0.heap.size w0).drew).trans hg
        (try (have ee : v0 = (.agg #[.int .i64 r, .int .i64 z.1, .int .i64 z.2] : Value) := hd 0 (by simp) (by decide); subst ee))
        clear hd hg
        go_wp2_with fail
        refine (HOC.out _).mono ?_
        rintro e w' ⟨rfl, hb⟩
        go_wp2
        exact ⟨_, rfl, hb, rfl⟩
      (try simp only [List.cons_append, List.nil_append, Act.put, List.setIfInBounds_toArray, List.set_cons_zero, List.set_cons_succ])
      refine inv_cons (fun wx hg hd => ?_) (fun v2 => ?_)
      · have hx := ((Below.refl w0.heap.size w0).drew).trans hg
        (try (have ee : v1 = (.bool true : Value) := hd 1 (by simp) (by decide); subst ee))
        clear hd hg
        go_wp2
        exact ⟨_, rfl, Below.refl _ _, rfl⟩
      (try simp only [List.cons_append, List.nil_append, Act.put, List.setIfInBounds_toArray, List.set_cons_zero, List.set_cons_succ])
      refine inv_cons (fun wx hg hd => ?_) (fun v3 => ?_)
      · have hx := ((Below.refl w0.heap.size w0).drew).trans hg
        (try (have ee : v2 = (.bool true : Value) := hd 2 (by simp) (by decide); subst ee))
        clear hd hg
        have T := T1.out.later hx
        obtain ⟨t0, t1, t2, t3, t4, t5, t6⟩ := T.cells
        go_wp2
        exact ⟨_, rfl, Below.refl _ _, rfl⟩
      (try simp only [List.cons_append, List.nil_append, Act.put, List.setIfInBounds_toArray, List.set_cons_zero, List.set_cons_succ])
      refine inv_cons (fun wx hg hd => ?_) (fun v4 => ?_)
      · have hx := ((Below.refl w0.heap.size w0).drew).trans hg
        (try (have ee : v2 = (.bool true : Value) := hd 2 (by simp) (by decide); subst ee))
        (try (have ee : v3 = (.agg #[.int .i64 s, .int .i64 y.1, .int .i64 y.2] : Value) := hd 3 (by simp) (by decide); subst ee))
        clear hd hg
        go_wp2_with fail
        refine (HOA.out _).mono ?_
        rintro e w' ⟨rfl, hb⟩
        go_wp2
        exact ⟨_, rfl, hb, rfl⟩
      (try simp only [List.cons_append, List.nil_append, Act.put, List.setIfInBounds_toArray, List.set_cons_zero, List.set_cons_succ])
      refine inv_cons (fun wx hg hd => ?_) (fun v5 => ?_)
      · have hx := ((Below.refl w0.heap.size w0).drew).trans hg
        (try (have ee : v2 = (.bool true : Value) := hd 2 (by simp) (by decide); subst ee))
        (try (have ee : v4 = (.bool false : Value) := hd 4 (by simp) (by decide); subst ee))
        clear hd hg
        go_wp2
        exact ⟨_, rfl, Below.refl _ _, rfl⟩
      (try simp only [List.cons_append, List.nil_append, Act.put, List.setIfInBounds_toArray, List.set_cons_zero, List.set_cons_succ])
      refine inv_cons (fun wx hg hd => ?_) (fun v6 => ?_)
      · have hx := ((Below.refl w0.heap.size w0).drew).trans hg
        (try (have ee : v5 = (.bool false : Value) := hd 5 (by simp) (by decide); subst ee))
        clear hd hg
        go_wp2
        exact ⟨_, rfl, Below.refl _ _, rfl⟩
      (try simp only [List.cons_append, List.nil_append, Act.put, List.setIfInBounds_toArray, List.set_cons_zero, List.set_cons_succ])
      refine inv_cons (fun wx hg hd => ?_) (fun v7 => ?_)
      · have hx := ((Below.refl w0.heap.size w0).drew).trans hg
        (try (have ee : v6 = (.bool false : Value) := hd 6 (by simp) (by decide); subst ee))
        clear hd hg
        go_wp2
        exact ⟨_, rfl, Below.refl _ _, rfl⟩
      (try simp only [List.cons_append, List.nil_append, Act.put, List.setIfInBounds_toArray, List.set_cons_zero, List.set_cons_succ])
      refine inv_cons (fun wx hg hd => ?_) (fun v8 => ?_)
      · have hx := ((Below.refl w0.heap.size w0).drew).trans hg
        (try (have ee : v6 = (.bool false : Value) := hd 6 (by simp) (by decide); subst ee))
        (try (have ee : v7 = (undef : Value) := hd 7 (by simp) (by decide); subst ee))
        clear hd hg
        go_wp2
        exact ⟨_, rfl, Below.refl _ _, rfl⟩
      (try simp only [List.cons_append, List.nil_append, Act.put, List.setIfInBounds_toArray, List.set_cons_zero, List.set_cons_succ])
      refine inv_cons (fun wx hg hd => ?_) (fun v9 => ?_)
      · have hx := ((Below.refl w0.heap.size w0).drew).trans hg
        (try (have ee : v6 = (.bool false : Value) := hd 6 (by simp) (by decide); subst ee))
        clear hd hg
        go_wp2
        exact ⟨_, rfl, Below.refl _ _, rfl⟩
      (try simp only [List.cons_append, List.nil_append, Act.put, List.setIfInBounds_toArray, List.set_cons_zero, List.set_cons_succ])
      refine inv_cons (fun wx hg hd => ?_) (fun v10 => ?_)
      · have hx := ((Below.refl w0.heap.size w0).drew).trans hg
        (try (have ee : v6 = (.bool false : Value) := hd 6 (by simp) (by decide); subst ee))
        (try (have ee : v9 = (undef : Value) := hd 9 (by simp) (by decide); subst ee))
        clear hd hg
        go_wp2
        exact ⟨_, rfl, Below.refl _ _, rfl⟩
      (try simp only [List.cons_append, List.nil_append, Act.put, List.setIfInBounds_toArray, List.set_cons_zero, List.set_cons_succ])
      refine inv_cons (fun wx hg hd => ?_) (fun v11 => ?_)
      · have hx := ((Below.refl w0.heap.size w0).drew).trans hg
        (try (have ee : v6 = (.bool false : Value) := hd 6 (by simp) (by decide); subst ee))
        (try (have ee : v8 = (undef : Value) := hd 8 (by simp) (by decide); subst ee))
        (try (have ee : v10 = (undef : Value) := hd 10 (by simp) (by decide); subst ee))
        clear hd hg
        go_wp2
        exact ⟨_, rfl, Below.refl _ _, rfl⟩
      (try simp only [List.cons_append, List.nil_append, Act.put, List.setIfInBounds_toArray, List.set_cons_zero, List.set_cons_succ])
      refine inv_cons (fun wx hg hd => ?_) (fun v12 => ?_)
      · have hx := ((Below.refl w0.heap.size w0).drew).trans hg
        (try (have ee : v6 = (.bool false : Value) := hd 6 (by simp) (by decide); subst ee))
        (try (have ee : v11 = (undef : Value) := hd 11 (by simp) (by decide); subst ee))
        clear hd hg
        go_wp2
        exact ⟨_, rfl, Below.refl _ _, rfl⟩
      (try simp only [List.cons_append, List.nil_append, Act.put, List.setIfInBounds_toArray, List.set_cons_zero, List.set_cons_succ])
      refine inv_cons (fun wx hg hd => ?_) (fun v13 => ?_)
      · have hx := ((Below.refl w0.heap.size w0).drew).trans hg
        (try (have ee : v12 = (.bool false : Value) := hd 12 (by simp) (by decide); subst ee))
        clear hd hg
        go_wp2
        exact ⟨_, rfl, Below.refl _ _, rfl⟩
      (try simp only [List.cons_append, List.nil_append, Act.put, List.setIfInBounds_toArray, List.set_cons_zero, List.set_cons_succ])
      refine inv_cons (fun wx hg hd => ?_) (fun v14 => ?_)
      · have hx := ((Below.refl w0.heap.size w0).drew).trans hg
        (try (have ee : v13 = (.bool false : Value) := hd 13 (by simp) (by decide); subst ee))
        clear hd hg
        go_wp2
        exact ⟨_, rfl, Below.refl _ _, rfl⟩
      (try simp only [List.cons_append, List.nil_append, Act.put, List.setIfInBounds_toArray, List.set_cons_zero, List.set_cons_succ])
      refine inv_cons (fun wx hg hd => ?_) (fun v15 => ?_)
      · have hx := ((Below.refl w0.heap.size w0).drew).trans hg
        (try (have ee : v13 = (.bool false : Value) := hd 13 (by simp) (by decide); subst ee))
        clear hd hg
        go_wp2
        exact ⟨_, rfl, Below.refl _ _, rfl⟩
      (try simp only [List.cons_append, List.nil_append, Act.put, List.setIfInBounds_toArray, List.set_cons_zero, List.set_cons_succ])
      refine inv_cons (fun wx hg hd => ?_) (fun v16 => ?_)
      · have hx := ((Below.refl w0.heap.size w0).drew).trans hg
        (try (have ee : v13 = (.bool false : Value) := hd 13 (by simp) (by decide); subst ee))
        (try (have ee : v15 = (undef : Value) := hd 15 (by simp) (by decide); subst ee))
        clear hd hg
        go_wp2
        exact ⟨_, rfl, Below.refl _ _, rfl⟩
      (try simp only [List.cons_append, List.nil_append, Act.put, List.setIfInBounds_toArray, List.set_cons_zero, List.set_cons_succ])
      refine inv_cons (fun wx hg hd => ?_) (fun v17 => ?_)
      · have hx := ((Below.refl w0.heap.size w0).drew).trans hg
        (try (have ee : v13 = (.bool false : Value) := hd 13 (by simp) (by decide); subst ee))
        (try (have ee : v14 = (undef : Value) := hd 14 (by simp) (by decide); subst ee))
        (try (have ee : v16 = (undef : Value) := hd 16 (by simp) (by decide); subst ee))
        clear hd hg
        go_wp2
        exact ⟨_, rfl, Below.refl _ _, rfl⟩
      (try simp only [List.cons_append, List.nil_append, Act.put, List.setIfInBounds_toArray, List.set_cons_zero, List.set_cons_succ])
      refine inv_cons (fun wx hg hd => ?_) (fun v18 => ?_)
      · have hx := ((Below.refl w0.heap.size w0).drew).trans hg
        (try (have ee : v13 = (.bool false : Value) := hd 13 (by simp) (by decide); subst ee))
        clear hd hg
        go_wp2
        exact ⟨_, rfl, Below.refl _ _, rfl⟩
      (try simp only [List.cons_append, List.nil_append, Act.put, List.setIfInBounds_toArray, List.set_cons_zero, List.set_cons_succ])
      refine inv_cons (fun wx hg hd => ?_) (fun v19 => ?_)
      · have hx := ((Below.refl w0.heap.size w0).drew).trans hg
        (try (have ee : v13 = (.bool false : Value) := hd 13 (by simp) (by decide); subst ee))
        (try (have ee : v17 = (undef : Value) := hd 17 (by simp) (by decide); subst ee))
        (try (have ee : v18 = (undef : Value) := hd 18 (by simp) (by decide); subst ee))
        clear hd hg
        go_wp2
        exact ⟨_, rfl, Below.refl _ _, rfl⟩
      (try simp only [List.cons_append, List.nil_append, Act.put, List.setIfInBounds_toArray, List.set_cons_zero, List.set_cons_succ])
      refine inv_cons (fun wx hg hd => ?_) (fun v20 => ?_)
      · have hx := ((Below.refl w0.heap.size w0).drew).trans hg
        (try (have ee : v13 = (.bool false : Value) := hd 13 (by simp) (by decide); subst ee))
        (try (have ee : v19 = (undef : Value) := hd 19 (by simp) (by decide); subst ee))
        clear hd hg
        go_wp2
        exact ⟨_, rfl, Below.refl _ _, rfl⟩
      (try simp only [List.cons_append, List.nil_append, Act.put, List.setIfInBounds_toArray, List.set_cons_zero, List.set_cons_succ])
      refine inv_cons (fun wx hg hd => ?_) (fun v21 => ?_)
      · have hx := ((Below.refl w0.heap.size w0).drew).trans hg
        (try (have ee : v20 = (.bool false : Value) := hd 20 (by simp) (by decide); subst ee))
        clear hd hg
        go_wp2
        exact ⟨_, rfl, Below.refl _ _, rfl⟩
      (try simp only [List.cons_append, List.nil_append, Act.put, List.setIfInBounds_toArray, List.set_cons_zero, List.set_cons_succ])
      refine inv_done (fun wx hg hd => ?_)
      have hx := ((Below.refl w0.heap.size w0).drew).trans hg
      (have ee : v0 = (.agg #[.int .i64 r, .int .i64 z.1, .int .i64 z.2] : Value) := hd 0 (by simp); subst ee)
      (have ee : v1 = (.bool true : Value) := hd 1 (by simp); subst ee)
      (have ee : v2 = (.bool true : Value) := hd 2 (by simp); subst ee)
      (have ee : v3 = (.agg #[.int .i64 s, .int .i64 y.1, .int .i64 y.2] : Value) := hd 3 (by simp); subst ee)
      (have ee : v4 = (.bool false : Value) := hd 4 (by simp); subst ee)
      (have ee : v5 = (.bool false : Value) := hd 5 (by simp); subst ee)
      (have ee : v6 = (.bool false : Value) := hd 6 (by simp); subst ee)
      (have ee : v7 = (undef : Value) := hd 7 (by simp); subst ee)
      (have ee : v8 = (undef : Value) := hd 8 (by simp); subst ee)
      (have ee : v9 = (undef : Value) := hd 9 (by simp); subst ee)
      (have ee : v10 = (undef : Value) := hd 10 (by simp); subst ee)
      (have ee : v11 = (undef : Value) := hd 11 (by simp); subst ee)
      (have ee : v12 = (.bool false : Value) := hd 12 (by simp); subst ee)
      (have ee : v13 = (.bool false : Value) := hd 13 (by simp); subst ee)
      (have ee : v14 = (undef : Value) := hd 14 (by simp); subst ee)
      (have ee : v15 = (undef : Value) := hd 15 (by simp); subst ee)
      (have ee : v16 = (undef : Value) := hd 16 (by simp); subst ee)
      (have ee : v17 = (undef : Value) := hd 17 (by simp); subst ee)
      (have ee : v18 = (undef : Value) := hd 18 (by simp); subst ee)
      (have ee : v19 = (undef : Value) := hd 19 (by simp); subst ee)
      (have ee : v20 = (.bool false : Value) := hd 20 (by simp); subst ee)
      (have ee : v21 = (.bool false : Value) := hd 21 (by simp); subst ee)
      clear hd hg
      (try go_simp)
      have B1 := Lib.hid (B0.out.trans (hx.mono B0.out.size))
      clear hx
      go_wp2
      go_ret
      exact ⟨rfl, B1.out⟩
  · have hW : winB r z s y = false := by unfold winB; rw [Bool.eq_false_iff.2 h1]; simp
    rw [hW]
    rw [Bool.eq_false_iff.2 h1] at HOC
    clear h1 hW
    go_enter Tryz.func67, Tryz.ntmps67
    go_upto_region 1 with (fail)
    generalize (w.alloc (.cells #[.int .i64 r, .int .i64 z.1, .int .i64 z.2] 32)).alloc (.cells #[.int .i64 s, .int .i64 y.1, .int .i64 y.2] 32) = w0 at *
    refine wp_region_inv (fun w w' => Below w.heap.size w w') (fun qi_ qv_ _ => qv_ = ([.agg #[.int .i64 r, .int .i64 z.1, .int .i64 z.2], .bool false, .bool false, undef, undef, .bool false, .bool false, undef, undef, undef, undef, undef, .bool false, .bool false, undef, undef, undef, undef, undef, undef, .bool false, .bool false] : List Value).getD qi_ undef) (by kernel_rfl) (by kernel_rfl) (fun _ => Below.refl _ _) (fun _ _ _ h1 h2 => below_later h1 h1.size h2) (fun _ _ _ _ _ _ h => h) ?_
    refine inv_cons (fun wx hg hd => ?_) (fun v0 => ?_)
    · have hx := ((Below.refl w0.heap.size w0).drew).trans hg
      clear hd hg
      have T := T0.out.later hx
      obtain ⟨t0, t1, t2, t3, t4, t5, t6⟩ := T.cells
      go_wp2
      exact ⟨_, rfl, Below.refl _ _, rfl⟩
    (try simp only [List.nil_append, Act.put, List.setIfInBounds_toArray, List.set_cons_zero, List.set_cons_succ])
    refine inv_cons (fun wx hg hd => ?_) (fun v1 => ?_)
    · have hx := ((Below.refl w0.heap.size w0).drew).trans hg
      (try (have ee : v0 = (.agg #[.int .i64 r, .int .i64 z.1, .int .i64 z.2] : Value) := hd 0 (by simp) (by decide); subst ee))
      clear hd hg
      go_wp2_with fail
      refine (HOC.out _).mono ?_
      rintro e w' ⟨rfl, hb⟩
      go_wp2
      exact ⟨_, rfl, hb, rfl⟩
    (try simp only [List.cons_append, List.nil_append, Act.put, List.setIfInBounds_toArray, List.set_cons_zero, List.set_cons_succ])
    refine inv_cons (fun wx hg hd => ?_) (fun v2 => ?_)
    · have hx := ((Below.refl w0.heap.size w0).drew).trans hg
      (try (have ee : v1 = (.bool false : Value) := hd 1 (by simp) (by decide); subst ee))
      clear hd hg
      go_wp2
      exact ⟨_, rfl, Below.refl _ _, rfl⟩
    (try simp only [List.cons_append, List.nil_append, Act.put, List.setIfInBounds_toArray, List.set_cons_zero, List.set_cons_succ])
    refine inv_cons (fun wx hg hd => ?_) (fun v3 => ?_)
    · have hx := ((Below.refl w0.heap.size w0).drew).trans hg
      (try (have ee : v2 = (.bool false : Value) := hd 2 (by simp) (by decide); subst ee))
      clear hd hg
      go_wp2
      exact ⟨_, rfl, Below.refl _ _, rfl⟩
    (try simp only [List.cons_append, List.nil_append, Act.put, List.setIfInBounds_toArray, List.set_cons_zero, List.set_cons_succ])
    refine inv_cons (fun wx hg hd => ?_) (fun v4 => ?_)
    · have hx := ((Below.refl w0.heap.size w0).drew).trans hg
      (try (have ee : v2 = (.bool false : Value) := hd 2 (by simp) (by decide); subst ee))
      (try (have ee : v3 = (undef : Value) := hd 3 (by simp) (by decide); subst ee))
      clear hd hg
      go_wp2
      exact ⟨_, rfl, Below.refl _ _, rfl⟩
    (try simp only [List.cons_append, List.nil_append, Act.put, List.setIfInBounds_toArray, List.set_cons_zero, List.set_cons_succ])
    refine inv_cons (fun wx hg hd => ?_) (fun v5 => ?_)
    · have hx := ((Below.refl w0.heap.size w0).drew).trans hg
      (try (have ee : v2 = (.bool false : Value) := hd 2 (by simp) (by decide); subst ee))
      (try (have ee : v4 = (undef : Value) := hd 4 (by simp) (by decide); subst ee))
      clear hd hg
      go_wp2
      exact ⟨_, rfl, Below.refl _ _, rfl⟩
    (try simp only [List.cons_append, List.nil_append, Act.put, List.setIfInBounds_toArray, List.set_cons_zero, List.set_cons_succ])
    refine inv_cons (fun wx hg hd => ?_) (fun v6 => ?_)
    · have hx := ((Below.refl w0.heap.size w0).drew).trans hg
      (try (have ee : v5 = (.bool false : Value) := hd 5 (by simp) (by decide); subst ee))
      clear hd hg
      go_wp2
      exact ⟨_, rfl, Below.refl _ _, rfl⟩
    (try simp only [List.cons_append, List.nil_append, Act.put, List.setIfInBounds_toArray, List.set_cons_zero, List.set_cons_succ])
    refine inv_cons (fun wx hg hd => ?_) (fun v7 => ?_)
    · have hx := ((Below.refl w0.heap.size w0).drew).trans hg
      (try (have ee : v6 = (.bool false : Value) := hd 6 (by simp) (by decide); subst ee))
      clear hd hg
      go_wp2
      exact ⟨_, rfl, Below.refl _ _, rfl⟩
    (try simp only [List.cons_append, List.nil_append, Act.put, List.setIfInBounds_toArray, List.set_cons_zero, List.set_cons_succ])
    refine inv_cons (fun wx hg hd => ?_) (fun v8 => ?_)
    · have hx := ((Below.refl w0.heap.size w0).drew).trans hg
      (try (have ee : v6 = (.bool false : Value) := hd 6 (by simp) (by decide); subst ee))
      (try (have ee : v7 = (undef : Value) := hd 7 (by simp) (by decide); subst ee))
      clear hd hg
      go_wp2
      exact ⟨_, rfl, Below.refl _ _, rfl⟩
    (try simp only [List.cons_append, List.nil_append, Act.put, List.setIfInBounds_toArray, List.set_cons_zero, List.set_cons_succ])
    refine inv_cons (fun wx hg hd => ?_) (fun v9 => ?_)
    · have hx := ((Below.refl w0.heap.size w0).drew).trans hg
      (try (have ee : v6 = (.bool false : Value) := hd 6 (by simp) (by decide); subst ee))
      clear hd hg
      go_wp2
      exact ⟨_, rfl, Below.refl _ _, rfl⟩
    (try simp only [List.cons_append, List.nil_append, Act.put, List.setIfInBounds_toArray, List.set_cons_zero, List.set_cons_succ])
    refine inv_cons (fun wx hg hd => ?_) (fun v10 => ?_)
    · have hx := ((Below.refl w0.heap.size w0).drew).trans hg
      (try (have ee : v6 = (.bool false : Value) := hd 6 (by simp) (by decide); subst ee))
      (try (have ee : v9 = (undef : Value) := hd 9 (by simp) (by decide); subst ee))
      clear hd hg
      go_wp2
      exact ⟨_, rfl, Below.refl _ _, rfl⟩
    (try simp only [List.cons_append, List.nil_append, Act.put, List.setIfInBounds_toArray, List.set_cons_zero, List.set_cons_succ])
    refine inv_cons (fun wx hg hd => ?_) (fun v11 => ?_)
    · have hx := ((Below.refl w0.heap.size w0).drew).trans hg
      (try (have ee : v6 = (.bool false : Value) := hd 6 (by simp) (by decide); subst ee))
      (try (have ee : v8 = (undef : Value) := hd 8 (by simp) (by decide); subst ee))
      (try (have ee : v10 = (undef : Value) := hd 10 (by simp) (by decide); subst ee))
      clear hd hg
      go_wp2
      exact ⟨_, rfl, Below.refl _ _, rfl⟩
    (try simp only [List.cons_append, List.nil_append, Act.put, List.setIfInBounds_toArray, List.set_cons_zero, List.set_cons_succ])
    refine inv_cons (fun wx hg hd => ?_) (fun v12 => ?_)
    · have hx := ((Below.refl w0.heap.size w0).drew).trans hg
      (try (have ee : v6 = (.bool false : Value) := hd 6 (by simp) (by decide); subst ee))
      (try (have ee : v11 = (undef : Value) := hd 11 (by simp) (by decide); subst ee))
      clear hd hg
      go_wp2
      exact ⟨_, rfl, Below.refl _ _, rfl⟩
    (try simp only [List.cons_append, List.nil_append, Act.put, List.setIfInBounds_toArray, List.set_cons_zero, List.set_cons_succ])
    refine inv_cons (fun wx hg hd => ?_) (fun v13 => ?_)
    · have hx := ((Below.refl w0.heap.size w0).drew).trans hg
      (try (have ee : v12 = (.bool false : Value) := hd 12 (by simp) (by decide); subst ee))
      clear hd hg
      go_wp2
      exact ⟨_, rfl, Below.refl _ _, rfl⟩
    (try simp only [List.cons_append, List.nil_append, Act.put, List.setIfInBounds_toArray, List.set_cons_zero, List.set_cons_succ])
    refine inv_cons (fun wx hg hd => ?_) (fun v14 => ?_)
    · have hx := ((Below.refl w0.heap.size w0).drew).trans hg
      (try (have ee : v13 = (.bool false : Value) := hd 13 (by simp) (by decide); subst ee))
      clear hd hg
      go_wp2
      exact ⟨_, rfl, Below.refl _ _, rfl⟩
    (try simp only [List.cons_append, List.nil_append, Act.put, List.setIfInBounds_toArray, List.set_cons_zero, List.set_cons_succ])
    refine inv_cons (fun wx hg hd => ?_) (fun v15 => ?_)
    · have hx := ((Below.refl w0.heap.size w0).drew).trans hg
      (try (have ee : v13 = (.bool false : Value) := hd 13 (by simp) (by decide); subst ee))
      clear hd hg
      go_wp2
      exact ⟨_, rfl, Below.refl _ _, rfl⟩
    (try simp only [List.cons_append, List.nil_append, Act.put, List.setIfInBounds_toArray, List.set_cons_zero, List.set_cons_succ])
    refine inv_cons (fun wx hg hd => ?_) (fun v16 => ?_)
    · have hx := ((Below.refl w0.heap.size w0).drew).trans hg
      (try (have ee : v13 = (.bool false : Value) := hd 13 (by simp) (by decide); subst ee))
      (try (have ee : v15 = (undef : Value) := hd 15 (by simp) (by decide); subst ee))
      clear hd hg
      go_wp2
      exact ⟨_, rfl, Below.refl _ _, rfl⟩
    (try simp only [List.cons_append, List.nil_append, Act.put, List.setIfInBounds_toArray, List.set_cons_zero, List.set_cons_succ])
    refine inv_cons (fun wx hg hd => ?_) (fun v17 => ?_)
    · have hx := ((Below.refl w0.heap.size w0).drew).trans hg
      (try (have ee : v13 = (.bool false : Value) := hd 13 (by simp) (by decide); subst ee))
      (try (have ee : v14 = (undef : Value) := hd 14 (by simp) (by decide); subst ee))
      (try (have ee : v16 = (undef : Value) := hd 16 (by simp) (by decide); subst ee))
      clear hd hg
      go_wp2
      exact ⟨_, rfl, Below.refl _ _, rfl⟩
    (try simp only [List.cons_append, List.nil_append, Act.put, List.setIfInBounds_toArray, List.set_cons_zero, List.set_cons_succ])
    refine inv_cons (fun wx hg hd => ?_) (fun v18 => ?_)
    · have hx := ((Below.refl w0.heap.size w0).drew).trans hg
      (try (have ee : v13 = (.bool false : Value) := hd 13 (by simp) (by decide); subst ee))
      clear hd hg
      go_wp2
      exact ⟨_, rfl, Below.refl _ _, rfl⟩
    (try simp only [List.cons_append, List.nil_append, Act.put, List.setIfInBounds_toArray, List.set_cons_zero, List.set_cons_succ])
    refine inv_cons (fun wx hg hd => ?_) (fun v19 => ?_)
    · have hx := ((Below.refl w0.heap.size w0).drew).trans hg
      (try (have ee : v13 = (.bool false : Value) := hd 13 (by simp) (by decide); subst ee))
      (try (have ee : v17 = (undef : Value) := hd 17 (by simp) (by decide); subst ee))
      (try (have ee : v18 = (undef : Value) := hd 18 (by simp) (by decide); subst ee))
      clear hd hg
      go_wp2
      exact ⟨_, rfl, Below.refl _ _, rfl⟩
    (try simp only [List.cons_append, List.nil_append, Act.put, List.setIfInBounds_toArray, List.set_cons_zero, List.set_cons_succ])
    refine inv_cons (fun wx hg hd => ?_) (fun v20 => ?_)
    · have hx := ((Below.refl w0.heap.size w0).drew).trans hg
      (try (have ee : v13 = (.bool false : Value) := hd 13 (by simp) (by decide); subst ee))
      (try (have ee : v19 = (undef : Value) := hd 19 (by simp) (by decide); subst ee))
      clear hd hg
      go_wp2
      exact ⟨_, rfl, Below.refl _ _, rfl⟩
    (try simp only [List.cons_append, List.nil_append, Act.put, List.setIfInBounds_toArray, List.set_cons_zero, List.set_cons_succ])
    refine inv_cons (fun wx hg hd => ?_) (fun v21 => ?_)
    · have hx := ((Below.refl w0.heap.size w0).drew).trans hg
      (try (have ee : v20 = (.bool false : Value) := hd 20 (by simp) (by decide); subst ee))
      clear hd hg
      go_wp2
      exact ⟨_, rfl, Below.refl _ _, rfl⟩
    (try simp only [List.cons_append, List.nil_append, Act.put, List.setIfInBounds_toArray, List.set_cons_zero, List.set_cons_succ])
    refine inv_done (fun wx hg hd => ?_)
    have hx := ((Below.refl w0.heap.size w0).drew).trans hg
    (have ee : v0 = (.agg #[.int .i64 r, .int .i64 z.1, .int .i64 z.2] : Value) := hd 0 (by simp); subst ee)
    (have ee : v1 = (.bool false : Value) := hd 1 (by simp); subst ee)
    (have ee : v2 = (.bool false : Value) := hd 2 (by simp); subst ee)
    (have ee : v3 = (undef : Value) := hd 3 (by simp); subst ee)
    (have ee : v4 = (undef : Value) := hd 4 (by simp); subst ee)
    (have ee : v5 = (.bool false : Value) := hd 5 (by simp); subst ee)
    (have ee : v6 = (.bool false : Value) := hd 6 (by simp); subst ee)
    (have ee : v7 = (undef : Value) := hd 7 (by simp); subst ee)
    (have ee : v8 = (undef : Value) := hd 8 (by simp); subst ee)
    (have ee : v9 = (undef : Value) := hd 9 (by simp); subst ee)
    (have ee : v10 = (undef : Value) := hd 10 (by simp); subst ee)
    (have ee : v11 = (undef : Value) := hd 11 (by simp); subst ee)
    (have ee : v12 = (.bool false : Value) := hd 12 (by simp); subst ee)
    (have ee : v13 = (.bool false : Value) := hd 13 (by simp); subst ee)
    (have ee : v14 = (undef : Value) := hd 14 (by simp); subst ee)
    (have ee : v15 = (undef : Value) := hd 15 (by simp); subst ee)
    (have ee : v16 = (undef : Value) := hd 16 (by simp); subst ee)
    (have ee : v17 = (undef : Value) := hd 17 (by simp); subst ee)
    (have ee : v18 = (undef : Value) := hd 18 (by simp); subst ee)
    (have ee : v19 = (undef : Value) := hd 19 (by simp); subst ee)
    (have ee : v20 = (.bool false : Value) := hd 20 (by simp); subst ee)
    (have ee : v21 = (.bool false : Value) := hd 21 (by simp); subst ee)
    clear hd hg
    (try go_simp)
    have B1 := Lib.hid (B0.out.trans (hx.mono B0.out.size))
    clear hx
    go_wp2
    go_ret
    exact ⟨rfl, B1.out⟩
end Go.Proofs.YtkjfdaleamonaaaGreat
/- Plain laws of packing: level by level (the document's way), and word by word from the greatest on (the program's). -/
namespace Go.Proofs.YtkjfdaleamonaaaGreat
open Go.RowKit Go.Lib Wd

/-- A word's parent as a number. -/
def parI (v : Int) : Int := (parW v.toNat : Int)
/-- Whether all seven brothers of a word are there. -/
def kidsIn (A : List Int) (p : Int) : Bool := (kidsW (rW p.toNat) p).all fun v => A.contains v
def fullB (A : List Int) (v : Int) : Bool := decide (parE v.toNat = 0) && kidsIn A (parI v)
/-- The level above: the parents of seven. -/
def nextL (A : List Int) : List Int := setF ((A.filter fun v => fullB A v).map parI)
def doneL (A : List Int) : List Int := A.filter fun v => !fullB A v
def packN : Nat → List Int → List Int
  | 0, A => A
  | n + 1, A => doneL A ++ packN n (nextL A)
/-- What cells of a size come to, packed. -/
def packF (r : Nat) (l : List Int) : List Int := setF (packN r (setF l))

theorem sized_sub {r : Nat} {l m : List Int} (h : Sized r l) (hm : ∀ v ∈ m, v ∈ l) : Sized r m := fun v hv => h v (hm v hv)
theorem sized_set {r : Nat} {l : List Int} (h : Sized r l) : Sized r (setF l) := sized_sub h fun v hv => (setF_mem l v).1 hv
/-- What a word of a size above nought is. -/
theorem word_parts {r : Nat} {v : Int} (h : ∃ z, okB (r + 1 : Nat) z = true ∧ v = (wordN (r + 1) z : Int)) :
    parE v.toNat = 0 ∧ ∃ p, okB r p = true ∧ parI v = (wordN r p : Int) ∧ v ∈ kidsW r (wordN r p) := by
  obtain ⟨z, hz, rfl⟩ := h
  obtain ⟨hr, -⟩ := okB_parts hz
  have hp := up_ok hz
  have e := par_kid hr hp (digE_lt z)
  rw [down_up z] at e
  refine ⟨by rw [Int.toNat_natCast]; exact e.1, upE z, hp, by unfold parI; rw [Int.toNat_natCast, e.2], ?_⟩
  rw [kidsW_mem hr]
  exact ⟨digE z, digE_lt z, by rw [down_up z]⟩
theorem rW_word {r : Nat} {z : E2} (h : okB r z = true) : rW (wordN r z) = r := (word_cell h).2.1
theorem par_of {r : Nat} {p : E2} (hr : r + 1 ≤ 12) (hp : okB r p = true) {v : Int} (hv : v ∈ kidsW r (wordN r p)) : parE v.toNat = 0 ∧ parI v = (wordN r p : Int) := by
  obtain ⟨d, hd, rfl⟩ := (kidsW_mem hr v).1 hv
  have e := par_kid hr hp hd
  unfold parI
  rw [Int.toNat_natCast]
  exact ⟨e.1, by rw [e.2]⟩
theorem full_iff {r : Nat} {p : E2} (hr : r + 1 ≤ 12) (hp : okB r p = true) {A : List Int} {v : Int} (hv : v ∈ kidsW r (wordN r p)) : fullB A v = true ↔ ∀ u ∈ kidsW r (wordN r p), u ∈ A := by
  obtain ⟨e1, e2⟩ := par_of hr hp hv
  unfold fullB kidsIn
  rw [e2, Int.toNat_natCast, rW_word hp, decide_eq_true e1, Bool.true_and, List.all_eq_true]
  exact ⟨fun h u hu => List.contains_iff_mem.1 (h u hu), fun h u hu => List.contains_iff_mem.2 (h u hu)⟩
theorem next_sized {r : Nat} {A : List Int} (h : Sized (r + 1) A) : Sized r (nextL A) := fun q hq => by
  obtain ⟨v, hv, rfl⟩ := List.mem_map.1 ((setF_mem _ _).1 hq)
  obtain ⟨-, p, hp, e, -⟩ := word_parts (h v (List.mem_filter.1 hv).1)
  exact ⟨p, hp, e⟩
theorem next_mem {r : Nat} (hr : r + 1 ≤ 12) {A : List Int} (h : Sized (r + 1) A) (q : Int) : q ∈ nextL A ↔ ∃ p, okB r p = true ∧ q = (wordN r p : Int) ∧ ∀ u ∈ kidsW r (wordN r p), u ∈ A := by
  unfold nextL
  rw [setF_mem, List.mem_map]
  constructor
  · rintro ⟨v, hv, rfl⟩
    obtain ⟨h1, h2⟩ := List.mem_filter.1 hv
    obtain ⟨-, p, hp, e, hk⟩ := word_parts (h v h1)
    exact ⟨p, hp, e, (full_iff hr hp hk).1 h2⟩
  · rintro ⟨p, hp, rfl, hA⟩
    have hk : (wordN (r + 1) (downE p 0) : Int) ∈ kidsW r (wordN r p) := (kidsW_mem hr _).2 ⟨0, by omega, rfl⟩
    exact ⟨_, List.mem_filter.2 ⟨hA _ hk, (full_iff hr hp hk).2 hA⟩, (par_of hr hp hk).2⟩

/-- The program's way: a word more, from the greatest on. -/
structure Mc where
  out : List Int
  grp : List Int
  ups : List Int
def broB (a b : Int) : Bool := decide (parE a.toNat = 0) && decide (parE b.toNat = 0) && decide (parI a = parI b)
def mFlush (s : Mc) (w : Int) : Mc := if s.grp ≠ [] ∧ broB (s.grp.getD 0 0) w = false then ⟨s.out ++ s.grp, [], s.ups⟩ else s
def mStep (s : Mc) (w : Int) : Mc :=
  if (mFlush s w).grp.length + 1 = 7 then ⟨(mFlush s w).out, [], (mFlush s w).ups ++ [parI w]⟩ else ⟨(mFlush s w).out, (mFlush s w).grp ++ [w], (mFlush s w).ups⟩
/-- A block of brothers. -/
theorem m_block {r : Nat} {p : E2} (hr : r + 1 ≤ 12) (hp : okB r p = true) : ∀ (B : List Int) (s : Mc), B ≠ [] → B.length ≤ 7 → (∀ v ∈ B, v ∈ kidsW r (wordN r p)) → (s.grp = [] ∨ ∀ v ∈ B, broB (s.grp.getD 0 0) v = false) →
    B.foldl mStep s = if B.length = 7 then ⟨s.out ++ s.grp, [], s.ups ++ [(wordN r p : Int)]⟩ else ⟨s.out ++ s.grp, B, s.ups⟩ := by
  intro B
  induction B using snoc_ind with
  | h0 => intro s h; exact absurd rfl h
  | h1 B w ih =>
    intro s _ hlen hk hs
    rw [List.length_append] at hlen
    simp only [List.length_cons, List.length_nil] at hlen
    obtain ⟨w1, w2⟩ := par_of hr hp (hk w (by simp))
    rw [List.foldl_append]
    show mStep (B.foldl mStep s) w = _
    by_cases hB : B = []
    · subst hB
      have e : mFlush s w = ⟨s.out ++ s.grp, [], s.ups⟩ := by
        unfold mFlush
        rcases hs with h | h
        · rw [if_neg (by rw [h]; simp), h, List.append_nil]
          obtain ⟨a, b, c⟩ := s
          simp only at h
          subst h
          rfl
        · by_cases h0 : s.grp = []
          · rw [if_neg (by rw [h0]; simp), h0, List.append_nil]
            obtain ⟨a, b, c⟩ := s
            simp only at h0
            subst h0
            rfl
          · rw [if_pos ⟨h0, h w (by simp)⟩]
      show mStep s w = _
      unfold mStep
      rw [e]
      simp
    · have ihs := ih s hB (by omega) (fun v hv => hk v (by simp [hv])) (hs.imp id fun h v hv => h v (by simp [hv]))
      rw [ihs, if_neg (by omega)]
      have hb0 : B.getD 0 0 ∈ B := getD_mem (List.length_pos_iff.2 hB)
      obtain ⟨b1, b2⟩ := par_of hr hp (hk _ (List.mem_append_left _ hb0))
      have hbro : broB (B.getD 0 0) w = true := by
        unfold broB
        rw [decide_eq_true b1, decide_eq_true w1, b2, w2, decide_eq_true rfl]
        rfl
      have e : mFlush ⟨s.out ++ s.grp, B, s.ups⟩ w = ⟨s.out ++ s.grp, B, s.ups⟩ := by
        unfold mFlush
        rw [if_neg (by rw [hbro]; simp)]
      unfold mStep
      rw [e]
      simp only [List.length_append, List.length_cons, List.length_nil]
      by_cases h7 : B.length + 1 = 7
      · rw [if_pos h7, if_pos (by omega), w2]
      · rw [if_neg h7, if_neg (by omega)]
end Go.Proofs.YtkjfdaleamonaaaGreat
/- Plain laws of packing: one level by the program's way; the levels, one behind the other; what comes out. -/
namespace Go.Proofs.YtkjfdaleamonaaaGreat
open Go.RowKit Go.Lib Wd

/-- Falling. -/
def Dn (l : List Int) : Prop := l.Pairwise (· > ·)
theorem Dn.rev {l : List Int} (h : Dn l) : Up l.reverse := List.pairwise_reverse.2 h
theorem Up.rev {l : List Int} (h : Up l) : Dn l.reverse := List.pairwise_reverse.2 h
theorem Up.nodup {l : List Int} (h : Up l) : l.Nodup := List.nodup_iff_pairwise_ne.2 (h.imp fun h => by omega)
theorem Dn.nodup {l : List Int} (h : Dn l) : l.Nodup := List.nodup_iff_pairwise_ne.2 (h.imp fun h => by omega)
theorem kidsW_len (r : Nat) (W : Int) : (kidsW r W).length = 7 := by unfold kidsW; simp
/-- What lies among a cell's children is as many as they are just if all are there. -/
theorem kids_full {r : Nat} (hr : r + 1 ≤ 12) {p : E2} {B : List Int} (hB : Dn B) (hk : ∀ v ∈ B, v ∈ kidsW r (wordN r p)) : B.length ≤ 7 ∧ (B.length = 7 ↔ ∀ u ∈ kidsW r (wordN r p), u ∈ B) := by
  have e : B.reverse = (kidsW r (wordN r p)).filter fun v => B.contains v := by
    refine hB.rev.ext (filter_up (kids_up hr p) _) fun x => ?_
    rw [List.mem_reverse, List.mem_filter, List.contains_iff_mem]
    exact ⟨fun h => ⟨hk x h, h⟩, fun h => h.2⟩
  have hl : B.length = ((kidsW r (wordN r p)).filter fun v => B.contains v).length := by rw [← e, List.length_reverse]
  have h7 := kidsW_len r (wordN r p)
  refine ⟨by rw [hl, ← h7]; exact List.length_filter_le _ _, ?_⟩
  rw [hl, ← h7, List.length_filter_eq_length_iff]
  exact ⟨fun h u hu => List.contains_iff_mem.1 (h u hu), fun h u hu => List.contains_iff_mem.2 (h u hu)⟩
theorem par_mono {r : Nat} {u v : Int} (hu : ∃ z, okB (r + 1 : Nat) z = true ∧ u = (wordN (r + 1) z : Int)) (hv : ∃ z, okB (r + 1 : Nat) z = true ∧ v = (wordN (r + 1) z : Int)) (h : u < v) : parI u ≤ parI v := by
  have hr : r + 1 ≤ 12 := by obtain ⟨z, hz, -⟩ := hu; exact (okB_parts hz).1
  obtain ⟨-, p, hp, e1, k1⟩ := word_parts hu
  obtain ⟨-, q, hq, e2, k2⟩ := word_parts hv
  obtain ⟨d, hd, rfl⟩ := (kidsW_mem hr u).1 k1
  obtain ⟨c, hc, rfl⟩ := (kidsW_mem hr v).1 k2
  rw [e1, e2]
  rcases Nat.lt_or_ge (wordN r q) (wordN r p) with h3 | h3
  · have := kids_apart hr h3 hc hd
    omega
  · omega
theorem bro_apart {a v : Int} (h : parI a ≠ parI v) : broB a v = false := by
  unfold broB
  rw [decide_eq_false h, Bool.and_false]
/-- A word of a size above nought has a parent of the size above. -/
theorem par_sized {r : Nat} {v : Int} (h : ∃ z, okB (r + 1 : Nat) z = true ∧ v = (wordN (r + 1) z : Int)) : ∃ p, okB r p = true ∧ parI v = (wordN r p : Int) := by
  obtain ⟨-, p, hp, e, -⟩ := word_parts h
  exact ⟨p, hp, e⟩
theorem sized_unlike {r s : Nat} {v : Int} (h : ∃ z, okB r z = true ∧ v = (wordN r z : Int)) (h2 : ∃ z, okB s z = true ∧ v = (wordN s z : Int)) : r = s := by
  obtain ⟨y, hy, rfl⟩ := h
  obtain ⟨z, hz, e⟩ := h2
  exact (word_inj hy hz (by omega)).1
/-- A word of the size below is no brother. -/
theorem bro_below {r : Nat} {a v : Int} (ha : ∃ z, okB (r + 1 : Nat) z = true ∧ a = (wordN (r + 1) z : Int)) (hv : ∃ z, okB r z = true ∧ v = (wordN r z : Int)) : broB a v = false := by
  obtain ⟨p, hp, e⟩ := par_sized ha
  cases r with
  | zero =>
    obtain ⟨z, hz, rfl⟩ := hv
    obtain ⟨a1, a2, -⟩ := word_cell hz
    unfold broB parE
    rw [Int.toNat_natCast, if_pos a1, if_pos a2]
    simp
  | succ s =>
    obtain ⟨q, hq, e2⟩ := par_sized hv
    refine bro_apart fun h => ?_
    rw [e, e2] at h
    have := (word_inj hp hq (by omega)).1
    omega
/-- A list that falls, parted behind the first one's brothers. -/
theorem split_bro {r : Nat} {w : Int} {A : List Int} (hA : Dn (w :: A)) (hs : Sized (r + 1) (w :: A)) :
    ∃ B A', w :: A = (w :: B) ++ A' ∧ (∀ v ∈ w :: B, parI v = parI w) ∧ ∀ v ∈ A', parI v < parI w := by
  refine ⟨A.takeWhile fun v => decide (parI v = parI w), A.dropWhile fun v => decide (parI v = parI w), by rw [List.cons_append, List.takeWhile_append_dropWhile], fun v hv => ?_, fun v hv => ?_⟩
  · rcases List.mem_cons.1 hv with rfl | hv
    · rfl
    · exact of_decide_eq_true (List.all_eq_true.1 (List.all_takeWhile (l := A) (p := fun v => decide (parI v = parI w))) v hv)
  · have hsuf : (A.dropWhile fun v => decide (parI v = parI w)).Sublist A := List.dropWhile_sublist _
    obtain ⟨hw, hA2⟩ := List.pairwise_cons.1 hA
    have hd : Dn (A.dropWhile fun v => decide (parI v = parI w)) := hA2.sublist hsuf
    have hmem : ∀ u ∈ A.dropWhile (fun v => decide (parI v = parI w)), u ∈ A := fun u hu => hsuf.subset hu
    cases hc : A.dropWhile fun v => decide (parI v = parI w) with
    | nil => rw [hc] at hv; cases hv
    | cons x X =>
      have hx : parI x ≠ parI w := fun e => by
        have h1 := List.head_dropWhile_not (fun v => decide (parI v = parI w)) (l := A) (by rw [hc]; simp)
        simp only [hc, List.head_cons, decide_eq_false_iff_not] at h1
        exact h1 e
      have hxA : x ∈ A := hmem x (by rw [hc]; simp)
      have hxw : parI x < parI w := by
        have h1 := par_mono (hs x (by simp [hxA])) (hs w (by simp)) (hw x hxA)
        omega
      rw [hc] at hv hd
      rcases List.mem_cons.1 hv with rfl | hv
      · exact hxw
      · have hvA : v ∈ A := hmem v (by rw [hc]; simp [hv])
        have h1 := par_mono (hs v (by simp [hvA])) (hs x (by simp [hxA])) ((List.pairwise_cons.1 hd).1 v hv)
        omega
theorem next_nil : nextL [] = [] := by
  have : ∀ x, x ∈ nextL [] → False := fun x hx => by
    obtain ⟨v, hv, -⟩ := List.mem_map.1 ((setF_mem _ _).1 hx)
    cases (List.mem_filter.1 hv).1
  exact List.eq_nil_iff_forall_not_mem.2 fun x hx => this x hx
/-- One level, from the greatest word on. -/
theorem m_level {r : Nat} (hr : r + 1 ≤ 12) : ∀ (n : Nat) (A : List Int), A.length = n → ∀ s : Mc, Dn A → Sized (r + 1) A → (s.grp = [] ∨ ∀ v ∈ A, broB (s.grp.getD 0 0) v = false) →
    ∃ U, (A.foldl mStep s).ups = s.ups ++ U ∧ Dn U ∧ (∀ q, q ∈ U ↔ q ∈ nextL A) ∧ (((A.foldl mStep s).out ++ (A.foldl mStep s).grp).Perm (s.out ++ s.grp ++ doneL A)) ∧ (A ≠ [] → Sized (r + 1) (A.foldl mStep s).grp) := by
  intro n
  induction n using Nat.strongRecOn with
  | _ n ih =>
    intro A hn s hA hs hg
    cases A with
    | nil => exact ⟨[], by simp, List.Pairwise.nil, fun q => by rw [next_nil], by rw [show doneL [] = [] from rfl]; simp, fun h => absurd rfl h⟩
    | cons w A0 =>
      obtain ⟨B0, A', hAB, hB, hA'⟩ := split_bro hA hs
      obtain ⟨-, p, hp, ep, hkw⟩ := word_parts (hs w (by simp))
      rw [hAB] at hA hs hg hn ⊢
      generalize hBB : w :: B0 = B at *
      have hBne : B ≠ [] := by rw [← hBB]; simp
      have hB0 : B.getD 0 0 = w := by rw [← hBB]; rfl
      obtain ⟨hdB, hdA, -⟩ := List.pairwise_append.1 hA
      have hsB : ∀ v ∈ B, v ∈ kidsW r (wordN r p) := fun v hv => by
        obtain ⟨-, q, hq, eq, hk⟩ := word_parts (hs v (List.mem_append_left _ hv))
        have : wordN r q = wordN r p := by have := hB v hv; omega
        rw [← this]; exact hk
      have hsA : Sized (r + 1) A' := fun v hv => hs v (List.mem_append_right _ hv)
      obtain ⟨h7, hfull⟩ := kids_full hr hdB hsB
      have hblk := m_block hr hp B s hBne h7 hsB (hg.imp id fun h v hv => h v (List.mem_append_left _ hv))
      have hlen : A'.length < n := by rw [← hn, List.length_append]; have := List.length_pos_iff.2 hBne; omega
      have hkid : ∀ v ∈ A', ∀ q, okB r q = true → v ∈ kidsW r (wordN r q) → ∀ u ∈ kidsW r (wordN r q), u ∈ B ++ A' → u ∈ A' := fun v hv q hq hvq u hu hm => by
        rcases List.mem_append.1 hm with h | h
        · exfalso
          have e1 := (par_of hr hq hvq).2
          have e2 := (par_of hr hq hu).2
          have e3 := hB u h
          have e4 := hA' v hv
          omega
        · exact h
      have hmB : (∀ u ∈ kidsW r (wordN r p), u ∈ B ++ A') ↔ B.length = 7 := by
        rw [hfull]
        refine ⟨fun h u hu => ?_, fun h u hu => List.mem_append_left _ (h u hu)⟩
        rcases List.mem_append.1 (h u hu) with h1 | h1
        · exact h1
        · exfalso
          have e1 := (par_of hr hp hu).2
          have e2 := hA' u h1
          omega
      have hdA' : A'.filter (fun v => !fullB (B ++ A') v) = doneL A' := by
        unfold doneL
        refine List.filter_congr fun v hv => ?_
        obtain ⟨-, q, hq, eq, hk⟩ := word_parts (hsA v hv)
        have h1 := full_iff hr hq (A := B ++ A') hk
        have h2 := full_iff hr hq (A := A') hk
        have : fullB (B ++ A') v = fullB A' v := by
          rw [Bool.eq_iff_iff, h1, h2]
          exact ⟨fun h u hu => hkid v hv q hq hk u hu (h u hu), fun h u hu => List.mem_append_right _ (h u hu)⟩
        rw [this]
      have hdBd : B.filter (fun v => !fullB (B ++ A') v) = if B.length = 7 then [] else B := by
        split
        · next h =>
          refine List.filter_eq_nil_iff.2 fun v hv => ?_
          rw [(full_iff hr hp (hsB v hv)).2 (hmB.2 h)]
          simp
        · next h =>
          refine List.filter_eq_self.2 fun v hv => ?_
          have : fullB (B ++ A') v ≠ true := fun h2 => h (hmB.1 ((full_iff hr hp (hsB v hv)).1 h2))
          simpa using this
      have hdone : doneL (B ++ A') = (if B.length = 7 then [] else B) ++ doneL A' := by
        rw [← hdA', ← hdBd]
        unfold doneL
        rw [List.filter_append]
      have hnext : ∀ q, q ∈ nextL (B ++ A') ↔ (q = (wordN r p : Int) ∧ B.length = 7) ∨ q ∈ nextL A' := fun q => by
        rw [next_mem hr hs, next_mem hr hsA]
        constructor
        · rintro ⟨z, hz, rfl, h⟩
          by_cases e : wordN r z = wordN r p
          · left
            refine ⟨by rw [e], hmB.1 (by rw [← e]; exact h)⟩
          · right
            refine ⟨z, hz, rfl, fun u hu => ?_⟩
            rcases List.mem_append.1 (h u hu) with h1 | h1
            · exfalso
              have e1 := (par_of hr hz hu).2
              have e2 := hB u h1
              omega
            · exact h1
        · rintro (⟨rfl, h⟩ | ⟨z, hz, rfl, h⟩)
          · exact ⟨p, hp, rfl, hmB.2 h⟩
          · exact ⟨z, hz, rfl, fun u hu => List.mem_append_right _ (h u hu)⟩
      have hlow : ∀ q ∈ nextL A', q < (wordN r p : Int) := fun q hq => by
        obtain ⟨v, hv, rfl⟩ := List.mem_map.1 ((setF_mem _ _).1 hq)
        have := hA' v (List.mem_filter.1 hv).1
        omega
      rw [List.foldl_append, hblk]
      by_cases hl : B.length = 7
      · rw [if_pos hl] at hdone ⊢
        obtain ⟨U, u1, u2, u3, u4, u5⟩ := ih _ hlen A' rfl ⟨s.out ++ s.grp, [], s.ups ++ [(wordN r p : Int)]⟩ hdA hsA (.inl rfl)
        refine ⟨(wordN r p : Int) :: U, by rw [u1]; simp, List.pairwise_cons.2 ⟨fun q hq => hlow q ((u3 q).1 hq), u2⟩, fun q => by rw [List.mem_cons, hnext, u3]; simp [hl], by rw [hdone]; simpa using u4, fun _ => ?_⟩
        by_cases hA0 : A' = []
        · subst hA0; intro v hv; cases hv
        · exact u5 hA0
      · rw [if_neg hl] at hdone ⊢
        obtain ⟨U, u1, u2, u3, u4, u5⟩ := ih _ hlen A' rfl ⟨s.out ++ s.grp, B, s.ups⟩ hdA hsA (.inr fun v hv => by
          show broB (B.getD 0 0) v = false
          rw [hB0]
          exact bro_apart (by have := hA' v hv; omega))
        refine ⟨U, u1, u2, fun q => by rw [hnext, u3]; simp [hl], by rw [hdone]; simpa [List.append_assoc] using u4, fun _ => ?_⟩
        by_cases hA0 : A' = []
        · subst hA0; exact fun v hv => hs v (List.mem_append_left _ hv)
        · exact u5 hA0
/-- At size nought nothing has a brother. -/
theorem m_base : ∀ (A : List Int) (s : Mc), Sized 0 A → (s.grp = [] ∨ ∀ v ∈ A, broB (s.grp.getD 0 0) v = false) → s.grp.length < 7 →
    (A.foldl mStep s).ups = s.ups ∧ (A.foldl mStep s).out ++ (A.foldl mStep s).grp = s.out ++ s.grp ++ A
  | [], s, _, _, _ => ⟨rfl, by simp⟩
  | w :: A, s, hs, hg, hl => by
    have e0 : ∀ v : Int, broB w v = false := fun v => by
      obtain ⟨z, hz, rfl⟩ := hs w (by simp)
      obtain ⟨a1, a2, -⟩ := word_cell hz
      unfold broB parE
      rw [Int.toNat_natCast, if_pos a1, if_pos a2]
      simp
    have e : mStep s w = ⟨s.out ++ s.grp, [w], s.ups⟩ := by
      have e1 : mFlush s w = ⟨s.out ++ s.grp, [], s.ups⟩ := by
        unfold mFlush
        by_cases h0 : s.grp = []
        · rw [if_neg (by simp [h0])]
          obtain ⟨o, g, u⟩ := s
          simp only at h0
          subst h0
          simp
        · rw [if_pos ⟨h0, (hg.resolve_left h0) w (by simp)⟩]
      unfold mStep
      rw [e1]
      simp
    rw [List.foldl_cons, e]
    obtain ⟨h1, h2⟩ := m_base A ⟨s.out ++ s.grp, [w], s.ups⟩ (fun v hv => hs v (by simp [hv])) (.inr fun v _ => e0 v) (by simp)
    exact ⟨h1, by rw [h2]; simp⟩
end Go.Proofs.YtkjfdaleamonaaaGreat
/- Plain laws of packing: the levels, one behind the other; the program's run over a heap of words. -/
namespace Go.Proofs.YtkjfdaleamonaaaGreat
open Go.RowKit Go.Lib Wd

theorem m_len1 {s : Mc} (h : s.grp.length < 7) (w : Int) : (mStep s w).grp.length < 7 := by
  have h1 : (mFlush s w).grp.length < 7 := by
    unfold mFlush
    split
    · simp
    · exact h
  unfold mStep
  split
  · simp
  · simp only [List.length_append, List.length_cons, List.length_nil]; omega
theorem m_len : ∀ (A : List Int) {s : Mc}, s.grp.length < 7 → (A.foldl mStep s).grp.length < 7
  | [], _, h => h
  | w :: A, _, h => m_len A (m_len1 h w)
def resM : Nat → List Int → Mc → List Int
  | 0, A, s => (A.foldl mStep s).out ++ (A.foldl mStep s).grp
  | r + 1, A, s => resM r (A.foldl mStep s).ups ⟨(A.foldl mStep s).out, (A.foldl mStep s).grp, []⟩
theorem full_congr {A B : List Int} (h : ∀ x, x ∈ A ↔ x ∈ B) (v : Int) : fullB A v = fullB B v := by
  unfold fullB kidsIn
  congr 1
  rw [Bool.eq_iff_iff, List.all_eq_true, List.all_eq_true]
  exact ⟨fun k u hu => List.contains_iff_mem.2 ((h u).1 (List.contains_iff_mem.1 (k u hu))), fun k u hu => List.contains_iff_mem.2 ((h u).2 (List.contains_iff_mem.1 (k u hu)))⟩
theorem done_rev (X : List Int) : (doneL X.reverse).Perm (doneL X) := by
  unfold doneL
  rw [List.filter_congr (fun v _ => by rw [full_congr (B := X) (fun x => List.mem_reverse)] : ∀ v ∈ X.reverse, (!fullB X.reverse v) = !fullB X v), List.filter_reverse]
  exact List.reverse_perm _
theorem getD0_mem {l : List Int} (h : l ≠ []) : l.getD 0 0 ∈ l := getD_mem (List.length_pos_iff.2 h)
theorem resM_perm : ∀ (r : Nat) (X : List Int) (s : Mc), r ≤ 12 → Up X → Sized r X → s.ups = [] → (s.grp = [] ∨ ∀ v ∈ X, broB (s.grp.getD 0 0) v = false) → s.grp.length < 7 → (resM r X.reverse s).Perm (s.out ++ s.grp ++ packN r X)
  | 0, X, s, _, _, hs, _, hg, hl => by
    have h := (m_base X.reverse s (fun v hv => hs v (by simpa using hv)) (hg.imp id fun h v hv => h v (by simpa using hv)) hl).2
    show (_ ++ _ : List Int).Perm _
    rw [h]
    exact List.Perm.append_left _ (List.reverse_perm X)
  | r + 1, X, s, hr, hX, hs, hu, hg, hl => by
    have hsr : Sized (r + 1) X.reverse := fun v hv => hs v (by simpa using hv)
    obtain ⟨U, u1, u2, u3, u4, u5⟩ := m_level hr _ X.reverse rfl s hX.rev hsr (hg.imp id fun h v hv => h v (by simpa using hv))
    have hUe : U = (nextL X).reverse := by
      have e : U.reverse = nextL X := u2.rev.ext (setF_up _) fun x => by
        rw [List.mem_reverse, u3, next_mem hr hsr, next_mem hr hs]
        simp only [List.mem_reverse]
      rw [← e, List.reverse_reverse]
    have hlen := m_len X.reverse hl
    have hgr : (X.reverse.foldl mStep s).grp = [] ∨ ∀ v ∈ nextL X, broB ((X.reverse.foldl mStep s).grp.getD 0 0) v = false := by
      by_cases h0 : (X.reverse.foldl mStep s).grp = []
      · exact .inl h0
      · right
        intro v hv
        have hX0 : X.reverse ≠ [] := fun e => by
          have : X = [] := by simpa using e
          rw [this, next_nil] at hv
          cases hv
        exact bro_below (u5 hX0 _ (getD0_mem h0)) (next_sized hs v hv)
    have ih := resM_perm r (nextL X) ⟨(X.reverse.foldl mStep s).out, (X.reverse.foldl mStep s).grp, []⟩ (by omega) (setF_up _) (next_sized hs) rfl hgr hlen
    show (resM r (X.reverse.foldl mStep s).ups ⟨(X.reverse.foldl mStep s).out, (X.reverse.foldl mStep s).grp, []⟩).Perm _
    rw [u1, hu, List.nil_append, hUe]
    refine ih.trans ?_
    show ((X.reverse.foldl mStep s).out ++ (X.reverse.foldl mStep s).grp ++ packN r (nextL X)).Perm (s.out ++ s.grp ++ (doneL X ++ packN r (nextL X)))
    rw [← List.append_assoc (s.out ++ s.grp)]
    exact (u4.trans (List.Perm.append_left _ (done_rev X))).append_right _
theorem packN_sized : ∀ (r : Nat) (X : List Int), Sized r X → ∀ v ∈ packN r X, ∃ k : Nat, k ≤ r ∧ ∃ z, okB k z = true ∧ v = (wordN k z : Int)
  | 0, X, hs, v, hv => ⟨0, by omega, hs v hv⟩
  | r + 1, X, hs, v, hv => by
    rcases List.mem_append.1 hv with h | h
    · exact ⟨r + 1, by omega, hs v (List.mem_filter.1 h).1⟩
    · obtain ⟨k, hk, h2⟩ := packN_sized r _ (next_sized hs) v h
      exact ⟨k, by omega, h2⟩
theorem packN_nodup : ∀ (r : Nat) (X : List Int), Sized r X → X.Nodup → (packN r X).Nodup
  | 0, _, _, h => h
  | r + 1, X, hs, h => by
    refine List.nodup_append.2 ⟨h.filter _, packN_nodup r _ (next_sized hs) (Up.nodup (setF_up _)), fun a ha b hb e => ?_⟩
    subst e
    obtain ⟨k, hk, h2⟩ := packN_sized r _ (next_sized hs) a hb
    have := sized_unlike (hs a (List.mem_filter.1 ha).1) h2
    omega
theorem srt_perm {l m : List Int} (h : l.Perm m) (hn : m.Nodup) : srt l = setF m := by
  have hp : (srt l).Perm m := (List.mergeSort_perm _ _).trans h
  have hnd : (srt l).Nodup := hp.nodup_iff.2 hn
  have hup : Up (srt l) := (List.Pairwise.and (srt_sorted l) (List.nodup_iff_pairwise_ne.1 hnd)).imp fun h => by omega
  exact hup.ext (setF_up m) fun x => by rw [setF_mem]; exact hp.mem_iff
/-- What the run comes to, sorted. -/
theorem pack_end {r : Nat} (hr : r ≤ 12) {l : List Int} (hs : Sized r l) {R : List Int} (h : resM r (setF l).reverse ⟨[], [], []⟩ = R) : srt R = packF r l := by
  have hss := sized_set hs
  have hp := resM_perm r (setF l) ⟨[], [], []⟩ hr (setF_up l) hss rfl (.inl rfl) (by simp)
  rw [h] at hp
  exact srt_perm hp (packN_nodup r _ hss (Up.nodup (setF_up l)))

/-- The program's run: what is out, the group, the words in the heap. -/
def Run (R0 : List Int) (o g M : List Int) : Prop :=
  ∃ (r : Nat) (s0 : Mc) (P A u : List Int), r ≤ 12 ∧ s0.ups = [] ∧ Sized r (P ++ A) ∧ Dn (P ++ A) ∧ (s0.grp = [] ∨ Sized (r + 1) s0.grp) ∧ s0.grp.length < 7 ∧ P.foldl mStep s0 = ⟨o, g, u⟩ ∧ M.Perm (A ++ u) ∧ resM r (P ++ A) s0 = R0
theorem run_start {r : Nat} (hr : r ≤ 12) {l M : List Int} (hs : Sized r l) (hM : M.Perm (setF l).reverse) : Run (resM r (setF l).reverse ⟨[], [], []⟩) [] [] M :=
  ⟨r, ⟨[], [], []⟩, [], (setF l).reverse, [], hr, rfl, fun v hv => sized_set hs v (by simpa using hv), (setF_up l).rev, .inl rfl, by simp, rfl, by simpa using hM, rfl⟩
theorem s0_free {r : Nat} {g : List Int} {X : List Int} (hs : Sized r X) (h : g = [] ∨ Sized (r + 1) g) : g = [] ∨ ∀ v ∈ X, broB (g.getD 0 0) v = false := by
  by_cases h0 : g = []
  · exact .inl h0
  · exact .inr fun v hv => bro_below ((h.resolve_left h0) _ (getD0_mem h0)) (hs v hv)
/-- What has been pushed. -/
theorem run_ups {r : Nat} {s0 : Mc} {P o g u : List Int} (hr : r ≤ 12) (h0 : s0.ups = []) (hs : Sized r P) (hd : Dn P) (hg : s0.grp = [] ∨ Sized (r + 1) s0.grp) (hl : s0.grp.length < 7) (he : P.foldl mStep s0 = ⟨o, g, u⟩) :
    (r = 0 ∧ u = []) ∨ ∃ q, r = q + 1 ∧ Sized q u ∧ Dn u ∧ (P ≠ [] → Sized r g) := by
  cases r with
  | zero =>
    left
    have := (m_base P s0 hs (s0_free hs hg) hl).1
    rw [he, h0] at this
    exact ⟨rfl, this⟩
  | succ q =>
    right
    obtain ⟨U, u1, u2, u3, u4, u5⟩ := m_level hr _ P rfl s0 hd hs (s0_free hs hg)
    rw [he, h0] at u1
    have e : u = U := by simpa using u1
    rw [he] at u5
    subst e
    exact ⟨q, rfl, fun v hv => next_sized hs v ((u3 v).1 hv), u2, u5⟩
theorem size_less {q : Nat} {v w : Int} (hv : ∃ z, okB q z = true ∧ v = (wordN q z : Int)) (hw : ∃ z, okB (q + 1 : Nat) z = true ∧ w = (wordN (q + 1) z : Int)) : v < w := by
  obtain ⟨y, hy, rfl⟩ := hv
  obtain ⟨z, hz, rfl⟩ := hw
  have h1 := (word_cell hy).2.1
  have h2 := (word_cell hz).2.1
  have l1 := wordN_lt hy
  have l2 := wordN_lt hz
  unfold rW at h1 h2
  omega
theorem flush_ups (o g u : List Int) (w : Int) : mFlush ⟨o, g, u⟩ w = ⟨(mFlush ⟨o, g, []⟩ w).out, (mFlush ⟨o, g, []⟩ w).grp, u⟩ := by
  unfold mFlush
  split <;> rfl
/-- One word more is taken from the heap, the greatest. -/
theorem run_step {R0 o g M M' : List Int} {w : Int} (h : Run R0 o g M) (hM : M.Perm (w :: M')) (hw : ∀ x ∈ M, x ≤ w) :
    (∃ k : Nat, k ≤ 12 ∧ ∃ z, okB k z = true ∧ w = (wordN k z : Int)) ∧ g.length < 7 ∧
    ((mFlush ⟨o, g, []⟩ w).grp.length + 1 = 7 → Run R0 (mFlush ⟨o, g, []⟩ w).out [] (parI w :: M')) ∧
    ((mFlush ⟨o, g, []⟩ w).grp.length + 1 ≠ 7 → Run R0 (mFlush ⟨o, g, []⟩ w).out ((mFlush ⟨o, g, []⟩ w).grp ++ [w]) M') := by
  -- first with a word of this level at hand
  have key : ∀ (r : Nat) (s0 : Mc) (P A u : List Int), r ≤ 12 → s0.ups = [] → Sized r (P ++ w :: A) → Dn (P ++ w :: A) → (s0.grp = [] ∨ Sized (r + 1) s0.grp) → s0.grp.length < 7 → P.foldl mStep s0 = ⟨o, g, u⟩ → M'.Perm (A ++ u) → resM r (P ++ w :: A) s0 = R0 →
      (∃ k : Nat, k ≤ 12 ∧ ∃ z, okB k z = true ∧ w = (wordN k z : Int)) ∧ g.length < 7 ∧
      ((mFlush ⟨o, g, []⟩ w).grp.length + 1 = 7 → Run R0 (mFlush ⟨o, g, []⟩ w).out [] (parI w :: M')) ∧
      ((mFlush ⟨o, g, []⟩ w).grp.length + 1 ≠ 7 → Run R0 (mFlush ⟨o, g, []⟩ w).out ((mFlush ⟨o, g, []⟩ w).grp ++ [w]) M') := by
    intro r s0 P A u hr h0 hs hd hg hl he hp hR
    have hgl : g.length < 7 := by have := m_len P hl; rwa [he] at this
    have e2 : (P ++ [w]).foldl mStep s0 = mStep ⟨o, g, u⟩ w := by rw [List.foldl_append, he]; rfl
    have e3 : P ++ w :: A = (P ++ [w]) ++ A := by simp
    refine ⟨⟨r, hr, hs w (by simp)⟩, hgl, fun h7 => ?_, fun h7 => ?_⟩
    · rw [e3] at hs hd hR
      refine ⟨r, s0, P ++ [w], A, u ++ [parI w], hr, h0, hs, hd, hg, hl, ?_, ?_, hR⟩
      · rw [e2]; unfold mStep; rw [flush_ups, if_pos h7]
      · refine (List.Perm.cons _ hp).trans ?_
        rw [← List.append_assoc]
        exact List.perm_append_comm (l₁ := [parI w])
    · rw [e3] at hs hd hR
      refine ⟨r, s0, P ++ [w], A, u, hr, h0, hs, hd, hg, hl, ?_, hp, hR⟩
      rw [e2]; unfold mStep; rw [flush_ups, if_neg h7]
  obtain ⟨r, s0, P, A, u, hr, h0, hs, hd, hg, hl, he, hp, hR⟩ := h
  have hsP : Sized r P := fun v hv => hs v (List.mem_append_left _ hv)
  have hdP : Dn P := (List.pairwise_append.1 hd).1
  have hup := run_ups hr h0 hsP hdP hg hl he
  have hwM : w ∈ A ++ u := hp.subset (hM.symm.subset (by simp))
  cases A with
  | cons x A =>
    have hxw : x = w := by
      have h1 : x ≤ w := hw x (hp.symm.subset (by simp))
      rcases List.mem_append.1 hwM with h2 | h2
      · rcases List.mem_cons.1 h2 with e | h2
        · exact e.symm
        · have := (List.pairwise_cons.1 (List.pairwise_append.1 hd).2.1).1 w h2; omega
      · exfalso
        rcases hup with ⟨-, e⟩ | ⟨q, rfl, h3, -⟩
        · rw [e] at h2; cases h2
        · have := size_less (h3 w h2) (hs x (by simp)); omega
    subst hxw
    refine key r s0 P A u hr h0 hs hd hg hl he ?_ hR
    exact (hM.symm.trans hp).cons_inv
  | nil =>
    rw [List.nil_append] at hp hwM
    rw [List.append_nil] at hR
    rcases hup with ⟨-, e⟩ | ⟨q, rfl, h3, h4, h5⟩
    · rw [e] at hwM; cases hwM
    · cases u with
      | nil => cases hwM
      | cons x u =>
        have hxw : x = w := by
          have h1 : x ≤ w := hw x (hp.symm.subset (by simp))
          rcases List.mem_cons.1 hwM with e | h2
          · exact e.symm
          · have := (List.pairwise_cons.1 h4).1 w h2; omega
        subst hxw
        have hgl : g.length < 7 := by have := m_len P hl; rwa [he] at this
        have hPne : P ≠ [] := fun e => by
          rw [e] at he
          have e2 : s0 = ⟨o, g, x :: u⟩ := he
          rw [e2] at h0
          cases h0
        refine key q ⟨o, g, []⟩ [] u [] (by omega) rfl h3 h4 (.inr (h5 hPne)) hgl rfl ?_ ?_
        · rw [List.append_nil]; exact (hM.symm.trans hp).cons_inv
        · rw [← hR]
          show _ = resM q (P.foldl mStep s0).ups _
          rw [he]
          rfl
theorem run_end {R0 o g : List Int} (h : Run R0 o g []) : R0 = o ++ g := by
  obtain ⟨r, s0, P, A, u, hr, h0, hs, hd, hg, hl, he, hp, hR⟩ := h
  have h2 : A ++ u = [] := List.Perm.eq_nil hp.symm
  obtain ⟨rfl, rfl⟩ := List.append_eq_nil_iff.1 h2
  rw [List.append_nil] at hR
  rw [← hR]
  have fin : ∀ q (o g : List Int), resM q [] ⟨o, g, []⟩ = o ++ g := fun q => by
    induction q with
    | zero => intro o g; rfl
    | succ q ih => intro o g; exact ih o g
  cases r with
  | zero => show (P.foldl mStep s0).out ++ _ = _; rw [he]
  | succ q =>
    show resM q (P.foldl mStep s0).ups ⟨(P.foldl mStep s0).out, (P.foldl mStep s0).grp, []⟩ = _
    rw [he]
    exact fin q o g
end Go.Proofs.YtkjfdaleamonaaaGreat
/- Contracts of ident.Ok, pack.brothers, pack.alike. -/
namespace Go.Proofs.YtkjfdaleamonaaaGreat
open Go.RowKit Go.Lib Wd

set_option maxRecDepth 100000 in
set_option maxHeartbeats 4000000 in
theorem iok_any (w0 : Nat) (hw : w0 < 18446744073709551616) (w : World) : Calls Tryz.prog 88 #[.int .u64 w0] w fun e w' => e = .returned (.bool (isW w0)) ∧ Below w.heap.size w w' := by
  have HC := Lib.hid (cell_any w0 hw)
  have HR : (cvE w0 = 0 ∧ isW w0 = true) ∨ (cvE w0 = 5 ∧ isW w0 = false) := by
    unfold cvE
    by_cases h : isW w0 = true
    · exact .inl ⟨by rw [if_pos h], h⟩
    · exact .inr ⟨by rw [if_neg h], by simpa using h⟩
  rcases HR with ⟨e1, e2⟩ | ⟨e1, e2⟩
  all_goals
    rw [e2]
    rw [e1] at HC
    generalize cvR w0 = r at *
    generalize cvZ w0 = z at *
    clear e1 e2
    simp only [vC] at *
    go_enter Tryz.func88, Tryz.ntmps88
    go_wp2_with fail
    refine (HC.out _).mono ?_
    rintro e w1 ⟨rfl, hb1⟩
    have B1 : Hid (Below w.heap.size w (w1.alloc (.cells #[.int .i64 r, .int .i64 z.1, .int .i64 z.2] 32))) := hb1.alloc hb1.size _
    clear hb1
    go_wp2
    go_ret
    exact ⟨rfl, B1.out⟩
set_option maxRecDepth 100000 in
set_option maxHeartbeats 4000000 in
theorem bro_any (a b : Nat) (ha : a < 18446744073709551616) (hb : b < 18446744073709551616) (w : World) : Calls Tryz.prog 58 #[.int .u64 a, .int .u64 b] w fun e w' => e = .returned (.bool (broB a b)) ∧ Below w.heap.size w w' := by
  have HA := Lib.hid (ipar_any a ha)
  have HB := Lib.hid (ipar_any b hb)
  have key : ∃ (ea eb : Int) (p q : Nat), parE a = ea ∧ parE b = eb ∧ parW a = p ∧ parW b = q := ⟨_, _, _, _, rfl, rfl, rfl, rfl⟩
  obtain ⟨ea, eb, p, q, h1, h2, h3, h4⟩ := key
  have hres : broB a b = (decide (ea = 0) && decide (eb = 0) && decide ((p : Int) = (q : Int))) := by
    unfold broB parI
    rw [Int.toNat_natCast, Int.toNat_natCast, h1, h2, h3, h4]
  rw [h1, h3] at HA
  rw [h2, h4] at HB
  rw [hres]
  clear hres h1 h2 h3 h4
  by_cases qa : ea = 0
  · subst qa
    by_cases qb : eb = 0
    · subst qb
      obtain ⟨o, ho⟩ : ∃ o, decide ((p : Int) = (q : Int)) = o := ⟨_, rfl⟩
      have ho2 : ((p : Int) == (q : Int)) = o := by rw [← ho]; rfl
      have ho3 : decide (p = q) = o := by rw [← ho]; exact decide_eq_decide.2 (by omega)
      have HO : Hid ((decide ((0 : Int) = 0) && decide ((0 : Int) = 0) && decide ((p : Int) = (q : Int))) = o) := by show _ = _; rw [ho]; simp
      rw [HO.out]
      cases o
      all_goals
        clear ho ho3
        go_enter Tryz.func58, Tryz.ntmps58
        go_wp2_with fail
        refine (HA.out _).mono ?_
        rintro e w1 ⟨rfl, hb1⟩
        have B1 := Lib.hid hb1
        clear hb1
        go_wp2_with fail
        refine (HB.out _).mono ?_
        rintro e w2 ⟨rfl, hb2⟩
        have B2 := Lib.hid (B1.out.trans (hb2.mono B1.out.size))
        clear hb2
        go_wp2
        go_ret
        exact ⟨rfl, B2.out⟩
    · have q1 : (eb == 0) = false := by simp [qb]
      have HO : Hid ((decide ((0 : Int) = 0) && decide (eb = 0) && decide ((p : Int) = (q : Int))) = false) := by show _ = _; simp [qb]
      rw [HO.out]
      clear qb
      go_enter Tryz.func58, Tryz.ntmps58
      go_wp2_with fail
      refine (HA.out _).mono ?_
      rintro e w1 ⟨rfl, hb1⟩
      have B1 := Lib.hid hb1
      clear hb1
      go_wp2_with fail
      refine (HB.out _).mono ?_
      rintro e w2 ⟨rfl, hb2⟩
      have B2 := Lib.hid (B1.out.trans (hb2.mono B1.out.size))
      clear hb2
      go_wp2
      go_ret
      exact ⟨rfl, B2.out⟩
  · have q1 : (ea == 0) = false := by simp [qa]
    have HO : Hid ((decide (ea = 0) && decide (eb = 0) && decide ((p : Int) = (q : Int))) = false) := by show _ = _; simp [qa]
    rw [HO.out]
    clear qa
    go_enter Tryz.func58, Tryz.ntmps58
    go_wp2_with fail
    refine (HA.out _).mono ?_
    rintro e w1 ⟨rfl, hb1⟩
    have B1 := Lib.hid hb1
    clear hb1
    go_wp2_with fail
    refine (HB.out _).mono ?_
    rintro e w2 ⟨rfl, hb2⟩
    have B2 := Lib.hid (B1.out.trans (hb2.mono B1.out.size))
    clear hb2
    go_wp2
    go_ret
    exact ⟨rfl, B2.out⟩
/-- Whether all are words; what is told of a list of words. -/
def allW (l : List Int) : Bool := l.all fun v => isW v.toNat
def alkE (l : List Int) : Int := if allW l = true then chkF (resW (l.getD 0 0).toNat) l else 5
set_option maxRecDepth 100000 in
set_option maxHeartbeats 4000000 in
theorem alike_any (ao : Option Addr) (c : Nat) (l : List Int) (w : World) (B : Nat) (h : WordsAt w B ao l) (hB : B ≤ w.heap.size) (hn : l.length ≤ 1000000000) (h0 : 0 < l.length) (h64 : In64 l) :
    Calls Tryz.prog 53 #[.slice ao l.length c] w fun e w' => e = .returned (.int .i64 (alkE l)) ∧ Below w.heap.size w w' := by
  have HCK := Lib.hid (fun wr hb => check_any ao c l (resW (l.getD 0 0).toNat) wr B (h.below (C := w.heap.size) hb hB) (Nat.le_trans hB (Below.size hb)) hn h64)
  have HIR := Lib.hid (ires_any (l.getD 0 0).toNat (by have := h64 _ (getD_mem h0); omega))
  have HV0 : Hid ((((l.getD 0 0).toNat : Nat) : Int) = l.getD 0 0) := by show _ = _; have := h64 _ (getD_mem h0); omega
  obtain ⟨n, hnn⟩ : ∃ n, l.length = n := ⟨_, rfl⟩
  have HN := Lib.hid hnn
  have HW := Lib.hid h
  have H64 : Hid (∀ k, k < n → 0 ≤ l.getD k 0 ∧ l.getD k 0 < 18446744073709551616) := fun k hk => h64 _ (getD_mem (by rw [hnn]; exact hk))
  have HT : Hid (∀ k, k < n → isW (l.getD k 0).toNat = false → alkE l = 5) := fun k hk hw => by
    unfold alkE
    rw [if_neg]
    unfold allW
    rw [List.all_eq_true]
    intro hall
    rw [hall _ (getD_mem (by rw [hnn]; exact hk))] at hw
    cases hw
  have HE : Hid ((∀ k, k < n → isW (l.getD k 0).toNat = true) → alkE l = chkF (resW (l.getD 0 0).toNat) l) := fun hall => by
    unfold alkE
    rw [if_pos]
    unfold allW
    rw [List.all_eq_true]
    intro v hv
    obtain ⟨k, hk, rfl⟩ := List.getElem_of_mem hv
    have := hall k (by omega)
    rwa [List.getD_eq_getElem?_getD, List.getElem?_eq_getElem hk, Option.getD_some] at this
  rw [hnn] at hn h0 HCK ⊢
  generalize alkE l = E at *
  clear hnn h h64
  go_enter Tryz.func53, Tryz.ntmps53
  go_wp2
  go_loopw [7] (fun i wr => ∃ k : Nat, k ≤ n ∧ i = .int .i64 k ∧ Hid (∀ j, j < k → isW (l.getD j 0).toNat = true) ∧ Hid (Below w.heap.size w wr ∧ True)) (fun i _ => n - (intOf i).toNat)
  case atStart => exact ⟨0, by omega, rfl, fun j hj => by omega, Below.refl _ _, trivial⟩
  case round =>
    obtain ⟨k, hk, rfl, HA, hbi, -⟩ := hrel
    have HBI := Lib.hid hbi
    clear hbi
    have hsz := HBI.out.size
    by_cases hlt : k < n
    · obtain ⟨g, off, rfl, hg, hc⟩ := (HW.out.below HBI.out hB) (by rw [HN.out]; omega)
      have c0 := hc k (by rw [HN.out]; exact hlt)
      obtain ⟨v1, v2⟩ := H64.out k hlt
      have ht := HT.out k hlt
      have hA2 : isW (l.getD k 0).toNat = true → ∀ j, j < k + 1 → isW (l.getD j 0).toNat = true := fun hk2 j hj => by
        by_cases e : j = k
        · rw [e]; exact hk2
        · exact HA.out j (by omega)
      generalize l.getD k 0 = v at *
      obtain ⟨u, rfl⟩ : ∃ u : Nat, v = u := ⟨v.toNat, by omega⟩
      rw [Int.toNat_natCast] at ht hA2
      have HR := Lib.hid (iok_any u (by omega))
      have hgw : g < wr.heap.size := by omega
      clear hc
      obtain ⟨o, ho⟩ : ∃ o, isW u = o := ⟨_, rfl⟩
      rw [ho] at HR ht hA2
      clear ho
      have HA2 := Lib.hid hA2
      have HTT := Lib.hid ht
      clear hA2 ht
      cases o with
      | true =>
        have HA3 := Lib.hid (HA2.out rfl)
        clear HA2 HTT
        go_wp2_with fail
        refine (HR.out _).mono ?_
        rintro e w2 ⟨rfl, hb2⟩
        have HB2 := Lib.hid (HBI.out.trans (hb2.mono HBI.out.size))
        clear hb2
        go_wp2
        go_roundw
        case rel => exact ⟨k + 1, by omega, by go_num, HA3.out, HB2.out, trivial⟩
        case measure => simp [intOf]; omega
      | false =>
        have HE5 := Lib.hid (HTT.out rfl)
        clear HA2 HTT
        go_wp2_with fail
        refine (HR.out _).mono ?_
        rintro e w2 ⟨rfl, hb2⟩
        have HB2 := Lib.hid (HBI.out.trans (hb2.mono HBI.out.size))
        clear hb2
        go_wp2
        go_ret
        exact ⟨by rw [HE5.out]; rfl, HB2.out⟩
    · obtain ⟨g, off, rfl, hg, hc⟩ := (HW.out.below HBI.out hB) (by rw [HN.out]; omega)
      have c0 := hc 0 (by rw [HN.out]; exact h0)
      rw [← HV0.out, Nat.add_zero] at c0
      have HEE := Lib.hid (HE.out fun j hj => HA.out j (by omega))
      have hgw : g < wr.heap.size := by omega
      generalize (l.getD 0 0).toNat = u at *
      obtain ⟨R, hR⟩ : ∃ R, resW u = R := ⟨_, rfl⟩
      rw [hR] at HIR HCK HEE
      obtain ⟨X, hX⟩ : ∃ X, chkF R l = X := ⟨_, rfl⟩
      rw [hX] at HCK HEE
      have HC2 := Lib.hid (HCK.out)
      clear hc hX hR HCK
      go_wp2_with fail
      refine (HIR.out _).mono ?_
      rintro e w2 ⟨rfl, hb2⟩
      have HB2 := Lib.hid (HBI.out.trans (hb2.mono HBI.out.size))
      clear hb2 HBI
      go_wp2_with fail
      refine (HC2.out _ HB2.out).mono ?_
      rintro e w3 ⟨rfl, hb3⟩
      have HB3 := Lib.hid (HB2.out.trans (hb3.mono HB2.out.size))
      clear hb3
      go_wp2
      go_ret
      exact ⟨by rw [HEE.out]; rfl, HB3.out⟩
end Go.Proofs.YtkjfdaleamonaaaGreat
/- The contract of pack.Covers. -/
namespace Go.Proofs.YtkjfdaleamonaaaGreat
open Go.RowKit Go.Lib Wd

/-- Whether a word is within another one; within one of some. -/
def wiB (w x : Nat) : Bool := isW x && winB (cvR w) (cvZ w) (cvR x) (cvZ x)
def covB (l : List Int) (w : Nat) : Bool := isW w && l.any fun v => wiB w v.toNat
set_option maxRecDepth 100000 in
set_option maxHeartbeats 4000000 in
theorem covers_any (ao : Option Addr) (c : Nat) (l : List Int) (w0 : Nat) (hw0 : w0 < 18446744073709551616) (w : World) (B : Nat) (h : WordsAt w B ao l) (hB : B ≤ w.heap.size) (hn : l.length ≤ 1000000) (h64 : In64 l) :
    Calls Tryz.prog 32 #[.slice ao l.length c, .int .u64 w0] w fun e w' => e = .returned (.bool (covB l w0)) ∧ Below w.heap.size w w' := by
  obtain ⟨n, hnn⟩ : ∃ n, l.length = n := ⟨_, rfl⟩
  have HN := Lib.hid hnn
  have HW := Lib.hid h
  have H64 : Hid (∀ k, k < n → 0 ≤ l.getD k 0 ∧ l.getD k 0 < 18446744073709551616) := fun k hk => h64 _ (getD_mem (by rw [hnn]; exact hk))
  have hcell := cell_any w0 hw0
  rw [hnn] at hn ⊢
  by_cases hW : isW w0 = true
  · have hE : cvE w0 = 0 := by unfold cvE; rw [if_pos hW]
    have HCB : Hid (covB l w0 = l.any fun v => wiB w0 v.toNat) := by show _ = _; unfold covB; rw [hW]; simp
    rw [hE] at hcell
    have HC := Lib.hid hcell
    have HT : Hid (∀ k, k < n → wiB w0 (l.getD k 0).toNat = true → covB l w0 = true) := fun k hk ht => by rw [HCB.out]; exact List.any_eq_true.2 ⟨_, getD_mem (by rw [hnn]; exact hk), ht⟩
    have HF : Hid ((∀ k, k < n → wiB w0 (l.getD k 0).toNat = false) → covB l w0 = false) := fun hall => by
      rw [HCB.out, List.any_eq_false]
      intro v hv
      obtain ⟨k, hk, rfl⟩ := List.getElem_of_mem hv
      have := hall k (by omega)
      rw [List.getD_eq_getElem?_getD, List.getElem?_eq_getElem hk, Option.getD_some] at this
      rw [this]; simp
    have HWI : Hid (∀ x : Nat, ∀ w, Calls Tryz.prog 67 #[vC (cvR w0) (cvZ w0), vC (cvR x) (cvZ x)] w fun e w' => e = .returned (.bool (winB (cvR w0) (cvZ w0) (cvR x) (cvZ x))) ∧ Below w.heap.size w w') := fun x w => cwithin_any _ _ _ _ w
    have HWB : Hid (∀ x : Nat, wiB w0 x = (isW x && winB (cvR w0) (cvZ w0) (cvR x) (cvZ x))) := fun x => rfl
    generalize covB l w0 = CB at *
    generalize cvR w0 = r at *
    generalize cvZ w0 = z at *
    clear hcell hE hW hnn h h64 HCB
    simp only [vC] at *
    go_enter Tryz.func32, Tryz.ntmps32
    go_wp2_with fail
    refine (HC.out _).mono ?_
    rintro e w1 ⟨rfl, hb1⟩
    have T1 : Hid (Tri (w1.alloc (.cells #[.int .i64 r, .int .i64 z.1, .int .i64 z.2] 32)) w1.heap.size r z) := heap_new _ _ _ rfl
    have B1 : Hid (Below w.heap.size w (w1.alloc (.cells #[.int .i64 r, .int .i64 z.1, .int .i64 z.2] 32))) := hb1.alloc hb1.size _
    clear hb1
    go_upto_region 2 with (fail)
    generalize hbk : w1.heap.size = bk at *
    clear hbk
    generalize w1.alloc (.cells #[.int .i64 r, .int .i64 z.1, .int .i64 z.2] 32) = w2 at *
    go_wp2
    go_loopw [20] (fun i wr => ∃ k : Nat, k ≤ n ∧ i = .int .i64 k ∧ Hid (∀ j, j < k → wiB w0 (l.getD j 0).toNat = false) ∧ Hid (Below w2.heap.size w2 wr ∧ True)) (fun i _ => n - (intOf i).toNat)
    case atStart => exact ⟨0, by omega, rfl, fun j hj => by omega, Below.refl _ _, trivial⟩
    case round =>
      obtain ⟨k, hk, rfl, HA, hbr, -⟩ := hrel
      have HBR := Lib.hid hbr
      have HBW := Lib.hid (B1.out.trans (hbr.mono B1.out.size))
      clear hbr
      by_cases hlt : k < n
      · obtain ⟨g, off, rfl, hg, hc⟩ := (HW.out.below HBW.out hB) (by rw [HN.out]; omega)
        have c0 := hc k (by rw [HN.out]; exact hlt)
        obtain ⟨v1, v2⟩ := H64.out k hlt
        have ht := HT.out k hlt
        have hA2 : wiB w0 (l.getD k 0).toNat = false → ∀ j, j < k + 1 → wiB w0 (l.getD j 0).toNat = false := fun hk2 j hj => by
          by_cases e : j = k
          · rw [e]; exact hk2
          · exact HA.out j (by omega)
        generalize l.getD k 0 = v at *
        obtain ⟨u, rfl⟩ : ∃ u : Nat, v = u := ⟨v.toNat, by omega⟩
        rw [Int.toNat_natCast] at ht hA2
        have hcu := cell_any u (by omega)
        have hwb := HWB.out u
        have hwi := HWI.out u
        have hcE : (cvE u = 0 ∧ isW u = true) ∨ (cvE u = 5 ∧ isW u = false) := by
          unfold cvE
          by_cases h : isW u = true
          · exact .inl ⟨by rw [if_pos h], h⟩
          · exact .inr ⟨by rw [if_neg h], by simpa using h⟩
        have hgw : g < wr.heap.size := by have := HBW.out.size; omega
        generalize cvR u = s at *
        generalize cvZ u = y at *
        simp only [vC] at *
        clear hc
        rcases hcE with ⟨e1, e2⟩ | ⟨e1, e2⟩
        · rw [e1] at hcu
          rw [e2, Bool.true_and] at hwb
          rw [hwb] at ht hA2
          have HCU := Lib.hid hcu
          obtain ⟨o, ho⟩ : ∃ o, winB r z s y = o := ⟨_, rfl⟩
          rw [ho] at hwi ht hA2
          have HWI2 := Lib.hid hwi
          have HTT := Lib.hid ht
          have HAA := Lib.hid hA2
          clear hcu hwi ht hA2 ho hwb e1 e2
          go_wp2_with fail
          refine (HCU.out _).mono ?_
          rintro e w3 ⟨rfl, hb3⟩
          have hal : Below w3.heap.size w3 (w3.alloc (.cells #[.int .i64 s, .int .i64 y.1, .int .i64 y.2] 32)) := (Below.refl _ _).alloc (Nat.le_refl _) _
          have hb4 := hb3.trans (hal.mono hb3.size)
          have Y1 : Hid (Tri (w3.alloc (.cells #[.int .i64 s, .int .i64 y.1, .int .i64 y.2] 32)) w3.heap.size s y) := heap_new _ _ _ rfl
          have T4 := Lib.hid ((T1.out.later HBR.out).later hb4)
          have B4 := Lib.hid (HBR.out.trans (hb4.mono HBR.out.size))
          clear hb3 hal hb4 c0
          go_upto_region 8 with (fail)
          generalize hyk : w3.heap.size = yk at *
          clear hyk
          generalize w3.alloc (.cells #[.int .i64 s, .int .i64 y.1, .int .i64 y.2] 32) = w4 at *
          obtain ⟨t0, t1, t2, t3, t4, t5, t6⟩ := T4.out.cells
          obtain ⟨y0, y1, y2, y3, y4, y5, y6⟩ := Y1.out.cells
          go_wp2_with fail
          refine (HWI2.out _).mono ?_
          rintro e w5 ⟨rfl, hb5⟩
          have B5 := Lib.hid (B4.out.trans (hb5.mono B4.out.size))
          clear hb5 t0 t1 t2 t3 t4 t5 t6 y0 y1 y2 y3 y4 y5 y6
          cases o with
          | true =>
            have HR := Lib.hid (HTT.out rfl)
            have BF := Lib.hid (B1.out.trans (B5.out.mono B1.out.size))
            clear HTT HAA
            go_wp2
            go_ret
            exact ⟨by rw [HR.out]; rfl, BF.out⟩
          | false =>
            have HA3 := Lib.hid (HAA.out rfl)
            clear HTT HAA
            go_wp2
            go_roundw
            case rel => exact ⟨k + 1, by omega, by go_num, HA3.out, B5.out, trivial⟩
            case measure => simp [intOf]; omega
        · rw [e1] at hcu
          rw [e2, Bool.false_and] at hwb
          have HCU := Lib.hid hcu
          have HA3 := Lib.hid (hA2 hwb)
          clear hcu hwi ht hA2 hwb e1 e2
          go_wp2_with fail
          refine (HCU.out _).mono ?_
          rintro e w3 ⟨rfl, hb3⟩
          have hal : Below w3.heap.size w3 (w3.alloc (.cells #[.int .i64 s, .int .i64 y.1, .int .i64 y.2] 32)) := (Below.refl _ _).alloc (Nat.le_refl _) _
          have hb4 := hb3.trans (hal.mono hb3.size)
          have B4 := Lib.hid (HBR.out.trans (hb4.mono HBR.out.size))
          clear hb3 hal hb4 c0
          go_wp2
          go_roundw
          case rel => exact ⟨k + 1, by omega, by go_num, HA3.out, B4.out, trivial⟩
          case measure => simp [intOf]; omega
      · have HR := Lib.hid (HF.out fun j hj => HA.out j (by omega))
        go_wp2
        go_ret
        exact ⟨by rw [HR.out]; rfl, HBW.out⟩
  · have hE : cvE w0 = 5 := by unfold cvE; rw [if_neg hW]
    have hCB : covB l w0 = false := by unfold covB; rw [Bool.eq_false_iff.2 hW]; simp
    rw [hE] at hcell
    rw [hCB]
    have HC := Lib.hid hcell
    generalize cvR w0 = r at *
    generalize cvZ w0 = z at *
    clear hcell hE hCB hW hnn h h64
    simp only [vC] at *
    go_enter Tryz.func32, Tryz.ntmps32
    go_wp2_with fail
    refine (HC.out _).mono ?_
    rintro e w1 ⟨rfl, hb1⟩
    have B1 : Hid (Below w.heap.size w (w1.alloc (.cells #[.int .i64 r, .int .i64 z.1, .int .i64 z.2] 32))) := hb1.alloc hb1.size _
    clear hb1
    go_wp2
    go_ret
    exact ⟨rfl, B1.out⟩
end Go.Proofs.YtkjfdaleamonaaaGreat
