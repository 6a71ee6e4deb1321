/- The walk of the law PolyMoved. -/
import Derived.Test.YtnnfkdajbaicoaaPolyI
import Derived.Test.YtnnfkdajbaicoaaPolyV
import Derived.Deep.CutRange
import Derived.Deep.RegionWith
namespace Go.Proofs.Ytnnfkdajbaicoaa.polyMoved
open Go.RowKit

def movedTo (dx dy : Int) (l : List Pt) (j : Nat) : List Pt := (moved dx dy l).take j
theorem movedTo_succ (dx dy : Int) (l : List Pt) {j : Nat} (h : j < l.length) : movedTo dx dy l (j + 1) = movedTo dx dy l j ++ [(px l j + dx, py l j + dy)] := by
  have e := moved_at dx dy l h
  unfold movedTo
  rw [take_succ' _ j (0, 0) (by rw [moved_length]; exact h)]
  have : (moved dx dy l).getD j (0, 0) = (px l j + dx, py l j + dy) := by rw [← e.1, ← e.2]; rfl
  rw [this]
theorem movedTo_all (dx dy : Int) (l : List Pt) : movedTo dx dy l l.length = moved dx dy l := by unfold movedTo; rw [List.take_of_length_le (by rw [moved_length]; exact Nat.le_refl _)]
def ringsTo (dx dy : Int) (ls : List (List Pt)) (k : Nat) : List (List Pt) := (ls.take k).map (moved dx dy)
theorem ringsTo_succ (dx dy : Int) (ls : List (List Pt)) {k : Nat} (h : k < ls.length) : ringsTo dx dy ls (k + 1) = ringsTo dx dy ls k ++ [moved dx dy (rg ls k)] := by
  unfold ringsTo rg
  rw [take_succ' _ k [] h, List.map_append]; rfl

set_option maxRecDepth 100000 in
set_option maxHeartbeats 8000000 in
theorem walk {w : World} (a0 : Option Addr) (n0 c0 : Nat) (z0 : Nat → Int) (h0 : IntsAtK .i64 w w.heap.size a0 n0 z0) (_b0 : ∀ i, i < n0 → (Lit.int .i64 (z0 i)).wf = true) (s0 : n0 * 8 ≤ 140737488351232)
    (a1 : Int) (_w1 : (Lit.int .i64 a1).wf = true) (a2 : Int) (_w2 : (Lit.int .i64 a2).wf = true) (a3 : Int) (_w3 : (Lit.int .i64 a3).wf = true) (a4 : Int) (_w4 : (Lit.int .i64 a4).wf = true) :
    Calls Try.prog 7 #[.slice a0 n0 c0, .int .i64 a1, .int .i64 a2, .int .i64 a3, .int .i64 a4] w fun e w' => e = .returned (.bool true) ∧ Below w.heap.size w w' := by
  obtain ⟨i1, hj, hy0, hy1, hy2⟩ := info_parts info_pt
  obtain ⟨i0, hi, hz0, hz1, hz2⟩ := info_parts info_ring
  go_enter Try.func7, Try.ntmps7
  go_wp2_with fail
  refine (tame_any _ _ _ z0 60 w w.heap.size (Nat.le_refl _) h0 (by omega) (by omega) (by omega)).mono ?_
  rintro e w1 ⟨v, ls, rfl, hT, ⟨vs, hown, hO⟩, hb⟩
  obtain ⟨ao, co, rfl, hmc, hcells⟩ := own_form hown
  obtain ⟨m, hm⟩ : ∃ m, ls.length = m := ⟨_, rfl⟩
  rw [hm] at hown hmc ⊢
  by_cases hm0 : m = 0
  · have hq0 : ((m : Int) == 0) = true := by simp [hm0]
    clear hm
    go_wp2_with (first | (go_at_call 11; refine (awake_any _).mono ?_; rintro e w' ⟨rfl, hbw⟩))
    go_ret
    exact ⟨rfl, below_later hb hb.size hbw⟩
  by_cases hn : 60 < n0
  · have hq0 : ((m : Int) == 0) = false := by simp; omega
    clear hm
    go_wp2_with (first | (go_at_call 11; refine (awake_any _).mono ?_; rintro e w' ⟨rfl, hbw⟩))
    go_ret
    exact ⟨rfl, below_later hb hb.size hbw⟩
  have hq0 : ((m : Int) == 0) = false := by simp; omega
  have hR0 : RingsAt w1 w1.heap.size ao ls := rings_of_own hown hO hm.symm
  have HM : Hid (ls.length = m) := hm
  have HT : Hid (TameOK 60 ls) := hT
  have HR : Hid (RingsAt w1 w1.heap.size ao ls) := hR0
  have hm3 : m ≤ 3 := by have := hT.1; omega
  have hm1 : 1 ≤ m := Nat.one_le_iff_ne_zero.2 hm0
  obtain ⟨dx, ex, hdx⟩ : ∃ f, bits BinOp.and IntKind.i64 a3 268435455 = f ∧ 0 ≤ f ∧ f < 268435456 := ⟨_, i64_and_mask a3 28 (by omega) 268435455 rfl, by omega, by omega⟩
  obtain ⟨dy, ey, hdy⟩ : ∃ f, bits BinOp.and IntKind.i64 a4 268435455 = f ∧ 0 ≤ f ∧ f < 268435456 := ⟨_, i64_and_mask a4 28 (by omega) 268435455 rfl, by omega, by omega⟩
  obtain ⟨p, eu, hp0⟩ : ∃ p, bits BinOp.and IntKind.i64 a1 65535 = p ∧ 0 ≤ p := ⟨_, i64_and_mask a1 16 (by omega) 65535 rfl, Int.emod_nonneg _ (by omega)⟩
  obtain ⟨q, ev, hq0'⟩ : ∃ p, bits BinOp.and IntKind.i64 a2 65535 = p ∧ 0 ≤ p := ⟨_, i64_and_mask a2 16 (by omega) 65535 rfl, Int.emod_nonneg _ (by omega)⟩
  obtain ⟨g, ea, hg1⟩ : ∃ g, ao = some ⟨g, 0, none⟩ ∧ g < w1.heap.size := by
    obtain ⟨g, e, _, hg, _⟩ := hcells (by omega)
    exact ⟨g, e, hg⟩
  subst ea
  obtain ⟨hdx0, hdx1⟩ := hdx
  obtain ⟨hdy0, hdy1⟩ := hdy
  have hs1 := hb.size
  clear hm hcells hO hown hT hR0 h0
  have HLAW := Lib.hid (fun (x y : Int) (hx : 499999 ≤ x ∧ x ≤ 500060) (hy : 499999 ≤ y ∧ y ≤ 500060) => moved_rings (by rw [HM.out]; omega) HT.out ⟨hdx0, hdx1⟩ ⟨hdy0, hdy1⟩ hx hy)
  go_wp2_with (first | (with_reducible refine wp_region_lex (by kernel_rfl) (by kernel_rfl) ?_) | (with_reducible refine OnlyG.intro (by kernel_rfl) ?_))
  go_loopw [14, 15] (fun v i wr => ∃ (k : Nat) (vs : List Value), k ≤ m ∧ i = .int .i64 k ∧ wr.ownsRow w1.heap.size 26 1 v k vs ∧ Hid (OwnRings wr w1.heap.size vs (ringsTo dx dy ls k)) ∧ Below w1.heap.size w1 wr) (fun _ i _ => m - (intOf i).toNat)
  case atStart => exact ⟨0, [], Nat.zero_le _, rfl, World.ownsRow_nil _ _ _ _, trivial, Below.refl _ _⟩
  case round =>
    obtain ⟨k, vs', hk, rfl, hown, HO, hnx⟩ := hrel
    have hsz := hnx.size
    obtain ⟨vo, vc, rfl, hvk, hvc⟩ := own_form hown
    by_cases hlt : k < m
    · have HR2 : Hid (∀ wx, Below w1.heap.size w1 wx → ∃ ri ci, wx.cell? ⟨g, k, none⟩ = some (.slice ri (rg ls k).length ci) ∧ RingAt wx w1.heap.size ri (rg ls k)) := fun wx hbx => by
        obtain ⟨b, off, e, _, hc⟩ := (HR.out.below hbx (Nat.le_refl _)) (by rw [HM.out]; omega)
        cases e
        obtain ⟨ri, ci, h1, h2⟩ := hc k (by rw [HM.out]; exact hlt)
        exact ⟨ri, ci, by rw [Nat.zero_add] at h1; exact h1, h2⟩
      have hmk : rg ls k ∈ ls := by unfold rg; simp [List.getD_eq_getElem?_getD, show k < ls.length by rw [HM.out]; exact hlt]
      obtain ⟨t3, t6, tin⟩ := HT.out.2 _ hmk
      have HTS := Lib.hid (ringsTo_succ dx dy ls (k := k) (by rw [HM.out]; exact hlt))
      have HAR : Hid (area2F (moved dx dy (rg ls k)) = area2F (rg ls k)) := (HLAW.out 500000 500000 (by omega) (by omega)).2.2.2.1 _ hmk
      clear hmk
      generalize rg ls k = l at HR2 t3 t6 tin HTS HAR
      obtain ⟨n, hn'⟩ : ∃ n, l.length = n := ⟨_, rfl⟩
      rw [hn'] at HR2 t3 t6
      have HN : Hid (l.length = n) := hn'
      clear hn'
      obtain ⟨ri, ci, r0, hri⟩ := HR2.out _ hnx
      obtain ⟨rb, ro, erb, hrb, _⟩ := hri (by rw [HN.out]; omega)
      subst erb
      have HRC : Hid (∀ wx, Below w1.heap.size w1 wx → wx.cell? ⟨g, k, none⟩ = some (.slice (some ⟨rb, ro, none⟩) n ci) ∧ RingAt wx w1.heap.size (some ⟨rb, ro, none⟩) l) := fun wx hbx => by
        have hbig := HR2.out _ hbx
        obtain ⟨ri', ci', e1, e2⟩ := hbig
        obtain ⟨ri0, ci0, e3, e4⟩ := HR2.out w1 (Below.refl _ _)
        have a1 := (hbx.cell (p := ⟨g, k, none⟩) hg1).symm.trans e1
        have a2 := (hnx.cell (p := ⟨g, k, none⟩) hg1).symm.trans r0
        rw [a2] at a1
        simp only [Option.some.injEq, Value.slice.injEq, true_and] at a1
        obtain ⟨rfl, rfl⟩ := a1
        exact ⟨e1, e2⟩
      clear hri HR2
      obtain ⟨wo, hwo⟩ : ∃ wo : World, wo = wr := ⟨_, rfl⟩
      subst hwo
      go_wp2_with (first | (with_reducible refine wp_region_lex (by kernel_rfl) (by kernel_rfl) ?_) | (with_reducible refine OnlyG.intro (by kernel_rfl) ?_))
      go_loopw [16, 17] (fun v i wr => ∃ j : Nat, j ≤ n ∧ i = .int .i64 j ∧ wr.ownsRow wo.heap.size 27 2 v j (ringV (movedTo dx dy l j)) ∧ Below wo.heap.size wo wr) (fun _ i _ => n - (intOf i).toNat)
      case atStart => exact ⟨0, Nat.zero_le _, rfl, World.ownsRow_nil _ _ _ _, Below.refl _ _⟩
      case round =>
        obtain ⟨j, hj', rfl, hlown, hni⟩ := hrel
        have hsi := hni.size
        have hni2 := hnx.trans (hni.mono hsz)
        obtain ⟨lo, lc, rfl, _, _⟩ := own_form hlown
        obtain ⟨r1, hr1⟩ := HRC.out _ hni2
        by_cases hjn : j < n
        · obtain ⟨rb', ro', e', _, hrc⟩ := hr1 (by rw [HN.out]; omega)
          cases e'
          obtain ⟨d0, d1⟩ := hrc j (by rw [HN.out]; exact hjn)
          have hpt := tin _ (px_mem (l := l) (j := j) (by rw [HN.out]; exact hjn))
          dsimp only at hpt
          have HMS := Lib.hid (movedTo_succ dx dy l (j := j) (by rw [HN.out]; exact hjn))
          clear hrc hr1
          generalize px l j = x at d0 hpt HMS
          generalize py l j = y at d1 hpt HMS
          obtain ⟨x0, x1, y0, y1⟩ := hpt
          have hrbw : rb < wr.heap.size := by omega
          clear r0
          go_wp2_with (first | (with_reducible refine wp_region_lex (by kernel_rfl) (by kernel_rfl) ?_) | (with_reducible refine OnlyG.intro (by kernel_rfl) ?_) | (at_builtin; refine wpList_append_own _ rfl (.tmp 62) (.tmp 84) 26 rfl wo.heap.size 27 i1 (.agg #[.int .i64 0, .int .i64 0]) 2 16 Try.underlying26 hj hy0 hy1 hy2 rfl (by decide) _ _ _ rfl ((hlown.alloc _).drew) ⟨wr.heap.size, 0, none⟩ 1 1 [.int .i64 (x + dx), .int .i64 (y + dy)] rfl rfl (cells_new_drew _ _ _ _ rfl) (by simp [Value.oneCell']) (by unfold maxLen; omega) (by omega) (by simp; omega) ?_; intro v' w2 hown1 hgrow _))
          go_roundw
          case rel =>
            rw [← ringV_snoc, ← HMS.out] at hown1
            exact ⟨j + 1, by omega, by go_num, hown1, below_append ((hni.alloc hsi _).drew) ((hlown.alloc _).drew) (by simp; omega) hgrow⟩
          case measure => simp [intOf] <;> omega
        · obtain rfl : j = n := by omega
          have HME : Hid (movedTo dx dy l j = moved dx dy l) := by show _ = _; rw [← HN.out]; exact movedTo_all dx dy l
          have hown' := own_below hown hni (Nat.le_refl _)
          clear r0
          go_upto_region 16 with (first | (with_reducible refine wp_region_lex (by kernel_rfl) (by kernel_rfl) ?_) | (with_reducible refine OnlyG.intro (by kernel_rfl) ?_) | (at_builtin; refine wpList_append_own _ rfl (.tmp 86) (.tmp 88) 23 rfl w1.heap.size 26 i0 (.slice none 0 0) 1 24 Try.underlying23 hi hz0 hz1 hz2 rfl (by decide) _ _ _ rfl (hown'.alloc _) ⟨wr.heap.size, 0, none⟩ 1 1 [.slice lo j lc] rfl rfl (cells_new _ _ _ _ rfl) (by simp [Value.oneCell']) (by unfold maxLen; omega) (by omega) (by simp; omega) ?_; intro v' w2 hown1 hgrow _))
          have hb2 : Below w1.heap.size w1 w2 := below_append ((hnx.trans (hni.mono hsz)).alloc (by have := hni.size; omega) _) (hown'.alloc _) (by have := hni.size; simp; omega) hgrow
          have hs2 := hb2.size
          have hl0 : w2.ownsRow wo.heap.size 27 2 (.slice lo j lc) j (ringV (movedTo dx dy l j)) := (hlown.alloc (.cells #[.slice lo j lc] 26)).kept hgrow (own_ne (hlown.alloc (.cells #[.slice lo j lc] 26)) (hown'.alloc (.cells #[.slice lo j lc] 26)) (by decide))
          rw [HME.out] at hl0
          have HO2 : Hid (OwnRings w2 w1.heap.size (vs' ++ [.slice lo j lc]) (ringsTo dx dy ls (k + 1))) := by
            show OwnRings _ _ _ _
            rw [HTS.out]
            refine OwnRings.snoc ?_ (OwnRings.grown (hown'.alloc _) hgrow (OwnRings.below ((Below.refl wr.heap.size wr).alloc (Nat.le_refl _) _) (Nat.le_refl _) (OwnRings.below hni (Nat.le_refl _) HO.out)))
            rw [moved_length, HN.out]
            exact own_base hl0 hsz
          obtain ⟨V, hV⟩ : ∃ V, area2F l = V := ⟨_, rfl⟩
          have A1 := areV_of (c := lc) (ring_at_own (by rw [moved_length, HN.out]) hl0) (n := j) (by rw [moved_length, HN.out]) (by omega) V (by rw [HAR.out, hV])
          have A2 := areV_of (c := ci) (X := w2) (ring_wider (HRC.out _ hb2).2 hs2) (n := j) HN.out.symm (by omega) V hV
          have r2 := (HRC.out _ hb2).1
          obtain ⟨vo2, vc2, rfl, _, _⟩ := own_form hown1
          have HOW2 := Lib.hid hown1
          have HG := Lib.hid hgrow
          have hgw : g < w2.heap.size := by omega
          clear hown1 hgrow hl0 hV hown' hlown hown hr1 tin HTS
          have hrr : ∀ wx, Below w2.heap.size w2 wx → wx.cell? ⟨g, k, none⟩ = some (.slice (some ⟨rb, ro, none⟩) j ci) := fun wx hbx => (hbx.cell (p := ⟨g, k, none⟩) hgw).trans r2
          have HRR := Lib.hid hrr
          clear hrr
          have hbb : Below w2.heap.size w2 w2 := Below.refl _ _
          go_cut [97] from 90 to 97 (fun v wx => v = .bool false ∧ Below w2.heap.size w2 wx)
          case first =>
            go_region_with (first
              | (go_at_call 15; (with_reducible refine (AreV.use A1 ?_).mono ?_); (first | exact (Below.refl _ _).drew | exact hb'.drew | assumption); rintro e w' ⟨rfl, hb'⟩; have r3 := HRR.out _ hb')
              | (go_at_call 15; (with_reducible refine (AreV.use A2 ?_).mono ?_); (first | exact (Below.refl _ _).drew | exact hb'.drew | assumption); rintro e w' ⟨rfl, hb'⟩; have r3 := HRR.out _ hb'))
            all_goals
              go_wp2
              go_meet
              exact ⟨by simp, hb'⟩
          case rest =>
            obtain ⟨rfl, hbc⟩ := hcut
            go_wp2
            go_roundw
            case rel => exact ⟨k + 1, _, by omega, by go_num, own_below HOW2.out hbc (Nat.le_refl _), OwnRings.below hbc (Nat.le_refl _) HO2.out, below_later hb2 hb2.size hbc⟩
            case measure => simp [intOf] <;> omega
    · obtain rfl : k = m := by omega
      have hRT : Hid (ringsTo dx dy ls k = ls.map (moved dx dy)) := by show _ = _; unfold ringsTo; rw [List.take_of_length_le (by rw [HM.out]; exact Nat.le_refl _)]
      have HOM : Hid (OwnRings wr w1.heap.size vs' (ls.map (moved dx dy))) := by have := HO.out; rw [hRT.out] at this; exact this
      have G1 := rings_of_own hown HOM.out (by rw [List.length_map, HM.out])
      have G0 : RingsAt wr wr.heap.size (some ⟨g, 0, none⟩) ls := by
        intro h0
        obtain ⟨b, off, e1, e2, e3⟩ := (HR.out.below hnx (Nat.le_refl _)) h0
        refine ⟨b, off, e1, by omega, fun i hi => ?_⟩
        obtain ⟨ri, ci, g1, g2⟩ := e3 i hi
        exact ⟨ri, ci, g1, ring_wider g2 hsz⟩
      have hTT := HT.out
      have hz1 := tot_small (ls := ls) hTT.1 (fun l hl => (hTT.2 l hl).2.1)
      have hz2 := tot_small (ls := ls.map (moved dx dy)) (by rw [List.length_map]; exact hTT.1) (fun l hl => by obtain ⟨l', hl', rfl⟩ := List.mem_map.1 hl; rw [moved_length]; exact (hTT.2 l' hl').2.1)
      obtain ⟨LI, LO, LB, _, b1, b2, b3, b4, b5, b6, b7, b8⟩ := HLAW.out (500000 + p % 62 - 1) (500000 + q % 62 - 1) (by omega) (by omega)
      obtain ⟨P, hP⟩ : ∃ P, insideF ls (500000 + p % 62 - 1) (500000 + q % 62 - 1) = P := ⟨_, rfl⟩
      obtain ⟨O, hOO⟩ : ∃ P, onF ls (500000 + p % 62 - 1) (500000 + q % 62 - 1) = P := ⟨_, rfl⟩
      obtain ⟨s, hs⟩ : ∃ s, boxF ls = s := ⟨_, rfl⟩
      have I1 := insV_of (c := co) G0 (m := k) HM.out.symm hz1.1 hz1.2 _ _ P hP
      have I2 := insV_of (c := vc) G1 (m := k) (by rw [List.length_map, HM.out]) hz2.1 hz2.2 _ _ P (LI.trans hP)
      have J1 := onV_of (c := co) G0 (m := k) HM.out.symm hz1.1 hz1.2 _ _ O hOO
      have J2 := onV_of (c := vc) G1 (m := k) (by rw [List.length_map, HM.out]) hz2.1 hz2.2 _ _ O (LO.trans hOO)
      have B1 := boxV_of (c := co) G0 (m := k) HM.out.symm hz1.1 hz1.2 s hs
      have B2 := boxV_of (c := vc) G1 (m := k) (by rw [List.length_map, HM.out]) hz2.1 hz2.2 (bmove dx dy s) (by rw [LB, hs])
      rw [hs] at b1 b2 b3 b4 b5 b6 b7 b8
      have HW : Hid (Below w.heap.size w wr) := below_later hb hs1 hnx
      have hbb : Below wr.heap.size wr wr := Below.refl _ _
      clear G0 G1 hTT hz1 hz2 LI LO LB hP hOO hs hRT HOM HO hown hvc hvk HLAW hnx hb ex ey eu ev HT HR HM
      obtain ⟨sa, sb, sc, sd⟩ := s
      simp only [bmove] at B1 B2 b1 b2 b3 b4 b5 b6 b7 b8
      go_upto_region 18 with (fail)
      go_cut [18, 19] from 98 to 102 (fun v18 v19 wx => ∃ g1, v18 = .pointer (some ⟨g1, 0, none⟩) ∧ v19 = .pointer (some ⟨g1 + 1, 0, none⟩) ∧ Hid (BoxAt wx g1 ⟨sa, sb, sc, sd⟩) ∧ Below wr.heap.size wr wx)
      case first =>
        go_wp2_with (go_at_call 16; (with_reducible refine (BoxV.use B1 ?_).mono ?_); assumption; rintro e w' ⟨rfl, hb', _⟩)
        go_meet
        exact ⟨_, rfl, rfl, BoxAt.new _ _ _ _ _ _, (hb'.alloc hb'.size _).alloc (by have := hb'.size; simp; omega) _⟩
      case rest =>
        obtain ⟨g1, rfl, rfl, BX1, hb1⟩ := hcut
        go_upto_region 19 with (fail)
        obtain ⟨wd, hwd⟩ : ∃ wo : World, wo = wc := ⟨_, rfl⟩
        subst hwd
        go_cut [20, 21] from 103 to 107 (fun v18 v19 wx => ∃ g2, v18 = .pointer (some ⟨g2, 0, none⟩) ∧ v19 = .pointer (some ⟨g2 + 1, 0, none⟩) ∧ Hid (BoxAt wx g2 ⟨sa + dx, sb + dy, sc + dx, sd + dy⟩) ∧ Below wr.heap.size wr wx ∧ Below wd.heap.size wd wx)
        case first =>
          go_wp2_with (go_at_call 16; (with_reducible refine (BoxV.use B2 ?_).mono ?_); assumption; rintro e w' ⟨rfl, hb', hb''⟩)
          go_meet
          exact ⟨_, rfl, rfl, BoxAt.new _ _ _ _ _ _, (hb'.alloc hb'.size _).alloc (by have := hb'.size; simp; omega) _, (hb''.alloc hb''.size _).alloc (by have := hb''.size; simp; omega) _⟩
        case rest =>
          obtain ⟨g2, rfl, rfl, BX2, hb2, hb3⟩ := hcut
          have BX1' := Lib.hid (BX1.out.below hb3)
          clear BX1 hb3 hb1 B1 B2
          have I1 := I1.later hb2
          have I2 := I2.later hb2
          have J1 := J1.later hb2
          have J2 := J2.later hb2
          have HW2 : Hid (Below w.heap.size w wc) := below_later HW.out HW.out.size hb2
          have EQ := eq_pair
          clear hb2 hbb HW
          have hbb : Below wc.heap.size wc wc := Below.refl _ _
          cases P <;> cases O
          all_goals
            go_wp2_with (first
              | (go_at_call 12; (with_reducible refine (InsV.use I1 ?_).mono ?_); assumption; rintro e w' ⟨rfl, hb'⟩)
              | (go_at_call 12; (with_reducible refine (InsV.use I2 ?_).mono ?_); assumption; rintro e w' ⟨rfl, hb'⟩)
              | (go_at_call 13; (with_reducible refine (InsV.use J1 ?_).mono ?_); assumption; rintro e w' ⟨rfl, hb'⟩; obtain ⟨c0, c1, c2, c3, _, _, _, _, _⟩ := BX1'.out.below hb'; obtain ⟨d0, d1, d2, d3, _, _, _, _, _⟩ := BX2.out.below hb')
              | (go_at_call 13; (with_reducible refine (InsV.use J2 ?_).mono ?_); assumption; rintro e w' ⟨rfl, hb'⟩)
              | (go_at_call 11; refine (awake_any _).mono ?_; rintro e w' ⟨rfl, hbw⟩))
          all_goals
            go_ret
            exact ⟨rfl, below_later HW2.out HW2.out.size (below_later hb' hb'.size hbw)⟩
end Go.Proofs.Ytnnfkdajbaicoaa.polyMoved
