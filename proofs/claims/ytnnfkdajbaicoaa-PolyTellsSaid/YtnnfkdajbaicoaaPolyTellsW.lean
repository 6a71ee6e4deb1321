/- The walk of the law PolyTells. -/
import Derived.Test.YtnnfkdajbaicoaaPolyI
import Derived.Test.YtnnfkdajbaicoaaRefE
import Derived.Test.YtnnfkdajbaicoaaRefF
import Derived.Deep.CutRange
namespace Go.Proofs.Ytnnfkdajbaicoaa.polyTells
open Go.RowKit

/-- A box's answer in whatever later world. -/
def BoxVf (f : Nat) (ao : Option Addr) (n c : Nat) (s : Bx) (X : World) : Prop :=
  ∀ wx, Below X.heap.size X wx → Calls Try.prog f #[.slice ao n c] wx fun e w' => e = .returned (.tuple #[.agg #[.int .i64 s.a, .int .i64 s.b], .agg #[.int .i64 s.c, .int .i64 s.d]]) ∧ Below X.heap.size X w' ∧ Below wx.heap.size wx w'
theorem BoxVf.use {f n c : Nat} {ao : Option Addr} {s : Bx} {X : World} (h : BoxVf f ao n c s X) {wx : World} (hb : Below X.heap.size X wx) :
    Calls Try.prog f #[.slice ao n c] wx fun e w' => e = .returned (.tuple #[.agg #[.int .i64 s.a, .int .i64 s.b], .agg #[.int .i64 s.c, .int .i64 s.d]]) ∧ Below X.heap.size X w' ∧ Below wx.heap.size wx w' := h wx hb
/-- A number told of rings in whatever later world. -/
def NumV (f : Nat) (ao : Option Addr) (n c : Nat) (V : Int) (X : World) : Prop :=
  ∀ wx, Below X.heap.size X wx → Calls Try.prog f #[.slice ao n c] wx fun e w' => e = .returned (.int .i64 V) ∧ Below wx.heap.size wx w'
theorem NumV.use {f n c : Nat} {ao : Option Addr} {V : Int} {X : World} (h : NumV f ao n c V X) {wx : World} (hb : Below X.heap.size X wx) :
    Calls Try.prog f #[.slice ao n c] wx fun e w' => e = .returned (.int .i64 V) ∧ Below X.heap.size X w' := (h wx hb).mono fun _ _ ⟨he, h2⟩ => ⟨he, below_later hb hb.size h2⟩
theorem NumV.later {f n c : Nat} {ao : Option Addr} {V : Int} {X Y : World} (h : NumV f ao n c V X) (hb : Below X.heap.size X Y) : NumV f ao n c V Y := fun wx hx => h wx (below_later hb hb.size hx)
/-- Rings, small ones. -/
structure Few (ls : List (List Pt)) : Prop where
  n : ls.length ≤ 25
  l : ∀ l ∈ ls, l.length ≤ 60
theorem Few.tot {ls : List (List Pt)} (h : Few ls) : ls.length ≤ 1000000000 ∧ totTo ls ls.length ≤ 1000000000 := by
  have := totTo_bound 60 ls ls.length h.l
  have := h.n
  omega
theorem rings_wider {w : World} {B C : Nat} {ao : Option Addr} {ls : List (List Pt)} (h : RingsAt w B ao ls) (hC : B ≤ C) : RingsAt w C ao ls := fun h0 => by
  obtain ⟨b, off, e1, e2, e3⟩ := h h0
  refine ⟨b, off, e1, by omega, fun i hi => ?_⟩
  obtain ⟨ri, ci, g1, g2⟩ := e3 i hi
  exact ⟨ri, ci, g1, ring_wider g2 hC⟩

set_option maxRecDepth 100000 in
set_option maxHeartbeats 8000000 in
theorem walk {w : World} (a0 : Option Addr) (n0 c0 : Nat) (ls0 : List (List Pt)) (l0 : ls0.length = n0) (g0 : RingsAt w w.heap.size a0 ls0) (m0 : n0 ≤ maxLen) (k0 : n0 ≤ c0)
    (a1 : Option Addr) (n1 c1 : Nat) (z1 : Nat → Int) (h1 : IntsAtK .i64 w w.heap.size a1 n1 z1) (_b1 : ∀ i, i < n1 → (Lit.int .i64 (z1 i)).wf = true) (s1 : n1 * 8 ≤ 140737488351232)
    (a2 : Int) (_w2 : (Lit.int .i64 a2).wf = true) (a3 : Int) (_w3 : (Lit.int .i64 a3).wf = true) :
    Calls Try.prog 9 #[.slice a0 n0 c0, .slice a1 n1 c1, .int .i64 a2, .int .i64 a3] w fun e w' => e = .returned (.bool true) ∧ Below w.heap.size w w' := by
  unfold maxLen at m0
  have HL := Lib.hid l0
  have HG := Lib.hid g0
  have HI := Lib.hid h1
  clear l0 g0 h1
  by_cases hn0 : 25 < n0
  · go_enter Try.func9, Try.ntmps9
    go_wp2_with (first | (go_at_call 11; refine (awake_any _).mono ?_; rintro e w' ⟨rfl, hbw⟩))
    go_ret
    exact ⟨rfl, hbw⟩
  by_cases hn1 : 60 < n1
  · go_enter Try.func9, Try.ntmps9
    go_wp2_with (first | (go_at_call 11; refine (awake_any _).mono ?_; rintro e w' ⟨rfl, hbw⟩))
    go_ret
    exact ⟨rfl, hbw⟩
  obtain ⟨p, eu, hp0⟩ : ∃ p, bits BinOp.and IntKind.i64 a2 65535 = p ∧ 0 ≤ p := ⟨_, i64_and_mask a2 16 (by omega) 65535 rfl, Int.emod_nonneg _ (by omega)⟩
  obtain ⟨q, ev, hq0'⟩ : ∃ p, bits BinOp.and IntKind.i64 a3 65535 = p ∧ 0 ≤ p := ⟨_, i64_and_mask a3 16 (by omega) 65535 rfl, Int.emod_nonneg _ (by omega)⟩
  have q1 : decide (25 < (n0 : Int)) = false := by simp; omega
  have q2 : decide (60 < (n1 : Int)) = false := by simp; omega
  go_enter Try.func9, Try.ntmps9
  go_wp2
  go_loopw [9] (fun i wr => ∃ k : Nat, k ≤ n0 ∧ i = .int .i64 k ∧ Hid (∀ j, j < k → (rg ls0 j).length ≤ 60) ∧ w = wr) (fun i _ => n0 - (intOf i).toNat)
  case atStart => exact ⟨0, Nat.zero_le _, rfl, fun j hj => by omega, rfl⟩
  case round =>
    obtain ⟨k, hk, rfl, HS, rfl⟩ := hrel
    by_cases hlt : k < n0
    · obtain ⟨b, off, rfl, hb, hc⟩ := HG.out (by rw [HL.out]; omega)
      obtain ⟨ri, ci, r0, _⟩ := hc k (by rw [HL.out]; exact hlt)
      clear hc
      have HSS : Hid ((rg ls0 k).length ≤ 60 → ∀ j, j < k + 1 → (rg ls0 j).length ≤ 60) := fun h j hj => by
        by_cases e : j = k
        · rw [e]; exact h
        · exact HS.out j (by omega)
      generalize (rg ls0 k).length = m at r0 HSS
      by_cases hm : 60 < m
      · go_wp2_with (first | (go_at_call 11; refine (awake_any _).mono ?_; rintro e w' ⟨rfl, hbw⟩))
        go_ret
        exact ⟨rfl, hbw⟩
      · go_wp2
        go_roundw
        case rel => exact ⟨k + 1, by omega, by go_num, HSS.out (by omega), by first | rfl | trivial⟩
        case measure => simp [intOf]; omega
    · obtain rfl : k = n0 := by omega
      have HFEW : Hid (Few ls0) := ⟨by rw [HL.out]; omega, fun l hl => by
        obtain ⟨i, hi, e⟩ := List.getElem_of_mem hl
        have := HS.out i (by rw [HL.out] at hi; exact hi)
        unfold rg at this
        simpa [List.getD_eq_getElem?_getD, hi, e] using this⟩
      clear HS hlt hk
      go_wp2
      go_loopw [10, 11, 12, 13] (fun r u v i wr => ∃ (t n c : Nat) (ao : Option Addr) (ls : List (List Pt)) (x y : Int), t ≤ 2 ∧ i = .int .i64 t ∧ r = .slice ao n c ∧ u = .int .i64 x ∧ v = .int .i64 y ∧ n ≤ c ∧ n ≤ 25 ∧ Hid (ls.length = n ∧ Few ls ∧ RingsAt wr wr.heap.size ao ls) ∧ Below w.heap.size w wr) (fun _ _ _ i _ => 2 - (intOf i).toNat)
      case atStart => exact ⟨0, k, c0, a0, ls0, a2, a3, by omega, rfl, rfl, rfl, rfl, k0, by omega, ⟨HL.out, HFEW.out, HG.out⟩, Below.refl _ _⟩
      case round =>
        obtain ⟨t, n, c, ao, ls, x, y, ht, rfl, rfl, rfl, rfl, hnc, hn25, HH, hnx⟩ := hrel
        have hsz := hnx.size
        by_cases ht2 : t < 2
        · obtain ⟨hlen, hfew, hrs⟩ := HH.out
          obtain ⟨z1', z2'⟩ := hfew.tot
          obtain ⟨P, hP⟩ : ∃ P, insideF ls x y = P := ⟨_, rfl⟩
          obtain ⟨O, hOO⟩ : ∃ P, onF ls x y = P := ⟨_, rfl⟩
          obtain ⟨s, hs⟩ : ∃ s, boxF ls = s := ⟨_, rfl⟩
          obtain ⟨V, hV⟩ : ∃ V, checkF ls = V := ⟨_, rfl⟩
          have I1 := insV_of (c := c) hrs hlen.symm z1' z2' x y P hP
          have J1 := onV_of (c := c) hrs hlen.symm z1' z2' x y O hOO
          have I2 : InsV 20 ao n c x y P wr := fun wx hb => by
            have := rinside_any ao c ls x y wx _ hb.size (hrs.below hb (Nat.le_refl _)) z1' z2'
            rw [hlen, hP] at this
            exact this
          have J2 : InsV 19 ao n c x y O wr := fun wx hb => by
            have := ron_any ao c ls x y wx _ hb.size (hrs.below hb (Nat.le_refl _)) z1' z2'
            rw [hlen, hOO] at this
            exact this
          have C1 : NumV 14 ao n c V wr := fun wx hb => by
            have := check_any ao c ls wx _ hb.size (hrs.below hb (Nat.le_refl _)) z1' z2'
            rw [hlen, hV] at this
            exact this
          have C2 : NumV 18 ao n c V wr := fun wx hb => by
            have := rcheck_any ao c ls wx _ hb.size (hrs.below hb (Nat.le_refl _)) z1' z2'
            rw [hlen, hV] at this
            exact this
          have B1 : BoxVf 16 ao n c s wr := fun wx hb => by
            have := box_any ao c ls wx _ hb.size (hrs.below hb (Nat.le_refl _)) z1' z2'
            rw [hlen, hs] at this
            exact this.mono fun _ _ ⟨he, h2⟩ => ⟨he, below_later hb hb.size h2, h2⟩
          have B2 : BoxVf 17 ao n c s wr := fun wx hb => by
            have := rbox_any ao c ls wx _ hb.size (hrs.below hb (Nat.le_refl _)) z1' z2'
            rw [hlen, hs] at this
            exact this.mono fun _ _ ⟨he, h2⟩ => ⟨he, below_later hb hb.size h2, h2⟩
          clear hlen hfew hrs z1' z2' hP hOO hs hV
          obtain ⟨sa, sb, sc, sd⟩ := s
          obtain ⟨wo, hwo⟩ : ∃ wo : World, wo = wr := ⟨_, rfl⟩
          subst hwo
          have hbb : Below wo.heap.size wo wo := Below.refl _ _
          have q3 : decide ((t : Int) < 2) = true := by simp; omega
          go_upto_region 13 with (fail)
          go_cut [14, 15] from 49 to 53 (fun v18 v19 wx => ∃ g1, v18 = .pointer (some ⟨g1, 0, none⟩) ∧ v19 = .pointer (some ⟨g1 + 1, 0, none⟩) ∧ Hid (BoxAt wx g1 ⟨sa, sb, sc, sd⟩) ∧ Below wo.heap.size wo wx)
          case first =>
            go_wp2_with (go_at_call 16; (with_reducible refine (BoxVf.use B1 ?_).mono ?_); assumption; rintro e w' ⟨rfl, hb', _⟩)
            go_meet
            exact ⟨_, rfl, rfl, BoxAt.new _ _ _ _ _ _, (hb'.alloc hb'.size _).alloc (by have := hb'.size; simp; omega) _⟩
          case rest =>
            obtain ⟨g1, rfl, rfl, BX1, hb1⟩ := hcut
            go_upto_region 14 with (fail)
            obtain ⟨wd, hwd⟩ : ∃ wo : World, wo = wc := ⟨_, rfl⟩
            subst hwd
            go_cut [16, 17] from 54 to 58 (fun v18 v19 wx => ∃ g2, v18 = .pointer (some ⟨g2, 0, none⟩) ∧ v19 = .pointer (some ⟨g2 + 1, 0, none⟩) ∧ Hid (BoxAt wx g2 ⟨sa, sb, sc, sd⟩) ∧ Below wo.heap.size wo wx ∧ Below wd.heap.size wd wx)
            case first =>
              go_wp2_with (go_at_call 17; (with_reducible refine (BoxVf.use B2 ?_).mono ?_); assumption; rintro e w' ⟨rfl, hb', hb''⟩)
              go_meet
              exact ⟨_, rfl, rfl, BoxAt.new _ _ _ _ _ _, (hb'.alloc hb'.size _).alloc (by have := hb'.size; simp; omega) _, (hb''.alloc hb''.size _).alloc (by have := hb''.size; simp; omega) _⟩
            case rest =>
              obtain ⟨g2, rfl, rfl, BX2, hb2, hb3⟩ := hcut
              have BX1' := Lib.hid (BX1.out.below hb3)
              clear BX1 hb3 hb1 B1 B2 hbb
              have I1 := I1.later hb2
              have I2 := I2.later hb2
              have J1 := J1.later hb2
              have J2 := J2.later hb2
              have C1 := C1.later hb2
              have C2 := C2.later hb2
              have HW2 := Lib.hid hb2
              clear hb2
              have hbb : Below wc.heap.size wc wc := Below.refl _ _
              have EQ := eq_pair
              go_upto_region 15 with (fail)
              go_cut [95] from 59 to 95 (fun v wx => v = .bool false ∧ Below wc.heap.size wc wx)
              case first =>
                cases P <;> cases O
                all_goals
                  go_wp2_with (first
                    | (go_at_call 12; (with_reducible refine (InsV.use I1 ?_).mono ?_); assumption; rintro e w' ⟨rfl, hb'⟩)
                    | (go_at_call 20; (with_reducible refine (InsV.use I2 ?_).mono ?_); assumption; rintro e w' ⟨rfl, hb'⟩; obtain ⟨c0, c1, c2, c3, _, _, _, _, _⟩ := BX1'.out.below hb'; obtain ⟨d0, d1, d2, d3, _, _, _, _, _⟩ := BX2.out.below hb')
                    | (go_at_call 13; (with_reducible refine (InsV.use J1 ?_).mono ?_); assumption; rintro e w' ⟨rfl, hb'⟩)
                    | (go_at_call 19; (with_reducible refine (InsV.use J2 ?_).mono ?_); assumption; rintro e w' ⟨rfl, hb'⟩)
                    | (go_at_call 14; (with_reducible refine (NumV.use C1 ?_).mono ?_); assumption; rintro e w' ⟨rfl, hb'⟩)
                    | (go_at_call 18; (with_reducible refine (NumV.use C2 ?_).mono ?_); assumption; rintro e w' ⟨rfl, hb'⟩))
                  go_meet
                  exact ⟨by simp, hb'⟩
              case rest =>
                obtain ⟨rfl, hbc⟩ := hcut
                have HWC := Lib.hid (below_later HW2.out HW2.out.size hbc)
                clear I1 I2 J1 J2 C1 C2 BX1' BX2 EQ hbb hbc HW2
                go_wp2
                go_loopw [18] (fun i wr => ∃ k : Nat, k ≤ n ∧ i = .int .i64 k ∧ Below wo.heap.size wo wr) (fun i _ => n - (intOf i).toNat)
                case atStart => exact ⟨0, Nat.zero_le _, rfl, HWC.out⟩
                case round =>
                  obtain ⟨j, hj, rfl, hnj⟩ := hrel
                  by_cases hjn : j < n
                  · have hjl : j < ls.length := by rw [HH.out.1]; exact hjn
                    have hm60 := HH.out.2.1.l (rg ls j) (by unfold rg; simp [List.getD_eq_getElem?_getD, hjl])
                    have hRS := HH.out.2.2
                    obtain ⟨b, off, rfl, hb, _⟩ := hRS (by omega)
                    have HK : Hid (∀ wx, Below wo.heap.size wo wx → ∃ ri ci, wx.cell? ⟨b, off + j, none⟩ = some (.slice ri (rg ls j).length ci) ∧ RingAt wx wx.heap.size ri (rg ls j)) := fun wx hbx => by
                      obtain ⟨b', off', e', _, hc⟩ := (hRS.below hbx (Nat.le_refl _)) (by omega)
                      cases e'
                      obtain ⟨ri, ci, g1, g2⟩ := hc j hjl
                      exact ⟨ri, ci, g1, ring_wider g2 hbx.size⟩
                    generalize rg ls j = l at hm60 HK
                    clear hRS hjl
                    obtain ⟨ri, ci, r0, hr⟩ := HK.out wr hnj
                    have HR : Hid (∀ wx, Below wr.heap.size wr wx → wx.cell? ⟨b, off + j, none⟩ = some (.slice ri l.length ci) ∧ b < wx.heap.size ∧ RingAt wx wx.heap.size ri l) := fun wx hbx => by
                      have h1 := hbx.size
                      have h2 := hnj.size
                      have h3 : b < wo.heap.size := hb
                      exact ⟨(hbx.cell (p := ⟨b, off + j, none⟩) (by show b < _; omega)).trans r0, by omega, ring_wider (hr.below hbx (Nat.le_refl _)) h1⟩
                    have C3 : NumV 18 (some ⟨b, off + j, none⟩) 1 (c - j) (checkF [l]) wr := fun wx hbx => by
                      obtain ⟨e1, e2, e3⟩ := HR.out wx hbx
                      refine rcheck_any (some ⟨b, off + j, none⟩) (c - j) [l] wx _ (Nat.le_refl _) (fun _ => ⟨b, off + j, rfl, e2, fun i hi => ?_⟩) (by simp) (by simp [totTo]; omega)
                      obtain rfl : i = 0 := by simpa using hi
                      exact ⟨ri, ci, e1, e3⟩
                    have A1 := areV_of (c := ci) hr (n := l.length) rfl (by omega) (area2F l) rfl
                    have A2 : NumV 21 ri l.length ci (areaTo l l.length) wr := fun wx hbx => by
                      obtain ⟨_, _, e3⟩ := HR.out wx hbx
                      exact rarea_any ri ci l wx _ (Nat.le_refl _) e3 (by omega)
                    have hAF : area2F l = if checkF [l] = 0 then areaTo l l.length else 0 := rfl
                    have HNJ := Lib.hid hnj
                    have hbw : b < wr.heap.size := by have := hnj.size; omega
                    obtain ⟨m, hm⟩ : ∃ m, l.length = m := ⟨_, rfl⟩
                    rw [hm] at r0 HR A1 A2 hm60 hAF
                    generalize checkF [l] = V at C3 hAF
                    generalize areaTo l m = W at A2 hAF
                    generalize area2F l = U at A1 hAF
                    clear HK hm hr hb hnj
                    have hbb : Below wr.heap.size wr wr := Below.refl _ _
                    by_cases hV : V = 0
                    · rw [if_pos hV] at hAF
                      subst hV hAF
                      go_wp2_with (first
                        | (go_at_call 18; (with_reducible refine (NumV.use C3 ?_).mono ?_); assumption; rintro e w' ⟨rfl, hb'⟩; obtain ⟨r1, hbw1, _⟩ := HR.out _ hb')
                        | (go_at_call 21; (with_reducible refine (NumV.use A2 ?_).mono ?_); assumption; rintro e w' ⟨rfl, hb'⟩; obtain ⟨r1, hbw1, _⟩ := HR.out _ hb')
                        | (go_at_call 15; (with_reducible refine (AreV.use A1 ?_).mono ?_); assumption; rintro e w' ⟨rfl, hb'⟩))
                      go_roundw
                      case rel => exact ⟨j + 1, by omega, by go_num, below_later HNJ.out HNJ.out.size hb'⟩
                      case measure => simp [intOf]; omega
                    · rw [if_neg hV] at hAF
                      have hVb : (V == 0) = false := by simpa using hV
                      subst hAF
                      go_wp2_with (first
                        | (go_at_call 18; (with_reducible refine (NumV.use C3 ?_).mono ?_); assumption; rintro e w' ⟨rfl, hb'⟩; obtain ⟨r1, hbw1, _⟩ := HR.out _ hb')
                        | (go_at_call 15; (with_reducible refine (AreV.use A1 ?_).mono ?_); assumption; rintro e w' ⟨rfl, hb'⟩))
                      go_roundw
                      case rel => exact ⟨j + 1, by omega, by go_num, below_later HNJ.out HNJ.out.size hb'⟩
                      case measure => simp [intOf]; omega
                  · obtain rfl : j = n := by omega
                    have hbz := below_later hnx hnx.size hnj
                    have HBZ := Lib.hid hbz
                    have hwz := hbz.size
                    have HT := Lib.hid (tame_any a1 n1 c1 z1 40 wr w.heap.size hwz (HI.out.below hbz (Nat.le_refl _)) (by omega) (by omega) (by omega))
                    clear hbz hnj
                    go_wp2_with fail
                    refine HT.out.mono ?_
                    rintro e w2 ⟨v, ls2, rfl, hT2, ⟨vs, hown, hO⟩, hb2⟩
                    obtain ⟨ao2, co2, rfl, hmc2, _⟩ := own_form hown
                    have HH2 : Hid (ls2.length = ls2.length ∧ Few ls2 ∧ RingsAt w2 w2.heap.size ao2 ls2) := ⟨rfl, ⟨by have := hT2.1; omega, fun l hl => by have := (hT2.2 l hl).2.1; omega⟩, rings_of_own hown hO rfl⟩
                    have hn3 : ls2.length ≤ 25 := by have := hT2.1; omega
                    have HEND := Lib.hid (below_later HBZ.out hwz hb2)
                    clear hown hO hT2 hb2
                    go_wp2
                    go_roundw
                    case rel => exact ⟨t + 1, _, co2, ao2, ls2, _, _, by omega, by go_num, rfl, rfl, rfl, hmc2, hn3, ⟨rfl, HH2.out.2⟩, HEND.out⟩
                    case measure => simp [intOf]; omega
        · have q3 : decide ((t : Int) < 2) = false := by simp; omega
          go_wp2_with (first | (go_at_call 11; refine (awake_any _).mono ?_; rintro e w' ⟨rfl, hbw⟩))
          go_ret
          exact ⟨rfl, below_later hnx hnx.size hbw⟩
end Go.Proofs.Ytnnfkdajbaicoaa.polyTells
