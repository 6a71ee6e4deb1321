/- The walk of the law HullRound. -/
import Derived.Test.YtcoffankmmjehaaHullL
namespace Go.Proofs.Ytcoffankmmjehaa.hullRound
open Go.RowKit Go.Lib Hull

def inTo (l : List Pt) (x : Pt) (k : Nat) : Bool := decide (x ∈ l.take k)
theorem inTo_succ {l : List Pt} {x : Pt} {k : Nat} (hk : k < l.length) : inTo l x (k + 1) = (inTo l x k || ((pg l k).1 == x.1 && (pg l k).2 == x.2)) := by
  unfold inTo
  rw [take_succ_pg hk, Bool.eq_iff_iff]
  simp only [List.mem_append, List.mem_singleton, decide_eq_true_eq, Bool.or_eq_true, Bool.and_eq_true, beq_iff_eq]
  refine or_congr Iff.rfl ?_
  obtain ⟨x1, x2⟩ := x
  generalize pg l k = y
  obtain ⟨y1, y2⟩ := y
  simp only [Prod.mk.injEq]
  exact ⟨fun h => ⟨h.1.symm, h.2.symm⟩, fun h => ⟨h.1.symm, h.2.symm⟩⟩
set_option maxRecDepth 100000 in
set_option maxHeartbeats 16000000 in
theorem core (w : World) (a0 : Option Addr) (n0 c0 : Nat) (z0 : Nat → Int) (g0 : IntsAtK .i64 w w.heap.size a0 n0 z0) (hn : n0 ≤ 1000000000000000) (x : Int) :
    Calls Try.prog 6 #[.slice a0 n0 c0, .int .i64 x] w fun e w' => e = .returned (.bool true) ∧ Below w.heap.size w w' := by
  have HAW := Lib.hid awake_any
  have ex : bits BinOp.and IntKind.i64 x 255 = x % 256 := i64_and_mask x 8 (by omega) 255 rfl
  have hx0 : 0 ≤ x % 256 := Int.emod_nonneg _ (by omega)
  have hx1 : x % 256 < 256 := Int.emod_lt_of_pos _ (by omega)
  have HNE := Lib.hid (near_any a0 n0 c0 z0 (x % 256 + 2) w g0 hn (by omega) (by omega))
  clear g0 hn
  go_enter Try.func6, Try.ntmps6
  go_wp2_with fail
  refine HNE.out.mono ?_
  rintro e w1 ⟨ao, c, l, rfl, hl12, hsm, ho, hb, -⟩
  clear ex
  generalize x % 256 = s at *
  have HB1 := Lib.hid hb
  have hP := pAt_own rfl ho
  have hsmall : Small 1000000 l := fun q hq => by have := hsm q hq; omega
  have HOF := Lib.hid (hof_any ao c l w1 hP (by omega))
  have HPL := Lib.hid hP
  have HSM := Lib.hid hsmall
  obtain ⟨n, hnl⟩ : ∃ n, l.length = n := ⟨_, rfl⟩
  have HNL := Lib.hid hnl
  rw [hnl] at HOF hl12 ⊢
  clear hsm hsmall ho hb hP HNE hnl hx0 hx1
  have HLI : Hid (Flat (fun p => p ∈ l) → ∀ wx, Below w1.heap.size w1 wx → Calls Try.prog 15 #[.slice ao n c] wx fun e w' => e = .returned (.bool true) ∧ Below wx.heap.size wx w') := fun hf wx hx => by
    have := line_any ao c l wx (HPL.out.below hx) (by rw [HNL.out]; omega) HSM.out hf
    rwa [HNL.out] at this
  go_wp2_with fail
  refine HOF.out.mono ?_
  rintro e w2 ⟨ah, ch, rfl, hp, _, _, hb⟩
  have HB2 := Lib.hid hb
  have HPH := Lib.hid hp
  have HBW2 : Hid (Below w.heap.size w w2) := HB1.out.trans (hb.mono HB1.out.size)
  have hok := HSM.out.ok (by omega) (by rw [HNL.out]; omega)
  clear hb hp HOF
  by_cases hz : hullF l = []
  · have hlen : (hullF l).length = 0 := by rw [hz]; rfl
    have HLI2 := Lib.hid (HLI.out (hull_flat hok hz) w2 HB2.out)
    rw [hlen]
    clear hz hok hlen HLI HPH
    go_wp2_with fail
    refine HLI2.out.mono ?_
    rintro e w3 ⟨rfl, hb⟩
    have HB3 : Hid (Below w.heap.size w w3) := HBW2.out.trans (hb.mono HBW2.out.size)
    clear hb
    go_wp2_with fail
    refine (HAW.out _).mono ?_
    rintro e w4 ⟨rfl, hb⟩
    have HF : Hid (Below w.heap.size w w4) := HB3.out.trans (hb.mono HB3.out.size)
    clear hb
    go_wp2
    go_ret
    exact ⟨rfl, HF.out⟩
  · have hr := hullF_round hz
    have hmem : ∀ i, i < (hullF l).length → pg (hullF l) i ∈ l := fun i hi => hullF_mem (pg_mem hi)
    have HMEM := Lib.hid hmem
    have HBEND : Hid (∀ i, i < (hullF l).length → 0 < turn (pg (hullF l) i) (pg (hullF l) ((i + 1) % (hullF l).length)) (pg (hullF l) ((i + 2) % (hullF l).length))) := fun i hi => hr.1.bend hmem hr.2 hi
    have HFIRST : Hid (∀ i, 0 < i → i < (hullF l).length → Lt 1 (pg (hullF l) 0) (pg (hullF l) i)) := fun i h0 hi => by
      rcases hr.1.first _ (hmem i hi) with h | h
      · exact absurd h (hr.1.back i h0 hi)
      · exact h
    have HAR : Hid (0 < area (hullF l)) := hr.1.area_pos hmem hr.2
    have HHO : Hid (∀ p ∈ l, holdsF (hullF l) p = true) := fun p hp => hull_holds hz hp
    have HCX := Lib.hid (convexF_hull hz)
    have HOKH := Lib.hid (hullF_ok hok)
    have HSH := Lib.hid HSM.out.hull
    have h3 := hr.2
    have hle := hullF_len l
    rw [HNL.out] at hle
    clear hz hok hr hmem HLI
    generalize hullF l = H at *
    obtain ⟨m, hm⟩ : ∃ m, H.length = m := ⟨_, rfl⟩
    have HM := Lib.hid hm
    rw [hm] at HMEM HBEND HFIRST h3 hle ⊢
    have har : ∀ wy, Below w2.heap.size w2 wy → Calls Try.prog 14 #[.slice ah m ch] wy fun e w' => e = .returned (.int .i64 (area H)) ∧ Below wy.heap.size wy w' := fun wy hy => by
      have := area_any ah ch H wy (HPH.out.below hy) (by rw [HM.out]; omega)
      rwa [if_pos HOKH.out, area_small HSH.out (by rw [HM.out]; omega), HM.out] at this
    have hcx : ∀ wy, Below w2.heap.size w2 wy → Calls Try.prog 16 #[.slice ah m ch] wy fun e w' => e = .returned (.bool true) ∧ Below wy.heap.size wy w' := fun wy hy => by
      have := convex_any ah ch H wy (HPH.out.below hy) (by rw [HM.out]; omega)
      rwa [HCX.out, HM.out] at this
    have hho : ∀ wy, Below w2.heap.size w2 wy → ∀ p ∈ l, Calls Try.prog 11 #[.slice ah m ch, .agg #[.int .i64 p.1, .int .i64 p.2]] wy fun e w' => e = .returned (.bool true) ∧ Below wy.heap.size wy w' := fun wy hy p hp => by
      have := holds_any ah ch H p wy (HPH.out.below hy) (by rw [HM.out]; omega)
      rwa [HHO.out p hp, HM.out] at this
    have HARC := Lib.hid har
    have HCXC := Lib.hid hcx
    have HHOC := Lib.hid hho
    have hapos := HAR.out
    generalize area H = aH at HARC hapos
    clear hm har hcx hho HAR HHO HCX HOKH
    have q0 : ((m : Int) == 0) = false := by simp; omega
    have q1 : decide ((m : Int) < 3) = false := decide_eq_false (by omega)
    go_wp2_with fail
    refine (HARC.out _ (Below.refl _ _)).mono ?_
    rintro e w3 ⟨rfl, hb⟩
    have HB3 := Lib.hid hb
    clear hb
    have q2 : decide (aH ≤ 0) = false := decide_eq_false (by omega)
    go_wp2_with fail
    refine (HCXC.out _ HB3.out).mono ?_
    rintro e w4 ⟨rfl, hb⟩
    have HB4 : Hid (Below w2.heap.size w2 w4) := HB3.out.trans (hb.mono HB3.out.size)
    clear hb HB3 HARC HCXC
    go_wp2
    go_loopw [7] (fun i wr => ∃ k : Nat, k ≤ n ∧ i = .int .i64 k ∧ Hid (Below w2.heap.size w2 wr)) (fun i _ => n - (intOf i).toNat)
    case atStart => exact ⟨0, Nat.zero_le _, rfl, HB4.out⟩
    case round =>
      obtain ⟨k, hk, rfl, HK⟩ := hrel
      by_cases hlt : k < n
      · have HKL : Hid (Below w1.heap.size w1 wr) := HB2.out.trans (HK.out.mono HB2.out.size)
        obtain ⟨b, off, rfl, hb, hc⟩ := (HPL.out.below HKL.out) (by rw [HNL.out]; omega)
        obtain ⟨c0, c1⟩ := hc k (by rw [HNL.out]; exact hlt)
        have HHK := Lib.hid (HHOC.out wr HK.out (pg l k) (pg_mem (by rw [HNL.out]; exact hlt)))
        generalize pg l k = y at c0 c1 HHK
        clear hc
        go_wp2_with fail
        refine HHK.out.mono ?_
        rintro e w5 ⟨rfl, hb5⟩
        have HB5 : Hid (Below w2.heap.size w2 w5) := HK.out.trans (hb5.mono HK.out.size)
        clear hb5
        go_wp2
        go_roundw
        case rel => exact ⟨k + 1, by omega, by go_num, HB5.out⟩
        case measure => simp [intOf]; omega
      · obtain rfl : k = n := by omega
        clear hlt hk HHOC
        go_wp2
        obtain ⟨wo, hwo⟩ : ∃ wo : World, wo = wr := ⟨_, rfl⟩
        subst hwo
        go_loopw [8] (fun i wr => ∃ j : Nat, j ≤ m ∧ i = .int .i64 j ∧ Hid (Below w2.heap.size w2 wr)) (fun i _ => m - (intOf i).toNat)
        case atStart => exact ⟨0, Nat.zero_le _, rfl, HK.out⟩
        case round =>
          obtain ⟨j, hj, rfl, HJ⟩ := hrel
          by_cases hjm : j < m
          · obtain ⟨b, off, rfl, hb, hc⟩ := (HPH.out.below HJ.out) (by rw [HM.out]; omega)
            obtain ⟨t, ht, htn⟩ : ∃ t, (j + 1) % m = t ∧ t < m := ⟨_, rfl, Nat.mod_lt _ (by omega)⟩
            obtain ⟨u, hu, hun⟩ : ∃ u, (j + 2) % m = u ∧ u < m := ⟨_, rfl, Nat.mod_lt _ (by omega)⟩
            have htI : ((j : Int) + 1) % (m : Int) = (t : Int) := by have := congrArg (fun x : Nat => (x : Int)) ht; simpa using this
            have huI : ((j : Int) + 2) % (m : Int) = (u : Int) := by have := congrArg (fun x : Nat => (x : Int)) hu; simpa using this
            obtain ⟨c0, c1⟩ := hc j (by rw [HM.out]; exact hjm)
            obtain ⟨d0, d1⟩ := hc t (by rw [HM.out]; exact htn)
            obtain ⟨e0, e1⟩ := hc u (by rw [HM.out]; exact hun)
            obtain ⟨f0, f1⟩ := hc 0 (by rw [HM.out]; omega)
            rw [Nat.zero_mul, Nat.add_zero] at f0 f1
            have hz := HBEND.out j hjm
            rw [ht, hu] at hz
            have s0 := HSH.out _ (pg_mem (l := H) (i := j) (by rw [HM.out]; exact hjm))
            have s1 := HSH.out _ (pg_mem (l := H) (i := t) (by rw [HM.out]; exact htn))
            have s2 := HSH.out _ (pg_mem (l := H) (i := u) (by rw [HM.out]; exact hun))
            have HFJ : Hid (j = 0 ∨ (0 < j ∧ ((pg H 0).1 < (pg H j).1 ∨ ((pg H 0).1 = (pg H j).1 ∧ (pg H 0).2 < (pg H j).2)))) := by
              rcases Nat.eq_zero_or_pos j with h | h
              · exact .inl h
              · right
                have := HFIRST.out j h hjm
                unfold Lt at this
                rw [ls_one] at this
                unfold sb at this
                simp only at this
                exact ⟨h, by omega⟩
            have HMJ := Lib.hid (HMEM.out j hjm)
            have HX0 : Hid (j = 0 → pg H 0 = pg H j) := fun h => by rw [h]
            generalize pg H j = x1 at *
            generalize pg H t = x2 at *
            generalize pg H u = x3 at *
            generalize pg H 0 = x0 at *
            have HFC : Hid (∀ wx, Below wr.heap.size wr wx → wx.cell? ⟨b, off + j * 2, none⟩ = some (.int .i64 x1.1) ∧ wx.cell? ⟨b, off + j * 2 + 1, none⟩ = some (.int .i64 x1.2) ∧ wx.cell? ⟨b, off, none⟩ = some (.int .i64 x0.1) ∧ wx.cell? ⟨b, off + 1, none⟩ = some (.int .i64 x0.2)) := fun wx hx =>
              ⟨(hx.cell (p := ⟨b, _, none⟩) hb).trans c0, (hx.cell (p := ⟨b, _, none⟩) hb).trans c1, (hx.cell (p := ⟨b, _, none⟩) hb).trans f0, (hx.cell (p := ⟨b, _, none⟩) hb).trans f1⟩
            have hb1 : b < wr.heap.size + 1 := by omega
            have hb2 : b < wr.heap.size + 1 + 1 := by omega
            have hb3 : b < wr.heap.size + 2 := by omega
            clear hc f0 f1 ht hu
            go_upto_region 15 with (fail)
            go_cut [9, 10, 11] from 61 to 80 (fun v5 v6 v7 wx => ∃ g1 g2 g3 : Nat, v5 = .pointer (some ⟨g1, 0, none⟩) ∧ v6 = .pointer (some ⟨g2, 0, none⟩) ∧ v7 = .pointer (some ⟨g3, 0, none⟩) ∧ Hid (PtIn wx g1 x1 ∧ PtIn wx g2 x2 ∧ PtIn wx g3 x3 ∧ Below wr.heap.size wr wx))
            case first =>
              have T1 := Lib.hid (tri_cells wr x1 x2 x3)
              have T2 := Lib.hid (tri_cells wr x1 x3 x2)
              have T3 := Lib.hid (tri_cells wr x2 x1 x3)
              have T4 := Lib.hid (tri_cells wr x2 x3 x1)
              have T5 := Lib.hid (tri_cells wr x3 x1 x2)
              have T6 := Lib.hid (tri_cells wr x3 x2 x1)
              clear s0 s1 s2 hz q0 q1 q2
              go_region
              all_goals
                go_wp2
                go_meet
                first
                  | exact ⟨_, _, _, rfl, rfl, rfl, T1.out.1, T1.out.2.1, T1.out.2.2.1, T1.out.2.2.2⟩
                  | exact ⟨_, _, _, rfl, rfl, rfl, T2.out.1, T2.out.2.2.1, T2.out.2.1, T2.out.2.2.2⟩
                  | exact ⟨_, _, _, rfl, rfl, rfl, T3.out.2.1, T3.out.1, T3.out.2.2.1, T3.out.2.2.2⟩
                  | exact ⟨_, _, _, rfl, rfl, rfl, T4.out.2.2.1, T4.out.1, T4.out.2.1, T4.out.2.2.2⟩
                  | exact ⟨_, _, _, rfl, rfl, rfl, T5.out.2.1, T5.out.2.2.1, T5.out.1, T5.out.2.2.2⟩
                  | exact ⟨_, _, _, rfl, rfl, rfl, T6.out.2.2.1, T6.out.2.1, T6.out.1, T6.out.2.2.2⟩
            case rest =>
              obtain ⟨g1, g2, g3, rfl, rfl, rfl, HT⟩ := hcut
              obtain ⟨⟨a1, a2, a3⟩, ⟨b1, b2, b3⟩, ⟨f1, f2, f3⟩, hbx⟩ := HT.out
              have HBX : Hid (Below w2.heap.size w2 wc) := HJ.out.trans (hbx.mono HJ.out.size)
              obtain ⟨k0, k1, k2, k3⟩ := HFC.out _ hbx
              have hbc : b < wc.heap.size := by have := hbx.size; omega
              have m1 := mul_le (a := x2.1 - x1.1) (b := x3.2 - x1.2) (U := 2000000) (V := 2000000) (by omega) (by omega) (by omega) (by omega)
              have m2 := mul_le (a := x2.2 - x1.2) (b := x3.1 - x1.1) (U := 2000000) (V := 2000000) (by omega) (by omega) (by omega) (by omega)
              have w1' : IntKind.i64.wrap (x2.1 - x1.1) = x2.1 - x1.1 := wrap_in (by omega) (by omega)
              have w2' : IntKind.i64.wrap (x3.2 - x1.2) = x3.2 - x1.2 := wrap_in (by omega) (by omega)
              have w3' : IntKind.i64.wrap (x2.2 - x1.2) = x2.2 - x1.2 := wrap_in (by omega) (by omega)
              have w4' : IntKind.i64.wrap (x3.1 - x1.1) = x3.1 - x1.1 := wrap_in (by omega) (by omega)
              obtain ⟨p, hp⟩ : ∃ p, (x2.1 - x1.1) * (x3.2 - x1.2) = p := ⟨_, rfl⟩
              obtain ⟨q, hq⟩ : ∃ q, (x2.2 - x1.2) * (x3.1 - x1.1) = q := ⟨_, rfl⟩
              rw [hp] at m1
              rw [hq] at m2
              have hpq : 0 < p - q := by
                have : turn x1 x2 x3 = p - q := by rw [← hp, ← hq]; rfl
                omega
              have w5' : IntKind.i64.wrap ((x2.1 - x1.1) * (x3.2 - x1.2)) = p := by rw [hp]; exact wrap_in (by omega) (by omega)
              have w6' : IntKind.i64.wrap ((x2.2 - x1.2) * (x3.1 - x1.1)) = q := by rw [hq]; exact wrap_in (by omega) (by omega)
              have w7' : IntKind.i64.wrap (p - q) = p - q := wrap_in (by omega) (by omega)
              have q5 : decide (p - q ≤ 0) = false := decide_eq_false (by omega)
              have HDX0 := Lib.hid hbx
              clear hbx hz hp hq HT c0 c1 d0 d1 e0 e1 htI huI s0 s1 s2
              obtain ⟨wd, hwd⟩ : ∃ wo : World, wo = wc := ⟨_, rfl⟩
              subst hwd
              have HDX : Hid (Below wr.heap.size wr wd) := HDX0.out
              clear HDX0
              go_upto_region 16 with (fail)
              go_cut [144] from 81 to 144 (fun v wx => v = .bool false ∧ Hid (Below wd.heap.size wd wx))
              case first =>
                have HXB : Hid (∀ nq, Below wd.heap.size wd (wd.drewN nq)) := fun nq => below_dn _ _
                clear HFC
                rcases HFJ.out with h0 | ⟨h0, h1 | ⟨h1, h2⟩⟩
                · subst h0
                  go_quiet (fail)
                  go_wp2
                  go_meet
                  exact ⟨rfl, HXB.out _⟩
                · have q6 : decide (0 < (j : Int)) = true := decide_eq_true (by omega)
                  have q7 : decide (x1.1 < x0.1) = false := decide_eq_false (by omega)
                  have q8 : (x1.1 == x0.1) = false := by simp; omega
                  go_quiet (fail)
                  go_wp2
                  go_meet
                  exact ⟨rfl, HXB.out _⟩
                · have q6 : decide (0 < (j : Int)) = true := decide_eq_true (by omega)
                  have q7 : decide (x1.1 < x0.1) = false := decide_eq_false (by omega)
                  have q8 : (x1.1 == x0.1) = true := by simp; omega
                  have q9 : decide (x1.2 < x0.2) = false := decide_eq_false (by omega)
                  clear h1 h2
                  go_quiet (fail)
                  go_wp2
                  go_meet
                  exact ⟨rfl, HXB.out _⟩
              case rest =>
                obtain ⟨rfl, HXX⟩ := hcut
                obtain ⟨we, hwe⟩ : ∃ wo : World, wo = wc := ⟨_, rfl⟩
                subst hwe
                have HRE : Hid (Below wr.heap.size wr we) := HDX.out.trans (HXX.out.mono HDX.out.size)
                have HIT : Hid (inTo l x1 k = true) := by
                  show _ = _
                  unfold inTo
                  rw [List.take_of_length_le (by rw [HNL.out]; exact Nat.le_refl _)]
                  exact decide_eq_true HMJ.out
                have EQ := eq_pair
                clear k0 k1 k2 k3 a1 a2 a3 b1 b2 b3 f1 f2 f3 m1 m2 w1' w2' w3' w4' w5' w6' w7' q5 hpq HFJ HX0 HXX HDX hbc
                go_wp2
                go_loopw [12, 13] (fun v i wx => ∃ t : Nat, t ≤ k ∧ i = .int .i64 t ∧ v = .bool (inTo l x1 t) ∧ Hid (Below we.heap.size we wx)) (fun _ i _ => k - (intOf i).toNat)
                case atStart => exact ⟨0, Nat.zero_le _, rfl, rfl, Below.refl _ _⟩
                case round =>
                  obtain ⟨t, htk, rfl, rfl, HY⟩ := hrel
                  have HYR := Lib.hid (HRE.out.trans (HY.out.mono HRE.out.size))
                  have HYJ := Lib.hid (HJ.out.trans (HYR.out.mono HJ.out.size))
                  by_cases htn : t < k
                  · have HYL : Hid (Below w1.heap.size w1 wr) := HB2.out.trans (HYJ.out.mono HB2.out.size)
                    obtain ⟨b5, off5, rfl, hb5, hc5⟩ := (HPL.out.below HYL.out) (by rw [HNL.out]; omega)
                    obtain ⟨c0, c1⟩ := hc5 t (by rw [HNL.out]; exact htn)
                    obtain ⟨k0, k1, _, _⟩ := HFC.out _ HYR.out
                    have hbx : b < wr.heap.size := Nat.lt_of_lt_of_le hb HYR.out.size
                    have HIS := Lib.hid (inTo_succ (x := x1) (show t < l.length by rw [HNL.out]; exact htn))
                    have HNX : Hid (∀ nq, Below we.heap.size we (wr.drewN nq)) := fun nq => below_drewN HY.out nq
                    generalize pg l t = y at c0 c1 HIS
                    generalize inTo l x1 t = f at HIS ⊢
                    clear hc5 HYR HYJ HYL HIT HRE hb1 hb2 hb3 q0 q1 q2
                    cases f
                    · go_upto_region 22 with (fail)
                      go_quiet (fail)
                      have HNB := Lib.hid (HNX.out nq)
                      go_wp2
                      go_roundw
                      case rel => exact ⟨t + 1, by omega, by go_num, by rw [HIS.out, Bool.false_or], HNB.out⟩
                      case measure => simp [intOf]; omega
                    · go_upto_region 22 with (fail)
                      go_quiet (fail)
                      have HNB := Lib.hid (HNX.out nq)
                      go_wp2
                      go_roundw
                      case rel => exact ⟨t + 1, by omega, by go_num, by rw [HIS.out, Bool.true_or], HNB.out⟩
                      case measure => simp [intOf]; omega
                  · obtain rfl : t = k := by omega
                    rw [HIT.out]
                    go_wp2
                    go_roundw
                    case rel => exact ⟨j + 1, by omega, by go_num, HYJ.out⟩
                    case measure => simp [intOf]; omega
          · obtain rfl : j = m := by omega
            go_wp2_with fail
            refine (HAW.out _).mono ?_
            rintro e w6 ⟨rfl, hb⟩
            have HF : Hid (Below w.heap.size w w6) := HBW2.out.trans ((HJ.out.trans (hb.mono HJ.out.size)).mono HBW2.out.size)
            clear hb
            go_wp2
            go_ret
            exact ⟨rfl, HF.out⟩
theorem walk {w : World} (a0 : Option Addr) (n0 c0 : Nat) (z0 : Nat → Int) (g0 : IntsAtK .i64 w w.heap.size a0 n0 z0) (_b0 : ∀ i, i < n0 → (Lit.int .i64 (z0 i)).wf = true) (s0 : n0 * 8 ≤ 140737488351232) (a1 : Int) (_w1 : (Lit.int .i64 a1).wf = true) :
    Calls Try.prog 6 #[.slice a0 n0 c0, .int .i64 a1] w fun e w' => e = .returned (.bool true) ∧ Below w.heap.size w w' := core w a0 n0 c0 z0 g0 (by omega) a1
end Go.Proofs.Ytcoffankmmjehaa.hullRound
