/- Contracts of apiaryref1: Cell, IsWord. -/
import Derived.Test.YtkjfdaleamonaaaNfA
import Derived.Test.YtkjfdaleamonaaaWdI
namespace Go.Proofs.Ytkjfdaleamonaaa
open Go.RowKit Go.Lib Wd

set_option maxRecDepth 100000 in
set_option maxHeartbeats 8000000 in
theorem rcell_any (w0 : Nat) (hw : w0 < 18446744073709551616) (w : World) :
    Calls Try.prog 5 #[.int .u64 w0] w fun e w' => e = .returned (.tuple #[vC (cvR w0) (cvZ w0), .int .i64 (cvE w0)]) ∧ Below w.heap.size w w' := by
  obtain ⟨v1, v2, v3⟩ := head_val w0 hw
  obtain ⟨R, hR⟩ : ∃ R, rW w0 = R := ⟨_, rfl⟩
  obtain ⟨A, hA⟩ : ∃ A, w0 / 70368744177664 % 1024 = A := ⟨_, rfl⟩
  obtain ⟨B, hB⟩ : ∃ A, w0 / 68719476736 % 1024 = A := ⟨_, rfl⟩
  have hA1 : A < 1024 := by omega
  have hB1 : B < 1024 := by omega
  have HBW : Hid (bW w0 = ((A : Int) - 512, (B : Int) - 512)) := by show _ = _; unfold bW; rw [hA, hB]
  have HIS : Hid (isW w0 = (decide (w0 / 1152921504606846976 = 1) && decide (R ≤ 12) && okD (dgW w0) R 12)) := by show _ = _; rw [← hR]; rfl
  have hr16 : R < 16 := by rw [← hR]; exact Nat.mod_lt _ (by decide)
  have HYES : Hid (isW w0 = true → cvR w0 = (R : Int) ∧ cvZ w0 = dn (dgW w0) ((A : Int) - 512, (B : Int) - 512) R ∧ cvE w0 = 0) := fun h => by
    unfold cvR cvZ cvE zW
    simp only [h, if_pos]
    rw [hR, HBW.out]
    exact ⟨rfl, rfl, trivial⟩
  have HNO : Hid (isW w0 = false → cvR w0 = 0 ∧ cvZ w0 = (0, 0) ∧ cvE w0 = 5) := fun h => by
    unfold cvR cvZ cvE
    simp only [h, Bool.false_eq_true, if_false]
    exact ⟨trivial, trivial, trivial⟩
  rw [hR] at v1
  rw [hA] at v2
  rw [hB] at v3
  clear hR hA hB
  have hbad : isW w0 = false → Hid (∀ w', Below w.heap.size w w' → ((Ending.returned (.tuple #[.agg #[.int .i64 0, .int .i64 0, .int .i64 0], .int .i64 5]) : Ending) = .returned (.tuple #[vC (cvR w0) (cvZ w0), .int .i64 (cvE w0)]) ∧ Below w.heap.size w w')) := fun h w' hb => by
    obtain ⟨e1, e2, e3⟩ := HNO.out h
    exact ⟨by rw [e1, e2, e3], hb⟩
  have hdig0 : ∀ k : Nat, k < 12 → bits .and .u64 ((w0 : Int) / 2 ^ (36 - 3 * (k + 1))) 7 = ((dgW w0 (k + 1) : Nat) : Int) := fun k hk => by
    have e : ((w0 : Int) / 2 ^ (36 - 3 * (k + 1))) = ((w0 / 8 ^ (12 - (k + 1)) : Nat) : Int) := by
      rw [show 36 - 3 * (k + 1) = 3 * (12 - (k + 1)) by omega, show (8 : Nat) ^ (12 - (k + 1)) = 2 ^ (3 * (12 - (k + 1))) by rw [Nat.pow_mul]]
      simp
    have := Nat.div_le_self w0 (8 ^ (12 - (k + 1)))
    rw [e, show (7 : Int) = ((7 : Nat) : Int) by rfl, bits_and_u64_nat _ _ (by omega) (by decide), nat_mask3]
    rfl
  have HDO := Lib.hid hdig0
  clear hdig0
  by_cases h0 : w0 / 1152921504606846976 = 1
  · have q1 : ((w0 : Int) / 1152921504606846976 != 1) = false := by simp; omega
    by_cases h12 : R ≤ 12
    · have q2 : decide (12 < (R : Int)) = false := decide_eq_false (by omega)
      go_enter Try.func5, Try.ntmps5
      go_wp2
      have T0 : Hid (Tri ((w.alloc (.cells #[.int .i64 0, .int .i64 0, .int .i64 0] 29)).alloc (.cells #[.int .i64 ((A : Int) - 512), .int .i64 ((B : Int) - 512)] 27)) w.heap.size 0 (0, 0)) := by
        show _ = _
        rw [Below.heap_alloc _ _ _ (by simp)]
        exact heap_new _ _ _ rfl
      have C0 : Hid (Two2 ((w.alloc (.cells #[.int .i64 0, .int .i64 0, .int .i64 0] 29)).alloc (.cells #[.int .i64 ((A : Int) - 512), .int .i64 ((B : Int) - 512)] 27)) (w.heap.size + 1) (.int .i64 ((A : Int) - 512)) (.int .i64 ((B : Int) - 512))) := Two2.of_row (t := 27) (heap_new _ _ _ (by simp))
      have HB0 : Hid (Below w.heap.size w ((w.alloc (.cells #[.int .i64 0, .int .i64 0, .int .i64 0] 29)).alloc (.cells #[.int .i64 ((A : Int) - 512), .int .i64 ((B : Int) - 512)] 27))) := ((Below.refl _ _).alloc (Nat.le_refl _) _).alloc (by simp) _
      have k2 : ((w.alloc (.cells #[.int .i64 0, .int .i64 0, .int .i64 0] 29)).alloc (.cells #[.int .i64 ((A : Int) - 512), .int .i64 ((B : Int) - 512)] 27)).heap.size = w.heap.size + 2 := by simp
      generalize (w.alloc (.cells #[.int .i64 0, .int .i64 0, .int .i64 0] 29)).alloc (.cells #[.int .i64 ((A : Int) - 512), .int .i64 ((B : Int) - 512)] 27) = w2 at *
      have HBB : Hid (baseB ((A : Int) - 512, (B : Int) - 512) = true) := by show _ = _; rw [baseB_iff]; simp only; omega
      have HOK : Hid (isW w0 = okD (dgW w0) R 12) := by show _ = _; rw [HIS.out, decide_eq_true h0, decide_eq_true h12]; rfl
      have HD8 := Lib.hid (dgW_lt w0)
      have C0 : Hid (Two2 w2 (w.heap.size + 1) (.int .i64 (((A : Int) - 512, (B : Int) - 512) : E2).1) (.int .i64 (((A : Int) - 512, (B : Int) - 512) : E2).2)) := C0.out
      generalize (((A : Int) - 512, (B : Int) - 512) : E2) = b at *
      clear v1 v2 v3 hA1 hB1 HBW HIS q1 q2 h0
      obtain ⟨D, hD⟩ : ∃ D, dgW w0 = D := ⟨_, rfl⟩
      rw [hD] at HYES HOK HD8
      simp only [hD] at HDO
      clear hD
      go_loopw [6] (fun i wr => ∃ k : Nat, k ≤ 12 ∧ i = .int .i64 (k + 1 : Nat) ∧ okD D R k = true ∧ Hid (Two2 wr (w.heap.size + 1) (.int .i64 (dn D b (min k R)).1) (.int .i64 (dn D b (min k R)).2) ∧ Turn (fun q => q = w.heap.size + 1) w2 wr)) (fun i _ => 13 - (intOf i).toNat)
      case atStart => exact ⟨0, by omega, rfl, rfl, by rw [Nat.zero_min]; exact C0.out, Turn.refl _ _⟩
      case round =>
        obtain ⟨k, hk, rfl, hok, HI⟩ := hrel
        have hTri := HI.out.1
        have hturn := HI.out.2
        have hsz := hturn.2.2.2.1
        have HT := Lib.hid (T0.out.turn hturn (by omega))
        have HBR : Hid (Below w.heap.size w wr) := HB0.out.trans (hturn.below (by omega) fun q hq e => by omega)
        have HTU := Lib.hid hturn
        have HTR := Lib.hid hTri
        clear hTri hturn HI
        by_cases hk12 : k < 12
        · have hd8 := HD8.out (k + 1)
          have hdv := HDO.out k hk12
          have HST : Hid (okD D R (k + 1) = (okD D R k && ((D (k + 1) == 7) == decide (R < k + 1)))) := rfl
          have HDN : Hid (dn D b (k + 1) = downE (dn D b k) (D (k + 1))) := rfl
          have q1 : decide (((k + 1 : Nat) : Int) ≤ 12) = true := decide_eq_true (by omega)
          have q1' : decide ((k : Int) + 1 ≤ 12) = true := decide_eq_true (by omega)
          have qs : decide (36 - 3 * ((k : Int) + 1) < 0) = false := decide_eq_false (by omega)
          obtain ⟨d, hd⟩ : ∃ d, D (k + 1) = d := ⟨_, rfl⟩
          rw [hd] at hd8 hdv HST HDN
          clear hd
          by_cases hd7 : d = 7
          · by_cases hkr : R < k + 1
            · have q2 : decide ((R : Int) < ((k + 1 : Nat) : Int)) = true := decide_eq_true (by omega)
              have q2' : decide ((R : Int) < (k : Int) + 1) = true := decide_eq_true (by omega)
              have HN : okD D R (k + 1) = true := by rw [HST.out, hok, hd7, decide_eq_true hkr]; rfl
              have HM : Hid (Two2 wr (w.heap.size + 1) (.int .i64 (dn D b (min (k + 1) R)).1) (.int .i64 (dn D b (min (k + 1) R)).2)) := by
                have := HTR.out
                rw [show min k R = min (k + 1) R by omega] at this
                exact this
              subst hd7
              go_wp2
              go_roundw
              case rel => exact ⟨k + 1, by omega, by go_num, HN, HM.out, HTU.out⟩
              case measure => simp [intOf]; omega
            · have q2 : decide ((R : Int) < ((k + 1 : Nat) : Int)) = false := decide_eq_false (by omega)
              have q2' : decide ((R : Int) < (k : Int) + 1) = false := decide_eq_false (by omega)
              have HF := hbad (by rw [HOK.out]; exact okD_stop (k := k + 1) (by rw [HST.out, hok, hd7, decide_eq_false hkr]; rfl) (by omega))
              subst hd7
              obtain ⟨t0, t1, t2, t3, t4, t5, t6⟩ := HT.out.cells
              go_wp2
              exact bodyPost_ret (v := .tuple #[.agg #[.int .i64 0, .int .i64 0, .int .i64 0], .int .i64 5]) (by simp [results, Try.results5, go_sem, *]) rfl (HF.out _ (((HBR.out.setCell (p := ⟨w.heap.size, 0, none⟩) (Nat.le_refl _) _).setCell (p := ⟨w.heap.size, 1, none⟩) (Nat.le_refl _) _).setCell (p := ⟨w.heap.size, 2, none⟩) (Nat.le_refl _) _))
          · have q3 : ((d : Int) == 7) = false := by simp; omega
            have q4 : ((d : Int) != 7) = true := by simp; omega
            by_cases hkr : R < k + 1
            · have q2 : decide ((R : Int) < ((k + 1 : Nat) : Int)) = true := decide_eq_true (by omega)
              have q2' : decide ((R : Int) < (k : Int) + 1) = true := decide_eq_true (by omega)
              have HF := hbad (by rw [HOK.out]; exact okD_stop (k := k + 1) (by rw [HST.out, hok, decide_eq_true hkr, beq_eq_false_iff_ne.2 hd7]; rfl) (by omega))
              obtain ⟨t0, t1, t2, t3, t4, t5, t6⟩ := HT.out.cells
              go_wp2
              exact bodyPost_ret (v := .tuple #[.agg #[.int .i64 0, .int .i64 0, .int .i64 0], .int .i64 5]) (by simp [results, Try.results5, go_sem, *]) rfl (HF.out _ (((HBR.out.setCell (p := ⟨w.heap.size, 0, none⟩) (Nat.le_refl _) _).setCell (p := ⟨w.heap.size, 1, none⟩) (Nat.le_refl _) _).setCell (p := ⟨w.heap.size, 2, none⟩) (Nat.le_refl _) _))
            · have q2 : decide ((R : Int) < ((k + 1 : Nat) : Int)) = false := decide_eq_false (by omega)
              have q2' : decide ((R : Int) < (k : Int) + 1) = false := decide_eq_false (by omega)
              have HN : okD D R (k + 1) = true := by rw [HST.out, hok, decide_eq_false hkr, beq_eq_false_iff_ne.2 hd7]; rfl
              have hmk : min k R = k := by omega
              have hmk2 : min (k + 1) R = k + 1 := by omega
              rw [hmk] at HTR
              have hdig : ∀ j, 0 < j → j ≤ k → D j < 7 := fun j h1 h2 => by
                have h3 := (okD_iff D R k).1 hok j h1 h2
                have := HD8.out j
                omega
              have hhx := (dn_hex HBB.out hdig (Nat.le_refl k)).mono (hexH_le hk)
              have HMU := Lib.hid (rmul_in (dn D b k) (2, 1) (hhx.sm.mono (by decide)) (by unfold Sm; simp) (by unfold Hex at hhx; unfold Sm mulE; simp only; omega))
              have hmb : Sm 8589934592 (mulE (dn D b k) (2, 1)) := by unfold Hex at hhx; unfold Sm mulE; simp only; omega
              obtain ⟨x, hx⟩ : ∃ x, dn D b k = x := ⟨_, rfl⟩
              rw [hx] at HMU HTR HDN hmb
              have HDE : Hid (dn D b (k + 1) = addE (mulE x (2, 1)) (leftE d)) := HDN.out
              generalize mulE x (2, 1) = m at *
              simp only [vE] at HMU
              obtain ⟨⟨c0, c1⟩, c2, c3⟩ := HTR.out
              unfold Sm at hmb
              obtain ⟨hm1, hm2, hm3, hm4⟩ := hmb
              clear hhx hdig hx hmk HDN HST hbad HNO HBB HD8
              go_wp2_with fail
              refine (HMU.out _).mono ?_
              rintro e w5 ⟨rfl, hb5⟩
              have hz5 := hb5.size
              have h5 := HTR.out.later (by omega) hb5
              have HP := Lib.hid (h5.put (.int .i64 m.1) (.int .i64 m.2))
              have HTU2 : Hid (Turn (fun q => q = w.heap.size + 1) w2 ((w5.setCell ⟨w.heap.size + 1, 0, none⟩ (.int .i64 m.1)).setCell ⟨w.heap.size + 1, 1, none⟩ (.int .i64 m.2))) := (HTU.out.trans (Turn.of_below hb5) fun _ _ h => h).trans HP.out.2 fun _ _ h => h
              have hz6 := HP.out.2.2.2.2.1
              obtain ⟨⟨e0, e1⟩, e2, e3⟩ := h5
              clear hb5 c0 c1 c2 c3 HTR HT HTU HMU HBR
              go_upto_region 15 with (fail)
              generalize ((w5.setCell ⟨w.heap.size + 1, 0, none⟩ (.int .i64 m.1)).setCell ⟨w.heap.size + 1, 1, none⟩ (.int .i64 m.2)) = w6 at *
              obtain ⟨⟨g0, g1⟩, g2, g3⟩ := HP.out.1
              clear e0 e1 e2 e3
              cases d with
              | zero =>
                have HDZ : Hid (dn D b (k + 1) = m) := by show _ = _; rw [HDE.out]; show (m.1 + 0, m.2 + 0) = m; simp
                have HFI : Hid (Two2 w6 (w.heap.size + 1) (.int .i64 (dn D b (min (k + 1) R)).1) (.int .i64 (dn D b (min (k + 1) R)).2) ∧ Turn (fun q => q = w.heap.size + 1) w2 w6) := ⟨by rw [hmk2, HDZ.out]; exact HP.out.1, HTU2.out⟩
                go_wp2
                go_roundw
                case rel => exact ⟨k + 1, by omega, by go_num, HN, HFI.out⟩
                case measure => simp [intOf]; omega
              | succ d =>
                have HDZ : Hid (dn D b (k + 1) = addE m (leftE (d + 1))) := HDE.out
                have HUN := Lib.hid (runit_in d (by omega))
                have hul := left_sm (d + 1)
                have hle : leftE (d + 1) = unitE d := rfl
                rw [hle] at HDZ hul
                simp only [vE] at HUN
                generalize unitE d = u at *
                unfold Sm at hul
                obtain ⟨hu1, hu2, hu3, hu4⟩ := hul
                have hws : w.heap.size + 1 < w6.heap.size := by omega
                clear hle
                go_wp2_with fail
                refine (HUN.out _).mono ?_
                rintro e w7 ⟨rfl, hb7⟩
                have hz7 := hb7.size
                have hal : Below w7.heap.size w7 (w7.alloc (.cells #[.int .i64 u.1, .int .i64 u.2] 27)) := (Below.refl _ _).alloc (Nat.le_refl _) _
                have k7 := World.size_alloc w7 (.cells #[.int .i64 u.1, .int .i64 u.2] 27)
                have h8 := (HP.out.1.later hws hb7).later (by omega) hal
                have hU8 : Two (w7.alloc (.cells #[.int .i64 u.1, .int .i64 u.2] 27)) w7.heap.size (.int .i64 u.1) (.int .i64 u.2) := Two.of_row (t := 27) (f := _) (heap_new _ _ _ rfl)
                have HT8 : Hid (Turn (fun q => q = w.heap.size + 1) w2 (w7.alloc (.cells #[.int .i64 u.1, .int .i64 u.2] 27))) := (HTU2.out.trans (Turn.of_below hb7) fun _ _ h => h).trans (Turn.of_below hal) fun _ _ h => h
                clear hal hb7 g0 g1 g2 g3
                go_upto_region 17 with (fail)
                generalize w7.alloc (.cells #[.int .i64 u.1, .int .i64 u.2] 27) = w8 at *
                have hp := h8.put (.int .i64 (m.1 + u.1)) (.int .i64 (m.2 + u.2))
                have HFI : Hid (Two2 ((w8.setCell ⟨w.heap.size + 1, 0, none⟩ (.int .i64 (m.1 + u.1))).setCell ⟨w.heap.size + 1, 1, none⟩ (.int .i64 (m.2 + u.2))) (w.heap.size + 1) (.int .i64 (dn D b (min (k + 1) R)).1) (.int .i64 (dn D b (min (k + 1) R)).2) ∧ Turn (fun q => q = w.heap.size + 1) w2 ((w8.setCell ⟨w.heap.size + 1, 0, none⟩ (.int .i64 (m.1 + u.1))).setCell ⟨w.heap.size + 1, 1, none⟩ (.int .i64 (m.2 + u.2)))) := ⟨by rw [hmk2, HDZ.out]; exact hp.1, HT8.out.trans hp.2 fun _ _ h => h⟩
                obtain ⟨⟨g0, g1⟩, g2, g3⟩ := h8
                obtain ⟨i0, i1⟩ := hU8
                have hl7 : w7.heap.size < w8.heap.size := by omega
                have hl8 : w.heap.size + 1 < w8.heap.size := by omega
                clear hp k7
                go_wp2
                go_roundw
                case rel => exact ⟨k + 1, by omega, by go_num, HN, HFI.out⟩
                case measure => simp [intOf]; omega
        · obtain rfl : k = 12 := by omega
          rw [Nat.min_eq_right h12] at HTR
          obtain ⟨y1, y2, y3⟩ := HYES.out (by rw [HOK.out]; exact hok)
          have HY : Hid (vC (cvR w0) (cvZ w0) = vC R (dn D b R) ∧ cvE w0 = 0) := ⟨by rw [y1, y2], y3⟩
          obtain ⟨⟨c0, c1⟩, c2, c3⟩ := HTR.out
          obtain ⟨t0, t1, t2, t3, t4, t5, t6⟩ := HT.out.cells
          generalize dn D b R = x at *
          clear y1 y2 y3 HTR HT HYES
          go_wp2
          exact bodyPost_ret (v := .tuple #[.agg #[.int .i64 R, .int .i64 x.1, .int .i64 x.2], .int .i64 0]) (by simp [results, Try.results5, go_sem, *]) rfl ⟨by rw [HY.out.1, HY.out.2], (((HBR.out.setCell (p := ⟨w.heap.size, 0, none⟩) (Nat.le_refl _) _).setCell (p := ⟨w.heap.size, 1, none⟩) (Nat.le_refl _) _).setCell (p := ⟨w.heap.size, 2, none⟩) (Nat.le_refl _) _)⟩
    · have HF := hbad (by rw [HIS.out, decide_eq_false h12]; simp)
      have q2 : decide (12 < (R : Int)) = true := decide_eq_true (by omega)
      clear h0
      go_enter Try.func5, Try.ntmps5
      go_wp2
      exact bodyPost_ret (v := .tuple #[.agg #[.int .i64 0, .int .i64 0, .int .i64 0], .int .i64 5]) (by simp [results, Try.results5, go_sem]) rfl (HF.out _ ((Below.refl _ _).alloc (Nat.le_refl _) _))
  · have HF := hbad (by rw [HIS.out, decide_eq_false h0]; rfl)
    have q1 : ((w0 : Int) / 1152921504606846976 != 1) = true := by simp; omega
    clear h0
    go_enter Try.func5, Try.ntmps5
    go_wp2
    exact bodyPost_ret (v := .tuple #[.agg #[.int .i64 0, .int .i64 0, .int .i64 0], .int .i64 5]) (by simp [results, Try.results5, go_sem]) rfl (HF.out _ ((Below.refl _ _).alloc (Nat.le_refl _) _))
end Go.Proofs.Ytkjfdaleamonaaa
