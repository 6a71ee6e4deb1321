/- Joined: NfE, NfL, NcM, NcPn, CvI, FiD, NrO, AwA, FlE, NcQ, LwA, FiE: contracts and plain laws, each with its own heading below. -/
import Derived.Test.YtpkoapmpknbgoaaGreatPackAE
import Derived.Test.YtpkoapmpknbgoaaGreatPackAF
import Derived.Test.YtpkoapmpknbgoaaGreatPackAG
import Derived.Deep.CutRange
import Derived.Test.YtpkoapmpknbgoaaGreatPackAC
import Derived.Test.YtpkoapmpknbgoaaGreatPackAJ
import Derived.Maps.AppendAt
import Derived.Laws.OwnMore
import Derived.Lib.AppendZeros
import Derived.Test.YtpkoapmpknbgoaaGreatPackAI
/- Contracts of apiaryref1: Cell, IsWord. -/
namespace Go.Proofs.YtpkoapmpknbgoaaGreat
open Go.RowKit Go.Lib Wd

set_option maxRecDepth 100000 in
set_option maxHeartbeats 8000000 in
theorem rcell_any (w0 : Nat) (hw : w0 < 18446744073709551616) (w : World) :
    Calls Tryz.prog 14 #[.int .u64 w0] w fun e w' => e = .returned (.tuple #[vC (cvR w0) (cvZ w0), .int .i64 (cvE w0)]) ∧ Below w.heap.size w w' := by
  obtain ⟨v1, v2, v3⟩ := head_val w0 hw
  obtain ⟨R, hR⟩ : ∃ R, rW w0 = R := ⟨_, rfl⟩
  obtain ⟨A, hA⟩ : ∃ A, w0 / 70368744177664 % 1024 = A := ⟨_, rfl⟩
  obtain ⟨B, hB⟩ : ∃ A, w0 / 68719476736 % 1024 = A := ⟨_, rfl⟩
  have hA1 : A < 1024 := by omega
  have hB1 : B < 1024 := by omega
  have HBW : Hid (bW w0 = ((A : Int) - 512, (B : Int) - 512)) := by show _ = _; unfold bW; rw [hA, hB]
  have HIS : Hid (isW w0 = (decide (w0 / 1152921504606846976 = 1) && decide (R ≤ 12) && okD (dgW w0) R 12)) := by show _ = _; rw [← hR]; rfl
  have hr16 : R < 16 := by rw [← hR]; exact Nat.mod_lt _ (by decide)
  have HYES : Hid (isW w0 = true → cvR w0 = (R : Int) ∧ cvZ w0 = dn (dgW w0) ((A : Int) - 512, (B : Int) - 512) R ∧ cvE w0 = 0) := fun h => by
    unfold cvR cvZ cvE zW
    simp only [h, if_pos]
    rw [hR, HBW.out]
    exact ⟨rfl, rfl, trivial⟩
  have HNO : Hid (isW w0 = false → cvR w0 = 0 ∧ cvZ w0 = (0, 0) ∧ cvE w0 = 5) := fun h => by
    unfold cvR cvZ cvE
    simp only [h, Bool.false_eq_true, if_false]
    exact ⟨trivial, trivial, trivial⟩
  rw [hR] at v1
  rw [hA] at v2
  rw [hB] at v3
  clear hR hA hB
  have hbad : isW w0 = false → Hid (∀ w', Below w.heap.size w w' → ((Ending.returned (.tuple #[.agg #[.int .i64 0, .int .i64 0, .int .i64 0], .int .i64 5]) : Ending) = .returned (.tuple #[vC (cvR w0) (cvZ w0), .int .i64 (cvE w0)]) ∧ Below w.heap.size w w')) := fun h w' hb => by
    obtain ⟨e1, e2, e3⟩ := HNO.out h
    exact ⟨by rw [e1, e2, e3], hb⟩
  have hdig0 : ∀ k : Nat, k < 12 → bits .and .u64 ((w0 : Int) / 2 ^ (36 - 3 * (k + 1))) 7 = ((dgW w0 (k + 1) : Nat) : Int) := fun k hk => by
    have e : ((w0 : Int) / 2 ^ (36 - 3 * (k + 1))) = ((w0 / 8 ^ (12 - (k + 1)) : Nat) : Int) := by
      rw [show 36 - 3 * (k + 1) = 3 * (12 - (k + 1)) by omega, show (8 : Nat) ^ (12 - (k + 1)) = 2 ^ (3 * (12 - (k + 1))) by rw [Nat.pow_mul]]
      simp
    have := Nat.div_le_self w0 (8 ^ (12 - (k + 1)))
    rw [e, show (7 : Int) = ((7 : Nat) : Int) by rfl, bits_and_u64_nat _ _ (by omega) (by decide), nat_mask3]
    rfl
  have HDO := Lib.hid hdig0
  clear hdig0
  by_cases h0 : w0 / 1152921504606846976 = 1
  · have q1 : ((w0 : Int) / 1152921504606846976 != 1) = false := by simp; omega
    by_cases h12 : R ≤ 12
    · have q2 : decide (12 < (R : Int)) = false := decide_eq_false (by omega)
      go_enter Tryz.func14, Tryz.ntmps14
      go_wp2
      have T0 : Hid (Tri ((w.alloc (.cells #[.int .i64 0, .int .i64 0, .int .i64 0] 39)).alloc (.cells #[.int .i64 ((A : Int) - 512), .int .i64 ((B : Int) - 512)] 37)) w.heap.size 0 (0, 0)) := by
        show _ = _
        rw [Below.heap_alloc _ _ _ (by simp)]
        exact heap_new _ _ _ rfl
      have C0 : Hid (Two2 ((w.alloc (.cells #[.int .i64 0, .int .i64 0, .int .i64 0] 39)).alloc (.cells #[.int .i64 ((A : Int) - 512), .int .i64 ((B : Int) - 512)] 37)) (w.heap.size + 1) (.int .i64 ((A : Int) - 512)) (.int .i64 ((B : Int) - 512))) := Two2.of_row (t := 37) (heap_new _ _ _ (by simp))
      have HB0 : Hid (Below w.heap.size w ((w.alloc (.cells #[.int .i64 0, .int .i64 0, .int .i64 0] 39)).alloc (.cells #[.int .i64 ((A : Int) - 512), .int .i64 ((B : Int) - 512)] 37))) := ((Below.refl _ _).alloc (Nat.le_refl _) _).alloc (by simp) _
      have k2 : ((w.alloc (.cells #[.int .i64 0, .int .i64 0, .int .i64 0] 39)).alloc (.cells #[.int .i64 ((A : Int) - 512), .int .i64 ((B : Int) - 512)] 37)).heap.size = w.heap.size + 2 := by simp
      generalize (w.alloc (.cells #[.int .i64 0, .int .i64 0, .int .i64 0] 39)).alloc (.cells #[.int .i64 ((A : Int) - 512), .int .i64 ((B : Int) - 512)] 37) = w2 at *
      have HBB : Hid (baseB ((A : Int) - 512, (B : Int) - 512) = true) := by show _ = _; rw [baseB_iff]; simp only; omega
      have HOK : Hid (isW w0 = okD (dgW w0) R 12) := by show _ = _; rw [HIS.out, decide_eq_true h0, decide_eq_true h12]; rfl
      have HD8 := Lib.hid (dgW_lt w0)
      have C0 : Hid (Two2 w2 (w.heap.size + 1) (.int .i64 (((A : Int) - 512, (B : Int) - 512) : E2).1) (.int .i64 (((A : Int) - 512, (B : Int) - 512) : E2).2)) := C0.out
      generalize (((A : Int) - 512, (B : Int) - 512) : E2) = b at *
      clear v1 v2 v3 hA1 hB1 HBW HIS q1 q2 h0
      obtain ⟨D, hD⟩ : ∃ D, dgW w0 = D := ⟨_, rfl⟩
      rw [hD] at HYES HOK HD8
      simp only [hD] at HDO
      clear hD
      go_loopw [6] (fun i wr => ∃ k : Nat, k ≤ 12 ∧ i = .int .i64 (k + 1 : Nat) ∧ okD D R k = true ∧ Hid (Two2 wr (w.heap.size + 1) (.int .i64 (dn D b (min k R)).1) (.int .i64 (dn D b (min k R)).2) ∧ Turn (fun q => q = w.heap.size + 1) w2 wr)) (fun i _ => 13 - (intOf i).toNat)
      case atStart => exact ⟨0, by omega, rfl, rfl, by rw [Nat.zero_min]; exact C0.out, Turn.refl _ _⟩
      case round =>
        obtain ⟨k, hk, rfl, hok, HI⟩ := hrel
        have hTri := HI.out.1
        have hturn := HI.out.2
        have hsz := hturn.2.2.2.1
        have HT := Lib.hid (T0.out.turn hturn (by omega))
        have HBR : Hid (Below w.heap.size w wr) := HB0.out.trans (hturn.below (by omega) fun q hq e => by omega)
        have HTU := Lib.hid hturn
        have HTR := Lib.hid hTri
        clear hTri hturn HI
        by_cases hk12 : k < 12
        · have hd8 := HD8.out (k + 1)
          have hdv := HDO.out k hk12
          have HST : Hid (okD D R (k + 1) = (okD D R k && ((D (k + 1) == 7) == decide (R < k + 1)))) := rfl
          have HDN : Hid (dn D b (k + 1) = downE (dn D b k) (D (k + 1))) := rfl
          have q1 : decide (((k + 1 : Nat) : Int) ≤ 12) = true := decide_eq_true (by omega)
          have q1' : decide ((k : Int) + 1 ≤ 12) = true := decide_eq_true (by omega)
          have qs : decide (36 - 3 * ((k : Int) + 1) < 0) = false := decide_eq_false (by omega)
          obtain ⟨d, hd⟩ : ∃ d, D (k + 1) = d := ⟨_, rfl⟩
          rw [hd] at hd8 hdv HST HDN
          clear hd
          by_cases hd7 : d = 7
          · by_cases hkr : R < k + 1
            · have q2 : decide ((R : Int) < ((k + 1 : Nat) : Int)) = true := decide_eq_true (by omega)
              have q2' : decide ((R : Int) < (k : Int) + 1) = true := decide_eq_true (by omega)
              have HN : okD D R (k + 1) = true := by rw [HST.out, hok, hd7, decide_eq_true hkr]; rfl
              have HM : Hid (Two2 wr (w.heap.size + 1) (.int .i64 (dn D b (min (k + 1) R)).1) (.int .i64 (dn D b (min (k + 1) R)).2)) := by
                have := HTR.out
                rw [show min k R = min (k + 1) R by omega] at this
                exact this
              subst hd7
              go_wp2
              go_roundw
              case rel => exact ⟨k + 1, by omega, by go_num, HN, HM.out, HTU.out⟩
              case measure => simp [intOf]; omega
            · have q2 : decide ((R : Int) < ((k + 1 : Nat) : Int)) = false := decide_eq_false (by omega)
              have q2' : decide ((R : Int) < (k : Int) + 1) = false := decide_eq_false (by omega)
              have HF := hbad (by rw [HOK.out]; exact okD_stop (k := k + 1) (by rw [HST.out, hok, hd7, decide_eq_false hkr]; rfl) (by omega))
              subst hd7
              obtain ⟨t0, t1, t2, t3, t4, t5, t6⟩ := HT.out.cells
              go_wp2
              exact bodyPost_ret (v := .tuple #[.agg #[.int .i64 0, .int .i64 0, .int .i64 0], .int .i64 5]) (by simp [results, Tryz.results14, go_sem, *]) rfl (HF.out _ (((HBR.out.setCell (p := ⟨w.heap.size, 0, none⟩) (Nat.le_refl _) _).setCell (p := ⟨w.heap.size, 1, none⟩) (Nat.le_refl _) _).setCell (p := ⟨w.heap.size, 2, none⟩) (Nat.le_refl _) _))
          · have q3 : ((d : Int) == 7) = false := by simp; omega
            have q4 : ((d : Int) != 7) = true := by simp; omega
            by_cases hkr : R < k + 1
            · have q2 : decide ((R : Int) < ((k + 1 : Nat) : Int)) = true := decide_eq_true (by omega)
              have q2' : decide ((R : Int) < (k : Int) + 1) = true := decide_eq_true (by omega)
              have HF := hbad (by rw [HOK.out]; exact okD_stop (k := k + 1) (by rw [HST.out, hok, decide_eq_true hkr, beq_eq_false_iff_ne.2 hd7]; rfl) (by omega))
              obtain ⟨t0, t1, t2, t3, t4, t5, t6⟩ := HT.out.cells
              go_wp2
              exact bodyPost_ret (v := .tuple #[.agg #[.int .i64 0, .int .i64 0, .int .i64 0], .int .i64 5]) (by simp [results, Tryz.results14, go_sem, *]) rfl (HF.out _ (((HBR.out.setCell (p := ⟨w.heap.size, 0, none⟩) (Nat.le_refl _) _).setCell (p := ⟨w.heap.size, 1, none⟩) (Nat.le_refl _) _).setCell (p := ⟨w.heap.size, 2, none⟩) (Nat.le_refl _) _))
            · have q2 : decide ((R : Int) < ((k + 1 : Nat) : Int)) = false := decide_eq_false (by omega)
              have q2' : decide ((R : Int) < (k : Int) + 1) = false := decide_eq_false (by omega)
              have HN : okD D R (k + 1) = true := by rw [HST.out, hok, decide_eq_false hkr, beq_eq_false_iff_ne.2 hd7]; rfl
              have hmk : min k R = k := by omega
              have hmk2 : min (k + 1) R = k + 1 := by omega
              rw [hmk] at HTR
              have hdig : ∀ j, 0 < j → j ≤ k → D j < 7 := fun j h1 h2 => by
                have h3 := (okD_iff D R k).1 hok j h1 h2
                have := HD8.out j
                omega
              have hhx := (dn_hex HBB.out hdig (Nat.le_refl k)).mono (hexH_le hk)
              have HMU := Lib.hid (rmul_in (dn D b k) (2, 1) (hhx.sm.mono (by decide)) (by unfold Sm; simp) (by unfold Hex at hhx; unfold Sm mulE; simp only; omega))
              have hmb : Sm 8589934592 (mulE (dn D b k) (2, 1)) := by unfold Hex at hhx; unfold Sm mulE; simp only; omega
              obtain ⟨x, hx⟩ : ∃ x, dn D b k = x := ⟨_, rfl⟩
              rw [hx] at HMU HTR HDN hmb
              have HDE : Hid (dn D b (k + 1) = addE (mulE x (2, 1)) (leftE d)) := HDN.out
              generalize mulE x (2, 1) = m at *
              simp only [vE] at HMU
              obtain ⟨⟨c0, c1⟩, c2, c3⟩ := HTR.out
              unfold Sm at hmb
              obtain ⟨hm1, hm2, hm3, hm4⟩ := hmb
              clear hhx hdig hx hmk HDN HST hbad HNO HBB HD8
              go_wp2_with fail
              refine (HMU.out _).mono ?_
              rintro e w5 ⟨rfl, hb5⟩
              have hz5 := hb5.size
              have h5 := HTR.out.later (by omega) hb5
              have HP := Lib.hid (h5.put (.int .i64 m.1) (.int .i64 m.2))
              have HTU2 : Hid (Turn (fun q => q = w.heap.size + 1) w2 ((w5.setCell ⟨w.heap.size + 1, 0, none⟩ (.int .i64 m.1)).setCell ⟨w.heap.size + 1, 1, none⟩ (.int .i64 m.2))) := (HTU.out.trans (Turn.of_below hb5) fun _ _ h => h).trans HP.out.2 fun _ _ h => h
              have hz6 := HP.out.2.2.2.2.1
              obtain ⟨⟨e0, e1⟩, e2, e3⟩ := h5
              clear hb5 c0 c1 c2 c3 HTR HT HTU HMU HBR
              go_upto_region 15 with (fail)
              generalize ((w5.setCell ⟨w.heap.size + 1, 0, none⟩ (.int .i64 m.1)).setCell ⟨w.heap.size + 1, 1, none⟩ (.int .i64 m.2)) = w6 at *
              obtain ⟨⟨g0, g1⟩, g2, g3⟩ := HP.out.1
              clear e0 e1 e2 e3
              cases d with
              | zero =>
                have HDZ : Hid (dn D b (k + 1) = m) := by show _ = _; rw [HDE.out]; show (m.1 + 0, m.2 + 0) = m; simp
                have HFI : Hid (Two2 w6 (w.heap.size + 1) (.int .i64 (dn D b (min (k + 1) R)).1) (.int .i64 (dn D b (min (k + 1) R)).2) ∧ Turn (fun q => q = w.heap.size + 1) w2 w6) := ⟨by rw [hmk2, HDZ.out]; exact HP.out.1, HTU2.out⟩
                go_wp2
                go_roundw
                case rel => exact ⟨k + 1, by omega, by go_num, HN, HFI.out⟩
                case measure => simp [intOf]; omega
              | succ d =>
                have HDZ : Hid (dn D b (k + 1) = addE m (leftE (d + 1))) := HDE.out
                have HUN := Lib.hid (runit_in d (by omega))
                have hul := left_sm (d + 1)
                have hle : leftE (d + 1) = unitE d := rfl
                rw [hle] at HDZ hul
                simp only [vE] at HUN
                generalize unitE d = u at *
                unfold Sm at hul
                obtain ⟨hu1, hu2, hu3, hu4⟩ := hul
                have hws : w.heap.size + 1 < w6.heap.size := by omega
                clear hle
                go_wp2_with fail
                refine (HUN.out _).mono ?_
                rintro e w7 ⟨rfl, hb7⟩
                have hz7 := hb7.size
                have hal : Below w7.heap.size w7 (w7.alloc (.cells #[.int .i64 u.1, .int .i64 u.2] 37)) := (Below.refl _ _).alloc (Nat.le_refl _) _
                have k7 := World.size_alloc w7 (.cells #[.int .i64 u.1, .int .i64 u.2] 37)
                have h8 := (HP.out.1.later hws hb7).later (by omega) hal
                have hU8 : Two (w7.alloc (.cells #[.int .i64 u.1, .int .i64 u.2] 37)) w7.heap.size (.int .i64 u.1) (.int .i64 u.2) := Two.of_row (t := 37) (f := _) (heap_new _ _ _ rfl)
                have HT8 : Hid (Turn (fun q => q = w.heap.size + 1) w2 (w7.alloc (.cells #[.int .i64 u.1, .int .i64 u.2] 37))) := (HTU2.out.trans (Turn.of_below hb7) fun _ _ h => h).trans (Turn.of_below hal) fun _ _ h => h
                clear hal hb7 g0 g1 g2 g3
                go_upto_region 17 with (fail)
                generalize w7.alloc (.cells #[.int .i64 u.1, .int .i64 u.2] 37) = w8 at *
                have hp := h8.put (.int .i64 (m.1 + u.1)) (.int .i64 (m.2 + u.2))
                have HFI : Hid (Two2 ((w8.setCell ⟨w.heap.size + 1, 0, none⟩ (.int .i64 (m.1 + u.1))).setCell ⟨w.heap.size + 1, 1, none⟩ (.int .i64 (m.2 + u.2))) (w.heap.size + 1) (.int .i64 (dn D b (min (k + 1) R)).1) (.int .i64 (dn D b (min (k + 1) R)).2) ∧ Turn (fun q => q = w.heap.size + 1) w2 ((w8.setCell ⟨w.heap.size + 1, 0, none⟩ (.int .i64 (m.1 + u.1))).setCell ⟨w.heap.size + 1, 1, none⟩ (.int .i64 (m.2 + u.2)))) := ⟨by rw [hmk2, HDZ.out]; exact hp.1, HT8.out.trans hp.2 fun _ _ h => h⟩
                obtain ⟨⟨g0, g1⟩, g2, g3⟩ := h8
                obtain ⟨i0, i1⟩ := hU8
                have hl7 : w7.heap.size < w8.heap.size := by omega
                have hl8 : w.heap.size + 1 < w8.heap.size := by omega
                clear hp k7
                go_wp2
                go_roundw
                case rel => exact ⟨k + 1, by omega, by go_num, HN, HFI.out⟩
                case measure => simp [intOf]; omega
        · obtain rfl : k = 12 := by omega
          rw [Nat.min_eq_right h12] at HTR
          obtain ⟨y1, y2, y3⟩ := HYES.out (by rw [HOK.out]; exact hok)
          have HY : Hid (vC (cvR w0) (cvZ w0) = vC R (dn D b R) ∧ cvE w0 = 0) := ⟨by rw [y1, y2], y3⟩
          obtain ⟨⟨c0, c1⟩, c2, c3⟩ := HTR.out
          obtain ⟨t0, t1, t2, t3, t4, t5, t6⟩ := HT.out.cells
          generalize dn D b R = x at *
          clear y1 y2 y3 HTR HT HYES
          go_wp2
          exact bodyPost_ret (v := .tuple #[.agg #[.int .i64 R, .int .i64 x.1, .int .i64 x.2], .int .i64 0]) (by simp [results, Tryz.results14, go_sem, *]) rfl ⟨by rw [HY.out.1, HY.out.2], (((HBR.out.setCell (p := ⟨w.heap.size, 0, none⟩) (Nat.le_refl _) _).setCell (p := ⟨w.heap.size, 1, none⟩) (Nat.le_refl _) _).setCell (p := ⟨w.heap.size, 2, none⟩) (Nat.le_refl _) _)⟩
    · have HF := hbad (by rw [HIS.out, decide_eq_false h12]; simp)
      have q2 : decide (12 < (R : Int)) = true := decide_eq_true (by omega)
      clear h0
      go_enter Tryz.func14, Tryz.ntmps14
      go_wp2
      exact bodyPost_ret (v := .tuple #[.agg #[.int .i64 0, .int .i64 0, .int .i64 0], .int .i64 5]) (by simp [results, Tryz.results14, go_sem]) rfl (HF.out _ ((Below.refl _ _).alloc (Nat.le_refl _) _))
  · have HF := hbad (by rw [HIS.out, decide_eq_false h0]; rfl)
    have q1 : ((w0 : Int) / 1152921504606846976 != 1) = true := by simp; omega
    clear h0
    go_enter Tryz.func14, Tryz.ntmps14
    go_wp2
    exact bodyPost_ret (v := .tuple #[.agg #[.int .i64 0, .int .i64 0, .int .i64 0], .int .i64 5]) (by simp [results, Tryz.results14, go_sem]) rfl (HF.out _ ((Below.refl _ _).alloc (Nat.le_refl _) _))
end Go.Proofs.YtpkoapmpknbgoaaGreat
/- Lists of cells in memory; the contract of apiaryref1.Children. -/
namespace Go.Proofs.YtpkoapmpknbgoaaGreat
open Go.RowKit Go.Lib Wd

abbrev Cl := Int × E2
def cV (l : List Cl) : List Value := l.flatMap fun c => [.int .i64 c.1, .int .i64 c.2.1, .int .i64 c.2.2]
def cg (l : List Cl) (k : Nat) : Cl := l.getD k (0, (0, 0))
theorem cV_length (l : List Cl) : (cV l).length = l.length * 3 := by
  induction l with
  | nil => rfl
  | cons p l ih => simp only [cV, List.flatMap_cons, List.length_append, List.length_cons, List.length_nil] at *; omega
theorem cV_append (a b : List Cl) : cV (a ++ b) = cV a ++ cV b := by simp [cV]
theorem cV_one (c : Cl) : cV [c] = [.int .i64 c.1, .int .i64 c.2.1, .int .i64 c.2.2] := rfl
theorem cV_get : ∀ (l : List Cl) (k : Nat), k < l.length → (cV l)[k * 3]? = some (.int .i64 (cg l k).1) ∧ (cV l)[k * 3 + 1]? = some (.int .i64 (cg l k).2.1) ∧ (cV l)[k * 3 + 2]? = some (.int .i64 (cg l k).2.2)
  | [], k, h => by simp at h
  | p :: l, 0, _ => by simp [cV, cg]
  | p :: l, k + 1, h => by
    have ih := cV_get l k (by simpa using h)
    have e : cV (p :: l) = [.int .i64 p.1, .int .i64 p.2.1, .int .i64 p.2.2] ++ cV l := rfl
    have g : cg (p :: l) (k + 1) = cg l k := rfl
    rw [e, g, List.getElem?_append_right (by simp; omega), List.getElem?_append_right (by simp; omega), List.getElem?_append_right (by simp; omega)]
    simp only [List.length_cons, List.length_nil]
    rw [show (k + 1) * 3 - (0 + 1 + 1 + 1) = k * 3 by omega, show (k + 1) * 3 + 1 - (0 + 1 + 1 + 1) = k * 3 + 1 by omega, show (k + 1) * 3 + 2 - (0 + 1 + 1 + 1) = k * 3 + 2 by omega]
    exact ih
theorem cV_cell (l : List Cl) : ∀ u ∈ cV l, u.oneCell' = true := fun u hu => by
  simp only [cV, List.mem_flatMap] at hu
  obtain ⟨p, _, hp⟩ := hu
  simp at hp
  rcases hp with rfl | rfl | rfl <;> rfl
/-- In w a slice's address leads to cells. -/
def CAt (w : World) (ao : Option Addr) (l : List Cl) : Prop :=
  0 < l.length → ∃ b off, ao = some ⟨b, off, none⟩ ∧ b < w.heap.size ∧ ∀ k, k < l.length →
    w.cell? ⟨b, off + k * 3, none⟩ = some (.int .i64 (cg l k).1) ∧ w.cell? ⟨b, off + k * 3 + 1, none⟩ = some (.int .i64 (cg l k).2.1) ∧ w.cell? ⟨b, off + k * 3 + 2, none⟩ = some (.int .i64 (cg l k).2.2)
theorem CAt.below {w w' : World} {ao : Option Addr} {l : List Cl} (h : CAt w ao l) (hb : Below w.heap.size w w') : CAt w' ao l := fun h0 => by
  obtain ⟨b, off, e, hlt, hc⟩ := h h0
  refine ⟨b, off, e, Nat.lt_of_lt_of_le hlt hb.size, fun k hk => ?_⟩
  rw [hb.cell (p := ⟨b, _, none⟩) hlt, hb.cell (p := ⟨b, _, none⟩) hlt, hb.cell (p := ⟨b, _, none⟩) hlt]
  exact hc k hk
theorem cAt_own {w : World} {base n c : Nat} {ao : Option Addr} {l : List Cl} (hn : n = l.length) (h : w.ownsRow base 39 3 (.slice ao n c) n (cV l)) : CAt w ao l := fun h0 => by
  subst hn
  obtain ⟨ao', c', e, _, hh⟩ := own_form h
  cases e
  obtain ⟨g, rfl, _, hlt, hc⟩ := hh h0
  exact ⟨g, 0, rfl, hlt, fun i hi => by
    have := cV_get l i hi
    rw [Nat.zero_add]
    exact ⟨hc _ _ this.1, hc _ _ this.2.1, hc _ _ this.2.2⟩⟩
/-- What is told: cells in memory, and an error. -/
def ToldC (w : World) (L : List Cl) (E : Int) (e : Ending) (w' : World) : Prop := ∃ ao c, e = .returned (.tuple #[.slice ao L.length c, .int .i64 E]) ∧ CAt w' ao L ∧ Below w.heap.size w w'
theorem ToldC.nil {w w' : World} {E : Int} (h : Below w.heap.size w w') : ToldC w [] E (.returned (.tuple #[.slice none 0 0, .int .i64 E])) w' := ⟨Option.none, 0, rfl, fun h => by simp at h, h⟩
/-- The same, in a new block. -/
def ToldN (w : World) (L : List Cl) (E : Int) (e : Ending) (w' : World) : Prop := ∃ ao c, e = .returned (.tuple #[.slice ao L.length c, .int .i64 E]) ∧ CAt w' ao L ∧ Below w.heap.size w w' ∧ ∀ b o s, ao = some ⟨b, o, s⟩ → w.heap.size ≤ b ∧ b < w'.heap.size
theorem ToldN.nil {w w' : World} {E : Int} (h : Below w.heap.size w w') : ToldN w [] E (.returned (.tuple #[.slice none 0 0, .int .i64 E])) w' := ⟨Option.none, 0, rfl, fun h => by simp at h, h, fun _ _ _ h => by cases h⟩
/-- A cell's children. -/
def kidsL (r : Int) (z : E2) : List Cl := (List.range 7).map fun d => (r + 1, downE z d)
def kdE (r : Int) (z : E2) : Int := if okB r z = true then (if r = 12 then 1 else 0) else 2
def kdL (r : Int) (z : E2) : List Cl := if kdE r z = 0 then kidsL r z else []
theorem kidsL_take (r : Int) (z : E2) {k : Nat} (h : k < 7) : (kidsL r z).take (k + 1) = (kidsL r z).take k ++ [(r + 1, downE z k)] := by
  rw [List.take_add_one]
  congr 1
  unfold kidsL
  rw [List.getElem?_map, List.getElem?_range h]
  rfl
theorem kidsL_get (r : Int) (z : E2) {k : Nat} (h : k < 7) : cg (kidsL r z) k = (r + 1, downE z k) := by
  unfold cg kidsL
  rw [List.getD_eq_getElem?_getD, List.getElem?_map, List.getElem?_range h]
  rfl
theorem info_c : (Tryz.prog.info? 39).map (fun i => (i.zero, i.size, i.bytes)) = some (some (.agg #[.int .i64 0, .int .i64 0, .int .i64 0]), 3, 24) := by kernel_rfl
theorem ok_parts {r : Int} {z : E2} (h : okB r z = true) : 0 ≤ r ∧ r ≤ 12 ∧ Sm 1073741824 z := by
  have h1 := (shapeB_iff _ _).1 ((okB_iff _ _).1 h).1
  exact ⟨h1.1, h1.2.1, h1.2.2.1, h1.2.2.2.1, h1.2.2.2.2.1, h1.2.2.2.2.2⟩
set_option maxRecDepth 100000 in
set_option maxHeartbeats 4000000 in
theorem rkids_new (r : Int) (z : E2) (w : World) : Calls Tryz.prog 92 #[vC r z] w (ToldN w (kdL r z) (kdE r z)) := by
  obtain ⟨i1, hj, hy0, hy1, hy2⟩ := info_parts info_c
  have HOK := Lib.hid (rok_any r z)
  have HAL : Hid (Below w.heap.size w (w.alloc (.cells #[.int .i64 r, .int .i64 z.1, .int .i64 z.2] 39))) := (Below.refl _ _).alloc (Nat.le_refl _) _
  have HTR : Hid (Tri (w.alloc (.cells #[.int .i64 r, .int .i64 z.1, .int .i64 z.2] 39)) w.heap.size r z) := heap_new _ _ _ rfl
  have kA : (w.alloc (.cells #[.int .i64 r, .int .i64 z.1, .int .i64 z.2] 39)).heap.size = w.heap.size + 1 := by simp
  by_cases h : okB r z = true
  · obtain ⟨r0, r12, hsm⟩ := ok_parts h
    rw [h] at HOK
    by_cases hr : r = 12
    · subst hr
      have hE : kdE 12 z = 1 := by unfold kdE; rw [if_pos h, if_pos rfl]
      have hL : kdL 12 z = [] := by unfold kdL; rw [hE]; rfl
      rw [hE, hL]
      clear hE hL h hsm r0 r12
      simp only [vC] at *
      go_enter Tryz.func92, Tryz.ntmps92
      go_wp2_with fail
      refine (HOK.out _).mono ?_
      rintro e w1 ⟨rfl, hb1⟩
      obtain ⟨c0, c1, c2, c3, c4, c5, c6⟩ := (HTR.out.later hb1).cells
      have HB := Lib.hid (HAL.out.trans (hb1.mono (by omega)))
      clear hb1
      go_wp2
      go_ret2
      exact ToldN.nil HB.out
    · have hE : kdE r z = 0 := by unfold kdE; rw [if_pos h, if_neg hr]
      have hL : kdL r z = kidsL r z := by unfold kdL; rw [if_pos hE]
      have q1 : (r == 12) = false := by simp [hr]
      have hm : Sm 4294967296 (mulE z (2, 1)) := by unfold Sm mulE at *; simp only; omega
      have HMU := Lib.hid (rmul_in z (2, 1) (hsm.mono (by decide)) (by unfold Sm; simp) (hm.mono (by decide)))
      have HDN : Hid (∀ k, downE z (k + 1) = ((mulE z (2, 1)).1 + (unitE k).1, (mulE z (2, 1)).2 + (unitE k).2)) := fun k => rfl
      have HD0 : Hid (downE z 0 = mulE z (2, 1)) := by
        show addE (mulE z (2, 1)) (0, 0) = _
        unfold addE; simp
      rw [hE, hL]
      have HTK := Lib.hid (fun k (h : k < 7) => kidsL_take r z h)
      have HLN : Hid ((kidsL r z).length = 7) := by show _ = _; unfold kidsL; simp
      have HT1 : Hid ((kidsL r z).take 1 = [(r + 1, downE z 0)]) := rfl
      generalize kidsL r z = L at *
      generalize mulE z (2, 1) = m at *
      unfold Sm at hm
      obtain ⟨m1, m2, m3, m4⟩ := hm
      clear hE hL h hsm hr
      simp only [vC, vE] at *
      go_enter Tryz.func92, Tryz.ntmps92
      go_wp2_with fail
      refine (HOK.out _).mono ?_
      rintro e w1 ⟨rfl, hb1⟩
      have HTR1 := Lib.hid (HTR.out.later hb1)
      obtain ⟨c0, c1, c2, c3, c4, c5, c6⟩ := HTR1.out.cells
      have HB1 := Lib.hid (HAL.out.trans (hb1.mono (by omega)))
      have hz1 := hb1.size
      clear hb1 HTR HAL
      go_wp2_with fail
      refine (HMU.out _).mono ?_
      rintro e w2 ⟨rfl, hb2⟩
      have HTR2 := Lib.hid (HTR1.out.later hb2)
      have HB2 := Lib.hid (HB1.out.trans (hb2.mono (by omega)))
      have hz2 := hb2.size
      clear hb2 HTR1 HB1 c0 c1 c2 c3 c4 c5 c6
      have hal : Below w2.heap.size w2 (w2.alloc (.cells #[.int .i64 m.1, .int .i64 m.2] 37)) := (Below.refl _ _).alloc (Nat.le_refl _) _
      have M0 : Hid (Two (w2.alloc (.cells #[.int .i64 m.1, .int .i64 m.2] 37)) w2.heap.size (.int .i64 m.1) (.int .i64 m.2)) := Two.of_row (t := 37) (f := _) (heap_new _ _ _ rfl)
      have HTR3 := Lib.hid (HTR2.out.later hal)
      have HB3 := Lib.hid (HB2.out.trans (hal.mono (by omega)))
      have hz3 : w2.heap.size < (w2.alloc (.cells #[.int .i64 m.1, .int .i64 m.2] 37)).heap.size := by simp
      clear hal HTR2 HB2
      go_upto_region 6 with (fail)
      generalize w2.alloc (.cells #[.int .i64 m.1, .int .i64 m.2] 37) = w3 at *
      obtain ⟨c0, c1, c2, c3, c4, c5, c6⟩ := HTR3.out.cells
      obtain ⟨d0, d1⟩ := M0.out
      have q3 : IntKind.i64.wrap (r + 1) = r + 1 := wrap_in (by omega) (by omega)
      go_upto_region 7 with (fail)
      have HO0 : Hid ((w3.alloc (.cells #[.int .i64 (r + 1), .int .i64 m.1, .int .i64 m.2] 39)).ownsRow w3.heap.size 39 3 (.slice (some ⟨w3.heap.size, 0, none⟩) 1 1) 1 (cV (L.take 1))) := by rw [HT1.out, HD0.out]; exact World.ownsRow_lit (size := 3) (e := 39) w3 #[.int .i64 (r + 1), .int .i64 m.1, .int .i64 m.2] 1 (Nat.le_refl _) (by decide) rfl
      have HB4 : Hid (Below w3.heap.size w3 (w3.alloc (.cells #[.int .i64 (r + 1), .int .i64 m.1, .int .i64 m.2] 39))) := (Below.refl _ _).alloc (Nat.le_refl _) _
      generalize w3.alloc (.cells #[.int .i64 (r + 1), .int .i64 m.1, .int .i64 m.2] 39) = w4 at *
      clear c0 c1 c2 c3 c4 c5 d0 d1
      have hb4 := HB4.out.size
      go_wp2
      go_loopw [6, 7] (fun sl i wr => ∃ (k : Nat) (ao : Option Addr) (c : Nat), k ≤ 6 ∧ i = .int .i64 k ∧ sl = .slice ao (k + 1) c ∧ Hid (wr.ownsRow w3.heap.size 39 3 (.slice ao (k + 1) c) (k + 1) (cV (L.take (k + 1))) ∧ Below w3.heap.size w3 wr)) (fun _ i _ => 6 - (intOf i).toNat)
      case atStart => exact ⟨0, _, _, by omega, rfl, rfl, HO0.out, HB4.out⟩
      case round =>
        obtain ⟨k, ao, c, hk, rfl, rfl, HI⟩ := hrel
        by_cases hlt : k < 6
        · have q2 : decide ((k : Int) < 6) = true := decide_eq_true (by omega)
          have HUN := Lib.hid (runit_in k hlt)
          have hu := left_sm (k + 1)
          rw [show leftE (k + 1) = unitE k from rfl] at hu
          unfold Sm at hu
          obtain ⟨u1, u2, u3, u4⟩ := hu
          have HTK2 := Lib.hid (HTK.out (k + 1) (by omega))
          rw [HDN.out k] at HTK2
          simp only [vE] at HUN
          generalize unitE k = u at *
          have hsr := HI.out.2.size
          have HTX := Lib.hid (HTR3.out.later HI.out.2)
          have HMX := Lib.hid (M0.out.later (by omega) HI.out.2)
          have HOW := Lib.hid HI.out.1
          have HBW := Lib.hid (HB3.out.trans (HI.out.2.mono (by omega)))
          have HBX := Lib.hid HI.out.2
          clear HI
          go_wp2_with fail
          refine (HUN.out _).mono ?_
          rintro e w5 ⟨rfl, hb5⟩
          have hz5 := hb5.size
          have HTY := Lib.hid (HTX.out.later hb5)
          have HMY := Lib.hid (HMX.out.later (by omega) hb5)
          have HOY := Lib.hid (own_later HOW.out hb5)
          have HBY := Lib.hid (HBX.out.trans (hb5.mono (by omega)))
          clear hb5 HTX HMX HOW HBX HBW
          have hal : Below w5.heap.size w5 (w5.alloc (.cells #[.int .i64 u.1, .int .i64 u.2] 37)) := (Below.refl _ _).alloc (Nat.le_refl _) _
          have U0 : Hid (Two (w5.alloc (.cells #[.int .i64 u.1, .int .i64 u.2] 37)) w5.heap.size (.int .i64 u.1) (.int .i64 u.2)) := Two.of_row (t := 37) (f := _) (heap_new _ _ _ rfl)
          have HTZ := Lib.hid (HTY.out.later hal)
          have HMZ := Lib.hid (HMY.out.later (by omega) hal)
          have HOZ := Lib.hid (own_later HOY.out hal)
          have HBZ := Lib.hid (HBY.out.trans (hal.mono (by omega)))
          have hz6 : w5.heap.size < (w5.alloc (.cells #[.int .i64 u.1, .int .i64 u.2] 37)).heap.size := by simp
          clear hal HTY HMY HOY HBY
          go_upto_region 11 with (fail)
          generalize w5.alloc (.cells #[.int .i64 u.1, .int .i64 u.2] 37) = w6 at *
          obtain ⟨c0, c1, c2, c3, c4, c5, c6⟩ := HTZ.out.cells
          obtain ⟨d0, d1⟩ := HMZ.out
          obtain ⟨e0, e1⟩ := U0.out
          clear HTZ HMZ U0 c1 c2 c3 c4 c5
          have hown := HOZ.out
          clear HOZ
          go_wp2_with (at_builtin; refine wpList_append_own _ rfl (.tmp 36) (.tmp 52) 134 rfl w3.heap.size 39 i1 (.agg #[.int .i64 0, .int .i64 0, .int .i64 0]) 3 24 Tryz.underlying134 hj hy0 hy1 hy2 rfl (by decide) _ _ _ rfl (hown.alloc _) ⟨w6.heap.size, 0, none⟩ 1 1 [.int .i64 (r + 1), .int .i64 (m.1 + u.1), .int .i64 (m.2 + u.2)] rfl rfl (cells_new _ _ _ _ rfl) (by simp [Value.oneCell']) (by unfold maxLen; omega) (by omega) (by simp; omega) ?_; intro v' w7 hown1 hgrow _)
          have HB7 : Hid (Below w3.heap.size w3 w7) := below_append (HBZ.out.alloc (by omega) (.cells #[.int .i64 (r + 1), .int .i64 (m.1 + u.1), .int .i64 (m.2 + u.2)] 39)) (hown.alloc (.cells #[.int .i64 (r + 1), .int .i64 (m.1 + u.1), .int .i64 (m.2 + u.2)] 39)) (by simp; omega) hgrow
          obtain ⟨ao', c', rfl, _⟩ := own_form hown1
          have HO7 : Hid (w7.ownsRow w3.heap.size 39 3 (.slice ao' (k + 1 + 1) c') (k + 1 + 1) (cV (L.take (k + 1 + 1)))) := by rw [HTK2.out, cV_append]; exact hown1
          clear hown1 hgrow hown
          go_wp2
          go_roundw
          case rel => exact ⟨k + 1, ao', c', by omega, by go_num, rfl, HO7.out, HB7.out⟩
          case measure => simp [intOf]; omega
        · obtain rfl : k = 6 := by omega
          have HF : Hid (ToldN w L 0 (.returned (.tuple #[.slice ao 7 c, .int .i64 0])) wr) := by
            have h1 := HI.out.1
            rw [show L.take (6 + 1) = L from List.take_of_length_le (by rw [HLN.out]; exact Nat.le_refl _)] at h1
            exact ⟨ao, c, by rw [HLN.out], cAt_own (by rw [HLN.out]) h1, HB3.out.trans (HI.out.2.mono (by omega)), fun b o s e => ⟨by have := (own_lt h1 b o s e).1; omega, (own_lt h1 b o s e).2⟩⟩
          clear HI
          go_wp2
          go_ret2
          exact HF.out
  · have hE : kdE r z = 2 := by unfold kdE; rw [if_neg h]
    have hL : kdL r z = [] := by unfold kdL; rw [hE]; rfl
    rw [hE, hL]
    rw [Bool.eq_false_iff.2 h] at HOK
    clear hE hL h
    simp only [vC] at *
    go_enter Tryz.func92, Tryz.ntmps92
    go_wp2_with fail
    refine (HOK.out _).mono ?_
    rintro e w1 ⟨rfl, hb1⟩
    have HB := Lib.hid (HAL.out.trans (hb1.mono (by omega)))
    clear hb1
    go_wp2
    go_ret2
    exact ToldN.nil HB.out
theorem rkids_any (r : Int) (z : E2) (w : World) : Calls Tryz.prog 92 #[vC r z] w (ToldC w (kdL r z) (kdE r z)) :=
  (rkids_new r z w).mono fun _ _ ⟨ao, c, h1, h2, h3, _⟩ => ⟨ao, c, h1, h2, h3⟩
end Go.Proofs.YtpkoapmpknbgoaaGreat
/- Words of cells that may be; children of cells that may be (for seats without package near). Plain, but for the names. -/
namespace Go.Proofs.YtpkoapmpknbgoaaGreat
open Go.RowKit Go.Lib Wd

theorem ofW_ok {r : Nat} {z : E2} (h : okB r z = true) : ofW r z = wordN r z ∧ ofE r z = 0 ∧ ofW r z < 18446744073709551616 := by
  unfold ofW ofE
  rw [if_pos h, if_pos h]
  have := wordN_lt h
  exact ⟨rfl, rfl, by show wordN r z < _; omega⟩
theorem ofW_inj {r : Nat} {y z : E2} (hy : okB r y = true) (hz : okB r z = true) : ofW r y = ofW r z ↔ y = z := by
  constructor
  · intro h
    rw [(ofW_ok hy).1, (ofW_ok hz).1] at h
    exact (word_inj hy hz h).2
  · rintro rfl; rfl
theorem kid_ok {r : Nat} {z : E2} (h : okB r z = true) (hr : r + 1 ≤ 12) {d : Nat} (hd : d < 7) : okB (r + 1 : Nat) (downE z d) = true := by
  refine ok_of_base hr ?_
  have e : upN (r + 1) (downE z d) = upN r z := by
    show upN r (upE (downE z d)) = _
    rw [upE_down z hd]
  rw [e]
  exact (okB_parts h).2
theorem cv_ok {r : Nat} {z : E2} (h : okB r z = true) : cvR (ofW r z) = r ∧ cvZ (ofW r z) = z ∧ cvE (ofW r z) = 0 := by
  obtain ⟨a1, a2, a3⟩ := word_cell h
  rw [(ofW_ok h).1]
  unfold cvR cvZ cvE
  rw [if_pos a1, if_pos a1, if_pos a1, a2, a3]
  exact ⟨rfl, rfl, rfl⟩
theorem kd_ok {r : Nat} {z : E2} (h : okB r z = true) (hr : r + 1 ≤ 12) : kdE r z = 0 ∧ kdL r z = kidsL r z := by
  have hE : kdE r z = 0 := by unfold kdE; rw [if_pos h, if_neg (by omega)]
  exact ⟨hE, by unfold kdL; rw [if_pos hE]⟩
/-- A list of words, one more. -/
theorem take_w (V : List Int) {k : Nat} (h : k < V.length) : V.take (k + 1) = V.take k ++ [V.getD k 0] := by
  rw [List.take_add_one, List.getElem?_eq_getElem h, List.getD_eq_getElem?_getD, List.getElem?_eq_getElem h]
  rfl
theorem rem12 (r : Int) : (-12 < r.tmod 12 ∧ r.tmod 12 < 12) ∧ (r.tmod 12 + 12).tmod 12 = r % 12 := by
  have h : (-12 < r.tmod 12 ∧ r.tmod 12 < 12) ∧ (r.tmod 12 + 12) % 12 = r % 12 := by
    rcases Int.lt_or_le r 0 with h | h
    · have e : r.tmod 12 = -((-r) % 12) := by rw [← Int.tmod_eq_emod_of_nonneg (show 0 ≤ -r by omega), Int.neg_tmod, Int.neg_neg]
      omega
    · rw [Int.tmod_eq_emod_of_nonneg h]; omega
  refine ⟨h.1, ?_⟩
  rw [Int.tmod_eq_emod_of_nonneg (by omega)]
  exact h.2
theorem andNot_even (y : Int) : bits .andNot .i64 y 1 % 2 = 0 := by
  show IntKind.i64.wrap ((BitVec.ofInt 64 y &&& ~~~BitVec.ofInt 64 1).toNat : Int) % 2 = 0
  have h : (BitVec.ofInt 64 y &&& ~~~BitVec.ofInt 64 1).toNat % 2 = 0 := by
    rw [BitVec.toNat_and]
    have := Nat.and_mod_two_pow (a := (BitVec.ofInt 64 y).toNat) (b := (~~~BitVec.ofInt 64 1).toNat) (n := 1)
    rw [Nat.pow_one] at this
    rw [this, show (~~~BitVec.ofInt 64 1 : BitVec 64).toNat % 2 = 0 by decide, Nat.and_zero]
  rw [IntKind.wrap_i64]
  omega
end Go.Proofs.YtpkoapmpknbgoaaGreat
/- Plain laws: a word's parent, its size; the first fault of a list; groups by parents; the words of children. -/
namespace Go.Proofs.YtpkoapmpknbgoaaGreat
open Go.RowKit Go.Lib Wd

/-- A word's parent, and the error; a word's size. -/
def parW (w : Nat) : Nat := if isW w = true ∧ rW w ≠ 0 then ofW ((rW w : Int) - 1) (upE (zW w)) else 0
def parE (w : Nat) : Int := if isW w = true then (if rW w = 0 then 3 else 0) else 5
def resW (w : Nat) : Int := if isW w = true then (rW w : Int) else -1
/-- The first fault of a list. -/
def chkF (r : Int) : List Int → Int
  | [] => 0
  | w :: l => if isW w.toNat = true then (if (rW w.toNat : Int) = r then chkF r l else 8) else 5
/-- Words by their parents: one step, all. -/
structure Gs where
  out : List (List Int)
  last : Int
  has : Bool
def gStep (s : Gs) (w : Int) : Gs :=
  if parE w.toNat = 5 then s
  else if parE w.toNat = 0 ∧ s.has = true ∧ (parW w.toNat : Int) = s.last then ⟨s.out.dropLast ++ [(s.out.getLast?.getD []) ++ [w]], s.last, s.has⟩
  else ⟨s.out ++ [[w]], parW w.toNat, decide (parE w.toNat = 0)⟩
def gAll (l : List Int) : Gs := l.foldl gStep ⟨[], 0, false⟩
def grpF (l : List Int) : List (List Int) := (gAll (setF l)).out
theorem gAll_snoc (l : List Int) (w : Int) : gAll (l ++ [w]) = gStep (gAll l) w := by unfold gAll; rw [List.foldl_append]; rfl
theorem snoc_ind {α : Type} {P : List α → Prop} (h0 : P []) (h1 : ∀ l a, P l → P (l ++ [a])) : ∀ l, P l := by
  intro l
  have : ∀ r : List α, P r.reverse := by
    intro r
    induction r with
    | nil => exact h0
    | cons a r ih => rw [List.reverse_cons]; exact h1 _ _ ih
  have := this l.reverse
  rwa [List.reverse_reverse] at this
/-- Whatever has a parent told stands in a group. -/
theorem gAll_has (l : List Int) : (gAll l).has = true → (gAll l).out ≠ [] := by
  induction l using snoc_ind with
  | h0 => intro h; cases h
  | h1 l w ih =>
    rw [gAll_snoc]
    unfold gStep
    split
    · exact ih
    · split <;> (intro _; simp)
theorem up_ok {r : Nat} {z : E2} (h : okB (r + 1 : Nat) z = true) : okB r (upE z) = true := by
  obtain ⟨h1, h2⟩ := okB_parts h
  refine ok_of_base (by omega) ?_
  exact h2
theorem parW_lt (w : Nat) : parW w < 18446744073709551616 := by
  unfold parW
  split
  · next h =>
    unfold ofW
    split
    · next h2 =>
      obtain ⟨k, hk, hk2⟩ := okB_nat h2
      rw [hk] at h2
      have := (wordN_lt h2).1
      rw [hk, Int.toNat_natCast]
      omega
    · omega
  · omega
end Go.Proofs.YtpkoapmpknbgoaaGreat
/- Plain laws: how many cells a point has; a cell's parent near it; boxes in parts. -/
namespace Go.Proofs.YtpkoapmpknbgoaaGreat
open Go.RowKit Go.Lib Wd Cv

/-- Of three neighbours of one, two are no neighbours. -/
def isUnit (u : E2) : Bool := (List.range 6).any fun k => decide (u = unitE k)
theorem isUnit_of {u : E2} (h : ∃ k, k < 6 ∧ u = unitE k) : isUnit u = true := by
  obtain ⟨k, hk, rfl⟩ := h
  unfold isUnit
  exact List.any_eq_true.2 ⟨k, List.mem_range.2 hk, by simp⟩
theorem three_all : ((List.range 6).all fun a => (List.range 6).all fun b => (List.range 6).all fun c => !(isUnit (subE (unitE b) (unitE a)) && isUnit (subE (unitE c) (unitE a)) && isUnit (subE (unitE c) (unitE b)))) = true := by decide
theorem three_units (a : Nat) (ha : a < 6) (b : Nat) (hb : b < 6) (c : Nat) (hc : c < 6) (h1 : ∃ k, k < 6 ∧ subE (unitE b) (unitE a) = unitE k) (h2 : ∃ k, k < 6 ∧ subE (unitE c) (unitE a) = unitE k) (h3 : ∃ k, k < 6 ∧ subE (unitE c) (unitE b) = unitE k) : False := by
  have h := three_all
  simp only [List.all_eq_true, List.mem_range] at h
  have := h a ha b hb c hc
  rw [isUnit_of h1, isUnit_of h2, isUnit_of h3] at this
  simp at this
theorem next_sub {m : Nat} (hm : m ≤ 12) {z z' : E2} {X Y : Int} (h : InZ m z X Y) (h' : InZ m z' X Y) (hne : z' ≠ z) : ∃ k, k < 6 ∧ subE z' z = unitE k := by
  rcases tie_next hm h h' with e | ⟨k, hk, rfl⟩
  · exact absurd e hne
  · exact ⟨k, hk, by unfold subE addE; ext <;> simp only <;> omega⟩
/-- No point is in four cells. -/
theorem no_four {m : Nat} (hm : m ≤ 12) {z a b c : E2} {X Y : Int} (hz : InZ m z X Y) (ha : InZ m a X Y) (hb : InZ m b X Y) (hc : InZ m c X Y) (n1 : a ≠ z) (n2 : b ≠ z) (n3 : c ≠ z) (n4 : b ≠ a) (n5 : c ≠ a) (n6 : c ≠ b) : False := by
  obtain ⟨i, hi, ei⟩ := next_sub hm hz ha n1
  obtain ⟨j, hj, ej⟩ := next_sub hm hz hb n2
  obtain ⟨k, hk, ek⟩ := next_sub hm hz hc n3
  have key : ∀ {p q : E2} {s t : Nat}, subE p z = unitE s → subE q z = unitE t → subE q p = subE (unitE t) (unitE s) := fun {p q s t} h1 h2 => by
    rw [← h1, ← h2]; unfold subE; ext <;> simp only <;> omega
  have h1 := next_sub hm ha hb n4
  have h2 := next_sub hm ha hc n5
  have h3 := next_sub hm hb hc n6
  rw [key ei ej] at h1
  rw [key ei ek] at h2
  rw [key ej ek] at h3
  exact three_units i hi j hj k hk h1 h2 h3
theorem point_few {R : Nat} (hR : R ≤ 12) {p : E2} {L : List Int} (h : IsBox R p p L) : L.length ≤ 3 := by
  obtain ⟨h1, h2, -⟩ := h
  match L, h1, h2 with
  | [], _, _ => simp
  | [_], _, _ => simp
  | [_, _], _, _ => simp
  | [_, _, _], _, _ => simp
  | x0 :: x1 :: x2 :: x3 :: L, h1, h2 =>
    exfalso
    obtain ⟨z0, _, t0, rfl⟩ := (h2 x0).1 (by simp)
    obtain ⟨z1, _, t1, rfl⟩ := (h2 x1).1 (by simp)
    obtain ⟨z2, _, t2, rfl⟩ := (h2 x2).1 (by simp)
    obtain ⟨z3, _, t3, rfl⟩ := (h2 x3).1 (by simp)
    unfold Up at h1
    simp only [List.pairwise_cons, List.mem_cons, forall_eq_or_imp] at h1
    obtain ⟨⟨l1, l2, l3, _⟩, ⟨l4, l5, _⟩, ⟨l6, _⟩, _⟩ := h1
    have m12 : 12 - R ≤ 12 := by omega
    refine no_four m12 (touch_point m12 t0) (touch_point m12 t1) (touch_point m12 t2) (touch_point m12 t3) ?_ ?_ ?_ ?_ ?_ ?_ <;> rintro rfl <;> omega
theorem point_some {R : Nat} (hR : R ≤ 12) {x y : Int} (hx : 0 ≤ x ∧ x < 1073741824) (hy : 0 ≤ y ∧ y < 1073741824) {L : List Int} (h : IsBox R (x, y) (x, y) L) : ((wordN R (nearE x y R) : Nat) : Int) ∈ L :=
  (h.2.1 _).2 ⟨_, near_ok0 hx hy hR, touch_at (by omega) ⟨Int.le_refl _, Int.le_refl _⟩ ⟨Int.le_refl _, Int.le_refl _⟩ (inZ_near hR), rfl⟩
/-- A point and its cell's centre. -/
theorem near_cen {R : Nat} (hR : R ≤ 12) (x y : Int) : (3 * x - ddN (12 - R) ≤ (cenE (12 - R) (nearE x y R)).1 ∧ (cenE (12 - R) (nearE x y R)).1 ≤ 3 * x + ddN (12 - R)) ∧ 3 * y - ddN (12 - R) ≤ (cenE (12 - R) (nearE x y R)).2 ∧ (cenE (12 - R) (nearE x y R)).2 ≤ 3 * y + ddN (12 - R) := by
  have h := touch_at (lo := (x, y)) (hi := (x, y)) (m := 12 - R) (by omega) ⟨Int.le_refl _, Int.le_refl _⟩ ⟨Int.le_refl _, Int.le_refl _⟩ (inZ_near (x := x) (y := y) hR)
  exact touch_near (by omega) h
/-- A cell's parent's centre is within two sizes of whatever point the cell is the cell of. -/
theorem parent_near {R : Nat} (hR : R + 1 ≤ 12) (x y : Int) : inB (x - 2 * sizeN (12 - (R + 1)), y - 2 * sizeN (12 - (R + 1))) (x + 2 * sizeN (12 - (R + 1)), y + 2 * sizeN (12 - (R + 1))) (atE (12 - R) (upE (nearE x y (R + 1)))) = true := by
  have h := near_cen hR x y
  obtain ⟨m, hm⟩ : ∃ m, 12 - (R + 1) = m := ⟨_, rfl⟩
  rw [show 12 - R = m + 1 by omega]
  rw [hm] at h ⊢
  have hm11 : m ≤ 11 := by omega
  generalize nearE x y (R + 1) = z at h ⊢
  clear hR hm
  have hz := down_up z
  have hl := left_cases (digE_lt z)
  generalize upE z = q at *
  generalize digE z = d at *
  rw [downE_eq] at hz
  subst hz
  obtain ⟨q1, q2⟩ := q
  generalize leftE d = l at *
  obtain ⟨l1, l2⟩ := l
  simp only [Prod.mk.injEq] at hl
  have hl2 : -1 ≤ l1 ∧ l1 ≤ 1 ∧ -1 ≤ l2 ∧ l2 ≤ 1 ∧ -1 ≤ l1 + l2 ∧ l1 + l2 ≤ 1 := by omega
  clear hl
  obtain ⟨q0', q1', q2', q3', q4', q5', q6', q7', q8', q9', q10', q11', q12'⟩ := bE_tab
  obtain ⟨s0, s1, s2, s3, s4, s5, s6, s7, s8, s9, s10, s11, s12⟩ := size_tab
  rw [inB_iff]
  rw [(cen_parts m _).1, (cen_parts m _).2] at h
  rcases (show m = 0 ∨ m = 1 ∨ m = 2 ∨ m = 3 ∨ m = 4 ∨ m = 5 ∨ m = 6 ∨ m = 7 ∨ m = 8 ∨ m = 9 ∨ m = 10 ∨ m = 11 by omega) with rfl | rfl | rfl | rfl | rfl | rfl | rfl | rfl | rfl | rfl | rfl | rfl <;>
    simp only [mulE, atE, spotE, Nat.reduceAdd, q0', q1', q2', q3', q4', q5', q6', q7', q8', q9', q10', q11', q12', ddN, s0, s1, s2, s3, s4, s5, s6, s7, s8, s9, s10, s11] at h ⊢ <;> clear q0' q1' q2' q3' q4' q5' q6' q7' q8' q9' q10' q11' q12' s0 s1 s2 s3 s4 s5 s6 s7 s8 s9 s10 s11 s12 <;> omega

/-- A box cut along the first axis at a line both parts have. -/
theorem touch_split {m : Nat} (hm : m ≤ 12) {z lo hi : E2} {c : Int} (h1 : lo.1 ≤ c) (h2 : c ≤ hi.1) (hy : lo.2 ≤ hi.2) :
    TouchP (hexC m z) (triE lo) (triE hi) ↔ TouchP (hexC m z) (triE lo) (triE (c, hi.2)) ∨ TouchP (hexC m z) (triE (c, lo.2)) (triE hi) := by
  rw [touch_iff hm z (triE lo) (triE hi) (by simp only [triE]; omega) (by simp only [triE]; omega), touch_iff hm z (triE lo) (triE (c, hi.2)) (by simp only [triE]; omega) (by simp only [triE]; omega), touch_iff hm z (triE (c, lo.2)) (triE hi) (by simp only [triE]; omega) (by simp only [triE]; omega)]
  have c1 : ((triE lo).1 : Rat) ≤ ((3 * c : Int) : Rat) := by rw [Rat.intCast_le_intCast]; simp only [triE]; omega
  have c2 : ((3 * c : Int) : Rat) ≤ ((triE hi).1 : Rat) := by rw [Rat.intCast_le_intCast]; simp only [triE]; omega
  constructor
  · rintro ⟨X, Y, x1, x2, y1, y2, h⟩
    rcases Rat.le_total (a := X) (b := ((3 * c : Int) : Rat)) with hc | hc
    · exact .inl ⟨X, Y, x1, hc, y1, y2, h⟩
    · exact .inr ⟨X, Y, hc, x2, y1, y2, h⟩
  · rintro (⟨X, Y, x1, x2, y1, y2, h⟩ | ⟨X, Y, x1, x2, y1, y2, h⟩)
    · exact ⟨X, Y, x1, Rat.le_trans x2 c2, y1, y2, h⟩
    · exact ⟨X, Y, Rat.le_trans c1 x1, x2, y1, y2, h⟩
theorem isBox_parts {R : Nat} (_hR : R ≤ 12) {lo hi : E2} {c : Int} (h1 : lo.1 ≤ c) (h2 : c ≤ hi.1) (hy : lo.2 ≤ hi.2) {L A B : List Int} (hL : IsBox R lo hi L) (hA : IsBox R lo (c, hi.2) A) (hB : IsBox R (c, lo.2) hi B) : setF (A ++ B) = L := by
  refine (setF_up _).ext hL.1 fun x => ?_
  rw [setF_mem, List.mem_append, hA.2.1, hB.2.1, hL.2.1]
  unfold TouchW
  constructor
  · rintro (⟨z, z1, z2, z3⟩ | ⟨z, z1, z2, z3⟩)
    · exact ⟨z, z1, (touch_split (by omega) h1 h2 hy).2 (.inl z2), z3⟩
    · exact ⟨z, z1, (touch_split (by omega) h1 h2 hy).2 (.inr z2), z3⟩
  · rintro ⟨z, z1, z2, z3⟩
    rcases (touch_split (by omega) h1 h2 hy).1 z2 with h | h
    · exact .inl ⟨z, z1, h, z3⟩
    · exact .inr ⟨z, z1, h, z3⟩
theorem inB_parts {lo hi p : E2} {c : Int} (h1 : lo.1 ≤ c) (h2 : c < hi.1) : inB lo hi p = true ↔ inB lo (c, hi.2) p = true ∨ inB (c + 1, lo.2) hi p = true := by
  rw [inB_iff, inB_iff, inB_iff]; simp only; omega
theorem up_disjoint : ∀ {A B : List Int}, Up A → Up B → (∀ x, x ∈ A → x ∈ B → False) → (setF (A ++ B)).length = A.length + B.length := fun {A B} hA hB hd => by
  have hn : (A ++ B).Nodup := by
    rw [List.nodup_append]
    refine ⟨?_, ?_, fun x hx y hy e => hd x hx (e ▸ hy)⟩
    · rw [List.nodup_iff_pairwise_ne]; exact hA.imp fun h => by omega
    · rw [List.nodup_iff_pairwise_ne]; exact hB.imp fun h => by omega
  have h1 := up_of_srt hn
  have h2 : setF (A ++ B) = srt (A ++ B) := (setF_up _).ext h1 fun x => by rw [setF_mem, srt_mem]
  rw [h2, srt_length, List.length_append]
theorem isCen_parts {R : Nat} {lo hi : E2} {c : Int} (h1 : lo.1 ≤ c) (h2 : c < hi.1) {L A B : List Int} (hL : IsCen R lo hi L) (hA : IsCen R lo (c, hi.2) A) (hB : IsCen R (c + 1, lo.2) hi B) : setF (A ++ B) = L ∧ A.length + B.length = L.length := by
  have e : setF (A ++ B) = L := by
    refine (setF_up _).ext hL.1 fun x => ?_
    rw [setF_mem, List.mem_append, hA.2.1, hB.2.1, hL.2.1]
    unfold CenW
    constructor
    · rintro (⟨z, z1, z2, z3⟩ | ⟨z, z1, z2, z3⟩)
      · exact ⟨z, z1, (inB_parts h1 h2).2 (.inl z2), z3⟩
      · exact ⟨z, z1, (inB_parts h1 h2).2 (.inr z2), z3⟩
    · rintro ⟨z, z1, z2, z3⟩
      rcases (inB_parts h1 h2).1 z2 with h | h
      · exact .inl ⟨z, z1, h, z3⟩
      · exact .inr ⟨z, z1, h, z3⟩
  refine ⟨e, ?_⟩
  rw [← e, up_disjoint hA.1 hB.1]
  intro x ha hb
  obtain ⟨z, z1, z2, rfl⟩ := (hA.2.1 x).1 ha
  obtain ⟨y, y1, y2, e2⟩ := (hB.2.1 _).1 hb
  have e3 : wordN R z = wordN R y := by omega
  obtain rfl := (word_inj z1 y1 e3).2
  have p1 := (inB_iff _ _ _).1 z2
  have p2 := (inB_iff _ _ _).1 y2
  simp only at p1 p2
  omega
end Go.Proofs.YtpkoapmpknbgoaaGreat
/- Rings that are written down in memory; a polygon's cells as a set; contract of apiarylaw11.awake. -/
namespace Go.Proofs.YtpkoapmpknbgoaaGreat.Po
open Go.RowKit

def ringV (l : List Pt) : List Value := l.flatMap fun p => [.int .i64 p.1, .int .i64 p.2]
theorem ringV_length (l : List Pt) : (ringV l).length = l.length * 2 := by
  unfold ringV; induction l with
  | nil => rfl
  | cons p l ih => simp [List.flatMap_cons] at ih ⊢; omega
theorem ringV_get : ∀ (l : List Pt) (k : Nat), k < l.length → (ringV l)[k * 2]? = some (.int .i64 (px l k)) ∧ (ringV l)[k * 2 + 1]? = some (.int .i64 (py l k))
  | [], k, h => by simp at h
  | p :: l, 0, _ => by simp [ringV, px, py]
  | p :: l, k + 1, h => by
    have ih := ringV_get l k (by simpa using h)
    have e1 : (k + 1) * 2 = k * 2 + 1 + 1 := by omega
    have e2 : (k + 1) * 2 + 1 = k * 2 + 1 + 1 + 1 := by omega
    rw [e2, e1]
    exact ih
theorem ringAt_cells {w : World} {B b : Nat} {l : List Pt} (hb : b < B) (hc : ∀ j u, (ringV l)[j]? = some u → w.cell? ⟨b, j, none⟩ = some u) : RingAt w B (some ⟨b, 0, none⟩) l :=
  fun _ => ⟨b, 0, rfl, hb, fun k hk => by
    obtain ⟨h1, h2⟩ := ringV_get l k hk
    simp only [Nat.zero_add]
    exact ⟨hc _ _ h1, hc _ _ h2⟩⟩
/-- A ring in a new block. -/
theorem ringAt_new (w : World) (l : List Pt) (t : TypeId) : RingAt (w.alloc (.cells (ringV l).toArray t)) (w.heap.size + 1) (some ⟨w.heap.size, 0, none⟩) l :=
  ringAt_cells (by omega) fun j u hu => by
    rw [cell_of_row _ w.heap.size j _ t (0, 0) (heap_new w _ _ rfl)]; simpa using hu

end Go.Proofs.YtpkoapmpknbgoaaGreat.Po
namespace Go.Proofs.YtpkoapmpknbgoaaGreat
open Go.RowKit Go.Lib Wd Cv

/-- A polygon of one ring that has just been written down. -/
theorem rgAt_lit (w : World) (l : List (Int × Int)) (hl : l.length ≤ 1000) (ci : Nat) :
    RgAt ((w.alloc (.cells (Po.ringV l).toArray 26)).alloc (.cells #[.slice (some ⟨w.heap.size, 0, none⟩) l.length ci] 27)) (w.heap.size + 1 + 1) (some ⟨w.heap.size + 1, 0, none⟩) 1 [l] ∧
    Below w.heap.size w ((w.alloc (.cells (Po.ringV l).toArray 26)).alloc (.cells #[.slice (some ⟨w.heap.size, 0, none⟩) l.length ci] 27)) := by
  have h1 := Po.rings_one ci 27 (Po.ringAt_new w l 26) (by rw [World.size_alloc]; omega)
  have hs : (w.alloc (.cells (Po.ringV l).toArray 26)).heap.size = w.heap.size + 1 := World.size_alloc _ _
  rw [hs] at h1
  refine ⟨⟨h1, rfl, by decide, ?_⟩, ((Below.refl _ w).alloc (Nat.le_refl _) _).alloc (by rw [hs]; omega) _⟩
  show Po.totTo [l] 1 ≤ _
  unfold Po.totTo
  simp; omega
def FilW (R : Nat) (ls : List (List (Int × Int))) (x : Int) : Prop := ∃ z, okB R z = true ∧ inB (blo ls) (bhi ls) (atE (12 - R) z) = true ∧ Po.insideF ls (atE (12 - R) z).1 (atE (12 - R) z).2 = true ∧ x = (wordN R z : Nat)
/-- L is the set of a polygon's cells. -/
def IsFil (R : Nat) (ls : List (List (Int × Int))) (L : List Int) : Prop := Up L ∧ (∀ x, x ∈ L ↔ FilW R ls x) ∧ L.length ≤ 20000
theorem isFil_of {R : Nat} {ls : List (List (Int × Int))} {D : List E2} (h : AllOf (12 - R) (triE (blo ls)) (triE (bhi ls)) D) (hl : D.length ≤ 20000) : IsFil R ls (((srt (wsL R D)).filter (cenB R (blo ls) (bhi ls))).filter (fillB ls R)) := by
  have hb := isCen_of h hl
  refine ⟨filter_up hb.1 _, fun x => ?_, Nat.le_trans (List.length_filter_le _ _) hb.2.2⟩
  rw [List.mem_filter, hb.2.1]
  unfold CenW FilW fillB
  constructor
  · rintro ⟨⟨z, h1, h2, rfl⟩, h3⟩
    rw [Int.toNat_natCast, (word_cell h1).2.2] at h3
    exact ⟨z, h1, h2, h3, rfl⟩
  · rintro ⟨z, h1, h2, h3, rfl⟩
    exact ⟨⟨z, h1, h2, rfl⟩, by rw [Int.toNat_natCast, (word_cell h1).2.2]; exact h3⟩
/-- Fill, of a polygon of the world that is few sizes wide. -/
theorem fill_few {ao : Option Addr} {n c B R : Nat} {ls : List (List (Int × Int))} {w : World} (hB : B ≤ w.heap.size) (h : RgAt w B ao n ls) (hk : Po.checkF ls = 0) (hc : chE (blo ls) (bhi ls) R = 0) (hw : (bhi ls).1 - (blo ls).1 ≤ 28 * sizeN (12 - R)) (hh : (bhi ls).2 - (blo ls).2 ≤ 28 * sizeN (12 - R)) :
    Calls Tryz.prog 8 #[.slice ao n c, .int .i64 R] w (ToldB w (IsFil R ls)) := by
  have hR : R ≤ 12 := by have := (ch_ok hc).1; omega
  refine (fill_any (c := c) R hB h).mono ?_
  rintro e w' ⟨hP, hb⟩
  unfold FillP at hP
  rw [if_pos hk, if_pos hc, Int.toNat_natCast] at hP
  rcases hP with ⟨D, L, ao, c, n, h1, h2, rfl, rfl, h3, h4⟩ | ⟨D, h1, h2, h3, _⟩
  · exact ⟨_, ao, c, n, isFil_of h1 h2, rfl, h3, h4, hb⟩
  · have := few_of hR hw hh h1 h3
    omega
/-- Fill, of what may be no polygon. -/
theorem fill_bad {ao : Option Addr} {n c B : Nat} {ls : List (List (Int × Int))} (r : Int) {w : World} (hB : B ≤ w.heap.size) (h : RgAt w B ao n ls) (hk : Po.checkF ls ≠ 0) :
    Calls Tryz.prog 8 #[.slice ao n c, .int .i64 r] w fun e w' => e = .returned (.tuple #[.slice none 0 0, .int .i64 (Po.checkF ls)]) ∧ Below w.heap.size w w' := by
  refine (fill_any (c := c) r hB h).mono ?_
  rintro e w' ⟨hP, hb⟩
  unfold FillP at hP
  rw [if_neg hk] at hP
  exact ⟨hP, hb⟩
def awkR : List (Int × Int) := [(0, 0), (60, 0), (60, 5), (0, 5)]
theorem awkR_check : Po.checkF [awkR] = 0 := by kernel_rfl
theorem awkR_box : blo [awkR] = (0, 0) ∧ bhi [awkR] = (60, 5) := by constructor <;> kernel_rfl
theorem awkR_in : ∀ z : E2, inB (0, 0) (60, 5) (atE 0 z) = true → z = (0, 0) ∨ z = (1, 0) := fun z h => by
  rw [inB_iff] at h
  have e : atE 0 z = (52 * z.1 + 26 * z.2, 45 * z.2) := by
    show spotE (mulE (1, 0) z) = _
    unfold spotE mulE
    simp
  rw [e] at h
  dsimp only at h
  obtain ⟨a, b⟩ := z
  dsimp only at h
  have hb : b = 0 := by omega
  subst hb
  have : a = 0 ∨ a = 1 := by omega
  rcases this with rfl | rfl
  · exact .inl rfl
  · exact .inr rfl
theorem awkR_two {L : List Int} (h : IsFil 12 [awkR] L) : L.length = 2 := by
  have hm : ∀ x, x ∈ L ↔ x ∈ [((wordN 12 (0, 0) : Nat) : Int), ((wordN 12 (1, 0) : Nat) : Int)] := fun x => by
    rw [h.2.1]
    unfold FilW
    rw [awkR_box.1, awkR_box.2]
    constructor
    · rintro ⟨z, _, h2, _, rfl⟩
      rcases awkR_in z h2 with rfl | rfl <;> simp
    · intro hx
      simp only [List.mem_cons, List.not_mem_nil, or_false] at hx
      rcases hx with rfl | rfl
      · exact ⟨(0, 0), by kernel_rfl, by kernel_rfl, by kernel_rfl, rfl⟩
      · exact ⟨(1, 0), by kernel_rfl, by kernel_rfl, by kernel_rfl, rfl⟩
  have hn : L.Nodup := h.1.imp fun h => Int.ne_of_lt h
  have hd : ([((wordN 12 (0, 0) : Nat) : Int), ((wordN 12 (1, 0) : Nat) : Int)] : List Int).Nodup := by
    rw [List.nodup_cons]
    refine ⟨?_, List.pairwise_singleton _ _⟩
    intro hx
    have := List.mem_singleton.1 hx
    revert this
    have e : decide (((wordN 12 (0, 0) : Nat) : Int) = ((wordN 12 (1, 0) : Nat) : Int)) = false := by kernel_rfl
    exact of_decide_eq_false e
  exact ((List.perm_ext_iff_of_nodup hn hd).2 hm).length_eq
set_option maxRecDepth 100000 in
set_option maxHeartbeats 1000000 in
theorem awake11_any (w : World) : Calls Tryz.prog 11 #[] w fun e w' => e = .returned (.bool true) ∧ Below w.heap.size w w' := by
  have hrg := rgAt_lit w awkR (by decide) 4
  have hrg1 : RgAt ((w.alloc (.cells #[.int .i64 0, .int .i64 0, .int .i64 60, .int .i64 0, .int .i64 60, .int .i64 5, .int .i64 0, .int .i64 5] 26)).alloc (.cells #[.slice (some ⟨w.heap.size, 0, none⟩) 4 4] 27)) (w.heap.size + 1 + 1) (some ⟨w.heap.size + 1, 0, none⟩) 1 [awkR] := hrg.1
  have hB : Below w.heap.size w ((w.alloc (.cells #[.int .i64 0, .int .i64 0, .int .i64 60, .int .i64 0, .int .i64 60, .int .i64 5, .int .i64 0, .int .i64 5] 26)).alloc (.cells #[.slice (some ⟨w.heap.size, 0, none⟩) 4 4] 27)) := hrg.2
  have hf := fill_few (c := 1) (R := 12) (by simp only [World.size_alloc]; exact Nat.le_refl _) hrg1 awkR_check (by rw [awkR_box.1, awkR_box.2]; kernel_rfl) (by rw [awkR_box.1, awkR_box.2]; decide) (by rw [awkR_box.1, awkR_box.2]; decide)
  have HF := Lib.hid hf
  have HB := Lib.hid hB
  have HE : Hid (∀ W, Calls Tryz.prog 8 #[.slice none 0 0, .int .i64 12] W fun e w' => e = .returned (.tuple #[.slice none 0 0, .int .i64 1]) ∧ Below W.heap.size W w') := fun W =>
    fill_bad (ls := []) (n := 0) (B := 0) 12 (Nat.zero_le _) ⟨fun h => absurd h (by simp), rfl, by decide, by decide⟩ (by decide)
  clear hrg hrg1 hB hf
  go_enter Tryz.func11, Tryz.ntmps11
  go_wp2_with fail
  refine HF.out.mono ?_
  rintro e w1 ⟨L, ao, c, n, hL, rfl, hn, ho, hb⟩
  have hn2 : n = 2 := hn.trans (awkR_two hL)
  subst hn2
  have HB1 := Lib.hid (HB.out.trans (hb.mono HB.out.size))
  clear hL hn ho hb HF
  go_wp2_with fail
  refine (HE.out _).mono ?_
  rintro e w2 ⟨rfl, hb2⟩
  have HB2 := Lib.hid (HB1.out.trans (hb2.mono HB1.out.size))
  clear hb2
  go_wp2
  go_ret
  exact ⟨rfl, HB2.out⟩
end Go.Proofs.YtpkoapmpknbgoaaGreat
/- apiaryref1.Set once more: what comes out is a row of the call's own. -/
namespace Go.Proofs.YtpkoapmpknbgoaaGreat
open Go.RowKit Go.Lib Go.Sort

def JoinedO (w : World) (l : List Int) (e : Ending) (w' : World) : Prop :=
  ∃ ao c, e = .returned (.slice ao l.length c) ∧ w'.ownsRow w.heap.size 35 1 (.slice ao l.length c) l.length (uV l) ∧ Below w.heap.size w w'
set_option maxRecDepth 100000 in
set_option maxHeartbeats 4000000 in
theorem rset_own (ao : Option Addr) (c : Nat) (l : List Int) (w : World) (h : WordsAt w w.heap.size ao l) (hn : l.length ≤ 1000000000) :
    Calls Tryz.prog 12 #[.slice ao l.length c] w (JoinedO w (setF l)) := by
  obtain ⟨i0, hi, hz0, hz1, hz2⟩ := info_parts info_u
  have hsz1 : (Tryz.prog.info? 35).map (·.size) = some 1 := by kernel_rfl
  obtain ⟨n, hnn⟩ : ∃ n, l.length = n := ⟨_, rfl⟩
  have HN := Lib.hid hnn
  have HW := Lib.hid h
  rw [hnn] at hn ⊢
  clear hnn h
  go_enter Tryz.func12, Tryz.ntmps12
  go_wp2
  go_loopw [3, 4] (fun v i wr => ∃ (k m : Nat), k ≤ n ∧ m ≤ k ∧ i = .int .i64 k ∧ Hid ((setF (l.take k)).length = m) ∧ wr.ownsRow w.heap.size 35 1 v m (uV (setF (l.take k))) ∧ Below w.heap.size w wr) (fun _ i _ => n - (intOf i).toNat)
  case atStart => exact ⟨0, 0, Nat.zero_le _, Nat.le_refl _, rfl, by show _ = _; rw [List.take_zero, setF_nil]; rfl, by rw [List.take_zero, setF_nil]; exact World.ownsRow_nil _ _ _ _, Below.refl _ _⟩
  case round =>
    obtain ⟨k, m, hk, hm, rfl, HM0, hown, hnx⟩ := hrel
    have hsz := hnx.size
    obtain ⟨s, hs⟩ : ∃ s, setF (l.take k) = s := ⟨_, rfl⟩
    have HM : Hid (s.length = m) := by show _ = _; rw [← hs]; exact HM0.out
    rw [hs] at hown
    have HUP : Hid (Rising s) := by show Rising s; rw [← hs]; exact (setF_up _).rising
    have HS := Lib.hid hs
    clear hs HM0
    obtain ⟨vo, vc, rfl, _, _⟩ := own_form hown
    have HWD := Lib.hid (words_own HM.out.symm hown)
    have HOWN := Lib.hid hown
    have HNX := Lib.hid hnx
    by_cases hlt : k < n
    · obtain ⟨b, off, rfl, hb, hc⟩ := (HW.out.below hnx (Nat.le_refl _)) (by rw [HN.out]; omega)
      have c0 := hc k (by rw [HN.out]; exact hlt)
      obtain ⟨x, hx⟩ : ∃ x, l.getD k 0 = x := ⟨_, rfl⟩
      rw [hx] at c0
      have HX := Lib.hid hx
      have hbw : b < wr.heap.size := by omega
      have KEEP : Hid (∀ X : World, X.heap = wr.heap → X.cell? ⟨b, off + k, none⟩ = some (.int .u64 x) ∧ b < X.heap.size ∧ WordsAt X X.heap.size vo s ∧ X.ownsRow w.heap.size 35 1 (.slice vo m vc) m (uV s)) := fun X hX => by
        refine ⟨?_, by rw [hX]; exact hbw, ?_, own_heap hX HOWN.out⟩
        · rw [cell_heap hX]; exact c0
        · have := words_heap hX HWD.out
          rwa [← hX] at this
      clear hc hx hown hnx c0 hbw HWD hsz
      obtain ⟨wo, hwo⟩ : ∃ wo : World, wo = wr := ⟨_, rfl⟩
      subst hwo
      go_wp2
      go_loopw [5, 6] (fun i j wr => ∃ lo hi : Nat, lo ≤ hi ∧ hi ≤ m ∧ i = .int .i64 lo ∧ j = .int .i64 hi ∧ Hid ((∀ k, k < lo → s.getD k 0 < x) ∧ ∀ k, hi ≤ k → k < m → x ≤ s.getD k 0) ∧ Hid (wr.heap = wo.heap) ∧ Below w.heap.size w wr) (fun i j _ => (intOf j).toNat - (intOf i).toNat)
      case atStart => exact ⟨0, m, Nat.zero_le _, Nat.le_refl _, rfl, rfl, ⟨fun k hk => by omega, fun k h1 h2 => by omega⟩, rfl, HNX.out⟩
      case round =>
        obtain ⟨lo, hi', h1, h2, rfl, rfl, HA, HH, hbx⟩ := hrel
        obtain ⟨c0, hbw, hwd, hown⟩ := KEEP.out wr HH.out
        have HWD := Lib.hid hwd
        have HOWN := Lib.hid hown
        have HBX := Lib.hid hbx
        have hsz := hbx.size
        clear hwd hown hbx
        by_cases hlt2 : lo < hi'
        · obtain ⟨g1, off1, rfl, hg1, hc1⟩ := HWD.out (by rw [HM.out]; omega)
          obtain ⟨t, ht⟩ : ∃ t, (lo + hi') / 2 = t := ⟨_, rfl⟩
          have hm1 : lo ≤ t := by omega
          have hm2 : t < hi' := by omega
          have hmI : ((lo : Int) + (hi' : Int)) / 2 = (t : Int) := by omega
          have c1 := hc1 t (by rw [HM.out]; omega)
          have HL1 : Hid (s.getD t 0 < x → ∀ k, k < t + 1 → s.getD k 0 < x) := fun e k hk => by
            have := HUP.out k t (by omega) (by rw [HM.out]; omega)
            omega
          have HL2 : Hid (¬ s.getD t 0 < x → ∀ k, t ≤ k → k < m → x ≤ s.getD k 0) := fun e k h3 h4 => by
            have := HUP.out t k h3 (by rw [HM.out]; exact h4)
            omega
          generalize s.getD t 0 = y at c1 HL1 HL2
          clear hc1 ht
          by_cases hyx : y < x
          · have HLL := Lib.hid (HL1.out hyx)
            clear HL1 HL2
            go_wp2_with (first | (with_reducible refine wp_region_lex (by kernel_rfl) (by kernel_rfl) ?_) | (with_reducible refine OnlyG.intro (by kernel_rfl) ?_))
            go_roundw
            case rel => exact ⟨t + 1, hi', by omega, h2, by go_num, rfl, ⟨HLL.out, HA.out.2⟩, HH.out, HBX.out.drew⟩
            case measure => simp [intOf]; omega
          · have HLL := Lib.hid (HL2.out hyx)
            clear HL1 HL2
            go_wp2_with (first | (with_reducible refine wp_region_lex (by kernel_rfl) (by kernel_rfl) ?_) | (with_reducible refine OnlyG.intro (by kernel_rfl) ?_))
            go_roundw
            case rel => exact ⟨lo, t, by omega, by omega, rfl, by go_num, ⟨HA.out.1, HLL.out⟩, HH.out, HBX.out.drew⟩
            case measure => simp [intOf]; omega
        · obtain rfl : lo = hi' := by omega
          by_cases hin : lo < m ∧ s.getD lo 0 = x
          · obtain ⟨g1, off1, rfl, hg1, hc1⟩ := HWD.out (by rw [HM.out]; omega)
            have c1 := hc1 lo (by rw [HM.out]; exact hin.1)
            obtain ⟨y, hy⟩ : ∃ y, s.getD lo 0 = y := ⟨_, rfl⟩
            have q1 : (y == x) = true := by rw [← hy]; simpa using hin.2
            rw [hy] at c1
            have HOLD : Hid (setF (l.take (k + 1)) = s) := by
              show _ = _
              rw [setF_old (by rw [HN.out]; exact hlt) (by rw [HS.out, HX.out, ← hin.2]; exact getD_mem (by rw [HM.out]; exact hin.1)), HS.out]
            have q0 : decide (lo < m) = true := by simpa using hin.1
            have hlm := hin.1
            clear hc1 hin hy
            go_wp2_with (first | (with_reducible refine wp_region_lex (by kernel_rfl) (by kernel_rfl) ?_) | (with_reducible refine OnlyG.intro (by kernel_rfl) ?_))
            go_roundw
            case rel => exact ⟨k + 1, m, by omega, by omega, by go_num, by show _ = _; rw [HOLD.out]; exact HM.out, by rw [HOLD.out]; exact HOWN.out, HBX.out.drew⟩
            case measure => simp [intOf]; omega
          · have HPUT : Hid (setF (l.take (k + 1)) = s.take lo ++ x :: s.drop lo) := by
              show _ = _
              rw [setF_put (by rw [HN.out]; exact hlt) HS.out (lo := lo) (by rw [HX.out]; exact HA.out.1) (by
                rw [HX.out]
                intro j h3 h4
                rw [HM.out] at h4
                have e1 := HA.out.2 j h3 h4
                have e2 := HUP.out lo j h3 (by rw [HM.out]; exact h4)
                have e3 := HA.out.2 lo (Nat.le_refl _) (by omega)
                by_cases e4 : s.getD lo 0 = x
                · exact absurd ⟨by omega, e4⟩ hin
                · omega), HX.out]
            have key : decide (lo < m) = false ∨ (lo < m ∧ decide (lo < m) = true ∧ ∃ g1 off1 y, vo = some ⟨g1, off1, none⟩ ∧ g1 < wr.heap.size ∧ wr.cell? ⟨g1, off1 + lo, none⟩ = some (.int .u64 y) ∧ (y == x) = false) := by
              by_cases e : lo < m
              · refine .inr ⟨e, by simpa using e, ?_⟩
                obtain ⟨g1, off1, rfl, hg1, hc1⟩ := HWD.out (by rw [HM.out]; omega)
                exact ⟨g1, off1, _, rfl, hg1, hc1 lo (by rw [HM.out]; exact e), by simpa using fun h => hin ⟨e, h⟩⟩
              · exact .inl (by simpa using e)
            clear hin hlt2
            rcases key with q0 | ⟨hlm, q0, g1, off1, y, rfl, hg1, c1, q1⟩
            all_goals
              have hown := HOWN.out
              go_upto_region 13 with (first | (with_reducible refine wp_region_lex (by kernel_rfl) (by kernel_rfl) ?_) | (with_reducible refine OnlyG.intro (by kernel_rfl) ?_) | (at_builtin; refine wpList_append_own _ rfl (.tmp 50) (.tmp 51) 22 rfl w.heap.size 35 i0 (.int .u64 0) 1 8 Tryz.underlying22 hi hz0 hz1 hz2 rfl (by decide) _ _ _ rfl (hown.alloc _) ⟨wr.heap.size, 0, none⟩ 1 1 [.int .u64 0] rfl rfl (cells_new _ _ _ _ rfl) (by simp [Value.oneCell']) (by unfold maxLen; omega) (by omega) (by simp; omega) ?_; intro v' w3 hown1 hgrow _))
              have hbel : Below w.heap.size w w3 := below_append (HBX.out.drew.alloc hsz _) (hown.alloc _) (by simp; omega) hgrow
              rcases hown1.2 with ⟨_, h0⟩ | ⟨g, cap, ⟨cur⟩, rfl, hbg, hheap, hcap, hmax, hcsz, htake⟩
              · omega
              obtain ⟨e, he⟩ : ∃ e, s.drop lo = e := ⟨_, rfl⟩
              have hdl : (uV e).length = m - lo := by rw [uV_len, ← he, List.length_drop, HM.out]
              have hmin : (uV e).length = Nat.min (m + 1 - lo) (m - lo) := by rw [hdl]; show _ = min _ _; omega
              have hfit : lo + 1 + (uV e).length ≤ cur.length := by rw [hdl]; have : cur.length = cap := by simpa using hcsz
                                                                    omega
              have HPOS : Hid (0 < (uV e).length → (if cap = lo + 1 then some (⟨g, 0, none⟩ : Addr) else some ⟨g, lo + 1, none⟩) = some ⟨g, lo + 1, none⟩ ∧ ∃ ad, some (⟨g, lo, none⟩ : Addr) = some ad ∧ ∀ j v, (uV e)[j]? = some v → w3.drew.cell? (ad.add j) = some v) := fun h0 => by
                refine ⟨by rw [if_neg (by omega)], _, rfl, fun j v hj => ?_⟩
                have hj' : j < (uV e).length := (List.getElem?_eq_some_iff.1 hj).1
                have hadd : (⟨g, lo, none⟩ : Addr).add j = ⟨g, lo + j, none⟩ := by unfold Addr.add; split <;> simp_all
                rw [hadd, cell_heap (X := w3.drew) (w := w3) rfl, hown1.cellAt (lo + j) (by omega), List.getElem?_append_left (by rw [uV_len, HM.out]; omega), ← hj, ← he]
                simp [uV]
              have HTK : Hid (cur.take (m + 1) = uV s ++ [.int .u64 0]) := by show _ = _; rw [← htake, Nat.mul_one]
              have HCL : Hid (cur.length = cap) := by show _ = _; simpa using hcsz
              have HDE := Lib.hid he
              have hheap' : w3.drew.heap[g]? = some (.cells cur.toArray 35 (0, 0)) := hheap
              have hbel' := hbel.drew
              have hw1 : IntKind.i64.wrap ((lo : Int) + 1) = (lo : Int) + 1 := IntWalk.i64_in _ (by omega)
              have hb1 : (lo : Int) + 1 ≤ (m : Int) + 1 := by omega
              have hb2 : (lo : Int) ≤ (m : Int) + 1 := by omega
              have hb0 : (0 : Int) ≤ (lo : Int) + 1 := by omega
              have hne : ¬ cap = lo := by omega
              clear htake hcsz hown1 hgrow hown he hdl
              go_region_law (refine step_copy_splice rfl (.tmp 56) (.tmp 59) 22 22 rfl 35 Tryz.underlying22 hsz1 (if cap = lo + 1 then some (⟨g, 0, none⟩ : Addr) else some ⟨g, lo + 1, none⟩) (some ⟨g, lo, none⟩) (m - lo) (cap - (lo + 1)) (m + 1 - lo) (cap - lo) (by simp [Act.eval, Act.put]) (by simp [Act.eval, Act.put]) g (lo + 1) cur 35 hheap' (uV e) hmin HPOS.out hfit (uV_cell _) w.heap.size w hbel' hbg ?_; intro w4 HG4 hb4)
              have hput := HG4.out
              have c4 : w4.cell? ⟨b, off + k, none⟩ = some (.int .u64 x) := (hb4.cell (p := ⟨b, off + k, none⟩) hb).trans ((HBX.out.cell (p := ⟨b, off + k, none⟩) hb).symm.trans c0)
              have hbw4 : b < w4.heap.size := by have := hb4.size; omega
              have hg4 : g < w4.heap.size := (Array.getElem?_eq_some_iff.1 hput).1
              have hsl : lo < (splice cur (lo + 1) (uV e)).length := by rw [length_splice _ _ _ hfit, HCL.out]; omega
              have c5 : w4.cell? ⟨g, lo, none⟩ = some (splice cur (lo + 1) (uV e))[lo] := by
                rw [cell_of_row _ _ _ _ _ _ hput, List.getElem?_toArray, List.getElem?_eq_getElem hsl]
              have hf5 : w4.frozen? ⟨g, lo, none⟩ = false := by simp [World.frozen?, hput]
              have HG5 := Lib.hid (hput)
              generalize (splice cur (lo + 1) (uV e))[lo] = y5 at c5
              have HB5 : Hid (Below w.heap.size w (w4.setCell ⟨g, lo, none⟩ (.int .u64 x))) := hb4.setCell hbg _
              have HOWN5 : Hid ((w4.setCell ⟨g, lo, none⟩ (.int .u64 x)).ownsRow w.heap.size 35 1 (.slice (some ⟨g, 0, none⟩) (m + 1) cap) (m + 1) (uV (setF (l.take (k + 1))))) := by
                have hh : w4.heap[g]? = some (.cells (splice cur (lo + 1) (uV (s.drop lo))).toArray 35 (0, 0)) := by rw [HDE.out]; exact hput
                have := own_put (x := x) hbg HM.out h2 hcap hmax HCL.out HTK.out hh
                rw [← HPUT.out] at this
                exact this
              have HLEN : Hid ((setF (l.take (k + 1))).length = m + 1) := by
                show _ = _
                rw [HPUT.out, List.length_append, List.length_cons, List.length_take, List.length_drop, HM.out]
                omega
              clear hput hb4 hsl hheap hheap' hbel hbel' hfit hmin
              go_wp2_with (first | (with_reducible refine wp_region_lex (by kernel_rfl) (by kernel_rfl) ?_) | (with_reducible refine OnlyG.intro (by kernel_rfl) ?_))
              go_roundw
              case rel => exact ⟨k + 1, m + 1, by omega, by omega, by go_num, HLEN.out, HOWN5.out, HB5.out⟩
              case measure => simp [intOf]; omega
    · obtain rfl : k = n := by omega
      have HT : Hid (s = setF l) := by show _ = _; rw [← HS.out, ← HN.out, List.take_length]
      have hwd := words_own HM.out.symm hown
      have hJ : Hid (JoinedO w (setF l) (.returned (.slice vo m vc)) wr) := ⟨vo, vc, by rw [← HT.out, HM.out], by rw [← HT.out, HM.out]; exact hown, hnx⟩
      clear hwd hown hnx
      go_wp2
      go_ret
      exact hJ.out
end Go.Proofs.YtpkoapmpknbgoaaGreat
/- append of words that lie anywhere to a row of the call's own; two appended, one behind the other; Set, Same and Has of a slice by its length. -/
namespace Go.Proofs.YtpkoapmpknbgoaaGreat
open Go.RowKit Go.Lib Go.Sort

theorem words_news {w : World} {B : Nat} {ao : Option Addr} {l : List Int} (h : WordsAt w B ao l) : ∀ ad, ao = some ad → ∀ j u, (uV l)[j]? = some u → w.cell? (ad.add j) = some u := fun ad e j u hj => by
  have hjl : j < l.length := by have := (List.getElem?_eq_some_iff.1 hj).1; rwa [uV_len] at this
  obtain ⟨b, off, e2, _, hc⟩ := h (by omega)
  rw [e2] at e
  cases e
  rw [uV_get l j hjl] at hj
  cases hj
  have hadd : (⟨b, off, none⟩ : Addr).add j = ⟨b, off + j, none⟩ := by unfold Addr.add; split <;> simp_all
  rw [hadd]
  exact hc j hjl
theorem append_words {w : World} {base n m c : Nat} {v : Value} {xs l : List Int} {ao : Option Addr} (hown : w.ownsRow base 35 1 v n (uV xs)) (hw : WordsAt w w.heap.size ao l) (hl : l.length = m) (hz : ao = none → m = 0 ∧ c = 0) (hb : base ≤ w.heap.size) (hn : n + m ≤ 1000000) :
    ∃ v' w', (Builtin.append_ #[22, 22] 22 #[v, .slice ao m c]).run Tryz.prog w = .ok v' w' ∧ w'.ownsRow base 35 1 v' (n + m) (uV (xs ++ l)) ∧ w.grownBy w' v.ownBlock := by
  obtain ⟨i0, hi, hz0, hz1, hz2⟩ := info_parts info_u
  have hu : uV (xs ++ l) = uV xs ++ uV l := by simp [uV]
  cases ao with
  | none =>
    obtain ⟨rfl, rfl⟩ := hz rfl
    obtain rfl : l = [] := List.eq_nil_of_length_eq_zero hl
    refine ⟨v, w, run_append_owned_none w base 22 22 35 i0 1 Tryz.underlying22 hi v n (uV xs) hown, by simpa using hown, ⟨rfl, rfl, rfl, Nat.le_refl _, fun _ _ _ => rfl⟩⟩
  | some ad =>
    obtain ⟨v', w', hr, h2, h3, _⟩ := run_append_own w base 22 22 35 i0 (.int .u64 0) 1 8 Tryz.underlying22 hi hz0 hz1 hz2 rfl (by decide) v n (uV xs) hown ad m c (uV l) (by rw [uV_len, hl, Nat.mul_one]) (words_news hw ad rfl) (uV_cell l) (by unfold maxLen; omega) (by omega) hb
    exact ⟨v', w', hr, by rw [hu]; exact h2, h3⟩
/-- append under a guard that is wanted, its run known. -/
theorem wpList_append_want {P : Program} (w : World) {ops : Array Oper} {rest : List Oper} {o : Oper} {a : Act} {Q : Exit → Act → World → Prop} (hgd : Region.wanted o (yielded ops a.tmps) = true) (s x : Operand) (t tn : TypeId)
    (ho : o.op = .call { callee := .builtin .append, args := #[s, x], argTypes := #[t, tn] }) (vs vx : Value) (hs : a.eval s = vs) (hx : a.eval x = vx)
    (v' : Value) (w' : World) (hr : (Builtin.append_ #[t, tn] o.type #[vs, vx]).run P w = .ok v' w') (h : wpList P ops Q rest (a.put o.dst v') w') : wpList P ops Q (o :: rest) a w := by
  unfold wpList
  rw [if_pos hgd]
  exact .inl (wp_append_run w s x t tn ho vs vx hs hx v' w' hr h)
/-- Two lists in a row of the call's own, made anew. -/
theorem two_append {w : World} {A B : List Int} {ao bo : Option Addr} {n m ca cb : Nat} (hn : n = A.length) (hm : m = B.length) (hA : WordsAt w w.heap.size ao A) (hB : WordsAt w w.heap.size bo B) (zA : ao = none → n = 0 ∧ ca = 0) (zB : bo = none → m = 0 ∧ cb = 0) (hb : n + m ≤ 1000000) :
    ∃ x1 wA xo xc wB, (Builtin.append_ #[22, 22] 22 #[.slice (some ⟨w.heap.size, 0, none⟩) 0 0, .slice ao n ca]).run Tryz.prog (w.alloc (.cells #[] 35)) = .ok x1 wA ∧
      (Builtin.append_ #[22, 22] 22 #[x1, .slice bo m cb]).run Tryz.prog wA = .ok (.slice xo (n + m) xc) wB ∧ wB.ownsRow w.heap.size 35 1 (.slice xo (n + m) xc) (n + m) (uV (A ++ B)) ∧ Below w.heap.size w wB := by
  have hb0 : Below w.heap.size w (w.alloc (.cells #[] 35)) := (Below.refl _ w).alloc (Nat.le_refl _) _
  obtain ⟨x1, wA, hrA, hA1, hgA⟩ := append_words (w := w.alloc (.cells #[] 35)) (base := w.heap.size) (n := 0) (v := .slice (some ⟨w.heap.size, 0, none⟩) 0 0) (xs := []) (l := A) (ao := ao) (m := n) (c := ca)
    (World.ownsRow_made w #[] 0 (Nat.le_refl _) (Nat.zero_le _) (by simp)) ((hA.below hb0 (Nat.le_refl _)).wider hb0.size) hn.symm zA hb0.size (by omega)
  rw [Nat.zero_add, List.nil_append] at hA1
  have hba : Below w.heap.size w wA := hb0.grown hgA hb0.size (by intro k hk; simp [Value.ownBlock] at hk; omega)
  obtain ⟨x2, wB, hrB, hB1, hgB⟩ := append_words (w := wA) (base := w.heap.size) (n := n) (v := x1) (xs := A) (l := B) (ao := bo) (m := m) (c := cb) hA1 ((hB.below hba (Nat.le_refl _)).wider hba.size) hm.symm zB hba.size hb
  have hbb : Below w.heap.size w wB := below_append hba hA1 hba.size hgB
  obtain ⟨xo, xc, rfl, -⟩ := own_form hB1
  exact ⟨x1, wA, xo, xc, wB, hrA, hrB, hB1, hbb⟩
theorem rset_n {w : World} {ao : Option Addr} {n c : Nat} {l : List Int} (hn : n = l.length) (hl : n ≤ 1000000) (h : WordsAt w w.heap.size ao l) : Calls Tryz.prog 12 #[.slice ao n c] w fun e w' => ∃ ao' c', e = .returned (.slice ao' (setF l).length c') ∧ WordsAt w' w'.heap.size ao' (setF l) ∧ Below w.heap.size w w' := by
  subst hn
  refine (rset_own ao c l w h (by omega)).mono ?_
  rintro e w' ⟨ao', c', rfl, h2, hb⟩
  exact ⟨ao', c', rfl, words_own rfl h2, hb⟩
theorem rset_own_n {w : World} {ao : Option Addr} {n c : Nat} {l : List Int} (hn : n = l.length) (hl : n ≤ 1000000) (h : WordsAt w w.heap.size ao l) : Calls Tryz.prog 12 #[.slice ao n c] w fun e w' => ∃ ao' c', e = .returned (.slice ao' (setF l).length c') ∧ w'.ownsRow w.heap.size 35 1 (.slice ao' (setF l).length c') (setF l).length (uV (setF l)) ∧ Below w.heap.size w w' := by
  subst hn
  exact rset_own ao c l w h (by omega)
theorem same_n {w : World} {ao bo : Option Addr} {n m c d : Nat} {a b : List Int} (hn : n = a.length) (hm : m = b.length) (hl : n ≤ 1000000) (ha : WordsAt w w.heap.size ao a) (hb : WordsAt w w.heap.size bo b) :
    Calls Tryz.prog 10 #[.slice ao n c, .slice bo m d] w fun e w' => e = .returned (.bool (decide (a = b))) ∧ Below w.heap.size w w' := by
  subst hn; subst hm
  exact same_any ao bo c d a b w _ _ ha hb (by omega)
theorem rhas_n {w : World} {ao : Option Addr} {n c : Nat} {l : List Int} (x : Int) (hn : n = l.length) (hl : n ≤ 1000000) (h : WordsAt w w.heap.size ao l) (hr : Rising l) :
    Calls Tryz.prog 13 #[.slice ao n c, .int .u64 x] w fun e w' => e = .returned (.bool (hasF l x)) ∧ w = w' := by
  subst hn
  exact rhas_any ao c l x w _ h (by omega) hr
/-- A list in memory, as a contract tells it. -/
def LAt (w : World) (ao : Option Addr) (n c : Nat) (L : List Int) : Prop := n = L.length ∧ WordsAt w w.heap.size ao L ∧ (ao = none → n = 0 ∧ c = 0)
theorem LAt.later {w w' : World} {ao : Option Addr} {n c : Nat} {L : List Int} (h : LAt w ao n c L) (hb : Below w.heap.size w w') : LAt w' ao n c L := ⟨h.1, (h.2.1.below hb (Nat.le_refl _)).wider hb.size, h.2.2⟩
theorem LAt.of_own {w : World} {base n c : Nat} {ao : Option Addr} {L : List Int} (hn : n = L.length) (h : w.ownsRow base 35 1 (.slice ao n c) n (uV L)) : LAt w ao n c L :=
  ⟨hn, words_own hn h, fun e => by
    rcases h.2 with ⟨hv, h0⟩ | ⟨g, cap, cur, hv, _⟩
    · simp only [Value.slice.injEq] at hv; exact ⟨hv.2.1, hv.2.2⟩
    · simp only [Value.slice.injEq] at hv; rw [e] at hv; cases hv.1⟩
end Go.Proofs.YtpkoapmpknbgoaaGreat
/- The one cell that touches its own middle's box; apiarylaw10.awake. -/
namespace Go.Proofs.YtpkoapmpknbgoaaGreat
open Go.RowKit Go.Lib Wd

theorem near_one : nearE 52 0 12 = (1, 0) := by decide
theorem one_yes : ttB 0 (156, 0) (156, 0) (1, 0) = true := by decide
theorem one_no : ∀ k, k < 6 → ttB 0 (156, 0) (156, 0) (addE (1, 0) (unitE k)) = false := by
  intro k hk
  rcases (show k = 0 ∨ k = 1 ∨ k = 2 ∨ k = 3 ∨ k = 4 ∨ k = 5 by omega) with rfl | rfl | rfl | rfl | rfl | rfl <;> decide
theorem one_all (z : E2) : TouchP (hexC 0 z) (156, 0) (156, 0) ↔ z = (1, 0) := by
  constructor
  · have h0 : InZ 0 (1, 0) (((156, 0) : E2).1 : Rat) (((156, 0) : E2).2 : Rat) := by
      have h := inZ_near (x := 52) (y := 0) (r := 12) (by decide)
      rw [near_one] at h
      exact h
    refine flood_all (m := 0) (by decide) (by decide) (by decide) h0 (fun y => y = (1, 0)) rfl ?_ z
    intro y hy _ k hk ht
    subst hy
    have h1 := (tt_iff _ _ _ _).2 ht
    rw [one_no k hk] at h1
    cases h1
  · rintro rfl
    exact (tt_iff _ _ _ _).1 one_yes
theorem one_list {D : List E2} (h : AllOf 0 (156, 0) (156, 0) D) : D = [(1, 0)] := by
  obtain ⟨h1, h2⟩ := h
  have h3 : ∀ z ∈ D, z = (1, 0) := fun z hz => (one_all z).1 ((h2 z).1 hz)
  have h4 : (1, 0) ∈ D := (h2 _).2 ((one_all _).2 rfl)
  cases D with
  | nil => cases h4
  | cons a t =>
    have ha := h3 a List.mem_cons_self
    subst ha
    cases t with
    | nil => rfl
    | cons b t =>
      have hb := h3 b (List.mem_cons_of_mem _ List.mem_cons_self)
      subst hb
      exact absurd List.mem_cons_self (List.nodup_cons.1 h1).1
theorem one_few {D : List E2} (h1 : D.Nodup) (h2 : ∀ z ∈ D, TouchP (hexC 0 z) (156, 0) (156, 0)) : D.length ≤ 1 := by
  cases D with
  | nil => simp
  | cons a t =>
    cases t with
    | nil => simp
    | cons b t =>
      have ha := (one_all a).1 (h2 a List.mem_cons_self)
      have hb := (one_all b).1 (h2 b (List.mem_cons_of_mem _ List.mem_cons_self))
      subst ha; subst hb
      exact absurd List.mem_cons_self (List.nodup_cons.1 h1).1
theorem ok_12 : okB (12 : Nat) (1, 0) = true := by decide
theorem box_one (w : World) : Calls Tryz.prog 32 #[vE (52, 0), vE (52, 0), .int .i64 12] w fun e w' => (∃ ao c, e = .returned (.tuple #[.slice ao 1 c, .int .i64 0]) ∧ w'.ownsRow w.heap.size 35 1 (.slice ao 1 c) 1 (uV [((wordN 12 (1, 0) : Nat) : Int)])) ∧ Below w.heap.size w w' := by
  refine (box_any (52, 0) (52, 0) 12 w).mono ?_
  rintro e w' ⟨hP, hb⟩
  refine ⟨?_, hb⟩
  unfold BoxP at hP
  rw [if_pos (show chE (52, 0) (52, 0) 12 = 0 by decide)] at hP
  have e1 : triE (52, 0) = (156, 0) := by decide
  have e2 : (12 - ((12 : Int)).toNat : Nat) = 0 := rfl
  rw [e1, e2, show ((12 : Int)).toNat = 12 from rfl] at hP
  rcases hP with ⟨D, ao, c, n, h1, -, h3, h4, h5⟩ | ⟨D, h1, h2, h3, -⟩
  · have := one_list h1
    subst this
    have hw : wsL 12 [(1, 0)] = [((wordN 12 (1, 0) : Nat) : Int)] := by
      have := wsL_snoc 12 [] (1, 0)
      rw [if_pos ok_12] at this
      exact this
    rw [hw] at h4 h5
    have hn : n = 1 := h4
    subst hn
    rw [show srt [((wordN 12 (1, 0) : Nat) : Int)] = [((wordN 12 (1, 0) : Nat) : Int)] by simp [srt]] at h5
    exact ⟨ao, c, h3, h5⟩
  · have := one_few h1 h3
    omega
theorem box_bad (w : World) : Calls Tryz.prog 32 #[vE (5, 5), vE (4, 5), .int .i64 3] w fun e w' => e = .returned (.tuple #[.slice none 0 0, .int .i64 1]) ∧ Below w.heap.size w w' := by
  refine (box_any (5, 5) (4, 5) 3 w).mono ?_
  rintro e w' ⟨hP, hb⟩
  unfold BoxP at hP
  have hc : chE (5, 5) (4, 5) 3 = 1 := by decide
  rw [hc, if_neg (by decide)] at hP
  exact ⟨hP, hb⟩
theorem touch_00 : ctB 12 (0, 0) (0, 0) (0, 0) = true := by decide
end Go.Proofs.YtpkoapmpknbgoaaGreat
/- Contracts of apiarylaw4.Some and apiarylaw5.Word at any numbers. -/
namespace Go.Proofs.YtpkoapmpknbgoaaGreat
open Go.RowKit Go.Lib Wd

/-- The digits that a number tells; the base cell. -/
def digS (y : Int) (i : Nat) : Nat := (y / 2 ^ (3 * i + 1) % 64 % 7).toNat
def baseS (x : Int) : E2 := (x % 1024 - 512, x / 1024 % 1024 - 512)
def downS (y : Int) (b : E2) : Nat → E2
  | 0 => b
  | i + 1 => downE (downS y b i) (digS y i)
def someE (x y : Int) (r : Nat) : E2 := if y % 2 = 0 then nearE (x % 1073741824) (y % 1073741824) r else downS y (baseS x) r
theorem digS_lt (y : Int) (i : Nat) : digS y i < 7 := by unfold digS; omega
theorem downS_ok (y x : Int) : ∀ i : Nat, i ≤ 12 → okB i (downS y (baseS x) i) = true
  | 0, _ => by
    refine ok_of_base (r := 0) (by omega) ?_
    show baseB (baseS x) = true
    rw [baseB_iff]
    unfold baseS
    simp only
    omega
  | i + 1, h => kid_ok (downS_ok y x i (by omega)) h (digS_lt y i)
theorem some_ok (x y : Int) {r : Nat} (hr : r ≤ 12) : okB r (someE x y r) = true := by
  unfold someE
  split
  · exact near_ok0 (by omega) (by omega) hr
  · exact downS_ok y x r hr
end Go.Proofs.YtpkoapmpknbgoaaGreat
/- What the walks of the laws share: cells of a block of two or three. -/
namespace Go.Proofs.YtpkoapmpknbgoaaGreat
open Go.RowKit Go.Lib Wd Cv
theorem cel3 {wx : World} {b : Nat} {t : TypeId} {u v s : Int} (h : wx.heap[b]? = some (.cells #[.int .i64 u, .int .i64 v, .int .i64 s] t (0, 0))) : wx.cell? ⟨b, 0, none⟩ = some (.int .i64 u) ∧ wx.cell? ⟨b, 1, none⟩ = some (.int .i64 v) ∧ wx.cell? ⟨b, 2, none⟩ = some (.int .i64 s) ∧ b < wx.heap.size := ⟨cell_of_row _ _ 0 _ _ _ h, cell_of_row _ _ 1 _ _ _ h, cell_of_row _ _ 2 _ _ _ h, (Array.getElem?_eq_some_iff.1 h).1⟩
theorem cel2 {wx : World} {b : Nat} {t : TypeId} {u v : Int} (h : wx.heap[b]? = some (.cells #[.int .i64 u, .int .i64 v] t (0, 0))) : wx.cell? ⟨b, 0, none⟩ = some (.int .i64 u) ∧ wx.cell? ⟨b, 1, none⟩ = some (.int .i64 v) ∧ b < wx.heap.size := ⟨cell_of_row _ _ 0 _ _ _ h, cell_of_row _ _ 1 _ _ _ h, (Array.getElem?_eq_some_iff.1 h).1⟩
/-- A block that stays. -/
def Stay (w : World) (b : Nat) (o : Obj) : Prop := ∀ wx, Below w.heap.size w wx → wx.heap[b]? = some o
theorem stay_new {w w' : World} {o : Obj} (h : Below (w.alloc o).heap.size (w.alloc o) w') : w'.heap[w.heap.size]? = some o := (h.block _ (by simp)).trans (heap_new _ _ _ rfl)
theorem stay_of {w : World} {b : Nat} {o : Obj} (h : w.heap[b]? = some o) : Stay w b o := fun _ hx => (hx.block b (Array.getElem?_eq_some_iff.1 h).1).trans h
theorem Stay.later {w w' : World} {b : Nat} {o : Obj} (h : Stay w b o) (hb : Below w.heap.size w w') : Stay w' b o := fun wx hx => h wx (hb.trans (hx.mono hb.size))
theorem Stay.at {w : World} {b : Nat} {o : Obj} (h : Stay w b o) : w.heap[b]? = some o := h w (Below.refl _ _)
/-- A small number of a size, as the laws take it. -/
theorem res_of (r : Int) : ∃ (s : Int) (R : Nat), r.tmod 13 = s ∧ -13 < s ∧ s < 13 ∧ (s + 13).tmod 13 = (R : Int) ∧ R ≤ 12 ∧ r % 13 = (R : Int) := by
  obtain ⟨⟨h1, h2⟩, h3⟩ := rem13 r
  exact ⟨_, (r % 13).toNat, rfl, h1, h2, by rw [h3]; omega, by omega, by omega⟩
end Go.Proofs.YtpkoapmpknbgoaaGreat
/- Plain laws: a box's four corners, and its halves, as polygons. -/
namespace Go.Proofs.YtpkoapmpknbgoaaGreat
open Go.RowKit Go.Lib Wd Cv

theorem fbox_one {l : List (Int × Int)} (hk : Po.checkF [l] = 0) : Po.boxF [l] = Po.bxR l ⟨Po.px l 0, Po.py l 0, Po.px l 0, Po.py l 0⟩ l.length := by
  unfold Po.boxF
  rw [if_pos hk]
  rfl
theorem fbox4 {p q r s : Int × Int} (hk : Po.checkF [[p, q, r, s]] = 0) : blo [[p, q, r, s]] = (min (min (min p.1 q.1) r.1) s.1, min (min (min p.2 q.2) r.2) s.2) ∧ bhi [[p, q, r, s]] = (max (max (max p.1 q.1) r.1) s.1, max (max (max p.2 q.2) r.2) s.2) := by
  unfold blo bhi
  rw [fbox_one hk]
  have e : Po.bxR [p, q, r, s] ⟨Po.px [p, q, r, s] 0, Po.py [p, q, r, s] 0, Po.px [p, q, r, s] 0, Po.py [p, q, r, s] 0⟩ ([p, q, r, s] : List (Int × Int)).length = Po.bstep (Po.bstep (Po.bstep (Po.bstep ⟨p.1, p.2, p.1, p.2⟩ p.1 p.2) q.1 q.2) r.1 r.2) s.1 s.2 := rfl
  rw [e]
  unfold Po.bstep
  dsimp only
  constructor
  · refine Prod.ext ?_ ?_ <;> dsimp only <;> omega
  · refine Prod.ext ?_ ?_ <;> dsimp only <;> omega
theorem fbox3 {p q r : Int × Int} (hk : Po.checkF [[p, q, r]] = 0) : blo [[p, q, r]] = (min (min p.1 q.1) r.1, min (min p.2 q.2) r.2) ∧ bhi [[p, q, r]] = (max (max p.1 q.1) r.1, max (max p.2 q.2) r.2) := by
  unfold blo bhi
  rw [fbox_one hk]
  have e : Po.bxR [p, q, r] ⟨Po.px [p, q, r] 0, Po.py [p, q, r] 0, Po.px [p, q, r] 0, Po.py [p, q, r] 0⟩ ([p, q, r] : List (Int × Int)).length = Po.bstep (Po.bstep (Po.bstep ⟨p.1, p.2, p.1, p.2⟩ p.1 p.2) q.1 q.2) r.1 r.2 := rfl
  rw [e]
  unfold Po.bstep
  dsimp only
  constructor
  · refine Prod.ext ?_ ?_ <;> dsimp only <;> omega
  · refine Prod.ext ?_ ?_ <;> dsimp only <;> omega
theorem t_ok {x y u v : Int} (hx : 0 ≤ x ∧ x < 1073741824) (hy : 0 ≤ y ∧ y < 1073741824) (hu : 0 ≤ u ∧ u < 1073741824) (hv : 0 ≤ v ∧ v < 1073741824) : Po.checkF [Po.t1 x y u v] = 0 ∧ Po.checkF [Po.t2 x y u v] = 0 := by
  constructor <;> refine Po.ring_ok (by simp [Po.t1, Po.t2]) (by simp [Po.t1, Po.t2]) fun m hm => ?_
  · simp only [Po.t1, List.mem_cons, List.not_mem_nil, or_false] at hm
    rcases hm with rfl | rfl | rfl <;> exact ⟨by assumption, by assumption⟩
  · simp only [Po.t2, List.mem_cons, List.not_mem_nil, or_false] at hm
    rcases hm with rfl | rfl | rfl <;> exact ⟨by assumption, by assumption⟩
section
variable {x y u v : Int} (hx : 0 ≤ x ∧ x < 1073741824) (hy : 0 ≤ y ∧ y < 1073741824) (hu : 0 ≤ u ∧ u < 1073741824) (hv : 0 ≤ v ∧ v < 1073741824) (hxu : x ≤ u) (hyv : y ≤ v)
include hx hy hu hv hxu hyv
theorem qd_box : (blo [Po.qd x y u v] = (x, y) ∧ bhi [Po.qd x y u v] = (u, v)) ∧ blo [Po.qr x y u v] = (x, y) ∧ bhi [Po.qr x y u v] = (u, v) := by
  obtain ⟨h1, h2⟩ := fbox4 (Po.qd_ok hx hy hu hv)
  obtain ⟨h3, h4⟩ := fbox4 (Po.qr_ok hx hy hu hv)
  refine ⟨⟨h1.trans (Prod.ext ?_ ?_), h2.trans (Prod.ext ?_ ?_)⟩, h3.trans (Prod.ext ?_ ?_), h4.trans (Prod.ext ?_ ?_)⟩ <;> dsimp only <;> omega
theorem fil_box {R : Nat} {L : List Int} (h : IsFil R [Po.qd x y u v] L ∨ IsFil R [Po.qr x y u v] L) : IsCen R (x, y) (u, v) L := by
  obtain ⟨⟨b1, b2⟩, b3, b4⟩ := qd_box hx hy hu hv hxu hyv
  rcases h with h | h
  · refine ⟨h.1, fun w => (h.2.1 w).trans ?_, h.2.2⟩
    unfold FilW CenW
    rw [b1, b2]
    constructor
    · rintro ⟨z, h1, h2, h3, h4⟩; exact ⟨z, h1, h2, h4⟩
    · rintro ⟨z, h1, h2, h4⟩
      have h5 := (inB_iff _ _ _).1 h2
      exact ⟨z, h1, h2, (Po.quad_in hx hy hu hv ⟨h5.1, h5.2.1⟩ ⟨h5.2.2.1, h5.2.2.2⟩).1, h4⟩
  · refine ⟨h.1, fun w => (h.2.1 w).trans ?_, h.2.2⟩
    unfold FilW CenW
    rw [b3, b4]
    constructor
    · rintro ⟨z, h1, h2, h3, h4⟩; exact ⟨z, h1, h2, h4⟩
    · rintro ⟨z, h1, h2, h4⟩
      have h5 := (inB_iff _ _ _).1 h2
      exact ⟨z, h1, h2, (Po.quad_in hx hy hu hv ⟨h5.1, h5.2.1⟩ ⟨h5.2.2.1, h5.2.2.2⟩).2, h4⟩
theorem t_box : (blo [Po.t1 x y u v] = (x, y) ∧ bhi [Po.t1 x y u v] = (u, v)) ∧ blo [Po.t2 x y u v] = (x, y) ∧ bhi [Po.t2 x y u v] = (u, v) := by
  obtain ⟨k1, k2⟩ := t_ok hx hy hu hv
  obtain ⟨h1, h2⟩ := fbox3 k1
  obtain ⟨h3, h4⟩ := fbox3 k2
  refine ⟨⟨h1.trans (Prod.ext ?_ ?_), h2.trans (Prod.ext ?_ ?_)⟩, h3.trans (Prod.ext ?_ ?_), h4.trans (Prod.ext ?_ ?_)⟩ <;> dsimp only <;> omega
theorem half_mem {R : Nat} {A B C : List Int} (hA : IsFil R [Po.t1 x y u v] A) (hB : IsFil R [Po.t2 x y u v] B) (hC : IsCen R (x, y) (u, v) C) :
    setF (A ++ B) = C ∧ ∀ w, w ∈ A → w ∈ B → ∃ z, okB R z = true ∧ w = (wordN R z : Nat) ∧ Po.dg x y u v (atE (12 - R) z).1 (atE (12 - R) z).2 = 0 := by
  obtain ⟨⟨b1, b2⟩, b3, b4⟩ := t_box hx hy hu hv hxu hyv
  have hin : ∀ z, inB (x, y) (u, v) (atE (12 - R) z) = true → _ := fun z h2 => Po.half_in hx hy hu hv (s := (atE (12 - R) z).1) (t := (atE (12 - R) z).2) ⟨((inB_iff _ _ _).1 h2).1, ((inB_iff _ _ _).1 h2).2.1⟩ ⟨((inB_iff _ _ _).1 h2).2.2.1, ((inB_iff _ _ _).1 h2).2.2.2⟩
  refine ⟨?_, fun w h1 h2 => ?_⟩
  · refine Up.ext (setF_up _) hC.1 fun w => ?_
    rw [setF_mem, List.mem_append, hA.2.1, hB.2.1, hC.2.1]
    unfold FilW CenW
    rw [b1, b2, b3, b4]
    constructor
    · rintro (⟨z, h1, h2, _, h4⟩ | ⟨z, h1, h2, _, h4⟩) <;> exact ⟨z, h1, h2, h4⟩
    · rintro ⟨z, h1, h2, h4⟩
      obtain ⟨g1, g2⟩ := hin z h2
      rcases Int.le_total (Po.dg x y u v (atE (12 - R) z).1 (atE (12 - R) z).2) 0 with h | h
      · exact .inl ⟨z, h1, h2, g1.2 h, h4⟩
      · exact .inr ⟨z, h1, h2, g2.2 h, h4⟩
  · rw [hA.2.1] at h1
    rw [hB.2.1] at h2
    obtain ⟨z, a1, a2, a3, rfl⟩ := h1
    obtain ⟨z', c1, c2, c3, c4⟩ := h2
    rw [b1, b2] at a2
    rw [b3, b4] at c2
    have hz : z = z' := (word_inj a1 c1 (by omega)).2
    subst hz
    obtain ⟨g1, g2⟩ := hin z a2
    exact ⟨z, a1, rfl, by have := g1.1 a3; have := g2.1 c3; omega⟩
end
theorem ch_in {R : Nat} (hR : R ≤ 12) {lo hi : E2} (h1 : worldB lo.1 lo.2 = true) (h2 : worldB hi.1 hi.2 = true) (hx : lo.1 ≤ hi.1) (hy : lo.2 ≤ hi.2) : chE lo hi R = 0 := by
  unfold chE
  rw [if_neg (by omega), if_pos ⟨h1, h2⟩, if_neg (by omega)]
end Go.Proofs.YtpkoapmpknbgoaaGreat
