/- The contract of ident.Cell. -/
import Derived.Test.YtkjfdaleamonaaaWdH
import Derived.Test.YtkjfdaleamonaaaLex8
namespace Go.Proofs.Ytkjfdaleamonaaa
open Go.RowKit Go.Lib Wd

/-- A word's cell, and the error. -/
def cvR (w0 : Nat) : Int := if isW w0 = true then (rW w0 : Int) else 0
def cvZ (w0 : Nat) : E2 := if isW w0 = true then zW w0 else (0, 0)
def cvE (w0 : Nat) : Int := if isW w0 = true then 0 else 5
/-- Three cells of a block that may be written. -/
def Tri (w : World) (b : Nat) (r : Int) (z : E2) : Prop := w.heap[b]? = some (.cells #[.int .i64 r, .int .i64 z.1, .int .i64 z.2] 29 (0, 0))
theorem Tri.lt {w : World} {b : Nat} {r : Int} {z : E2} (h : Tri w b r z) : b < w.heap.size := (Array.getElem?_eq_some_iff.1 h).1
theorem Tri.turn {S : Nat → Prop} {w w' : World} {b : Nat} {r : Int} {z : E2} (h : Tri w b r z) (ht : Turn S w w') (hs : ¬ S b) : Tri w' b r z := (ht.2.2.2.2 b h.lt hs).trans h
theorem Tri.later {w w' : World} {b : Nat} {r : Int} {z : E2} (h : Tri w b r z) (hb : Below w.heap.size w w') : Tri w' b r z := (hb.block b h.lt).trans h
theorem Tri.cells {w : World} {b : Nat} {r : Int} {z : E2} (h : Tri w b r z) : w.cell? ⟨b, 0, none⟩ = some (.int .i64 r) ∧ w.cell? ⟨b, 1, none⟩ = some (.int .i64 z.1) ∧ w.cell? ⟨b, 2, none⟩ = some (.int .i64 z.2) ∧ w.frozen? ⟨b, 0, none⟩ = false ∧ w.frozen? ⟨b, 1, none⟩ = false ∧ w.frozen? ⟨b, 2, none⟩ = false ∧ b < w.heap.size :=
  ⟨cell_of_row _ _ 0 _ _ _ h, cell_of_row _ _ 1 _ _ _ h, cell_of_row _ _ 2 _ _ _ h, frozen_of_row _ _ _ _ _ h, frozen_of_row _ _ _ _ _ h, frozen_of_row _ _ _ _ _ h, h.lt⟩
theorem Tri.put {w : World} {b : Nat} {r : Int} {z : E2} (h : Tri w b r z) (s : Int) (y : E2) : Tri (((w.setCell ⟨b, 0, none⟩ (.int .i64 s)).setCell ⟨b, 1, none⟩ (.int .i64 y.1)).setCell ⟨b, 2, none⟩ (.int .i64 y.2)) b s y ∧ Turn (fun q => q = b) w (((w.setCell ⟨b, 0, none⟩ (.int .i64 s)).setCell ⟨b, 1, none⟩ (.int .i64 y.1)).setCell ⟨b, 2, none⟩ (.int .i64 y.2)) := by
  refine ⟨?_, (((Turn.refl (fun q => q = b) w).setCell (a := ⟨b, 0, none⟩) rfl _).setCell (a := ⟨b, 1, none⟩) rfl _).setCell (a := ⟨b, 2, none⟩) rfl _⟩
  unfold Tri at h ⊢
  rw [Sort.setCell_eq, Sort.setCell_eq, Sort.setCell_eq]
  simp [Sort.mapBlock, Array.getElem?_modify, h, Sort.onCells]
theorem Wd.Hex.sm {h : Int} {z : E2} (hz : Hex h z) : Sm h z := ⟨hz.1, hz.2.1, hz.2.2.1, hz.2.2.2.1⟩
theorem Sm.mono {h h' : Int} {z : E2} (hz : Sm h z) (hh : h ≤ h') : Sm h' z := by unfold Sm at *; omega
theorem head_val (w0 : Nat) (hw : w0 < 18446744073709551616) :
    bits .and .u64 ((w0 : Int) / 72057594037927936) 15 = ((rW w0 : Nat) : Int) ∧ bits .and .u64 ((w0 : Int) / 70368744177664) 1023 = ((w0 / 70368744177664 % 1024 : Nat) : Int) ∧ bits .and .u64 ((w0 : Int) / 68719476736) 1023 = ((w0 / 68719476736 % 1024 : Nat) : Int) := by
  refine ⟨?_, ?_, ?_⟩
  · rw [show ((w0 : Int) / 72057594037927936) = ((w0 / 72057594037927936 : Nat) : Int) by omega, show (15 : Int) = ((15 : Nat) : Int) by rfl, bits_and_u64_nat _ _ (by omega) (by decide), nat_mask4]; rfl
  · rw [show ((w0 : Int) / 70368744177664) = ((w0 / 70368744177664 : Nat) : Int) by omega, show (1023 : Int) = ((1023 : Nat) : Int) by rfl, bits_and_u64_nat _ _ (by omega) (by decide), show w0 / 70368744177664 &&& 1023 = w0 / 70368744177664 % 1024 from Nat.and_two_pow_sub_one_eq_mod _ 10]
  · rw [show ((w0 : Int) / 68719476736) = ((w0 / 68719476736 : Nat) : Int) by omega, show (1023 : Int) = ((1023 : Nat) : Int) by rfl, bits_and_u64_nat _ _ (by omega) (by decide), show w0 / 68719476736 &&& 1023 = w0 / 68719476736 % 1024 from Nat.and_two_pow_sub_one_eq_mod _ 10]
/-- A unit added. -/
def Calls1 (d : Nat) (m : E2) : Prop := ∀ w : World, Calls Try.prog 64 #[vE m, vE (leftE (d + 1))] w fun e w' => e = .returned (.tuple #[vE (addE m (leftE (d + 1))), .bool true]) ∧ Below w.heap.size w w'
set_option maxRecDepth 100000 in
set_option maxHeartbeats 8000000 in
theorem cell_any (w0 : Nat) (hw : w0 < 18446744073709551616) (w : World) :
    Calls Try.prog 37 #[.int .u64 w0] w fun e w' => e = .returned (.tuple #[vC (cvR w0) (cvZ w0), .int .i64 (cvE w0)]) ∧ Below w.heap.size w w' := by
  obtain ⟨v1, v2, v3⟩ := head_val w0 hw
  obtain ⟨R, hR⟩ : ∃ R, rW w0 = R := ⟨_, rfl⟩
  obtain ⟨A, hA⟩ : ∃ A, w0 / 70368744177664 % 1024 = A := ⟨_, rfl⟩
  obtain ⟨B, hB⟩ : ∃ A, w0 / 68719476736 % 1024 = A := ⟨_, rfl⟩
  have hA1 : A < 1024 := by omega
  have hB1 : B < 1024 := by omega
  have HBW : Hid (bW w0 = ((A : Int) - 512, (B : Int) - 512)) := by show _ = _; unfold bW; rw [hA, hB]
  have HIS : Hid (isW w0 = (decide (w0 / 1152921504606846976 = 1) && decide (R ≤ 12) && okD (dgW w0) R 12)) := by show _ = _; rw [← hR]; rfl
  have hr16 : R < 16 := by rw [← hR]; exact Nat.mod_lt _ (by decide)
  have HYES : Hid (isW w0 = true → cvR w0 = (R : Int) ∧ cvZ w0 = dn (dgW w0) ((A : Int) - 512, (B : Int) - 512) R ∧ cvE w0 = 0) := fun h => by
    unfold cvR cvZ cvE zW
    simp only [h, if_pos]
    rw [hR, HBW.out]
    exact ⟨rfl, rfl, trivial⟩
  have HNO : Hid (isW w0 = false → cvR w0 = 0 ∧ cvZ w0 = (0, 0) ∧ cvE w0 = 5) := fun h => by
    unfold cvR cvZ cvE
    simp only [h, Bool.false_eq_true, if_false]
    exact ⟨trivial, trivial, trivial⟩
  rw [hR] at v1
  rw [hA] at v2
  rw [hB] at v3
  clear hR hA hB
  have hbad : isW w0 = false → Hid (∀ w', Below w.heap.size w w' → ((Ending.returned (.tuple #[.agg #[.int .i64 0, .int .i64 0, .int .i64 0], .int .i64 5]) : Ending) = .returned (.tuple #[vC (cvR w0) (cvZ w0), .int .i64 (cvE w0)]) ∧ Below w.heap.size w w')) := fun h w' hb => by
    obtain ⟨e1, e2, e3⟩ := HNO.out h
    exact ⟨by rw [e1, e2, e3], hb⟩
  by_cases h0 : w0 / 1152921504606846976 = 1
  · have q1 : ((w0 : Int) / 1152921504606846976 != 1) = false := by simp; omega
    by_cases h12 : R ≤ 12
    · have q2 : decide (12 < (R : Int)) = false := decide_eq_false (by omega)
      go_enter Try.func37, Try.ntmps37
      go_wp2
      have T0 : Hid (Tri ((w.alloc (.cells #[.int .i64 0, .int .i64 0, .int .i64 0] 29)).alloc (.cells #[.int .i64 0, .int .i64 ((A : Int) - 512), .int .i64 ((B : Int) - 512)] 29)) w.heap.size 0 (0, 0)) := by
        show _ = _
        rw [Below.heap_alloc _ _ _ (by simp)]
        exact heap_new _ _ _ rfl
      have C0 : Hid (Tri ((w.alloc (.cells #[.int .i64 0, .int .i64 0, .int .i64 0] 29)).alloc (.cells #[.int .i64 0, .int .i64 ((A : Int) - 512), .int .i64 ((B : Int) - 512)] 29)) (w.heap.size + 1) 0 ((A : Int) - 512, (B : Int) - 512)) := heap_new _ _ _ (by simp)
      have HB0 : Hid (Below w.heap.size w ((w.alloc (.cells #[.int .i64 0, .int .i64 0, .int .i64 0] 29)).alloc (.cells #[.int .i64 0, .int .i64 ((A : Int) - 512), .int .i64 ((B : Int) - 512)] 29))) := ((Below.refl _ _).alloc (Nat.le_refl _) _).alloc (by simp) _
      have k2 : ((w.alloc (.cells #[.int .i64 0, .int .i64 0, .int .i64 0] 29)).alloc (.cells #[.int .i64 0, .int .i64 ((A : Int) - 512), .int .i64 ((B : Int) - 512)] 29)).heap.size = w.heap.size + 2 := by simp
      generalize (w.alloc (.cells #[.int .i64 0, .int .i64 0, .int .i64 0] 29)).alloc (.cells #[.int .i64 0, .int .i64 ((A : Int) - 512), .int .i64 ((B : Int) - 512)] 29) = w2 at *
      have HBB : Hid (baseB ((A : Int) - 512, (B : Int) - 512) = true) := by show _ = _; rw [baseB_iff]; simp only; omega
      have HOK : Hid (isW w0 = okD (dgW w0) R 12) := by show _ = _; rw [HIS.out, decide_eq_true h0, decide_eq_true h12]; rfl
      have HD8 := Lib.hid (dgW_lt w0)
      have HDO := Lib.hid (fun k (h1 : 1 ≤ k) (h2 : k ≤ 12) => digitOf_any w0 k h1 h2 hw)
      generalize ((A : Int) - 512, (B : Int) - 512) = b at *
      clear v1 v2 v3 hA1 hB1 HBW HIS q1 q2 h0
      obtain ⟨D, hD⟩ : ∃ D, dgW w0 = D := ⟨_, rfl⟩
      rw [hD] at HYES HOK HD8
      simp only [hD] at HDO
      clear hD
      go_loopw [6] (fun i wr => ∃ k : Nat, k ≤ 12 ∧ i = .int .i64 (k + 1 : Nat) ∧ okD D R k = true ∧ Hid (Tri wr (w.heap.size + 1) ((min k R : Nat) : Int) (dn D b (min k R)) ∧ Turn (fun q => q = w.heap.size + 1) w2 wr)) (fun i _ => 13 - (intOf i).toNat)
      case atStart => exact ⟨0, by omega, rfl, rfl, by rw [Nat.zero_min]; exact C0.out, Turn.refl _ _⟩
      case round =>
        obtain ⟨k, hk, rfl, hok, HI⟩ := hrel
        have hTri := HI.out.1
        have hturn := HI.out.2
        have hsz := hturn.2.2.2.1
        have HT := Lib.hid (T0.out.turn hturn (by omega))
        have HBR : Hid (Below w.heap.size w wr) := HB0.out.trans (hturn.below (by omega) fun q hq e => by omega)
        have HTU := Lib.hid hturn
        have HTR := Lib.hid hTri
        clear hTri hturn HI
        by_cases hk12 : k < 12
        · have hd8 := HD8.out (k + 1)
          have HDK := Lib.hid (HDO.out (k + 1) (by omega) (by omega))
          have HST : Hid (okD D R (k + 1) = (okD D R k && ((D (k + 1) == 7) == decide (R < k + 1)))) := rfl
          have HDN : Hid (dn D b (k + 1) = downE (dn D b k) (D (k + 1))) := rfl
          have q1 : decide (((k + 1 : Nat) : Int) ≤ 12) = true := decide_eq_true (by omega)
          obtain ⟨d, hd⟩ : ∃ d, D (k + 1) = d := ⟨_, rfl⟩
          rw [hd] at hd8 HDK HST HDN
          clear hd
          by_cases hd7 : d = 7
          · by_cases hkr : R < k + 1
            · have q2 : decide ((R : Int) < ((k + 1 : Nat) : Int)) = true := decide_eq_true (by omega)
              have q2' : decide ((R : Int) < (k : Int) + 1) = true := decide_eq_true (by omega)
              have HN : okD D R (k + 1) = true := by rw [HST.out, hok, hd7, decide_eq_true hkr]; rfl
              have HM : Hid (Tri wr (w.heap.size + 1) ((min (k + 1) R : Nat) : Int) (dn D b (min (k + 1) R))) := by
                have := HTR.out
                rw [show min k R = min (k + 1) R by omega] at this
                exact this
              subst hd7
              go_wp2_with fail
              refine (HDK.out _).mono ?_
              rintro e w4 ⟨rfl, rfl⟩
              go_wp2
              go_roundw
              case rel => exact ⟨k + 1, by omega, by go_num, HN, HM.out, HTU.out⟩
              case measure => simp [intOf]; omega
            · have q2 : decide ((R : Int) < ((k + 1 : Nat) : Int)) = false := decide_eq_false (by omega)
              have q2' : decide ((R : Int) < (k : Int) + 1) = false := decide_eq_false (by omega)
              have HF := hbad (by rw [HOK.out]; exact okD_stop (k := k + 1) (by rw [HST.out, hok, hd7, decide_eq_false hkr]; rfl) (by omega))
              subst hd7
              obtain ⟨t0, t1, t2, t3, t4, t5, t6⟩ := HT.out.cells
              go_wp2_with fail
              refine (HDK.out _).mono ?_
              rintro e w4 ⟨rfl, rfl⟩
              go_wp2
              exact bodyPost_ret (v := .tuple #[.agg #[.int .i64 0, .int .i64 0, .int .i64 0], .int .i64 5]) (by simp [results, Try.results37, go_sem, *]) rfl (HF.out _ (((HBR.out.setCell (p := ⟨w.heap.size, 0, none⟩) (Nat.le_refl _) _).setCell (p := ⟨w.heap.size, 1, none⟩) (Nat.le_refl _) _).setCell (p := ⟨w.heap.size, 2, none⟩) (Nat.le_refl _) _))
          · have q3 : ((d : Int) == 7) = false := by simp; omega
            by_cases hkr : R < k + 1
            · have q2 : decide ((R : Int) < ((k + 1 : Nat) : Int)) = true := decide_eq_true (by omega)
              have q2' : decide ((R : Int) < (k : Int) + 1) = true := decide_eq_true (by omega)
              have HF := hbad (by rw [HOK.out]; exact okD_stop (k := k + 1) (by rw [HST.out, hok, decide_eq_true hkr, beq_eq_false_iff_ne.2 hd7]; rfl) (by omega))
              obtain ⟨t0, t1, t2, t3, t4, t5, t6⟩ := HT.out.cells
              go_wp2_with fail
              refine (HDK.out _).mono ?_
              rintro e w4 ⟨rfl, rfl⟩
              go_wp2
              exact bodyPost_ret (v := .tuple #[.agg #[.int .i64 0, .int .i64 0, .int .i64 0], .int .i64 5]) (by simp [results, Try.results37, go_sem, *]) rfl (HF.out _ (((HBR.out.setCell (p := ⟨w.heap.size, 0, none⟩) (Nat.le_refl _) _).setCell (p := ⟨w.heap.size, 1, none⟩) (Nat.le_refl _) _).setCell (p := ⟨w.heap.size, 2, none⟩) (Nat.le_refl _) _))
            · have q2 : decide ((R : Int) < ((k + 1 : Nat) : Int)) = false := decide_eq_false (by omega)
              have q2' : decide ((R : Int) < (k : Int) + 1) = false := decide_eq_false (by omega)
              have HN : okD D R (k + 1) = true := by rw [HST.out, hok, decide_eq_false hkr, beq_eq_false_iff_ne.2 hd7]; rfl
              have hmk : min k R = k := by omega
              have hmk2 : min (k + 1) R = k + 1 := by omega
              rw [hmk] at HTR
              have hdig : ∀ j, 0 < j → j ≤ k → D j < 7 := fun j h1 h2 => by
                have h3 := (okD_iff D R k).1 hok j h1 h2
                have := HD8.out j
                omega
              have hhx := (dn_hex HBB.out hdig (Nat.le_refl k)).mono (hexH_le hk)
              have HMU := Lib.hid (mul_e (dn D b k) (2, 1) (hhx.sm.mono (by decide)) (by unfold Sm; simp) (by unfold Hex at hhx; unfold Sm mulE; simp only; omega))
              have HAD : Hid (∀ d', Calls1 d' (mulE (dn D b k) (2, 1))) := fun d' w => add_in _ _ (by unfold Hex at hhx; unfold Sm mulE; simp only; omega) ((left_sm (d' + 1)).mono (by decide)) w
              obtain ⟨x, hx⟩ : ∃ x, dn D b k = x := ⟨_, rfl⟩
              rw [hx] at HMU HAD HTR HDN
              have HDE : Hid (dn D b (k + 1) = addE (mulE x (2, 1)) (leftE d)) := HDN.out
              generalize mulE x (2, 1) = m at *
              simp only [vE] at HMU
              obtain ⟨c0, c1, c2, c3, c4, c5, c6⟩ := HTR.out.cells
              clear hhx hdig hx hmk HDN HST hbad HNO HBB HD8
              go_wp2_with fail
              refine (HDK.out _).mono ?_
              rintro e w4 ⟨rfl, rfl⟩
              go_wp2_with fail
              refine (HMU.out _).mono ?_
              rintro e w5 ⟨rfl, hb5⟩
              have hz5 := hb5.size
              have hal : Below w5.heap.size w5 (w5.alloc (.cells #[.int .i64 m.1, .int .i64 m.2] 27)) := (Below.refl _ _).alloc (Nat.le_refl _) _
              have k1 := World.size_alloc w5 (.cells #[.int .i64 m.1, .int .i64 m.2] 27)
              have M0 : Hid (Two2 (w5.alloc (.cells #[.int .i64 m.1, .int .i64 m.2] 27)) w5.heap.size (.int .i64 m.1) (.int .i64 m.2)) := Two2.of_row (t := 27) (heap_new _ _ _ rfl)
              have HTR2 := Lib.hid ((HTR.out.later hb5).later hal)
              have HT2 := Lib.hid ((HT.out.later hb5).later hal)
              have HTU2 : Hid (Turn (fun q => q = w.heap.size + 1) w2 (w5.alloc (.cells #[.int .i64 m.1, .int .i64 m.2] 27))) := (HTU.out.trans (Turn.of_below hb5) fun _ _ h => h).trans (Turn.of_below hal) fun _ _ h => h
              clear hal hb5 c0 c1 c2 c3 c4 c5 c6 HTR HT HTU HMU HBR
              go_upto_region 13 with (fail)
              generalize w5.alloc (.cells #[.int .i64 m.1, .int .i64 m.2] 27) = w6 at *
              cases d with
              | zero =>
                have HDZ : Hid (dn D b (k + 1) = m) := by show _ = _; rw [HDE.out]; show (m.1 + 0, m.2 + 0) = m; simp
                obtain ⟨⟨m0, m1⟩, m2, m3⟩ := M0.out
                have hput := (HTR2.out).put ((k + 1 : Nat) : Int) m
                have HF : Hid (Tri (((w6.setCell ⟨w.heap.size + 1, 0, none⟩ (.int .i64 ((k + 1 : Nat) : Int))).setCell ⟨w.heap.size + 1, 1, none⟩ (.int .i64 m.1)).setCell ⟨w.heap.size + 1, 2, none⟩ (.int .i64 m.2)) (w.heap.size + 1) ((min (k + 1) R : Nat) : Int) (dn D b (min (k + 1) R)) ∧ Turn (fun q => q = w.heap.size + 1) w2 (((w6.setCell ⟨w.heap.size + 1, 0, none⟩ (.int .i64 ((k + 1 : Nat) : Int))).setCell ⟨w.heap.size + 1, 1, none⟩ (.int .i64 m.1)).setCell ⟨w.heap.size + 1, 2, none⟩ (.int .i64 m.2))) := ⟨by rw [hmk2, HDZ.out]; exact hput.1, (HTU2.out).trans hput.2 fun _ _ h => h⟩
                obtain ⟨c0, c1, c2, c3, c4, c5, c6⟩ := (HTR2.out).cells
                clear hput
                clear HAD
                go_wp2
                go_roundw
                case rel => exact ⟨k + 1, by omega, by go_num, HN, HF.out⟩
                case measure => simp [intOf]; omega
              | succ d =>
                have HDZ : Hid (dn D b (k + 1) = addE m (leftE (d + 1))) := HDE.out
                have HUN := Lib.hid (unit_in d (by omega))
                have HAX := Lib.hid (HAD.out d)
                unfold Calls1 at HAX
                have hle : leftE (d + 1) = unitE d := rfl
                rw [hle] at HAX HDZ
                have HMC : Hid (∀ wx, Below w6.heap.size w6 wx → Two2 wx w5.heap.size (.int .i64 m.1) (.int .i64 m.2)) := fun wx hx => M0.out.later (by omega) hx
                simp only [vE] at HUN HAX
                generalize unitE d = u at *
                obtain ⟨y, hy⟩ : ∃ y, addE m u = y := ⟨_, rfl⟩
                rw [hy] at HAX HDZ
                have q5 : IntKind.i64.wrap ((d : Int) + 1) = (d : Int) + 1 := wrap_in (by omega) (by omega)
                clear hy hle HAD M0
                obtain ⟨gb, hgb⟩ : ∃ gb, w5.heap.size = gb := ⟨_, rfl⟩
                rw [hgb] at HMC k1 ⊢
                have hsz5 : w2.heap.size ≤ gb := by rw [← hgb]; omega
                clear hgb hz5
                have hne1 : ¬ gb = w.heap.size + 1 := by omega
                have hne2 : ¬ w.heap.size + 1 = gb := by omega
                have HFIN : Hid (∀ w8, Below w6.heap.size w6 w8 → (Two2 w8 gb (.int .i64 m.1) (.int .i64 m.2) ∧ Tri w8 (w.heap.size + 1) k x ∧ gb < w8.heap.size) ∧ Tri (((((w8.setCell ⟨gb, 0, none⟩ (.int .i64 y.1)).setCell ⟨gb, 1, none⟩ (.int .i64 y.2)).setCell ⟨w.heap.size + 1, 0, none⟩ (.int .i64 ((k + 1 : Nat) : Int))).setCell ⟨w.heap.size + 1, 1, none⟩ (.int .i64 y.1)).setCell ⟨w.heap.size + 1, 2, none⟩ (.int .i64 y.2)) (w.heap.size + 1) ((min (k + 1) R : Nat) : Int) (dn D b (min (k + 1) R)) ∧ Turn (fun q => q = w.heap.size + 1) w2 (((((w8.setCell ⟨gb, 0, none⟩ (.int .i64 y.1)).setCell ⟨gb, 1, none⟩ (.int .i64 y.2)).setCell ⟨w.heap.size + 1, 0, none⟩ (.int .i64 ((k + 1 : Nat) : Int))).setCell ⟨w.heap.size + 1, 1, none⟩ (.int .i64 y.1)).setCell ⟨w.heap.size + 1, 2, none⟩ (.int .i64 y.2))) := fun w8 hb8 => by
                  have h1 := HMC.out w8 hb8
                  have h2 := HTR2.out.later hb8
                  have hs8 := hb8.size
                  have hp1 := h1.put (.int .i64 y.1) (.int .i64 y.2)
                  have hp2 := (h2.turn hp1.2 hne2).put ((k + 1 : Nat) : Int) y
                  refine ⟨⟨h1, h2, by omega⟩, by rw [hmk2, HDZ.out]; exact hp2.1, ?_⟩
                  have t1 : Turn (fun q => q = w.heap.size + 1) w2 w8 := HTU2.out.trans (Turn.of_below hb8) fun _ _ h => h
                  exact (t1.trans hp1.2 fun q hq e => by omega).trans hp2.2 fun _ _ h => h
                have HB6 : Hid (Below w6.heap.size w6 w6) := Below.refl _ _
                obtain ⟨⟨⟨⟨a0, a1⟩, a2, a3⟩, b0, b1⟩, -, -⟩ := HFIN.out w6 HB6.out
                obtain ⟨c0, c1, c2, c3, c4, c5, c6⟩ := b0.cells
                clear b0 HMC HTR2 HTU2
                go_upto_region 14 with (fail)
                refine wp_region_part 7 3 #[true, true, true, true, true, true, true, false, false, false] (fun w w' => Below w.heap.size w w') (fun qi_ qv_ _ => qv_ = ([.agg #[.int .i64 m.1, .int .i64 m.2], .int .u64 ((d : Int) + 1), .int .i64 ((d : Int) + 1), .int .i64 (d : Int), .agg #[.int .i64 u.1, .int .i64 u.2], .tuple #[.agg #[.int .i64 y.1, .int .i64 y.2], .bool true], .tuple #[.agg #[.int .i64 y.1, .int .i64 y.2], .bool true]] : List Value).getD qi_ undef) rfl rfl (by kernel_rfl) (by kernel_rfl) (by kernel_rfl) (fun _ => Below.refl _ _) (fun _ _ _ h1 h2 => below_later h1 h1.size h2) (fun _ _ _ _ _ _ h => h) ?_
                simp only [List.take_succ_cons, List.take_zero]
                refine inv_cons (fun wx hg hd => ?_) (fun v0 => ?_)
                · have hx := ((Below.refl w6.heap.size w6).drew).trans hg
                  clear hd hg
                  obtain ⟨⟨⟨⟨n0, n1⟩, n2, n3⟩, o0, o1⟩, -, -⟩ := HFIN.out wx hx
                  clear o0
                  go_wp2
                  exact ⟨_, rfl, Below.refl _ _, rfl⟩
                (try simp only [List.nil_append, Act.put, List.setIfInBounds_toArray, List.set_cons_zero, List.set_cons_succ])
                refine inv_cons (fun wx hg hd => ?_) (fun v1 => ?_)
                · have hx := ((Below.refl w6.heap.size w6).drew).trans hg
                  clear hd hg
                  go_wp2
                  exact ⟨_, rfl, Below.refl _ _, rfl⟩
                (try simp only [List.cons_append, List.nil_append, Act.put, List.setIfInBounds_toArray, List.set_cons_zero, List.set_cons_succ])
                refine inv_cons (fun wx hg hd => ?_) (fun v2 => ?_)
                · have hx := ((Below.refl w6.heap.size w6).drew).trans hg
                  (try (have ee : v1 = (.int .u64 ((d : Int) + 1) : Value) := hd 1 (by simp) (by decide); subst ee))
                  clear hd hg
                  go_wp2
                  exact ⟨_, rfl, Below.refl _ _, rfl⟩
                (try simp only [List.cons_append, List.nil_append, Act.put, List.setIfInBounds_toArray, List.set_cons_zero, List.set_cons_succ])
                refine inv_cons (fun wx hg hd => ?_) (fun v3 => ?_)
                · have hx := ((Below.refl w6.heap.size w6).drew).trans hg
                  (try (have ee : v2 = (.int .i64 ((d : Int) + 1) : Value) := hd 2 (by simp) (by decide); subst ee))
                  clear hd hg
                  go_wp2
                  exact ⟨_, rfl, Below.refl _ _, rfl⟩
                (try simp only [List.cons_append, List.nil_append, Act.put, List.setIfInBounds_toArray, List.set_cons_zero, List.set_cons_succ])
                refine inv_cons (fun wx hg hd => ?_) (fun v4 => ?_)
                · have hx := ((Below.refl w6.heap.size w6).drew).trans hg
                  (try (have ee : v3 = (.int .i64 (d : Int) : Value) := hd 3 (by simp) (by decide); subst ee))
                  clear hd hg
                  go_wp2_with fail
                  refine (HUN.out _).mono ?_
                  rintro e w7 ⟨rfl, hb7⟩
                  go_wp2
                  exact ⟨_, rfl, hb7, rfl⟩
                (try simp only [List.cons_append, List.nil_append, Act.put, List.setIfInBounds_toArray, List.set_cons_zero, List.set_cons_succ])
                refine inv_cons (fun wx hg hd => ?_) (fun v5 => ?_)
                · have hx := ((Below.refl w6.heap.size w6).drew).trans hg
                  (try (have ee : v0 = (.agg #[.int .i64 m.1, .int .i64 m.2] : Value) := hd 0 (by simp) (by decide); subst ee))
                  (try (have ee : v4 = (.agg #[.int .i64 u.1, .int .i64 u.2] : Value) := hd 4 (by simp) (by decide); subst ee))
                  clear hd hg
                  go_wp2_with fail
                  refine (HAX.out _).mono ?_
                  rintro e w7 ⟨rfl, hb7⟩
                  go_wp2
                  exact ⟨_, rfl, hb7, rfl⟩
                (try simp only [List.cons_append, List.nil_append, Act.put, List.setIfInBounds_toArray, List.set_cons_zero, List.set_cons_succ])
                refine inv_cons (fun wx hg hd => ?_) (fun v6 => ?_)
                · have hx := ((Below.refl w6.heap.size w6).drew).trans hg
                  (try (have ee : v5 = (.tuple #[.agg #[.int .i64 y.1, .int .i64 y.2], .bool true] : Value) := hd 5 (by simp) (by decide); subst ee))
                  clear hd hg
                  go_wp2
                  exact ⟨_, rfl, Below.refl _ _, rfl⟩
                (try simp only [List.cons_append, List.nil_append, Act.put, List.setIfInBounds_toArray, List.set_cons_zero, List.set_cons_succ])
                refine inv_done (fun wx hg hd => ?_)
                have hx := ((Below.refl w6.heap.size w6).drew).trans hg
                (have ee : v0 = (.agg #[.int .i64 m.1, .int .i64 m.2] : Value) := hd 0 (by simp); subst ee)
                (have ee : v1 = (.int .u64 ((d : Int) + 1) : Value) := hd 1 (by simp); subst ee)
                (have ee : v2 = (.int .i64 ((d : Int) + 1) : Value) := hd 2 (by simp); subst ee)
                (have ee : v3 = (.int .i64 (d : Int) : Value) := hd 3 (by simp); subst ee)
                (have ee : v4 = (.agg #[.int .i64 u.1, .int .i64 u.2] : Value) := hd 4 (by simp); subst ee)
                (have ee : v5 = (.tuple #[.agg #[.int .i64 y.1, .int .i64 y.2], .bool true] : Value) := hd 5 (by simp); subst ee)
                (have ee : v6 = (.tuple #[.agg #[.int .i64 y.1, .int .i64 y.2], .bool true] : Value) := hd 6 (by simp); subst ee)
                clear hd hg
                obtain ⟨⟨⟨⟨p0, p1⟩, p2, p3⟩, o2, o3⟩, f1, f2⟩ := HFIN.out wx hx
                obtain ⟨d0, d1, d2, d3, d4, d5, d6⟩ := o2.cells
                have HE1 := Lib.hid (And.intro f1 f2)
                clear o2 f1 f2 HFIN HAX HUN a0 a1 a2 a3 b1 c0 c1 c2 c3 c4 c5 c6
                refine wpAny_take (i := 7) (v := .agg #[.int .i64 y.1, .int .i64 y.2]) rfl (by kernel_rfl) (by kernel_rfl) (by kernel_rfl) (fun _ _ _ h => h) (Or.inl ⟨by rfl, ?_⟩) ?_
                · intro w
                  go_simp
                (try simp only [Act.put, List.setIfInBounds_toArray, List.set_cons_zero, List.set_cons_succ])
                refine wpAny_take (i := 8) (v := .bool true) rfl (by kernel_rfl) (by kernel_rfl) (by kernel_rfl) (fun _ _ _ h => h) (Or.inl ⟨by rfl, ?_⟩) ?_
                · intro w
                  go_simp
                (try simp only [Act.put, List.setIfInBounds_toArray, List.set_cons_zero, List.set_cons_succ])
                refine wpAny_ready (rs := [9]) (by kernel_rfl) (by simp) ?_
                refine AllReady.cons rfl (fun K hK => ?_) AllReady.nil
                go_simp
                refine hK _ _ ?_
                clear hK K
                refine wpAny_done (by kernel_rfl) ?_ _
                refine only_done ?_
                go_wp2
                go_roundw
                case rel => exact ⟨k + 1, by omega, by go_num, HN, HE1.out⟩
                case measure => simp [intOf]; omega
        · obtain rfl : k = 12 := by omega
          rw [Nat.min_eq_right h12] at HTR
          obtain ⟨y1, y2, y3⟩ := HYES.out (by rw [HOK.out]; exact hok)
          have HY : Hid (vC (cvR w0) (cvZ w0) = vC R (dn D b R) ∧ cvE w0 = 0) := ⟨by rw [y1, y2], y3⟩
          obtain ⟨c0, c1, c2, c3, c4, c5, c6⟩ := HTR.out.cells
          obtain ⟨t0, t1, t2, t3, t4, t5, t6⟩ := HT.out.cells
          generalize dn D b R = x at *
          clear y1 y2 y3 HTR HT HYES
          go_wp2
          exact bodyPost_ret (v := .tuple #[.agg #[.int .i64 R, .int .i64 x.1, .int .i64 x.2], .int .i64 0]) (by simp [results, Try.results37, go_sem, *]) rfl ⟨by rw [HY.out.1, HY.out.2], (((HBR.out.setCell (p := ⟨w.heap.size, 0, none⟩) (Nat.le_refl _) _).setCell (p := ⟨w.heap.size, 1, none⟩) (Nat.le_refl _) _).setCell (p := ⟨w.heap.size, 2, none⟩) (Nat.le_refl _) _)⟩
    · have HF := hbad (by rw [HIS.out, decide_eq_false h12]; simp)
      have q2 : decide (12 < (R : Int)) = true := decide_eq_true (by omega)
      clear h0
      go_enter Try.func37, Try.ntmps37
      go_wp2
      exact bodyPost_ret (v := .tuple #[.agg #[.int .i64 0, .int .i64 0, .int .i64 0], .int .i64 5]) (by simp [results, Try.results37, go_sem]) rfl (HF.out _ ((Below.refl _ _).alloc (Nat.le_refl _) _))
  · have HF := hbad (by rw [HIS.out, decide_eq_false h0]; rfl)
    have q1 : ((w0 : Int) / 1152921504606846976 != 1) = true := by simp; omega
    clear h0
    go_enter Try.func37, Try.ntmps37
    go_wp2
    exact bodyPost_ret (v := .tuple #[.agg #[.int .i64 0, .int .i64 0, .int .i64 0], .int .i64 5]) (by simp [results, Try.results37, go_sem]) rfl (HF.out _ ((Below.refl _ _).alloc (Nat.le_refl _) _))
end Go.Proofs.Ytkjfdaleamonaaa
