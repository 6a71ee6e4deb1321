/- The law NearDisks: its walk. A disk is its rings, each once; each of a ring is as near as it says. -/
import Derived.Test.YticbkdignmlfiaaNfP
import Derived.Test.YticbkdignmlfiaaNfJ
import Derived.BigQuiet
namespace Go.Proofs.Yticbkdignmlfiaa.nearDisks
open Go.RowKit Go.Lib Wd

set_option maxRecDepth 100000 in
set_option maxHeartbeats 4000000 in
theorem core (w : World) (a0 a1 a2 a3 : Int) : Calls Try.prog 9 #[.int .i64 a0, .int .i64 a1, .int .i64 a2, .int .i64 a3] w fun e w' => e = .returned (.bool true) ∧ Below w.heap.size w w' := by
  obtain ⟨Y, q1, hY⟩ : ∃ Y, bits BinOp.andNot IntKind.i64 a1 1 = Y ∧ Y % 2 = 0 := ⟨_, rfl, andNot_even a1⟩
  obtain ⟨A, q2, hA1, hA2⟩ : ∃ A, bits BinOp.and IntKind.i64 a3 255 = A ∧ 0 ≤ A ∧ A ≤ 255 := ⟨_, i64_and_mask a3 8 (by omega) 255 rfl, by omega, by omega⟩
  obtain ⟨K, q3, hK⟩ : ∃ K : Nat, A.tmod 10 = K ∧ K ≤ 9 := ⟨(A % 10).toNat, by rw [Int.tmod_eq_emod_of_nonneg hA1]; omega, by omega⟩
  have HLW := Lib.hid (lword_even a0 Y a2 hY)
  obtain ⟨R, hR, hR12⟩ : ∃ R : Nat, a2 % 13 = R ∧ R ≤ 12 := ⟨(a2 % 13).toNat, by omega, by omega⟩
  rw [hR, Int.toNat_natCast] at HLW
  have hall : ∀ y, stepsN (subE y (nearE (a0 % 1073741824) (Y % 1073741824) R)) ≤ 12 → okB R y = true := fun y hy => by
    have := near_ok (x := a0 % 1073741824) (y := Y % 1073741824) (by omega) (by omega) hR12 ((steps_hex _ _).2 hy)
    rw [show addE (nearE (a0 % 1073741824) (Y % 1073741824) R) (subE y (nearE (a0 % 1073741824) (Y % 1073741824) R)) = y by
      unfold addE subE
      refine Prod.ext ?_ ?_ <;> (simp only; omega)] at this
    exact this
  generalize nearE (a0 % 1073741824) (Y % 1073741824) R = z at *
  clear hY hR
  have hok : okB R z = true := hall z (by rw [(steps_zero z z).2 rfl]; decide)
  obtain ⟨b1, b2, b3⟩ := ofW_ok hok
  obtain ⟨k1, k2, k3⟩ := cv_ok hok
  have HCE := Lib.hid (rcell_any (ofW R z) b3)
  rw [k1, k2, k3] at HCE
  have HD := Lib.hid (disk_any (ofW R z) b3 (K : Int) (by omega))
  obtain ⟨e1, l1⟩ := rgs_word hok 0 (K + 1) (K : Int) 81 (by omega) (by omega) (by omega)
  rw [e1, l1] at HD
  obtain ⟨RL, hRL⟩ : ∃ RL : Nat → List Int, RL = fun i => srt (tellL R (allR z i 1)) := ⟨_, rfl⟩
  obtain ⟨NS, hNS⟩ : ∃ NS : Nat → Nat, NS = fun i => (allR z 0 i).length := ⟨_, rfl⟩
  have HRG : Hid (∀ i : Nat, i ≤ K → ∀ w, Calls Try.prog 19 #[.int .u64 (ofW R z : Nat), .int .i64 i] w (Told w (RL i) 0)) := fun i hi w => by
    have := rng_any (ofW R z) b3 (i : Int) (by omega) (by omega) w
    obtain ⟨e2, l2⟩ := rgs_word hok i 1 (i : Int) 3333 (by omega) (by omega) (by omega)
    rw [Int.toNat_natCast, e2, l2] at this
    rw [hRL]
    exact this
  have hmem : ∀ i, i ≤ K → ∀ v ∈ RL i, ∃ y, stepsN (subE y z) = i ∧ okB R y = true ∧ v = (ofW R y : Int) := fun i hi v hv => by
    rw [hRL] at hv
    obtain ⟨y, h1, h2, h3⟩ := tell_mem.1 ((srt_mem _ _).1 hv)
    rw [all_steps] at h1
    exact ⟨y, by omega, h2, by rw [(ofW_ok h2).1]; exact h3⟩
  have HDS : Hid (∀ i, i ≤ K → ∀ v ∈ RL i, ∀ w, Calls Try.prog 22 #[.int .u64 (ofW R z : Nat), .int .u64 v] w fun e w' => e = .returned (.tuple #[.int .i64 i, .int .i64 0]) ∧ Below w.heap.size w w') := fun i hi v hv w => by
    obtain ⟨y, h1, h2, rfl⟩ := hmem i hi v hv
    have := dist_any _ _ b3 (ofW_ok h2).2.2 w
    rw [(ds_ok hok h2).1, (ds_ok hok h2).2, steps_sym, h1] at this
    exact this
  obtain ⟨D, hD⟩ : ∃ D, srt (tellL R (allR z 0 (K + 1))) = D := ⟨_, rfl⟩
  have HIN : Hid (∀ i, i ≤ K → ∀ v ∈ RL i, hasF D v = true) := fun i hi v hv => by
    obtain ⟨y, h1, h2, rfl⟩ := hmem i hi v hv
    rw [hasF_iff, ← hD, srt_mem]
    exact tell_mem.2 ⟨y, by rw [all_steps]; omega, h2, by rw [(ofW_ok h2).1]⟩
  have hlen : ∀ i n, i + n ≤ K + 1 → (tellL R (allR z i n)).length = (allR z i n).length := fun i n h => tell_all fun y hy => hall y (by rw [all_steps] at hy; omega)
  have hrl : ∀ i, i ≤ K → (RL i).length = (ringL z i).length := fun i hi => by
    rw [hRL]
    show (srt (tellL R (allR z i 1))).length = _
    rw [srt_length, hlen i 1 (by omega)]
    rfl
  have HRLn : Hid (∀ i, i ≤ K → ((RL i).length : Int) = max (6 * (i : Int)) 1) := fun i hi => by
    rw [hrl i hi]
    unfold ringL
    split
    · subst i; rfl
    · rw [sidesP_length]; omega
  have HNS : Hid (NS 0 = 0 ∧ (∀ i, i ≤ K → NS (i + 1) = NS i + (RL i).length) ∧ NS (K + 1) = D.length ∧ ∀ i, i ≤ K + 1 → NS i ≤ 1000) := by
    refine ⟨by rw [hNS]; rfl, fun i hi => ?_, ?_, fun i hi => ?_⟩
    · rw [hrl i hi, hNS]
      show (allR z 0 i ++ ringL z (0 + i)).length = _
      rw [List.length_append, Nat.zero_add]
    · rw [hNS, ← hD, srt_length, hlen 0 (K + 1) (by omega)]
    · rw [hNS]
      have := allR_mono z 0 hi
      rw [disk_len] at this
      have h2 : 3 * K * (K + 1) + 1 ≤ 1000 := by
        rcases (show K = 0 ∨ K = 1 ∨ K = 2 ∨ K = 3 ∨ K = 4 ∨ K = 5 ∨ K = 6 ∨ K = 7 ∨ K = 8 ∨ K = 9 by omega) with rfl | rfl | rfl | rfl | rfl | rfl | rfl | rfl | rfl | rfl <;> omega
      show (allR z 0 i).length ≤ 1000
      omega
  have hup : Up D := by rw [← hD]; exact srt_up (tell_nodup (all_nodup _ _ _))
  have HUP : Hid (∀ j, 1 ≤ j → j < D.length → D.getD (j - 1) 0 < D.getD j 0) := fun j h1 h2 => up_lt hup (by omega) h2
  have HRI := Lib.hid hup.rising
  have HDL : Hid (D.length ≤ 1000) := by show _ ≤ _; rw [← HNS.out.2.2.1]; exact HNS.out.2.2.2 _ (Nat.le_refl _)
  rw [hD] at HD
  clear hRL hNS hD hmem hlen hrl hup hall hok b1 b2 b3 k1 k2 k3 e1 l1
  generalize ofW R z = W at *
  have HAW := Lib.hid awake_any
  simp only [vC] at *
  obtain ⟨inn, hinn⟩ : ∃ b, decide (1 < (R : Int)) = b := ⟨_, rfl⟩
  go_enter Try.func9, Try.ntmps9
  go_wp2_with fail
  refine (HLW.out _).mono ?_
  rintro e w1 ⟨rfl, hb1⟩
  have B1 := Lib.hid hb1
  clear hb1
  go_wp2_with fail
  refine (HD.out _).mono ?_
  rintro e w2 ⟨ao, c, rfl, h2, hb2⟩
  have B2 := Lib.hid (B1.out.trans (hb2.mono B1.out.size))
  have A2 := Lib.hid h2
  clear hb2 h2 B1
  obtain ⟨M, hM⟩ : ∃ M, D.length = M := ⟨_, rfl⟩
  have HM := Lib.hid hM
  rw [hM] at HNS HDL HUP
  have hM1 := HDL.out
  rw [hM]
  clear hM
  go_wp2_with fail
  refine (HCE.out _).mono ?_
  rintro e w3 ⟨rfl, hb3⟩
  have A3 := Lib.hid (A2.out.below hb3 (Nat.le_refl _))
  have B3 := Lib.hid (B2.out.trans (hb3.mono B2.out.size))
  have hz3 := hb3.size
  clear hb3 A2 B2
  have hal : Below w3.heap.size w3 (w3.alloc (.cells #[.int .i64 R, .int .i64 z.1, .int .i64 z.2] 29)) := (Below.refl _ _).alloc (Nat.le_refl _) _
  have A4 := Lib.hid (A3.out.below hal hz3)
  have B4 := Lib.hid (B3.out.trans (hal.mono B3.out.size))
  have T4 : Hid (Tri (w3.alloc (.cells #[.int .i64 R, .int .i64 z.1, .int .i64 z.2] 29)) w3.heap.size R z) := heap_new _ _ _ rfl
  have hz4 : w2.heap.size ≤ (w3.alloc (.cells #[.int .i64 R, .int .i64 z.1, .int .i64 z.2] 29)).heap.size := Nat.le_trans hz3 hal.size
  clear hal A3 B3
  go_upto_region 8 with (fail)
  generalize w3.alloc (.cells #[.int .i64 R, .int .i64 z.1, .int .i64 z.2] 29) = w4 at *
  obtain ⟨t0, t1, t2, t3, t4, t5, t6⟩ := T4.out.cells
  go_wp2
  clear t0 t1 t2 t3 t4 t5 T4
  obtain ⟨n0, n1, n2, n3⟩ := HNS.out
  have N1 := Lib.hid n1
  have N2 := Lib.hid n2
  have N3 := Lib.hid n3
  have N0 := Lib.hid n0
  clear n0 n1 n2 n3 HNS
  go_loopw [12, 16] (fun n i wr => ∃ k : Nat, k ≤ K + 1 ∧ i = .int .i64 k ∧ Hid (n = .int .i64 (NS k) ∧ Below w4.heap.size w4 wr)) (fun _ i _ => K + 1 - (intOf i).toNat)
  case atStart => exact ⟨0, by omega, rfl, by rw [N0.out]; rfl, Below.refl _ _⟩
  case round =>
    obtain ⟨i, hi, rfl, hn, hbi⟩ := hrel
    subst hn
    have HBI := Lib.hid hbi
    clear hbi
    by_cases hiK : i ≤ K
    · have HG := Lib.hid (HRG.out i hiK)
      have hl := HRLn.out i hiK
      have HDSi := Lib.hid (HDS.out i hiK)
      have HINi := Lib.hid (HIN.out i hiK)
      have hs := N1.out i hiK
      have hs3 := N3.out (i + 1) (by omega)
      generalize RL i = L at *
      have q8 : ((L.length : Int) != max (6 * (i : Int)) 1) = false := by simp [hl]
      obtain ⟨m, hm⟩ : ∃ m, L.length = m := ⟨_, rfl⟩
      have HL := Lib.hid hm
      rw [hm] at q8 hl hs
      have hm1000 : m ≤ 1000 := by omega
      have HS := Lib.hid hs
      have hs2 : NS i + m ≤ 1000 := by omega
      clear hm hl hs
      go_wp2_with fail
      refine (HG.out _).mono ?_
      rintro e w5 ⟨bo, d, rfl, h5, hb5⟩
      rw [HL.out]
      have HB5 := Lib.hid (HBI.out.trans (hb5.mono HBI.out.size))
      have A5 := Lib.hid h5
      clear hb5 h5 HBI
      cases inn <;>
      · go_wp2
        go_loopw [19] (fun j wr => ∃ k : Nat, k ≤ m ∧ j = .int .i64 k ∧ Hid (Below w5.heap.size w5 wr ∧ True)) (fun j _ => m - (intOf j).toNat)
        case atStart => exact ⟨0, by omega, rfl, Below.refl _ _, trivial⟩
        case round =>
          obtain ⟨j, hj, rfl, hbj, -⟩ := hrel
          have HBJ := Lib.hid hbj
          clear hbj
          by_cases hlt : j < m
          · obtain ⟨g, off, rfl, hg, hc⟩ := (A5.out.below HBJ.out (Nat.le_refl _)) (by rw [HL.out]; omega)
            have c0 := hc j (by rw [HL.out]; exact hlt)
            have hmx := getD_mem (l := L) (j := j) (by rw [HL.out]; exact hlt)
            have HX := Lib.hid (HDSi.out _ hmx)
            have HY := Lib.hid (HINi.out _ hmx)
            generalize L.getD j 0 = x at *
            clear hc hmx
            go_wp2_with fail
            refine (HX.out _).mono ?_
            rintro e w6 ⟨rfl, hb6⟩
            have hsz := HBJ.out.size
            have c1 := (hb6.cell (p := ⟨g, off + j, none⟩) (show g < _ by omega)).trans c0
            have HB6 := Lib.hid (HBJ.out.trans (hb6.mono HBJ.out.size))
            have hz6 := hb6.size
            have HHS := Lib.hid (rhas_any ao c D x w6 w6.heap.size (((A4.out.below (HB5.out.trans (HB6.out.mono HB5.out.size)) hz4).wider (by have := HB5.out.size; omega))) (by rw [HM.out]; omega) HRI.out)
            rw [HY.out, HM.out] at HHS
            clear hb6 c0 HBJ
            go_wp2_with fail
            refine HHS.out.mono ?_
            rintro e w7 ⟨rfl, rfl⟩
            go_wp2
            go_roundw
            case rel => exact ⟨j + 1, by omega, by go_num, HB6.out, trivial⟩
            case measure => simp [intOf]; omega
          · have hjm : m ≤ j := by omega
            have HBB := Lib.hid (HB5.out.trans (HBJ.out.mono HB5.out.size))
            go_wp2
            go_roundw
            case rel => exact ⟨i + 1, by omega, by go_num, by rw [HS.out]; go_num, HBB.out⟩
            case measure => simp [intOf]; omega
    · have hNi : NS i = M := by rw [show i = K + 1 by omega]; exact N2.out
      have hiK2 : K < i := by omega
      rw [hNi]
      have HBB := Lib.hid (B4.out.trans (HBI.out.mono B4.out.size))
      have A5 := Lib.hid ((A4.out.below HBI.out hz4).wider (show w2.heap.size ≤ wr.heap.size from Nat.le_trans hz4 HBI.out.size))
      clear hNi HBI A4 B4 HRG HDS HIN HRLn HLW HCE HD N0 N1 N2 N3
      obtain ⟨w5, rfl⟩ : ∃ w5, w5 = wr := ⟨_, rfl⟩
      go_wp2
      go_loopw [22] (fun j wr => ∃ k : Nat, 1 ≤ k ∧ k ≤ M + 1 ∧ j = .int .i64 k ∧ Hid (Below w5.heap.size w5 wr ∧ True)) (fun j _ => M + 1 - (intOf j).toNat)
      case atStart => exact ⟨1, by omega, by omega, rfl, Below.refl _ _, trivial⟩
      case round =>
        obtain ⟨j, hj1, hj, rfl, hbj, -⟩ := hrel
        have HBJ := Lib.hid hbj
        clear hbj
        by_cases hlt : j < M
        · obtain ⟨g, off, rfl, hg, hc⟩ := (A5.out.below HBJ.out (Nat.le_refl _)) (by rw [HM.out]; omega)
          have c0 := hc (j - 1) (by rw [HM.out]; omega)
          have c1 := hc j (by rw [HM.out]; exact hlt)
          have hl := HUP.out j hj1 hlt
          generalize D.getD (j - 1) 0 = x at *
          generalize D.getD j 0 = y at *
          have q9 : decide (y ≤ x) = false := decide_eq_false (by omega)
          obtain ⟨i1, rfl⟩ : ∃ i1, j = i1 + 1 := ⟨j - 1, by omega⟩
          rw [show i1 + 1 - 1 = i1 by omega] at c0
          have hgs : g < wr.heap.size := Nat.lt_of_lt_of_le hg HBJ.out.size
          have q10 : IntKind.i64.wrap ((i1 : Int) + 1 - 1) = i1 := by rw [show (i1 : Int) + 1 - 1 = i1 by omega]; exact wrap_in (by omega) (by omega)
          clear hc hl
          go_upto_region 25 with (fail)
          go_quiet (fail)
          go_wp2
          go_roundw
          case rel => exact ⟨i1 + 1 + 1, by omega, by omega, by go_num, below_drewN HBJ.out _, trivial⟩
          case measure => simp [intOf]; omega
        · have hjM : M ≤ j := by omega
          have HB8 := Lib.hid (HBB.out.trans (HBJ.out.mono HBB.out.size))
          go_wp2_with fail
          refine (HAW.out _).mono ?_
          rintro e w8 ⟨rfl, hb8⟩
          have HF := Lib.hid (HB8.out.trans (hb8.mono HB8.out.size))
          clear hb8
          go_wp2
          go_ret
          exact ⟨rfl, HF.out⟩
theorem walk {w : World} (a0 : Int) (_w0 : (Lit.int .i64 a0).wf = true) (a1 : Int) (_w1 : (Lit.int .i64 a1).wf = true) (a2 : Int) (_w2 : (Lit.int .i64 a2).wf = true) (a3 : Int) (_w3 : (Lit.int .i64 a3).wf = true) :
    Calls Try.prog 9 #[.int .i64 a0, .int .i64 a1, .int .i64 a2, .int .i64 a3] w fun e w' => e = .returned (.bool true) ∧ Below w.heap.size w w' := core w a0 a1 a2 a3
end Go.Proofs.Yticbkdignmlfiaa.nearDisks
