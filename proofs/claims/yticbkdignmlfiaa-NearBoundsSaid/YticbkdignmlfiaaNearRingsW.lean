/- The law NearRings: its walk. A neighbour's disk lies within the disk of one more. -/
import Derived.Test.YticbkdignmlfiaaNfF
import Derived.Test.YticbkdignmlfiaaNfI
import Derived.Test.YticbkdignmlfiaaNfJ
namespace Go.Proofs.Yticbkdignmlfiaa.nearRings
open Go.RowKit Go.Lib Wd

theorem andNot_even (y : Int) : bits .andNot .i64 y 1 % 2 = 0 := by
  show IntKind.i64.wrap ((BitVec.ofInt 64 y &&& ~~~BitVec.ofInt 64 1).toNat : Int) % 2 = 0
  have h : (BitVec.ofInt 64 y &&& ~~~BitVec.ofInt 64 1).toNat % 2 = 0 := by
    rw [BitVec.toNat_and]
    have := Nat.and_mod_two_pow (a := (BitVec.ofInt 64 y).toNat) (b := (~~~BitVec.ofInt 64 1).toNat) (n := 1)
    rw [Nat.pow_one] at this
    rw [this, show (~~~BitVec.ofInt 64 1 : BitVec 64).toNat % 2 = 0 by decide, Nat.and_zero]
  rw [IntKind.wrap_i64]
  omega
theorem nei_all {r : Nat} {z : E2} (hall : ∀ y, Hex 12 (subE y z) → okB r y = true) :
    (srt (tellL r (allR z 1 1))).length = 6 ∧ ∀ v ∈ srt (tellL r (allR z 1 1)), ∃ y, okB r y = true ∧ v = (ofW r y : Int) ∧ Hex 1 (subE y z) := by
  have hm : ∀ y ∈ allR z 1 1, Hex 1 (subE y z) := fun y hy => ((ring_mem z y 1).1 hy).1
  have h12 : ∀ y, Hex 1 (subE y z) → okB r y = true := fun y hy => hall y (by unfold Hex at *; omega)
  constructor
  · rw [srt_length, tell_all fun y hy => h12 y (hm y hy)]
    show (ringL z 1).length = 6
    unfold ringL
    rw [if_neg (by decide), sidesP_length]
  · intro v hv
    rw [srt_mem] at hv
    unfold tellL at hv
    obtain ⟨y, hy, rfl⟩ := List.mem_map.1 hv
    obtain ⟨h1, h2⟩ := List.mem_filter.1 hy
    exact ⟨y, h2, by rw [(ofW_ok h2).1]; rfl, hm y h1⟩
theorem disk_all {r : Nat} {z : E2} (hall : ∀ y, Hex 12 (subE y z) → okB r y = true) {o : E2} {a : Int} (ho : Hex a (subE o z)) {k : Nat} (hk : (k : Int) + a ≤ 12) :
    (srt (tellL r (allR o 0 (k + 1)))).length = 3 * k * (k + 1) + 1 := by
  rw [srt_length, tell_all, disk_len]
  intro y hy
  have := (disk_mem o y (k + 1)).1 hy
  refine hall y ?_
  unfold Hex subE at *
  simp only at *
  omega
theorem disk_in {r : Nat} {z o : E2} (ho : Hex 1 (subE o z)) (k : Nat) : ∀ v ∈ srt (tellL r (allR o 0 (k + 1))), v ∈ srt (tellL r (allR z 0 (k + 1 + 1))) := by
  refine tell_sub fun y hy => ?_
  have := (disk_mem o y (k + 1)).1 hy
  refine (disk_mem z y (k + 1 + 1)).2 ?_
  unfold Hex subE at *
  simp only [Int.natCast_add, Int.natCast_one] at *
  omega
set_option maxRecDepth 100000 in
set_option maxHeartbeats 4000000 in
theorem core (w : World) (a0 a1 a2 a3 a4 : Int) : Calls Try.prog 4 #[.int .i64 a0, .int .i64 a1, .int .i64 a2, .int .i64 a3, .int .i64 a4] w fun e w' => e = .returned (.bool true) ∧ Below w.heap.size w w' := by
  obtain ⟨Y, q1, hY⟩ : ∃ Y, bits BinOp.andNot IntKind.i64 a1 1 = Y ∧ Y % 2 = 0 := ⟨_, rfl, andNot_even a1⟩
  obtain ⟨k, q2, hk⟩ : ∃ k : Nat, bits BinOp.and IntKind.i64 a3 7 = k ∧ k ≤ 7 := ⟨(a3 % 8).toNat, by rw [i64_and_mask a3 3 (by omega) 7 rfl]; omega, by omega⟩
  obtain ⟨I8, q3, hI⟩ : ∃ A, bits BinOp.and IntKind.i64 a4 255 = A ∧ 0 ≤ A ∧ A ≤ 255 := ⟨_, i64_and_mask a4 8 (by omega) 255 rfl, by omega, by omega⟩
  obtain ⟨j, hj6, q4⟩ : ∃ j : Nat, j < 6 ∧ I8.tmod 6 = j := ⟨(I8 % 6).toNat, by omega, by rw [Int.tmod_eq_emod_of_nonneg hI.1]; omega⟩
  obtain ⟨hI1, hI2⟩ := hI
  have HLW := Lib.hid (lword_even a0 Y a2 hY)
  obtain ⟨R, hR, hR12⟩ : ∃ R : Nat, a2 % 13 = R ∧ R ≤ 12 := ⟨(a2 % 13).toNat, by omega, by omega⟩
  rw [hR, Int.toNat_natCast] at HLW
  have hall : ∀ y, Hex 12 (subE y (nearE (a0 % 1073741824) (Y % 1073741824) R)) → okB R y = true := fun y hy => by
    have := near_ok (x := a0 % 1073741824) (y := Y % 1073741824) (by omega) (by omega) hR12 hy
    rw [show addE (nearE (a0 % 1073741824) (Y % 1073741824) R) (subE y (nearE (a0 % 1073741824) (Y % 1073741824) R)) = y by
      unfold addE subE
      refine Prod.ext ?_ ?_ <;> (simp only; omega)] at this
    exact this
  generalize nearE (a0 % 1073741824) (Y % 1073741824) R = z at *
  clear hY hR hR12
  have hz0 : Hex 0 (subE z z) := by unfold Hex subE; simp only; omega
  have hok : okB R z = true := hall z (by unfold Hex at *; omega)
  obtain ⟨b1, b2, b3⟩ := ofW_ok hok
  obtain ⟨e1, l1⟩ := rgs_word hok 1 1 1 1 (by decide) (by decide) rfl
  obtain ⟨e3, l3⟩ := rgs_word hok 0 (k + 1 + 1) ((k : Int) + 1) 81 (by omega) (by omega) (by omega)
  have HN := Lib.hid (nei_any (ofW R z) b3)
  have HD := Lib.hid (disk_any (ofW R z) b3 ((k : Int) + 1) (by omega))
  rw [e1, l1] at HN
  rw [e3, l3] at HD
  obtain ⟨n6, nin⟩ := nei_all hall
  obtain ⟨o, hoo, hov, hon⟩ := nin _ (getD_mem (j := j) (by rw [n6]; exact hj6))
  have HO : Hid ((srt (tellL R (allR z 1 1))).getD j 0 = (ofW R o : Int)) := hov
  obtain ⟨o1, o2, o3⟩ := ofW_ok hoo
  obtain ⟨e5, l5⟩ := rgs_word hoo 0 (k + 1) (k : Int) 81 (by omega) (by omega) (by omega)
  have HA := Lib.hid (disk_any (ofW R o) o3 (k : Int) (by omega))
  rw [e5, l5] at HA
  have dA := disk_all hall hon (k := k) (by omega)
  have dB := disk_all hall hz0 (k := k + 1) (by omega)
  have HIN := Lib.hid (disk_in (r := R) hon k)
  have HRI := Lib.hid (srt_rising (tellL R (allR z 0 (k + 1 + 1))))
  clear hall nin hz0 hok hoo hov hon e1 l1 e3 l3 e5 l5 b1 b2 b3 o1 o2 o3
  generalize srt (tellL R (allR z 1 1)) = L at *
  generalize srt (tellL R (allR o 0 (k + 1))) = A at *
  generalize srt (tellL R (allR z 0 (k + 1 + 1))) = M at *
  generalize ofW R z = W at *
  generalize ofW R o = O at *
  obtain ⟨P, hP⟩ : ∃ P : Nat, 3 * k * (k + 1) + 1 = P := ⟨_, rfl⟩
  obtain ⟨S, hS⟩ : ∃ P : Nat, 3 * (k + 1) * (k + 1 + 1) + 1 = P := ⟨_, rfl⟩
  have hP2 : P ≤ 169 ∧ 3 * (k : Int) * ((k : Int) + 1) = (P : Int) - 1 := by
    rcases (show k = 0 ∨ k = 1 ∨ k = 2 ∨ k = 3 ∨ k = 4 ∨ k = 5 ∨ k = 6 ∨ k = 7 by omega) with rfl | rfl | rfl | rfl | rfl | rfl | rfl | rfl <;> omega
  have hS2 : S ≤ 217 ∧ 3 * ((k : Int) + 1) * ((k : Int) + 2) = (S : Int) - 1 := by
    rcases (show k = 0 ∨ k = 1 ∨ k = 2 ∨ k = 3 ∨ k = 4 ∨ k = 5 ∨ k = 6 ∨ k = 7 by omega) with rfl | rfl | rfl | rfl | rfl | rfl | rfl | rfl <;> omega
  rw [hP] at dA
  rw [hS] at dB
  clear hP hS
  obtain ⟨hP1, hP3⟩ := hP2
  obtain ⟨hS1, hS3⟩ := hS2
  have NL := Lib.hid n6
  have NA := Lib.hid dA
  have NM := Lib.hid dB
  clear n6 dA dB
  have HAW := Lib.hid awake_any
  go_enter Try.func4, Try.ntmps4
  go_wp2_with fail
  refine (HLW.out _).mono ?_
  rintro e w1 ⟨rfl, hb1⟩
  have B1 := Lib.hid hb1
  clear hb1
  go_wp2_with fail
  refine (HN.out _).mono ?_
  rintro e w2 ⟨ao, c, rfl, h2, hb2⟩
  have B2 := Lib.hid (B1.out.trans (hb2.mono B1.out.size))
  clear hb2
  obtain ⟨g2, o2, rfl, hg2, hc2⟩ := h2 (by rw [NL.out]; decide)
  have c0 := hc2 j (by rw [NL.out]; exact hj6)
  rw [HO.out] at c0
  rw [NL.out]
  clear hc2
  go_wp2_with fail
  refine (HA.out _).mono ?_
  rintro e w3 ⟨bo, d, rfl, h3, hb3⟩
  have B3 := Lib.hid (B2.out.trans (hb3.mono B2.out.size))
  have A3 := Lib.hid h3
  clear h3 hb3 c0 hg2
  rw [NA.out]
  go_wp2_with fail
  refine (HD.out _).mono ?_
  rintro e w4 ⟨co, f, rfl, h4, hb4⟩
  have A4 := Lib.hid (A3.out.below hb4 (Nat.le_refl _))
  have hsz4 := hb4.size
  have B4 := Lib.hid (B3.out.trans (hb4.mono B3.out.size))
  have M4 := Lib.hid h4
  clear h4 hb4 A3
  have HHAS : Hid (∀ x ∈ A, Calls Try.prog 18 #[.slice co S f, .int .u64 x] w4 fun e w' => e = .returned (.bool true) ∧ w4 = w') := fun x hx => by
    have := rhas_any co f M x w4 _ M4.out (by rw [NM.out]; omega) HRI.out
    rw [NM.out, (hasF_iff M x).2 (HIN.out x hx)] at this
    exact this
  rw [NM.out]
  go_wp2
  go_loopw [19] (fun i wr => ∃ j : Nat, j ≤ P ∧ i = .int .i64 j ∧ wr = w4) (fun i _ => P - (intOf i).toNat)
  case atStart => exact ⟨0, Nat.zero_le _, rfl, rfl⟩
  case round =>
    obtain ⟨i, hi, rfl, rfl⟩ := hrel
    by_cases hlt : i < P
    · obtain ⟨g, off, rfl, hg, hc⟩ := A4.out (by rw [NA.out]; omega)
      have c0 := hc i (by rw [NA.out]; exact hlt)
      have HX := Lib.hid (HHAS.out (A.getD i 0) (getD_mem (by rw [NA.out]; exact hlt)))
      generalize A.getD i 0 = x at *
      have hgw : g < wr.heap.size := by omega
      clear hc
      go_wp2_with fail
      refine HX.out.mono ?_
      rintro e w5 ⟨rfl, rfl⟩
      go_wp2
      go_roundw
      case rel => exact ⟨i + 1, by omega, by go_num, by first | rfl | trivial⟩
      case measure => simp [intOf]; omega
    · obtain rfl : i = P := by omega
      go_wp2_with fail
      refine (HAW.out _).mono ?_
      rintro e w5 ⟨rfl, hb5⟩
      have HF := Lib.hid (B4.out.trans (hb5.mono B4.out.size))
      clear hb5
      go_wp2
      go_ret
      exact ⟨rfl, HF.out⟩
theorem walk {w : World} (a0 : Int) (_w0 : (Lit.int .i64 a0).wf = true) (a1 : Int) (_w1 : (Lit.int .i64 a1).wf = true) (a2 : Int) (_w2 : (Lit.int .i64 a2).wf = true) (a3 : Int) (_w3 : (Lit.int .i64 a3).wf = true) (a4 : Int) (_w4 : (Lit.int .i64 a4).wf = true) :
    Calls Try.prog 4 #[.int .i64 a0, .int .i64 a1, .int .i64 a2, .int .i64 a3, .int .i64 a4] w fun e w' => e = .returned (.bool true) ∧ Below w.heap.size w w' := core w a0 a1 a2 a3 a4
end Go.Proofs.Yticbkdignmlfiaa.nearRings
