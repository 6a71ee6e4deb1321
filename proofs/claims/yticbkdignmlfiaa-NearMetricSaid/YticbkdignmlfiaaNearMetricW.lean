/- The law NearMetric: its walk. Distance is a metric; neighbours are one apart, and nobody else is. -/
import Derived.Test.YticbkdignmlfiaaNfP
import Derived.Test.YticbkdignmlfiaaNfQ
namespace Go.Proofs.Yticbkdignmlfiaa.nearMetric
open Go.RowKit Go.Lib Wd

set_option maxRecDepth 100000 in
set_option maxHeartbeats 4000000 in
theorem core (w : World) (a0 a1 a2 a3 a4 a5 a6 : Int) : Calls Try.prog 8 #[.int .i64 a0, .int .i64 a1, .int .i64 a2, .int .i64 a3, .int .i64 a4, .int .i64 a5, .int .i64 a6] w fun e w' => e = .returned (.bool true) ∧ Below w.heap.size w w' := by
  have HL1 := Lib.hid (lword_any a0 a1 a6)
  have HL2 := Lib.hid (lword_any a2 a3 a6)
  have HL3 := Lib.hid (lword_any a4 a5 a6)
  obtain ⟨R, hR, hR12⟩ : ∃ R : Nat, a6 % 13 = R ∧ R ≤ 12 := ⟨(a6 % 13).toNat, by omega, by omega⟩
  rw [hR, Int.toNat_natCast] at HL1 HL2 HL3
  have o1 := some_ok a0 a1 hR12
  have o2 := some_ok a2 a3 hR12
  have o3 := some_ok a4 a5 hR12
  generalize someE a0 a1 R = x at *
  generalize someE a2 a3 R = y at *
  generalize someE a4 a5 R = z at *
  obtain ⟨-, -, w1⟩ := ofW_ok o1
  obtain ⟨-, -, w2⟩ := ofW_ok o2
  obtain ⟨-, -, w3⟩ := ofW_ok o3
  have HP := Lib.hid (dist_any _ _ w1 w2)
  have HQ := Lib.hid (dist_any _ _ w2 w1)
  have HM := Lib.hid (dist_any _ _ w2 w3)
  have HN := Lib.hid (dist_any _ _ w1 w3)
  rw [(ds_ok o1 o2).1, (ds_ok o1 o2).2] at HP
  rw [(ds_ok o2 o1).1, (ds_ok o2 o1).2, steps_sym] at HQ
  rw [(ds_ok o2 o3).1, (ds_ok o2 o3).2] at HM
  rw [(ds_ok o1 o3).1, (ds_ok o1 o3).2] at HN
  have t1 := steps_tri x y z
  have t2 := steps_nonneg (subE x y)
  have t3 := steps_nonneg (subE y z)
  have bnd : ∀ a b : E2, okB R a = true → okB R b = true → stepsN (subE a b) ≤ 4294967296 := fun a b ha hb => by
    have h1 := (ok_parts ha).2.2
    have h2 := (ok_parts hb).2.2
    rw [← steps_hex]
    unfold Sm Hex subE at *
    simp only
    omega
  have t4 := bnd x y o1 o2
  have t5 := bnd y z o2 o3
  clear bnd
  obtain ⟨g, q6⟩ : ∃ g, (stepsN (subE x y) == 0) = g := ⟨_, rfl⟩
  have q7 : (((ofW R x : Nat) : Int) == ((ofW R y : Nat) : Int)) = g := by
    rw [← q6, Bool.eq_iff_iff, beq_iff_eq, beq_iff_eq, steps_zero, ← ofW_inj o1 o2]
    omega
  obtain ⟨e1, l1⟩ := rgs_word o1 1 1 1 1 (by decide) (by decide) rfl
  have HNE := Lib.hid (nei_any (ofW R x) w1)
  rw [e1, l1] at HNE
  obtain ⟨L, hL⟩ : ∃ L, srt (tellL R (allR x 1 1)) = L := ⟨_, rfl⟩
  have hlen : L.length ≤ 6 := by
    rw [← hL, srt_length]
    refine Nat.le_trans (tellL_length _ _) ?_
    show (ringL x 1).length ≤ 6
    unfold ringL
    rw [if_neg (by decide), sidesP_length]
    omega
  have hmem : ∀ v, v ∈ L ↔ ∃ y, stepsN (subE y x) = 1 ∧ okB R y = true ∧ v = (ofW R y : Int) := fun v => by
    rw [← hL, srt_mem, tell_mem]
    constructor
    · rintro ⟨y, h1, h2, h3⟩
      rw [all_steps] at h1
      exact ⟨y, by omega, h2, by rw [(ofW_ok h2).1]; exact h3⟩
    · rintro ⟨y, h1, h2, h3⟩
      exact ⟨y, by rw [all_steps]; omega, h2, by rw [(ofW_ok h2).1] at h3; exact h3⟩
  have HDS : Hid (∀ v ∈ L, ∀ w, Calls Try.prog 22 #[.int .u64 (ofW R x : Nat), .int .u64 v] w fun e w' => e = .returned (.tuple #[.int .i64 1, .int .i64 0]) ∧ Below w.heap.size w w') := fun v hv w => by
    obtain ⟨y, h1, h2, rfl⟩ := (hmem v).1 hv
    have := dist_any _ _ w1 (ofW_ok h2).2.2 w
    rw [(ds_ok o1 h2).1, (ds_ok o1 h2).2, steps_sym, h1] at this
    exact this
  have HRI : Hid (Rising L) := by
    have : Up L := by rw [← hL]; exact srt_up (tell_nodup (all_nodup _ _ _))
    exact this.rising
  obtain ⟨h, q8⟩ : ∃ h, (stepsN (subE x y) == 1) = h := ⟨_, rfl⟩
  have HHA : Hid (hasF L (ofW R y : Int) = h) := by
    show _ = _
    rw [← q8, Bool.eq_iff_iff, hasF_iff, beq_iff_eq, hmem]
    constructor
    · rintro ⟨y', h1, h2, h3⟩
      have : ofW R y = ofW R y' := by omega
      rw [(ofW_inj o2 h2).1 this, steps_sym]
      exact h1
    · intro h1
      exact ⟨y, by rw [steps_sym]; exact h1, o2, rfl⟩
  rw [hL] at HNE
  clear hL hmem o1 o2 o3 w1 w2 w3 hR e1 l1
  generalize stepsN (subE x y) = p at *
  generalize stepsN (subE y z) = m at *
  generalize stepsN (subE x z) = n at *
  generalize ofW R x = A at *
  generalize ofW R y = B at *
  generalize ofW R z = C at *
  have HAW := Lib.hid awake_any
  go_enter Try.func8, Try.ntmps8
  go_wp2_with fail
  refine (HL1.out _).mono ?_
  rintro e w1 ⟨rfl, hb1⟩
  have B1 := Lib.hid hb1
  clear hb1
  go_wp2_with fail
  refine (HL2.out _).mono ?_
  rintro e w2 ⟨rfl, hb2⟩
  have B2 := Lib.hid (B1.out.trans (hb2.mono B1.out.size))
  clear hb2 B1
  go_wp2_with fail
  refine (HL3.out _).mono ?_
  rintro e w1 ⟨rfl, hb2⟩
  have B1 := Lib.hid (B2.out.trans (hb2.mono B2.out.size))
  clear hb2 B2
  go_wp2_with fail
  refine (HP.out _).mono ?_
  rintro e w2 ⟨rfl, hb2⟩
  have B2 := Lib.hid (B1.out.trans (hb2.mono B1.out.size))
  clear hb2 B1
  go_wp2_with fail
  refine (HQ.out _).mono ?_
  rintro e w1 ⟨rfl, hb2⟩
  have B1 := Lib.hid (B2.out.trans (hb2.mono B2.out.size))
  clear hb2 B2
  go_wp2_with fail
  refine (HM.out _).mono ?_
  rintro e w2 ⟨rfl, hb2⟩
  have B2 := Lib.hid (B1.out.trans (hb2.mono B1.out.size))
  clear hb2 B1
  go_wp2_with fail
  refine (HN.out _).mono ?_
  rintro e w1 ⟨rfl, hb2⟩
  have B1 := Lib.hid (B2.out.trans (hb2.mono B2.out.size))
  clear hb2 B2
  have q9 : decide (p < 0) = false := decide_eq_false (by omega)
  have q10 : decide (p + m < n) = false := decide_eq_false (by omega)
  go_wp2_with fail
  refine (HNE.out _).mono ?_
  rintro e w2 ⟨ao, c, rfl, h2, hb2⟩
  have B2 := Lib.hid (B1.out.trans (hb2.mono B1.out.size))
  have A2 := Lib.hid h2
  clear hb2 h2 B1 HL1 HL2 HL3 HP HQ HM HN HNE
  obtain ⟨k, hk⟩ : ∃ k, L.length = k := ⟨_, rfl⟩
  have HK := Lib.hid hk
  rw [hk] at hlen
  rw [hk]
  clear hk
  go_wp2
  go_loopw [28] (fun j wr => ∃ i : Nat, i ≤ k ∧ j = .int .i64 i ∧ Hid (Below w2.heap.size w2 wr ∧ True)) (fun j _ => k - (intOf j).toNat)
  case atStart => exact ⟨0, by omega, rfl, Below.refl _ _, trivial⟩
  case round =>
    obtain ⟨j, hj, rfl, hbj, -⟩ := hrel
    have HBJ := Lib.hid hbj
    clear hbj
    have A3 := Lib.hid (A2.out.below HBJ.out (Nat.le_refl _))
    by_cases hlt : j < k
    · obtain ⟨gg, off, rfl, hg, hc⟩ := A3.out (by rw [HK.out]; omega)
      have c0 := hc j (by rw [HK.out]; exact hlt)
      have HX := Lib.hid (HDS.out _ (getD_mem (l := L) (j := j) (by rw [HK.out]; exact hlt)))
      generalize L.getD j 0 = v at *
      clear hc
      go_wp2_with fail
      refine (HX.out _).mono ?_
      rintro e w6 ⟨rfl, hb6⟩
      have HB6 := Lib.hid (HBJ.out.trans (hb6.mono HBJ.out.size))
      clear hb6 c0 HBJ
      go_wp2
      go_roundw
      case rel => exact ⟨j + 1, by omega, by go_num, HB6.out, trivial⟩
      case measure => simp [intOf]; omega
    · have hjm : k ≤ j := by omega
      have HHS := Lib.hid (rhas_any ao c L B wr w2.heap.size A3.out (by rw [HK.out]; omega) HRI.out)
      rw [HHA.out, HK.out] at HHS
      have HBB := Lib.hid (B2.out.trans (HBJ.out.mono B2.out.size))
      have q11 : decide ((k : Int) ≤ 6) = true := decide_eq_true (by omega)
      go_wp2_with fail
      refine HHS.out.mono ?_
      rintro e w7 ⟨rfl, rfl⟩
      go_wp2_with fail
      refine (HAW.out _).mono ?_
      rintro e w8 ⟨rfl, hb8⟩
      have HF := Lib.hid (HBB.out.trans (hb8.mono HBB.out.size))
      clear hb8
      go_wp2
      go_ret
      exact ⟨rfl, HF.out⟩
theorem walk {w : World} (a0 : Int) (_w0 : (Lit.int .i64 a0).wf = true) (a1 : Int) (_w1 : (Lit.int .i64 a1).wf = true) (a2 : Int) (_w2 : (Lit.int .i64 a2).wf = true) (a3 : Int) (_w3 : (Lit.int .i64 a3).wf = true) (a4 : Int) (_w4 : (Lit.int .i64 a4).wf = true) (a5 : Int) (_w5 : (Lit.int .i64 a5).wf = true) (a6 : Int) (_w6 : (Lit.int .i64 a6).wf = true) :
    Calls Try.prog 8 #[.int .i64 a0, .int .i64 a1, .int .i64 a2, .int .i64 a3, .int .i64 a4, .int .i64 a5, .int .i64 a6] w fun e w' => e = .returned (.bool true) ∧ Below w.heap.size w w' := core w a0 a1 a2 a3 a4 a5 a6
end Go.Proofs.Yticbkdignmlfiaa.nearMetric
