/- The law NearBack: its walk. A ring's cells have the cell in their rings; lines have their ends at either end. -/
import Derived.Test.YticbkdignmlfiaaNfV
import Derived.Test.YticbkdignmlfiaaNfJ
namespace Go.Proofs.Yticbkdignmlfiaa.nearBack
open Go.RowKit Go.Lib Wd

set_option maxRecDepth 100000 in
set_option maxHeartbeats 8000000 in
theorem core (w : World) (a0 a1 a2 a3 : Int) : Calls Try.prog 10 #[.int .i64 a0, .int .i64 a1, .int .i64 a2, .int .i64 a3] w fun e w' => e = .returned (.bool true) ∧ Below w.heap.size w w' := by
  obtain ⟨Y, q1, hY⟩ : ∃ Y, bits BinOp.andNot IntKind.i64 a1 1 = Y ∧ Y % 2 = 0 := ⟨_, rfl, andNot_even a1⟩
  obtain ⟨K, q2, hK⟩ : ∃ k : Nat, bits BinOp.and IntKind.i64 a3 7 = k ∧ k ≤ 7 := ⟨(a3 % 8).toNat, by rw [i64_and_mask a3 3 (by omega) 7 rfl]; omega, by omega⟩
  have HLW := Lib.hid (lword_even a0 Y a2 hY)
  obtain ⟨R, hR, hR12⟩ : ∃ R : Nat, a2 % 13 = R ∧ R ≤ 12 := ⟨(a2 % 13).toNat, by omega, by omega⟩
  rw [hR, Int.toNat_natCast] at HLW
  have hall : ∀ y, stepsN (subE y (nearE (a0 % 1073741824) (Y % 1073741824) R)) ≤ 12 → okB R y = true := fun y hy => by
    have := near_ok (x := a0 % 1073741824) (y := Y % 1073741824) (by omega) (by omega) hR12 ((steps_hex _ _).2 hy)
    rw [show addE (nearE (a0 % 1073741824) (Y % 1073741824) R) (subE y (nearE (a0 % 1073741824) (Y % 1073741824) R)) = y by
      unfold addE subE
      refine Prod.ext ?_ ?_ <;> (simp only; omega)] at this
    exact this
  generalize nearE (a0 % 1073741824) (Y % 1073741824) R = z at *
  clear hY hR
  have hok : okB R z = true := hall z (by rw [(steps_zero z z).2 rfl]; decide)
  obtain ⟨b1, b2, b3⟩ := ofW_ok hok
  have HRG := Lib.hid (rng_any (ofW R z) b3 (K : Int) (by omega) (by omega))
  obtain ⟨e2, l2⟩ := rgs_word hok K 1 (K : Int) 3333 (by omega) (by omega) (by omega)
  rw [Int.toNat_natCast, e2, l2] at HRG
  obtain ⟨L, hL⟩ : ∃ L, srt (tellL R (allR z K 1)) = L := ⟨_, rfl⟩
  have hmem : ∀ v ∈ L, ∃ y, stepsN (subE y z) = K ∧ okB R y = true ∧ v = (ofW R y : Int) := fun v hv => by
    rw [← hL] at hv
    obtain ⟨y, h1, h2, h3⟩ := tell_mem.1 ((srt_mem _ _).1 hv)
    rw [all_steps] at h1
    exact ⟨y, by omega, h2, by rw [(ofW_ok h2).1]; exact h3⟩
  have hlen : 1 ≤ L.length ∧ L.length ≤ 1000 := by
    rw [← hL, srt_length, tell_all fun y hy => hall y (by rw [all_steps] at hy; omega)]
    show 1 ≤ (ringL z K).length ∧ (ringL z K).length ≤ 1000
    unfold ringL
    split
    · simp
    · rw [sidesP_length]; omega
  rw [hL] at HRG
  have HX : Hid (∀ v ∈ L, ∃ (O : Nat) (M N : List Int), v = (O : Int) ∧ (∀ w, Calls Try.prog 19 #[.int .u64 O, .int .i64 K] w (Told w M 0)) ∧ (∀ w, Calls Try.prog 28 #[.int .u64 (ofW R z : Nat), .int .u64 O] w (Told w N 0)) ∧ hasF M (ofW R z : Int) = true ∧ Rising M ∧ M.length ≤ 1000 ∧ N.length = K + 1 ∧ N.getD 0 0 = (ofW R z : Int) ∧ N.getD K 0 = (O : Int) ∧ ∀ j, j < K → ∀ w, Calls Try.prog 22 #[.int .u64 (N.getD j 0), .int .u64 (N.getD (j + 1) 0)] w fun e w' => e = .returned (.tuple #[.int .i64 1, .int .i64 0]) ∧ Below w.heap.size w w') := fun v hv => by
    obtain ⟨y, hs, hy, rfl⟩ := hmem v hv
    obtain ⟨y1, y2, y3⟩ := ofW_ok hy
    obtain ⟨f1, f2, f3, f4, f5⟩ := line_ok hok hy hs (by omega) (fun p hp => hall p (by omega))
    obtain ⟨e4, l4⟩ := rgs_word hy K 1 (K : Int) 3333 (by omega) (by omega) (by omega)
    refine ⟨ofW R y, srt (tellL R (allR y K 1)), lnL (ofW R z) (ofW R y), rfl, fun w => ?_, fun w => ?_, ?_, srt_rising _, ?_, f2, f3, f4, fun j hj w => ?_⟩
    · have := rng_any (ofW R y) y3 (K : Int) (by omega) (by omega) w
      rw [Int.toNat_natCast, e4, l4] at this
      exact this
    · have := line_any (ofW R z) (ofW R y) b3 y3 w
      rw [f1] at this
      exact this
    · rw [hasF_iff, srt_mem]
      exact tell_mem.2 ⟨z, by rw [all_steps, steps_sym]; omega, hok, by rw [b1]⟩
    · rw [srt_length]
      refine Nat.le_trans (tellL_length _ _) ?_
      have := allR_bound y K 1
      omega
    · obtain ⟨p, q, hp, hq, g1, g2, g3⟩ := f5 j hj
      rw [g1, g2]
      have := dist_any _ _ (ofW_ok hp).2.2 (ofW_ok hq).2.2 w
      rw [(ds_ok hp hq).1, (ds_ok hp hq).2, steps_sym, g3] at this
      exact this
  clear hmem hL hall hok b1 b2 e2 l2
  generalize ofW R z = W at *
  obtain ⟨m, hm⟩ : ∃ m, L.length = m := ⟨_, rfl⟩
  have HM := Lib.hid hm
  rw [hm] at hlen
  obtain ⟨hm1, hm2⟩ := hlen
  clear hm
  have HAW := Lib.hid awake_any
  go_enter Try.func10, Try.ntmps10
  go_wp2_with fail
  refine (HLW.out _).mono ?_
  rintro e w1 ⟨rfl, hb1⟩
  have B1 := Lib.hid hb1
  clear hb1
  go_wp2_with fail
  refine (HRG.out _).mono ?_
  rintro e w2 ⟨ao, c, rfl, h2, hb2⟩
  have B2 := Lib.hid (B1.out.trans (hb2.mono B1.out.size))
  have A2 := Lib.hid h2
  rw [HM.out]
  clear hb2 h2 B1 HLW HRG
  go_wp2
  go_loopw [12] (fun i wr => ∃ k : Nat, k ≤ m ∧ k ≤ 12 ∧ i = .int .i64 k ∧ Hid (Below w2.heap.size w2 wr ∧ True)) (fun i _ => 12 - (intOf i).toNat)
  case atStart => exact ⟨0, by omega, by omega, rfl, Below.refl _ _, trivial⟩
  case round =>
    obtain ⟨i, hi, hi12, rfl, hbi, -⟩ := hrel
    have HBI := Lib.hid hbi
    clear hbi
    have A3 := Lib.hid (A2.out.below HBI.out (Nat.le_refl _))
    by_cases hlt : i < m ∧ i < 12
    · obtain ⟨hlt1, hlt2⟩ := hlt
      have q3 : decide ((i : Int) < m) = true := decide_eq_true (by omega)
      have q4 : decide ((i : Int) < 12) = true := decide_eq_true (by omega)
      obtain ⟨j, hj, q5⟩ : ∃ j : Nat, j < m ∧ ((i : Int) * 7).tmod m = j := ⟨i * 7 % m, Nat.mod_lt _ (by omega), by rw [Int.tmod_eq_emod_of_nonneg (by omega)]; push_cast; rfl⟩
      obtain ⟨g, off, rfl, hg, hc⟩ := A3.out (by rw [HM.out]; omega)
      have c0 := hc j (by rw [HM.out]; exact hj)
      obtain ⟨O, M, N, hv, hr, hl, hh, hri, hml, hnl, hn0, hnK, hd⟩ := HX.out _ (getD_mem (l := L) (j := j) (by rw [HM.out]; exact hj))
      rw [hv] at c0
      have R1 := Lib.hid hr
      have L1 := Lib.hid hl
      have HH := Lib.hid hh
      have HRI := Lib.hid hri
      have HD := Lib.hid hd
      obtain ⟨p, hp⟩ : ∃ p, M.length = p := ⟨_, rfl⟩
      have HP := Lib.hid hp
      rw [hp] at hml
      have HN := Lib.hid hnl
      have HN0 := Lib.hid hn0
      have HNK := Lib.hid hnK
      clear hv hr hl hh hri hd hp hnl hn0 hnK hc
      go_wp2_with fail
      refine (R1.out _).mono ?_
      rintro e w5 ⟨bo, d, rfl, h5, hb5⟩
      have X5 := Lib.hid hb5
      have T5 := Lib.hid h5
      rw [HP.out]
      clear h5 hb5 c0
      go_wp2_with fail
      refine (L1.out _).mono ?_
      rintro e w6 ⟨co, f, rfl, h6, hb6⟩
      have X6 := Lib.hid hb6
      have T6 := Lib.hid h6
      rw [HN.out]
      have HHS := Lib.hid (rhas_any bo d M W w6 w5.heap.size (T5.out.below hb6 (Nat.le_refl _)) (by rw [HP.out]; omega) HRI.out)
      rw [HH.out, HP.out] at HHS
      clear h6 hb6
      go_wp2_with fail
      refine HHS.out.mono ?_
      rintro e w7 ⟨rfl, rfl⟩
      obtain ⟨g2, off2, rfl, hg2, hc2⟩ := T6.out (by rw [HN.out]; omega)
      have k0 := hc2 0 (by rw [HN.out]; omega)
      have kK := hc2 K (by rw [HN.out]; omega)
      rw [HN0.out, Nat.add_zero] at k0
      rw [HNK.out] at kK
      have HBZ : Hid (Below w2.heap.size w2 w6) := (HBI.out.trans (X5.out.mono HBI.out.size)).trans (X6.out.mono (Nat.le_trans HBI.out.size X5.out.size))
      clear hc2 HHS
      go_wp2
      clear k0 kK
      go_loopw [18] (fun j wr => ∃ k : Nat, k ≤ K ∧ j = .int .i64 (k + 1 : Nat) ∧ Hid (Below w6.heap.size w6 wr ∧ True)) (fun j _ => K + 1 - (intOf j).toNat)
      case atStart => exact ⟨0, by omega, rfl, Below.refl _ _, trivial⟩
      case round =>
        obtain ⟨k, hk, rfl, hbk, -⟩ := hrel
        have HBK := Lib.hid hbk
        clear hbk
        by_cases hkK : k < K
        · have HDK := Lib.hid (HD.out k hkK)
          have q6 : decide (((k + 1 : Nat) : Int) < ((K + 1 : Nat) : Int)) = true := decide_eq_true (by omega)
          have q6' : decide ((k : Int) + 1 < (K : Int) + 1) = true := decide_eq_true (by omega)
          obtain ⟨g3, off3, e3, hg3, hc3⟩ := (T6.out.below HBK.out (Nat.le_refl _)) (by rw [HN.out]; omega)
          simp only [Option.some.injEq, Addr.mk.injEq] at e3
          obtain ⟨rfl, rfl, -⟩ := e3
          have k0 := hc3 k (by rw [HN.out]; omega)
          have k1 := hc3 (k + 1) (by rw [HN.out]; omega)
          generalize N.getD k 0 = x at *
          generalize N.getD (k + 1) 0 = y at *
          have HCX : Hid (∀ wx, Below wr.heap.size wr wx → wx.cell? ⟨g2, off2 + k, none⟩ = some (.int .u64 x) ∧ wx.cell? ⟨g2, off2 + (k + 1), none⟩ = some (.int .u64 y)) := fun wx hx => ⟨(hx.cell (p := ⟨g2, _, none⟩) (Nat.lt_of_lt_of_le hg3 HBK.out.size)).trans k0, (hx.cell (p := ⟨g2, _, none⟩) (Nat.lt_of_lt_of_le hg3 HBK.out.size)).trans k1⟩
          have hgw : g2 < wr.heap.size := Nat.lt_of_lt_of_le hg3 HBK.out.size
          clear hc3
          go_upto_region 17 with (fail)
          clear k0 k1
          refine wp_region_inv (fun w w' => Below w.heap.size w w') (fun qi_ qv_ _ => qv_ = ([.slice (some ⟨g2, off2, none⟩) (K + 1) f, .int .i64 ((k + 1 : Nat) : Int), .int .i64 (k : Int), .pointer (some ⟨g2, off2 + k, none⟩), .int .u64 x, .slice (some ⟨g2, off2, none⟩) (K + 1) f, .int .i64 ((k + 1 : Nat) : Int), .pointer (some ⟨g2, off2 + (k + 1), none⟩), .int .u64 y, .tuple #[.int .i64 1, .int .i64 0], .tuple #[.int .i64 1, .int .i64 0], .int .i64 1, .int .i64 0, .int .i64 1, .int .i64 0] : List Value).getD qi_ undef) (by kernel_rfl) (by kernel_rfl) (fun _ => Below.refl _ _) (fun _ _ _ h1 h2 => below_later h1 h1.size h2) (fun _ _ _ _ _ _ h => h) ?_
          refine inv_cons (fun wx hg hd => ?_) (fun v0 => ?_)
          · have hx := ((Below.refl wr.heap.size wr).drew).trans hg
            clear hd hg
            go_wp2
            exact ⟨_, rfl, Below.refl _ _, rfl⟩
          (try simp only [List.nil_append, Act.put, List.setIfInBounds_toArray, List.set_cons_zero, List.set_cons_succ])
          refine inv_cons (fun wx hg hd => ?_) (fun v1 => ?_)
          · have hx := ((Below.refl wr.heap.size wr).drew).trans hg
            clear hd hg
            go_wp2
            exact ⟨_, rfl, Below.refl _ _, rfl⟩
          (try simp only [List.cons_append, List.nil_append, Act.put, List.setIfInBounds_toArray, List.set_cons_zero, List.set_cons_succ])
          refine inv_cons (fun wx hg hd => ?_) (fun v2 => ?_)
          · have hx := ((Below.refl wr.heap.size wr).drew).trans hg
            (try (have ee : v1 = (.int .i64 ((k + 1 : Nat) : Int) : Value) := hd 1 (by simp) (by decide); subst ee))
            clear hd hg
            go_wp2
            exact ⟨_, rfl, Below.refl _ _, by go_num⟩
          (try simp only [List.cons_append, List.nil_append, Act.put, List.setIfInBounds_toArray, List.set_cons_zero, List.set_cons_succ])
          refine inv_cons (fun wx hg hd => ?_) (fun v3 => ?_)
          · have hx := ((Below.refl wr.heap.size wr).drew).trans hg
            (try (have ee : v0 = (.slice (some ⟨g2, off2, none⟩) (K + 1) f : Value) := hd 0 (by simp) (by decide); subst ee))
            (try (have ee : v2 = (.int .i64 (k : Int) : Value) := hd 2 (by simp) (by decide); subst ee))
            clear hd hg
            go_wp2
            exact ⟨_, rfl, Below.refl _ _, rfl⟩
          (try simp only [List.cons_append, List.nil_append, Act.put, List.setIfInBounds_toArray, List.set_cons_zero, List.set_cons_succ])
          refine inv_cons (fun wx hg hd => ?_) (fun v4 => ?_)
          · have hx := ((Below.refl wr.heap.size wr).drew).trans hg
            (try (have ee : v3 = (.pointer (some ⟨g2, off2 + k, none⟩) : Value) := hd 3 (by simp) (by decide); subst ee))
            clear hd hg
            obtain ⟨k1, k2⟩ := HCX.out _ hx
            go_wp2
            exact ⟨_, rfl, Below.refl _ _, rfl⟩
          (try simp only [List.cons_append, List.nil_append, Act.put, List.setIfInBounds_toArray, List.set_cons_zero, List.set_cons_succ])
          refine inv_cons (fun wx hg hd => ?_) (fun v5 => ?_)
          · have hx := ((Below.refl wr.heap.size wr).drew).trans hg
            clear hd hg
            go_wp2
            exact ⟨_, rfl, Below.refl _ _, rfl⟩
          (try simp only [List.cons_append, List.nil_append, Act.put, List.setIfInBounds_toArray, List.set_cons_zero, List.set_cons_succ])
          refine inv_cons (fun wx hg hd => ?_) (fun v6 => ?_)
          · have hx := ((Below.refl wr.heap.size wr).drew).trans hg
            clear hd hg
            go_wp2
            exact ⟨_, rfl, Below.refl _ _, rfl⟩
          (try simp only [List.cons_append, List.nil_append, Act.put, List.setIfInBounds_toArray, List.set_cons_zero, List.set_cons_succ])
          refine inv_cons (fun wx hg hd => ?_) (fun v7 => ?_)
          · have hx := ((Below.refl wr.heap.size wr).drew).trans hg
            (try (have ee : v5 = (.slice (some ⟨g2, off2, none⟩) (K + 1) f : Value) := hd 5 (by simp) (by decide); subst ee))
            (try (have ee : v6 = (.int .i64 ((k + 1 : Nat) : Int) : Value) := hd 6 (by simp) (by decide); subst ee))
            clear hd hg
            go_wp2
            exact ⟨_, rfl, Below.refl _ _, rfl⟩
          (try simp only [List.cons_append, List.nil_append, Act.put, List.setIfInBounds_toArray, List.set_cons_zero, List.set_cons_succ])
          refine inv_cons (fun wx hg hd => ?_) (fun v8 => ?_)
          · have hx := ((Below.refl wr.heap.size wr).drew).trans hg
            (try (have ee : v7 = (.pointer (some ⟨g2, off2 + (k + 1), none⟩) : Value) := hd 7 (by simp) (by decide); subst ee))
            clear hd hg
            obtain ⟨k1, k2⟩ := HCX.out _ hx
            go_wp2
            exact ⟨_, rfl, Below.refl _ _, rfl⟩
          (try simp only [List.cons_append, List.nil_append, Act.put, List.setIfInBounds_toArray, List.set_cons_zero, List.set_cons_succ])
          refine inv_cons (fun wx hg hd => ?_) (fun v9 => ?_)
          · have hx := ((Below.refl wr.heap.size wr).drew).trans hg
            (try (have ee : v4 = (.int .u64 x : Value) := hd 4 (by simp) (by decide); subst ee))
            (try (have ee : v8 = (.int .u64 y : Value) := hd 8 (by simp) (by decide); subst ee))
            clear hd hg
            go_wp2_with fail
            refine (HDK.out _).mono ?_
            rintro e w' ⟨rfl, hb⟩
            go_wp2
            exact ⟨_, rfl, hb, rfl⟩
          (try simp only [List.cons_append, List.nil_append, Act.put, List.setIfInBounds_toArray, List.set_cons_zero, List.set_cons_succ])
          refine inv_cons (fun wx hg hd => ?_) (fun v10 => ?_)
          · have hx := ((Below.refl wr.heap.size wr).drew).trans hg
            (try (have ee : v9 = (.tuple #[.int .i64 1, .int .i64 0] : Value) := hd 9 (by simp) (by decide); subst ee))
            clear hd hg
            go_wp2
            exact ⟨_, rfl, Below.refl _ _, rfl⟩
          (try simp only [List.cons_append, List.nil_append, Act.put, List.setIfInBounds_toArray, List.set_cons_zero, List.set_cons_succ])
          refine inv_cons (fun wx hg hd => ?_) (fun v11 => ?_)
          · have hx := ((Below.refl wr.heap.size wr).drew).trans hg
            (try (have ee : v10 = (.tuple #[.int .i64 1, .int .i64 0] : Value) := hd 10 (by simp) (by decide); subst ee))
            clear hd hg
            go_wp2
            exact ⟨_, rfl, Below.refl _ _, rfl⟩
          (try simp only [List.cons_append, List.nil_append, Act.put, List.setIfInBounds_toArray, List.set_cons_zero, List.set_cons_succ])
          refine inv_cons (fun wx hg hd => ?_) (fun v12 => ?_)
          · have hx := ((Below.refl wr.heap.size wr).drew).trans hg
            (try (have ee : v10 = (.tuple #[.int .i64 1, .int .i64 0] : Value) := hd 10 (by simp) (by decide); subst ee))
            clear hd hg
            go_wp2
            exact ⟨_, rfl, Below.refl _ _, rfl⟩
          (try simp only [List.cons_append, List.nil_append, Act.put, List.setIfInBounds_toArray, List.set_cons_zero, List.set_cons_succ])
          refine inv_cons (fun wx hg hd => ?_) (fun v13 => ?_)
          · have hx := ((Below.refl wr.heap.size wr).drew).trans hg
            (try (have ee : v11 = (.int .i64 1 : Value) := hd 11 (by simp) (by decide); subst ee))
            clear hd hg
            go_wp2
            exact ⟨_, rfl, Below.refl _ _, rfl⟩
          (try simp only [List.cons_append, List.nil_append, Act.put, List.setIfInBounds_toArray, List.set_cons_zero, List.set_cons_succ])
          refine inv_cons (fun wx hg hd => ?_) (fun v14 => ?_)
          · have hx := ((Below.refl wr.heap.size wr).drew).trans hg
            (try (have ee : v12 = (.int .i64 0 : Value) := hd 12 (by simp) (by decide); subst ee))
            clear hd hg
            go_wp2
            exact ⟨_, rfl, Below.refl _ _, rfl⟩
          (try simp only [List.cons_append, List.nil_append, Act.put, List.setIfInBounds_toArray, List.set_cons_zero, List.set_cons_succ])
          refine inv_done (fun wx hg hd => ?_)
          have hx := ((Below.refl wr.heap.size wr).drew).trans hg
          (have ee : v0 = (.slice (some ⟨g2, off2, none⟩) (K + 1) f : Value) := hd 0 (by simp); subst ee)
          (have ee : v1 = (.int .i64 ((k + 1 : Nat) : Int) : Value) := hd 1 (by simp); subst ee)
          (have ee : v2 = (.int .i64 (k : Int) : Value) := hd 2 (by simp); subst ee)
          (have ee : v3 = (.pointer (some ⟨g2, off2 + k, none⟩) : Value) := hd 3 (by simp); subst ee)
          (have ee : v4 = (.int .u64 x : Value) := hd 4 (by simp); subst ee)
          (have ee : v5 = (.slice (some ⟨g2, off2, none⟩) (K + 1) f : Value) := hd 5 (by simp); subst ee)
          (have ee : v6 = (.int .i64 ((k + 1 : Nat) : Int) : Value) := hd 6 (by simp); subst ee)
          (have ee : v7 = (.pointer (some ⟨g2, off2 + (k + 1), none⟩) : Value) := hd 7 (by simp); subst ee)
          (have ee : v8 = (.int .u64 y : Value) := hd 8 (by simp); subst ee)
          (have ee : v9 = (.tuple #[.int .i64 1, .int .i64 0] : Value) := hd 9 (by simp); subst ee)
          (have ee : v10 = (.tuple #[.int .i64 1, .int .i64 0] : Value) := hd 10 (by simp); subst ee)
          (have ee : v11 = (.int .i64 1 : Value) := hd 11 (by simp); subst ee)
          (have ee : v12 = (.int .i64 0 : Value) := hd 12 (by simp); subst ee)
          (have ee : v13 = (.int .i64 1 : Value) := hd 13 (by simp); subst ee)
          (have ee : v14 = (.int .i64 0 : Value) := hd 14 (by simp); subst ee)
          clear hd hg
          (try go_simp)
          have HB8 := Lib.hid (HBK.out.trans (hx.mono HBK.out.size))
          clear hx HCX
          go_wp2
          go_roundw
          case rel => exact ⟨k + 1, by omega, by go_num, HB8.out, trivial⟩
          case measure => simp [intOf]; omega
        · have q6 : decide (((k + 1 : Nat) : Int) < ((K + 1 : Nat) : Int)) = false := decide_eq_false (by omega)
          have q6' : decide ((k : Int) + 1 < (K : Int) + 1) = false := decide_eq_false (by omega)
          have HB8 := Lib.hid (HBZ.out.trans (HBK.out.mono HBZ.out.size))
          go_wp2
          go_roundw
          case rel => exact ⟨i + 1, by omega, by omega, by go_num, HB8.out, trivial⟩
          case measure => simp [intOf]; omega
    · have q7 : decide (0 < (m : Int)) = true := decide_eq_true (by omega)
      have HB3 := Lib.hid (B2.out.trans (HBI.out.mono B2.out.size))
      rcases (show m ≤ i ∨ (i < m ∧ 12 ≤ i) by omega) with h | ⟨h, h'⟩
      · have q3 : decide ((i : Int) < m) = false := decide_eq_false (by omega)
        go_wp2_with fail
        refine (HAW.out _).mono ?_
        rintro e w5 ⟨rfl, hb5⟩
        have HF := Lib.hid (HB3.out.trans (hb5.mono HB3.out.size))
        clear hb5
        go_wp2
        go_ret
        exact ⟨rfl, HF.out⟩
      · have q3 : decide ((i : Int) < m) = true := decide_eq_true (by omega)
        have q4 : decide ((i : Int) < 12) = false := decide_eq_false (by omega)
        go_wp2_with fail
        refine (HAW.out _).mono ?_
        rintro e w5 ⟨rfl, hb5⟩
        have HF := Lib.hid (HB3.out.trans (hb5.mono HB3.out.size))
        clear hb5
        go_wp2
        go_ret
        exact ⟨rfl, HF.out⟩
theorem walk {w : World} (a0 : Int) (_w0 : (Lit.int .i64 a0).wf = true) (a1 : Int) (_w1 : (Lit.int .i64 a1).wf = true) (a2 : Int) (_w2 : (Lit.int .i64 a2).wf = true) (a3 : Int) (_w3 : (Lit.int .i64 a3).wf = true) :
    Calls Try.prog 10 #[.int .i64 a0, .int .i64 a1, .int .i64 a2, .int .i64 a3] w fun e w' => e = .returned (.bool true) ∧ Below w.heap.size w w' := core w a0 a1 a2 a3
end Go.Proofs.Yticbkdignmlfiaa.nearBack
