/- The law CellsFamilies: its walk. All children of some cells are as many groups as there are cells, each of seven. -/
import Derived.Test.YtkjfdaleamonaaaNcH
import Derived.Test.YtkjfdaleamonaaaNcB
import Derived.Test.YtkjfdaleamonaaaNcQ
import Derived.Test.YtkjfdaleamonaaaSlF
namespace Go.Proofs.Ytkjfdaleamonaaa.cellsFamilies
open Go.RowKit Go.Lib Wd

theorem chk_all {r : Int} : ∀ {l : List Int}, (∀ v ∈ l, isW v.toNat = true ∧ (rW v.toNat : Int) = r) → chkF r l = 0
  | [], _ => rfl
  | v :: l, h => by
    obtain ⟨h1, h2⟩ := h v List.mem_cons_self
    show (if isW v.toNat = true then (if (rW v.toNat : Int) = r then chkF r l else 8) else 5) = 0
    rw [if_pos h1, if_pos h2]
    exact chk_all fun u hu => h u (List.mem_cons_of_mem _ hu)
theorem sized_word {r : Nat} {l : List Int} (h : Sized r l) : ∀ v ∈ l, isW v.toNat = true ∧ (rW v.toNat : Int) = (r : Int) := fun v hv => by
  obtain ⟨z, hz, rfl⟩ := h v hv
  obtain ⟨a1, a2, -⟩ := word_cell hz
  rw [Int.toNat_natCast, a2]
  exact ⟨a1, rfl⟩
theorem sized_64 {r : Nat} {l : List Int} (h : Sized r l) : In64 l := fun v hv => by
  obtain ⟨z, hz, rfl⟩ := h v hv
  have := (wordN_lt hz).1
  omega
theorem kids_sized {r : Nat} (hr : r + 1 ≤ 12) {l : List Int} (h : Sized r l) : Sized (r + 1) (l.flatMap (kidsW r)) := fun v hv => by
  obtain ⟨W, hW, hv⟩ := List.mem_flatMap.1 hv
  obtain ⟨z, hz, rfl⟩ := h W hW
  obtain ⟨d, hd, rfl⟩ := (kidsW_mem hr v).1 hv
  exact ⟨_, kid_ok hz hr hd, rfl⟩
/-- The words gathered: of so many pairs of numbers. -/
def famE (z : Nat → Int) (R : Nat) (i : Nat) : E2 := someE (z (2 * i)) (z (2 * i + 1)) R
def famL (z : Nat → Int) (R : Nat) (j : Nat) : List Int := (List.range j).map fun i => (wordN R (famE z R i) : Int)
theorem fam_sized (z : Nat → Int) {R : Nat} (hR : R ≤ 12) (j : Nat) : Sized R (famL z R j) := fun v hv => by
  obtain ⟨i, _, rfl⟩ := List.mem_map.1 hv
  exact ⟨_, some_ok _ _ hR, rfl⟩
theorem fam_succ (z : Nat → Int) (R j : Nat) : famL z R (j + 1) = famL z R j ++ [(wordN R (famE z R j) : Int)] := by
  unfold famL; rw [List.range_succ, List.map_append]; rfl
theorem kidsW_len (r : Nat) (W : Int) : (kidsW r W).length = 7 := by unfold kidsW; simp
/-- Two rows of a call's own lie apart. -/
def Apt (v u : Value) : Prop := ∀ k, v.ownBlock = some k → u.ownBlock ≠ some k
theorem Apt.symm {v u : Value} (h : Apt v u) : Apt u v := fun k h1 h2 => h k h2 h1
theorem Apt.ne {v u : Value} (h : Apt v u) : v.ownBlock = none ∨ v.ownBlock ≠ u.ownBlock := by
  cases e : v.ownBlock with
  | none => exact .inl rfl
  | some k => exact .inr fun e2 => h k e e2.symm
theorem Apt.step {v v' u : Value} {g : Nat} (h : Apt v u) (hv : v'.ownBlock = v.ownBlock ∨ v'.ownBlock = some g) (hu : ∀ k, u.ownBlock = some k → k < g) : Apt v' u := fun k h1 h2 => by
  rcases hv with e | e
  · exact h k (by rw [← e]; exact h1) h2
  · rw [e] at h1
    cases h1
    have := hu _ h2
    omega
/-- Cells in memory, apart from a row of a call's own. -/
def Kq (w : World) (qo : Option Addr) (kl : List Cl) (v : Value) : Prop := CAt w qo kl ∧ ∀ b o s, qo = some ⟨b, o, s⟩ → b < w.heap.size ∧ v.ownBlock ≠ some b
theorem Kq.later {w w' : World} {qo : Option Addr} {kl : List Cl} {v : Value} (h : Kq w qo kl v) (hb : Below w.heap.size w w') : Kq w' qo kl v := ⟨h.1.below hb, fun b o s e => ⟨Nat.lt_of_lt_of_le (h.2 b o s e).1 hb.size, (h.2 b o s e).2⟩⟩
theorem Kq.grown {w w' : World} {qo : Option Addr} {kl : List Cl} {v v' : Value} (h : Kq w qo kl v) (hg : w.grownBy w' v.ownBlock) (hat : v'.ownBlock = v.ownBlock ∨ v'.ownBlock = some w.heap.size) : Kq w' qo kl v' := by
  refine ⟨fun h0 => ?_, fun b o s e => ?_⟩
  · obtain ⟨b, off, e, hlt, hc⟩ := h.1 h0
    have hne := (h.2 b off none e).2
    have hb := hg.block b hlt (fun e2 => hne e2.symm)
    refine ⟨b, off, e, Nat.lt_of_lt_of_le hlt hg.size, fun k hk => ?_⟩
    obtain ⟨h1, h2, h3⟩ := hc k hk
    exact ⟨(World.cell?_of_block (a := ⟨b, _, none⟩) hb).trans h1, (World.cell?_of_block (a := ⟨b, _, none⟩) hb).trans h2, (World.cell?_of_block (a := ⟨b, _, none⟩) hb).trans h3⟩
  · obtain ⟨h1, h2⟩ := h.2 b o s e
    refine ⟨Nat.lt_of_lt_of_le h1 hg.size, fun e2 => ?_⟩
    rcases hat with h3 | h3
    · exact h2 (by rw [← h3]; exact e2)
    · rw [h3] at e2
      simp only [Option.some.injEq] at e2
      omega
set_option maxRecDepth 100000 in
set_option maxHeartbeats 8000000 in
theorem walk {w : World} (a0 : Option Addr) (n0 c0 : Nat) (z0 : Nat → Int) (h0 : IntsAtK .i64 w w.heap.size a0 n0 z0) (_b0 : ∀ i, i < n0 → (Lit.int .i64 (z0 i)).wf = true) (s0 : n0 * 8 ≤ 140737488351232)
    (a1 : Int) (_w1 : (Lit.int .i64 a1).wf = true) :
    Calls Try.prog 3 #[.slice a0 n0 c0, .int .i64 a1] w fun e w' => e = .returned (.bool true) ∧ Below w.heap.size w w' := by
  obtain ⟨i0, hi, hz0, hz1, hz2⟩ := info_parts info_u
  obtain ⟨hr2, hr1⟩ := rem12 a1
  obtain ⟨R, hR, hR11⟩ : ∃ R : Nat, a1 % 12 = R ∧ R ≤ 11 := ⟨(a1 % 12).toNat, by omega, by omega⟩
  rw [hR] at hr1
  obtain ⟨s, hs⟩ : ∃ s, a1.tmod 12 = s := ⟨_, rfl⟩
  rw [hs] at hr1 hr2
  obtain ⟨hr3, hr4⟩ := hr2
  have HX := Lib.hid h0
  have HLW : Hid (∀ j w, Calls Try.prog 4 #[.int .i64 (z0 (2 * j)), .int .i64 (z0 (2 * j + 1)), .int .i64 R] w fun e w' => e = .returned (.int .u64 (wordN R (famE z0 R j) : Nat)) ∧ Below w.heap.size w w') := fun j w => by
    have h := lword_any (z0 (2 * j)) (z0 (2 * j + 1)) (R : Int) w
    rw [show (R : Int) % 13 = R by omega, Int.toNat_natCast, (ofW_ok (some_ok _ _ (by omega))).1] at h
    exact h
  have HCE : Hid (∀ j w, Calls Try.prog 5 #[.int .u64 (wordN R (famE z0 R j) : Nat)] w fun e w' => e = .returned (.tuple #[vC R (famE z0 R j), .int .i64 0]) ∧ Below w.heap.size w w') := fun j w => by
    have hok := some_ok (z0 (2 * j)) (z0 (2 * j + 1)) (show R ≤ 12 by omega)
    obtain ⟨b1, b2, b3⟩ := ofW_ok hok
    obtain ⟨k1, k2, k3⟩ := cv_ok hok
    have h := rcell_any _ b3 w
    rw [k1, k2, k3, b1] at h
    exact h
  have HKI : Hid (∀ j w, Calls Try.prog 6 #[vC R (famE z0 R j)] w (ToldN w (kidsL R (famE z0 R j)) 0)) := fun j w => by
    have hok := some_ok (z0 (2 * j)) (z0 (2 * j + 1)) (show R ≤ 12 by omega)
    obtain ⟨d1, d2⟩ := kd_ok hok (by omega)
    have h := rkids_new R (famE z0 R j) w
    unfold famE at h ⊢
    rw [d1, d2] at h
    exact h
  have HGT : Hid (∀ j d, d < 7 → cg (kidsL R (famE z0 R j)) d = (((R + 1 : Nat) : Int), downE (famE z0 R j) d)) := fun j d h => by rw [kidsL_get _ _ h]; rfl
  have HKL : Hid (∀ j, (kidsL R (famE z0 R j)).length = 7) := fun j => by unfold kidsL; simp
  have HWD : Hid (∀ j d, d < 7 → ∀ w, Calls Try.prog 7 #[vC (R + 1 : Nat) (downE (famE z0 R j) d)] w fun e w' => e = .returned (.tuple #[.int .u64 ((kidsW R (wordN R (famE z0 R j))).getD d 0), .int .i64 0]) ∧ Below w.heap.size w w') := fun j d hd w => by
    have hok := some_ok (z0 (2 * j)) (z0 (2 * j + 1)) (show R ≤ 12 by omega)
    have hk := kid_ok hok (by omega) hd
    obtain ⟨f1, f2, f3⟩ := ofW_ok hk
    have h := word_any (R + 1 : Nat) (downE (famE z0 R j) d) w
    unfold famE at h ⊢
    rw [f1, f2, ← kidsW_get (by omega) hd] at h
    exact h
  have HSZ := Lib.hid (fam_sized z0 (show R ≤ 12 by omega))
  have HFS := Lib.hid (fam_succ z0 R)
  have HF0 : Hid (famL z0 R 0 = []) := rfl
  have HKW := Lib.hid (kidsW_len R)
  have HTK : Hid (∀ W d, d < 7 → (kidsW R W).take (d + 1) = (kidsW R W).take d ++ [(kidsW R W).getD d 0]) := fun W d hd => take_w _ (by rw [kidsW_len]; exact hd)
  have HFL : Hid (∀ j, (famL z0 R j).length = j) := fun j => by unfold famL; simp
  have HFM : Hid (∀ j, ((famL z0 R j).flatMap (kidsW R)).length = 7 * j) := fun j => by
    induction j with
    | zero => rfl
    | succ j ih => rw [fam_succ, List.flatMap_append, List.length_append, ih]; simp [kidsW_len]; omega
  have HAW := Lib.hid awake7_any
  generalize hfam : famL z0 R = F at *
  clear h0 _b0 hfam hR
  simp only [vC] at *
  go_enter Try.func3, Try.ntmps3
  go_wp2
  go_loopw [5, 6, 7] (fun lv kv i wr => ∃ (j I : Nat) (lo ko : Option Addr) (lc kc : Nat), j ≤ 15 ∧ I ≤ n0 + 1 ∧ i = .int .i64 I ∧ Hid (I = 2 * j) ∧ lv = .slice lo j lc ∧ kv = .slice ko (7 * j) kc ∧ Hid (wr.ownsRow w.heap.size 24 1 (.slice lo j lc) j (uV (F j)) ∧ wr.ownsRow w.heap.size 24 1 (.slice ko (7 * j) kc) (7 * j) (uV ((F j).flatMap (kidsW R))) ∧ Apt (.slice lo j lc) (.slice ko (7 * j) kc) ∧ Below w.heap.size w wr)) (fun _ _ i _ => 32 - (intOf i).toNat)
  case atStart => exact ⟨0, 0, none, none, 0, 0, by omega, by omega, rfl, rfl, rfl, rfl, by rw [HF0.out]; exact World.ownsRow_nil _ _ _ _, by rw [HF0.out]; exact World.ownsRow_nil _ _ _ _, fun k h => by simp [Value.ownBlock] at h, Below.refl _ _⟩
  case round =>
    obtain ⟨j, I, lo, ko, lc, kc, hj, hjn, rfl, HJ, rfl, rfl, HI⟩ := hrel
    by_cases hlt : I + 1 < n0 ∧ I < 30
    · obtain ⟨hl1, hl2⟩ := hlt
      have q1 : decide ((I : Int) + 1 < n0) = true := decide_eq_true (by omega)
      have q2 : decide ((I : Int) < 30) = true := decide_eq_true (by omega)
      obtain ⟨b, off, rfl, hb, hc⟩ := (HX.out.below HI.out.2.2.2 (Nat.le_refl _)) (by omega)
      have x0 := hc I (by omega)
      have y0 := hc (I + 1) (by omega)
      have HL1 := Lib.hid (HLW.out j)
      rw [← HJ.out] at HL1
      generalize z0 I = x at *
      generalize z0 (I + 1) = y at *
      have HC1 := Lib.hid (HCE.out j)
      have HK1 := Lib.hid (HKI.out j)
      have HG1 := Lib.hid (HGT.out j)
      have HKL1 := Lib.hid (HKL.out j)
      have HW1 := Lib.hid (HWD.out j)
      have HF1 := Lib.hid (HFS.out j)
      have HFM1 := Lib.hid (HFM.out j)
      have HFM2 := Lib.hid (HFM.out (j + 1))
      generalize famE z0 R j = z at *
      obtain ⟨W, hW⟩ : ∃ W, wordN R z = W := ⟨_, rfl⟩
      rw [hW] at HL1 HC1 HW1 HF1
      have HT1 := Lib.hid (HTK.out (W : Int))
      have HKW1 := Lib.hid (HKW.out (W : Int))
      generalize kidsL (R : Int) z = kl at *
      have HFK : Hid ((F (j + 1)).flatMap (kidsW R) = (F j).flatMap (kidsW R) ++ kidsW R W) := by show _ = _; rw [HF1.out, List.flatMap_append]; simp
      have hsz := HI.out.2.2.2.size
      have hbw : b < wr.heap.size := by omega
      have HCX : Hid (∀ wx, Below wr.heap.size wr wx → wx.cell? ⟨b, off + I, none⟩ = some (.int .i64 x) ∧ wx.cell? ⟨b, off + (I + 1), none⟩ = some (.int .i64 y)) := fun wx hx => ⟨(hx.cell (p := ⟨b, _, none⟩) hbw).trans x0, (hx.cell (p := ⟨b, _, none⟩) hbw).trans y0⟩
      clear hc hW
      go_upto_region 6 with (fail)
      clear x0 y0
      refine wp_region_inv (fun w w' => Below w.heap.size w w') (fun qi_ qv_ _ => qv_ = ([.slice (some ⟨b, off, none⟩) n0 c0, .int .i64 I, .pointer (some ⟨b, off + I, none⟩), .int .i64 x, .slice (some ⟨b, off, none⟩) n0 c0, .int .i64 I, .int .i64 ((I + 1 : Nat) : Int), .pointer (some ⟨b, off + (I + 1), none⟩), .int .i64 y, .int .i64 R, .int .u64 W, .int .u64 W] : List Value).getD qi_ undef) (by kernel_rfl) (by kernel_rfl) (fun _ => Below.refl _ _) (fun _ _ _ h1 h2 => below_later h1 h1.size h2) (fun _ _ _ _ _ _ h => h) ?_
      refine inv_cons (fun wx hg hd => ?_) (fun v0 => ?_)
      · have hx := ((Below.refl wr.heap.size wr).drew).trans hg
        clear hd hg
        go_wp2
        exact ⟨_, rfl, Below.refl _ _, rfl⟩
      (try simp only [List.nil_append, Act.put, List.setIfInBounds_toArray, List.set_cons_zero, List.set_cons_succ])
      refine inv_cons (fun wx hg hd => ?_) (fun v1 => ?_)
      · have hx := ((Below.refl wr.heap.size wr).drew).trans hg
        clear hd hg
        go_wp2
        exact ⟨_, rfl, Below.refl _ _, rfl⟩
      (try simp only [List.cons_append, List.nil_append, Act.put, List.setIfInBounds_toArray, List.set_cons_zero, List.set_cons_succ])
      refine inv_cons (fun wx hg hd => ?_) (fun v2 => ?_)
      · have hx := ((Below.refl wr.heap.size wr).drew).trans hg
        (try (have ee : v0 = (.slice (some ⟨b, off, none⟩) n0 c0 : Value) := hd 0 (by simp) (by decide); subst ee))
        (try (have ee : v1 = (.int .i64 I : Value) := hd 1 (by simp) (by decide); subst ee))
        clear hd hg
        go_wp2
        exact ⟨_, rfl, Below.refl _ _, rfl⟩
      (try simp only [List.cons_append, List.nil_append, Act.put, List.setIfInBounds_toArray, List.set_cons_zero, List.set_cons_succ])
      refine inv_cons (fun wx hg hd => ?_) (fun v3 => ?_)
      · have hx := ((Below.refl wr.heap.size wr).drew).trans hg
        (try (have ee : v2 = (.pointer (some ⟨b, off + I, none⟩) : Value) := hd 2 (by simp) (by decide); subst ee))
        clear hd hg
        obtain ⟨k1, k2⟩ := HCX.out _ hx
        go_wp2
        exact ⟨_, rfl, Below.refl _ _, rfl⟩
      (try simp only [List.cons_append, List.nil_append, Act.put, List.setIfInBounds_toArray, List.set_cons_zero, List.set_cons_succ])
      refine inv_cons (fun wx hg hd => ?_) (fun v4 => ?_)
      · have hx := ((Below.refl wr.heap.size wr).drew).trans hg
        clear hd hg
        go_wp2
        exact ⟨_, rfl, Below.refl _ _, rfl⟩
      (try simp only [List.cons_append, List.nil_append, Act.put, List.setIfInBounds_toArray, List.set_cons_zero, List.set_cons_succ])
      refine inv_cons (fun wx hg hd => ?_) (fun v5 => ?_)
      · have hx := ((Below.refl wr.heap.size wr).drew).trans hg
        clear hd hg
        go_wp2
        exact ⟨_, rfl, Below.refl _ _, rfl⟩
      (try simp only [List.cons_append, List.nil_append, Act.put, List.setIfInBounds_toArray, List.set_cons_zero, List.set_cons_succ])
      refine inv_cons (fun wx hg hd => ?_) (fun v6 => ?_)
      · have hx := ((Below.refl wr.heap.size wr).drew).trans hg
        (try (have ee : v5 = (.int .i64 I : Value) := hd 5 (by simp) (by decide); subst ee))
        clear hd hg
        go_wp2
        exact ⟨_, rfl, Below.refl _ _, by go_num⟩
      (try simp only [List.cons_append, List.nil_append, Act.put, List.setIfInBounds_toArray, List.set_cons_zero, List.set_cons_succ])
      refine inv_cons (fun wx hg hd => ?_) (fun v7 => ?_)
      · have hx := ((Below.refl wr.heap.size wr).drew).trans hg
        (try (have ee : v4 = (.slice (some ⟨b, off, none⟩) n0 c0 : Value) := hd 4 (by simp) (by decide); subst ee))
        (try (have ee : v6 = (.int .i64 ((I + 1 : Nat) : Int) : Value) := hd 6 (by simp) (by decide); subst ee))
        clear hd hg
        go_wp2
        exact ⟨_, rfl, Below.refl _ _, rfl⟩
      (try simp only [List.cons_append, List.nil_append, Act.put, List.setIfInBounds_toArray, List.set_cons_zero, List.set_cons_succ])
      refine inv_cons (fun wx hg hd => ?_) (fun v8 => ?_)
      · have hx := ((Below.refl wr.heap.size wr).drew).trans hg
        (try (have ee : v7 = (.pointer (some ⟨b, off + (I + 1), none⟩) : Value) := hd 7 (by simp) (by decide); subst ee))
        clear hd hg
        obtain ⟨k1, k2⟩ := HCX.out _ hx
        go_wp2
        exact ⟨_, rfl, Below.refl _ _, rfl⟩
      (try simp only [List.cons_append, List.nil_append, Act.put, List.setIfInBounds_toArray, List.set_cons_zero, List.set_cons_succ])
      refine inv_cons (fun wx hg hd => ?_) (fun v9 => ?_)
      · have hx := ((Below.refl wr.heap.size wr).drew).trans hg
        clear hd hg
        go_wp2
        exact ⟨_, rfl, Below.refl _ _, rfl⟩
      (try simp only [List.cons_append, List.nil_append, Act.put, List.setIfInBounds_toArray, List.set_cons_zero, List.set_cons_succ])
      refine inv_cons (fun wx hg hd => ?_) (fun v10 => ?_)
      · have hx := ((Below.refl wr.heap.size wr).drew).trans hg
        (try (have ee : v3 = (.int .i64 x : Value) := hd 3 (by simp) (by decide); subst ee))
        (try (have ee : v8 = (.int .i64 y : Value) := hd 8 (by simp) (by decide); subst ee))
        (try (have ee : v9 = (.int .i64 R : Value) := hd 9 (by simp) (by decide); subst ee))
        clear hd hg
        go_wp2_with fail
        refine (HL1.out _).mono ?_
        rintro e w' ⟨rfl, hb⟩
        go_wp2
        exact ⟨_, rfl, hb, rfl⟩
      (try simp only [List.cons_append, List.nil_append, Act.put, List.setIfInBounds_toArray, List.set_cons_zero, List.set_cons_succ])
      refine inv_cons (fun wx hg hd => ?_) (fun v11 => ?_)
      · have hx := ((Below.refl wr.heap.size wr).drew).trans hg
        (try (have ee : v10 = (.int .u64 W : Value) := hd 10 (by simp) (by decide); subst ee))
        clear hd hg
        go_wp2
        exact ⟨_, rfl, Below.refl _ _, rfl⟩
      (try simp only [List.cons_append, List.nil_append, Act.put, List.setIfInBounds_toArray, List.set_cons_zero, List.set_cons_succ])
      refine inv_done (fun wx hg hd => ?_)
      have hx := ((Below.refl wr.heap.size wr).drew).trans hg
      (have ee : v0 = (.slice (some ⟨b, off, none⟩) n0 c0 : Value) := hd 0 (by simp); subst ee)
      (have ee : v1 = (.int .i64 I : Value) := hd 1 (by simp); subst ee)
      (have ee : v2 = (.pointer (some ⟨b, off + I, none⟩) : Value) := hd 2 (by simp); subst ee)
      (have ee : v3 = (.int .i64 x : Value) := hd 3 (by simp); subst ee)
      (have ee : v4 = (.slice (some ⟨b, off, none⟩) n0 c0 : Value) := hd 4 (by simp); subst ee)
      (have ee : v5 = (.int .i64 I : Value) := hd 5 (by simp); subst ee)
      (have ee : v6 = (.int .i64 ((I + 1 : Nat) : Int) : Value) := hd 6 (by simp); subst ee)
      (have ee : v7 = (.pointer (some ⟨b, off + (I + 1), none⟩) : Value) := hd 7 (by simp); subst ee)
      (have ee : v8 = (.int .i64 y : Value) := hd 8 (by simp); subst ee)
      (have ee : v9 = (.int .i64 R : Value) := hd 9 (by simp); subst ee)
      (have ee : v10 = (.int .u64 W : Value) := hd 10 (by simp); subst ee)
      (have ee : v11 = (.int .u64 W : Value) := hd 11 (by simp); subst ee)
      clear hd hg
      (try go_simp)
      obtain ⟨ho1, ho2, hap, hbl⟩ := HI.out
      have ha : Below wr.heap.size wr (wx.alloc (.cells #[.int .u64 W] 24)) := hx.alloc hx.size _
      have k1 := own_later ho1 ha
      have k2 := own_later ho2 ha
      have hba := hbl.trans (ha.mono hsz)
      have hown := own_later ho1 hx
      have hzx := hx.size
      clear HCX hx
      go_wp2_with (at_builtin; refine wpList_append_own_at _ rfl (.tmp 47) (.tmp 49) 23 rfl w.heap.size 24 i0 (.int .u64 0) 1 8 Try.underlying23 hi hz0 hz1 hz2 rfl (by decide) _ _ _ rfl (hown.alloc _) ⟨wx.heap.size, 0, none⟩ 1 1 [.int .u64 W] rfl rfl (cells_new _ _ _ _ rfl) (by simp [Value.oneCell']) (by unfold maxLen; omega) (by omega) (by simp; omega) ?_; intro v' w3 hown1 hgrow _ hat)
      have hg2 : (wx.alloc (.cells #[.int .u64 (W : Int)] 24)).grownBy w3 (Value.slice lo j lc).ownBlock := hgrow
      have hat2 : v'.ownBlock = (Value.slice lo j lc).ownBlock ∨ v'.ownBlock = some (wx.alloc (.cells #[.int .u64 (W : Int)] 24)).heap.size := hat
      obtain ⟨lo', lc', rfl, -⟩ := own_form hown1
      have L3 := hown1
      have e1 : uV (F j) ++ [Value.int .u64 (W : Int)] = uV (F (j + 1)) := by rw [HF1.out]; simp [uV]
      rw [e1] at L3
      have K3 := k2.kept hg2 hap.symm.ne
      have AP3 : Apt (.slice lo' (j + 1) lc') (.slice ko (7 * j) kc) := hap.step hat2 fun k hk => (k2.lt k hk).2
      have B3 := below_append hba k1 (by have := hba.size; omega) hg2
      have HI3 : Hid (w3.ownsRow w.heap.size 24 1 (.slice lo' (j + 1) lc') (j + 1) (uV (F (j + 1))) ∧ w3.ownsRow w.heap.size 24 1 (.slice ko (7 * j) kc) (7 * j) (uV ((F j).flatMap (kidsW R))) ∧ Apt (.slice lo' (j + 1) lc') (.slice ko (7 * j) kc) ∧ Below w.heap.size w w3) := ⟨L3, K3, AP3, B3⟩
      clear hown1 hgrow hat hg2 hat2 e1 L3 K3 AP3 B3 ho1 ho2 hap hbl ha k1 k2 hba hown HI
      go_wp2_with fail
      refine (HC1.out _).mono ?_
      rintro e w4 ⟨rfl, hb4⟩
      have hal : Below w4.heap.size w4 (w4.alloc (.cells #[.int .i64 R, .int .i64 z.1, .int .i64 z.2] 29)) := (Below.refl _ _).alloc (Nat.le_refl _) _
      have hb5 := hb4.trans (hal.mono hb4.size)
      have HI5 : Hid ((w4.alloc (.cells #[.int .i64 R, .int .i64 z.1, .int .i64 z.2] 29)).ownsRow w.heap.size 24 1 (.slice lo' (j + 1) lc') (j + 1) (uV (F (j + 1))) ∧ (w4.alloc (.cells #[.int .i64 R, .int .i64 z.1, .int .i64 z.2] 29)).ownsRow w.heap.size 24 1 (.slice ko (7 * j) kc) (7 * j) (uV ((F j).flatMap (kidsW R))) ∧ Apt (.slice lo' (j + 1) lc') (.slice ko (7 * j) kc) ∧ Below w.heap.size w (w4.alloc (.cells #[.int .i64 R, .int .i64 z.1, .int .i64 z.2] 29))) := ⟨own_later HI3.out.1 hb5, own_later HI3.out.2.1 hb5, HI3.out.2.2.1, HI3.out.2.2.2.trans (hb5.mono HI3.out.2.2.2.size)⟩
      have T5 : Hid (Tri (w4.alloc (.cells #[.int .i64 R, .int .i64 z.1, .int .i64 z.2] 29)) w4.heap.size R z) := heap_new _ _ _ rfl
      clear hb4 hb5 hal HI3
      go_upto_region 9 with (fail)
      generalize w4.alloc (.cells #[.int .i64 R, .int .i64 z.1, .int .i64 z.2] 29) = w5 at *
      obtain ⟨t0, t1, t2, t3, t4, t5, t6⟩ := T5.out.cells
      go_wp2_with fail
      refine (HK1.out _).mono ?_
      rintro e w6 ⟨qo, qc, rfl, hq, hb6, hqn⟩
      rw [HKL1.out]
      have HI6 : Hid (w6.ownsRow w.heap.size 24 1 (.slice lo' (j + 1) lc') (j + 1) (uV (F (j + 1))) ∧ w6.ownsRow w.heap.size 24 1 (.slice ko (7 * j) kc) (7 * j) (uV ((F j).flatMap (kidsW R))) ∧ Apt (.slice lo' (j + 1) lc') (.slice ko (7 * j) kc) ∧ Below w.heap.size w w6) := ⟨own_later HI5.out.1 hb6, own_later HI5.out.2.1 hb6, HI5.out.2.2.1, HI5.out.2.2.2.trans (hb6.mono HI5.out.2.2.2.size)⟩
      have HQ : Hid (Kq w6 qo kl (.slice ko (7 * j) kc)) := ⟨hq, fun b o s e => ⟨(hqn b o s e).2, fun e2 => by have h1 := (HI5.out.2.1.lt _ e2).2; have h2 := (hqn b o s e).1; omega⟩⟩
      clear hq hb6 hqn HI5 t0 t1 t2 t3 t4 t5 t6 T5
      go_wp2
      go_loopw [6, 13] (fun kv i wy => ∃ (d : Nat) (ko : Option Addr) (kc : Nat), d ≤ 7 ∧ i = .int .i64 d ∧ kv = .slice ko (7 * j + d) kc ∧ Hid (wy.ownsRow w.heap.size 24 1 (.slice lo' (j + 1) lc') (j + 1) (uV (F (j + 1))) ∧ wy.ownsRow w.heap.size 24 1 (.slice ko (7 * j + d) kc) (7 * j + d) (uV ((F j).flatMap (kidsW R) ++ (kidsW R W).take d)) ∧ Apt (.slice lo' (j + 1) lc') (.slice ko (7 * j + d) kc) ∧ Below w.heap.size w wy ∧ Kq wy qo kl (.slice ko (7 * j + d) kc))) (fun _ i _ => 7 - (intOf i).toNat)
      case atStart => exact ⟨0, ko, kc, by omega, rfl, rfl, HI6.out.1, by rw [List.take_zero, List.append_nil]; exact HI6.out.2.1, HI6.out.2.2.1, HI6.out.2.2.2, HQ.out⟩
      case round =>
        obtain ⟨d, ko, kc, hd, rfl, rfl, HD⟩ := hrel
        by_cases hd7 : d < 7
        · obtain ⟨g, off2, rfl, hg, hc⟩ := HD.out.2.2.2.2.1 (by rw [HKL1.out]; omega)
          obtain ⟨c0, c1, c2⟩ := hc d (by rw [HKL1.out]; exact hd7)
          rw [HG1.out d hd7] at c0 c1 c2
          have HWd := Lib.hid (HW1.out d hd7)
          have HTd := Lib.hid (HT1.out d hd7)
          generalize (kidsW R (W : Int)).getD d 0 = v at *
          generalize downE z d = y at *
          simp only at c0 c1 c2
          have hgw : g < wr.heap.size := hg
          clear hc
          go_wp2_with fail
          refine (HWd.out _).mono ?_
          rintro e w7 ⟨rfl, hb7⟩
          have hzz7 := hb7.size
          have hal : Below w7.heap.size w7 (w7.alloc (.cells #[.int .u64 v] 24)) := (Below.refl _ _).alloc (Nat.le_refl _) _
          have hb8 := hb7.trans (hal.mono hb7.size)
          have k1 := own_later HD.out.1 hb8
          have k2 := own_later HD.out.2.1 hb8
          have hap := HD.out.2.2.1
          have hba := HD.out.2.2.2.1.trans (hb8.mono HD.out.2.2.2.1.size)
          have hkq := HD.out.2.2.2.2.later hb8
          have hown := own_later HD.out.2.1 hb7
          have hsd := HD.out.2.2.2.1.size
          clear hb7 hb8 hal HD c0 c1 c2
          go_wp2_with (at_builtin; refine wpList_append_own_at _ rfl (.tmp 75) (.tmp 77) 23 rfl w.heap.size 24 i0 (.int .u64 0) 1 8 Try.underlying23 hi hz0 hz1 hz2 rfl (by decide) _ _ _ rfl (hown.alloc _) ⟨w7.heap.size, 0, none⟩ 1 1 [.int .u64 v] rfl rfl (cells_new _ _ _ _ rfl) (by simp [Value.oneCell']) (by unfold maxLen; omega) (by omega) (by simp; omega) ?_; intro v' w8 hown1 hgrow _ hat)
          have hg2 : (w7.alloc (.cells #[.int .u64 v] 24)).grownBy w8 (Value.slice ko (7 * j + d) kc).ownBlock := hgrow
          have hat2 : v'.ownBlock = (Value.slice ko (7 * j + d) kc).ownBlock ∨ v'.ownBlock = some (w7.alloc (.cells #[.int .u64 v] 24)).heap.size := hat
          obtain ⟨ko', kc', rfl, -⟩ := own_form hown1
          have L3 := k1.kept hg2 hap.ne
          have K3 := hown1
          have e1 : uV ((F j).flatMap (kidsW R) ++ (kidsW R W).take d) ++ [Value.int .u64 v] = uV ((F j).flatMap (kidsW R) ++ (kidsW R W).take (d + 1)) := by rw [HTd.out]; simp [uV]
          rw [e1] at K3
          have AP3 : Apt (.slice lo' (j + 1) lc') (.slice ko' (7 * j + d + 1) kc') := (hap.symm.step hat2 fun k hk => (k1.lt k hk).2).symm
          have B3 := below_append hba k2 (by have := hba.size; omega) hg2
          have KQ3 := hkq.grown hg2 hat2
          have HD3 : Hid (w8.ownsRow w.heap.size 24 1 (.slice lo' (j + 1) lc') (j + 1) (uV (F (j + 1))) ∧ w8.ownsRow w.heap.size 24 1 (.slice ko' (7 * j + d + 1) kc') (7 * j + d + 1) (uV ((F j).flatMap (kidsW R) ++ (kidsW R W).take (d + 1))) ∧ Apt (.slice lo' (j + 1) lc') (.slice ko' (7 * j + d + 1) kc') ∧ Below w.heap.size w w8 ∧ Kq w8 (some ⟨g, off2, none⟩) kl (.slice ko' (7 * j + d + 1) kc')) := ⟨L3, K3, AP3, B3, KQ3⟩
          clear hown1 hgrow hat hg2 hat2 e1 L3 K3 AP3 B3 KQ3 hkq hap k1 k2 hba hown
          go_roundw
          case rel => exact ⟨d + 1, ko', kc', by omega, by go_num, by rw [← Nat.add_assoc], HD3.out⟩
          case measure => simp [intOf]; omega
        · have h7 : 7 ≤ d := by omega
          have HJ2 : Hid (I + 2 = 2 * (j + 1)) := by show _ = _; have := HJ.out; omega
          have hj15 : j + 1 ≤ 15 := by have := HJ.out; omega
          have HF3 : Hid (wr.ownsRow w.heap.size 24 1 (.slice lo' (j + 1) lc') (j + 1) (uV (F (j + 1))) ∧ wr.ownsRow w.heap.size 24 1 (.slice ko (7 * (j + 1)) kc) (7 * (j + 1)) (uV ((F (j + 1)).flatMap (kidsW R))) ∧ Apt (.slice lo' (j + 1) lc') (.slice ko (7 * (j + 1)) kc) ∧ Below w.heap.size w wr) := by
            have e7 : 7 * (j + 1) = 7 * j + d := by omega
            have hk := HD.out.2.1
            rw [List.take_of_length_le (by rw [HKW1.out]; exact h7), ← HFK.out] at hk
            rw [e7]
            exact ⟨HD.out.1, hk, HD.out.2.2.1, HD.out.2.2.2.1⟩
          clear HD
          go_wp2
          go_roundw
          case rel => exact ⟨j + 1, I + 2, lo', ko, lc', kc, hj15, by omega, by go_num, HJ2.out, rfl, by rw [show 7 * (j + 1) = 7 * j + d by omega], HF3.out⟩
          case measure => simp [intOf]; omega
    · have hlo := words_own (HFL.out j).symm HI.out.1
      have hko := words_own (HFM.out j).symm HI.out.2.1
      have hsz1 := HSZ.out j
      have hsz2 := kids_sized (show R + 1 ≤ 12 by omega) hsz1
      have HG : Hid (grpF ((F j).flatMap (kidsW R)) = (setF (F j)).map (kidsW R)) := grp_kids (show R + 1 ≤ 12 by omega) hsz1 fun v => List.mem_flatMap
      have HS1 := Lib.hid (fun w (h : WordsAt w wr.heap.size lo (F j)) => uset_any lo lc (F j) w wr.heap.size h (by rw [HFL.out]; omega))
      have HG1 := Lib.hid (fun w (h : WordsAt w wr.heap.size ko ((F j).flatMap (kidsW R))) => groups_any ko kc ((F j).flatMap (kidsW R)) w wr.heap.size h (by rw [HFM.out]; omega) (sized_64 hsz2))
      have HC1 := Lib.hid (fun w (h : WordsAt w wr.heap.size ko ((F j).flatMap (kidsW R))) (hB : wr.heap.size ≤ w.heap.size) => check_any ko kc ((F j).flatMap (kidsW R)) ((R : Int) + 1) w wr.heap.size h hB (by rw [HFM.out]; omega) (sized_64 hsz2))
      have HC2 := Lib.hid (fun w (h : WordsAt w wr.heap.size lo (F j)) (hB : wr.heap.size ≤ w.heap.size) => check_any lo lc (F j) (R : Int) w wr.heap.size h hB (by rw [HFL.out]; omega) (sized_64 hsz1))
      rw [HFL.out] at HS1 HC2
      rw [HFM.out] at HG1 HC1
      rw [HG.out] at HG1
      rw [show chkF ((R : Int) + 1) ((F j).flatMap (kidsW R)) = 0 from chk_all fun v hv => by have := sized_word hsz2 v hv; exact ⟨this.1, by rw [this.2]; omega⟩] at HC1
      rw [show chkF (R : Int) (F j) = 0 from chk_all (sized_word hsz1)] at HC2
      have HLO := Lib.hid hlo
      have HKO := Lib.hid hko
      have HB0 := Lib.hid HI.out.2.2.2
      have hss : Sized R (setF (F j)) := fun v hv => hsz1 v ((setF_mem _ v).1 hv)
      have HSS : Hid (∀ i, i < (setF (F j)).length → ∃ z, okB R z = true ∧ (setF (F j)).getD i 0 = (wordN R z : Int)) := fun i hi => hss _ (getD_mem hi)
      have HSL : Hid ((setF (F j)).length ≤ 15) := by have := setF_length (F j); rw [HFL.out] at this; show _ ≤ _; omega
      have HWU : Hid (∀ i, i < (setF (F j)).length → ∀ w, Calls Try.prog 11 #[.int .u64 ((kidsW R ((setF (F j)).getD i 0)).getD 0 0)] w fun e w' => e = .returned (.tuple #[.int .u64 ((setF (F j)).getD i 0), .int .i64 0]) ∧ Below w.heap.size w w') := fun i hi w => by
        obtain ⟨z, hz, e⟩ := HSS.out i hi
        rw [e, kidsW_get (by omega) (by omega)]
        have hk := kid_ok hz (show R + 1 ≤ 12 by omega) (show 0 < 7 by omega)
        have h := wup_any (wordN (R + 1) (downE z 0)) (by have := (wordN_lt hk).1; omega) w
        rw [(par_kid (by omega) hz (show 0 < 7 by omega)).1, (par_kid (by omega) hz (show 0 < 7 by omega)).2] at h
        exact h
      have HMG : Hid (∀ i, i < (setF (F j)).length → ((setF (F j)).map (kidsW R)).getD i [] = kidsW R ((setF (F j)).getD i 0)) := fun i hi => by
        rw [List.getD_eq_getElem?_getD, List.getElem?_map, List.getElem?_eq_getElem hi, List.getD_eq_getElem?_getD, List.getElem?_eq_getElem hi]
        rfl
      have HML : Hid (((setF (F j)).map (kidsW R)).length = (setF (F j)).length) := by show _ = _; rw [List.length_map]
      clear hlo hko hsz1 hsz2 hss HI HG
      generalize setF (F j) = S at *
      generalize S.map (kidsW R) = G at *
      obtain ⟨n, hn⟩ : ∃ n, S.length = n := ⟨_, rfl⟩
      have HN := Lib.hid hn
      rw [hn] at HSL HWU HMG HML HS1
      have hn15 := HSL.out
      clear hn HSS HSL
      obtain ⟨wa, rfl⟩ : ∃ wa, wa = wr := ⟨_, rfl⟩
      have hor : (decide ((I : Int) + 1 < n0) = false) ∨ (decide ((I : Int) + 1 < n0) = true ∧ decide ((I : Int) < 30) = false) := by
        by_cases h1 : I + 1 < n0
        · exact .inr ⟨decide_eq_true (by omega), decide_eq_false (by omega)⟩
        · exact .inl (decide_eq_false (by omega))
      clear hlt
      rcases hor with q1 | ⟨q1, q2⟩
      all_goals
        go_wp2_with fail
        refine (HS1.out _ HLO.out).mono ?_
        rintro e w1 ⟨so, sc, rfl, -, hsw, hb1⟩
        have X1 := Lib.hid hb1
        have WS := Lib.hid hsw
        clear hsw hb1
        go_wp2_with fail
        refine (HG1.out _ (HKO.out.below X1.out (Nat.le_refl _))).mono ?_
        rintro e w2 ⟨go, gc, vs, rfl, hgr, hb2⟩
        have hvl : vs.length = n := by rw [hgr.2.1.length, HML.out]
        rw [hvl] at hgr
        rw [hvl]
        have X2 := Lib.hid (X1.out.trans (hb2.mono X1.out.size))
        have WS2 := Lib.hid (WS.out.below hb2 (Nat.le_refl _))
        have hss2 := hb2.size
        have GR := Lib.hid hgr
        clear hvl hgr hb2 WS
        go_wp2_with fail
        refine (HC1.out _ (HKO.out.below X2.out (Nat.le_refl _)) X2.out.size).mono ?_
        rintro e w3 ⟨rfl, hb3⟩
        have X3 := Lib.hid (X2.out.trans (hb3.mono X2.out.size))
        have WS3 := Lib.hid (WS2.out.below hb3 hss2)
        have hss3 := Nat.le_trans hss2 hb3.size
        have GR3 := Lib.hid (GR.out.later hb3)
        clear hb3 X2 WS2 GR
        go_wp2_with fail
        refine (HC2.out _ (HLO.out.below X3.out (Nat.le_refl _)) X3.out.size).mono ?_
        rintro e w4 ⟨rfl, hb4⟩
        have X4 := Lib.hid (X3.out.trans (hb4.mono X3.out.size))
        have WS4 := Lib.hid (WS3.out.below hb4 hss3)
        have hss4 := Nat.le_trans hss3 hb4.size
        have GR4 := Lib.hid (GR3.out.later hb4)
        have HB4 := Lib.hid (HB0.out.trans (X4.out.mono HB0.out.size))
        clear hb4 X3 WS3 GR3 X4 X1
        go_wp2
        go_loopw [18] (fun i wy => ∃ k : Nat, k ≤ n ∧ i = .int .i64 k ∧ Hid (Below w4.heap.size w4 wy ∧ True)) (fun i _ => n - (intOf i).toNat)
        case atStart => exact ⟨0, by omega, rfl, Below.refl _ _, trivial⟩
        case round =>
          obtain ⟨k, hk, rfl, hbk, -⟩ := hrel
          have HBK := Lib.hid hbk
          clear hbk
          by_cases hkn : k < n
          · have hgg := GR4.out.later HBK.out
            have hin := hgg.2.1.get (i := k) (by rw [HML.out]; exact hkn)
            rw [HMG.out k hkn, HKW.out] at hin
            obtain ⟨go', gc', hgv, -, hgo⟩ := own_form hgg.1
            simp only [Value.slice.injEq] at hgv
            obtain ⟨rfl, -, rfl⟩ := hgv
            obtain ⟨gg, rfl, -, hggs, hgc⟩ := hgo (by rw [hgg.2.1.length, HML.out]; omega)
            obtain ⟨ro, rc, hrv, -, hro⟩ := own_form hin
            obtain ⟨rg, rfl, -, hrs, hrc⟩ := hro (by decide)
            have hkv : k < vs.length := by rw [hgg.2.1.length, HML.out]; exact hkn
            have g0 := hgc k _ (List.getElem?_eq_getElem hkv)
            have hvk : vs[k] = .slice (some ⟨rg, 0, none⟩) 7 rc := by rw [← hrv, List.getD_eq_getElem?_getD, List.getElem?_eq_getElem hkv]; rfl
            rw [hvk] at g0
            have r0 := hrc 0 _ (uV_get _ 0 (by rw [HKW.out]; decide))
            obtain ⟨sb, soff, rfl, hsb, hsc⟩ := (WS4.out.below HBK.out hss4) (by rw [HN.out]; omega)
            have s0' := hsc k (by rw [HN.out]; exact hkn)
            have HWK := Lib.hid (HWU.out k hkn)
            generalize (kidsW R (S.getD k 0)).getD 0 0 = kw at *
            generalize S.getD k 0 = sw at *
            have q8 : (sw != sw) = false := by simp
            have HSW : Hid (∀ wx, Below wr.heap.size wr wx → wx.cell? ⟨sb, soff + k, none⟩ = some (.int .u64 sw)) := fun wx hx => (hx.cell (p := ⟨sb, _, none⟩) (by have := HBK.out.size; show sb < _; omega)).trans s0'
            clear hsc hgc hrc hvk hrv hin hgg hro hgo
            go_wp2_with fail
            refine (HWK.out _).mono ?_
            rintro e w5 ⟨rfl, hb5⟩
            have s5 := HSW.out _ hb5
            have HB5 := Lib.hid (HBK.out.trans (hb5.mono HBK.out.size))
            clear hb5 g0 r0 s0'
            go_wp2
            go_roundw
            case rel => exact ⟨k + 1, by omega, by go_num, HB5.out, trivial⟩
            case measure => simp [intOf]; omega
          · have hkn2 : n ≤ k := by omega
            have HBB := Lib.hid (HB4.out.trans (HBK.out.mono HB4.out.size))
            go_wp2_with fail
            refine (HAW.out _).mono ?_
            rintro e w5 ⟨rfl, hb5⟩
            have HF := Lib.hid (HBB.out.trans (hb5.mono HBB.out.size))
            clear hb5
            go_wp2
            go_ret
            exact ⟨rfl, HF.out⟩
end Go.Proofs.Ytkjfdaleamonaaa.cellsFamilies
