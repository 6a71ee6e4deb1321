/- The law NearKids: its walk. The children of one cell are near each other. -/
import Derived.Test.YticbkdignmlfiaaNfM
import Derived.Test.YticbkdignmlfiaaNfJ
namespace Go.Proofs.Yticbkdignmlfiaa.nearKids
open Go.RowKit Go.Lib Wd

def tabD (i k : Nat) : Int := stepsN (subE (leftE i) (leftE k))
def cntD (i : Nat) : Nat → Nat
  | 0 => 0
  | k + 1 => cntD i k + if tabD i k = 1 then 1 else 0
theorem tab_in : ∀ i, i < 7 → ∀ k, k < 7 → 0 ≤ tabD i k ∧ tabD i k ≤ 2 := by decide
theorem cnt_in : ∀ i, i < 7 → (∀ k, k < 8 → cntD i k ≤ 7) ∧ cntD i 7 = if i = 0 then 6 else 3 := by decide
theorem down_sub (z : E2) (i k : Nat) : subE (downE z i) (downE z k) = subE (leftE i) (leftE k) := by
  unfold downE addE subE
  simp only [Prod.mk.injEq]
  omega
/-- The children's words. -/
def kidW (R : Nat) (z : E2) : List Int := (List.range 7).map fun d => (ofW (R + 1 : Nat) (downE z d) : Int)
theorem kidW_get (R : Nat) (z : E2) {d : Nat} (h : d < 7) : (kidW R z).getD d 0 = (ofW (R + 1 : Nat) (downE z d) : Int) := by
  unfold kidW
  rw [List.getD_eq_getElem?_getD, List.getElem?_map, List.getElem?_range h]
  rfl
set_option maxRecDepth 100000 in
set_option maxHeartbeats 4000000 in
theorem core (w : World) (a0 a1 a2 : Int) : Calls Try.prog 6 #[.int .i64 a0, .int .i64 a1, .int .i64 a2] w fun e w' => e = .returned (.bool true) ∧ Below w.heap.size w w' := by
  obtain ⟨i0, hi, hz0, hz1, hz2⟩ := info_parts info_u
  obtain ⟨Y, q1, hY⟩ : ∃ Y, bits BinOp.andNot IntKind.i64 a1 1 = Y ∧ Y % 2 = 0 := ⟨_, rfl, andNot_even a1⟩
  obtain ⟨hr2, hr1⟩ := rem12 a2
  obtain ⟨R, hR, hR11⟩ : ∃ R : Nat, a2 % 12 = R ∧ R ≤ 11 := ⟨(a2 % 12).toNat, by omega, by omega⟩
  rw [hR] at hr1
  obtain ⟨s, hs⟩ : ∃ s, a2.tmod 12 = s := ⟨_, rfl⟩
  rw [hs] at hr1 hr2
  obtain ⟨hr3, hr4⟩ := hr2
  have HLW := Lib.hid (lword_even a0 Y (R : Int) hY)
  rw [show (R : Int) % 13 = R by omega, Int.toNat_natCast] at HLW
  have hok : okB R (nearE (a0 % 1073741824) (Y % 1073741824) R) = true := near_ok0 (by omega) (by omega) (by omega)
  generalize nearE (a0 % 1073741824) (Y % 1073741824) R = z at *
  clear hY hR
  obtain ⟨-, -, hw64⟩ := ofW_ok hok
  obtain ⟨c1, c2, c3⟩ := cv_ok hok
  have HCE := Lib.hid (rcell_any (ofW R z) hw64)
  rw [c1, c2, c3] at HCE
  obtain ⟨d1, d2⟩ := kd_ok hok (by omega)
  have HKI := Lib.hid (rkids_any R z)
  rw [d1, d2] at HKI
  have HGT : Hid (∀ d, d < 7 → cg (kidsL R z) d = (((R + 1 : Nat) : Int), downE z d)) := fun d h => by rw [kidsL_get _ _ h]; rfl
  have HLN : Hid ((kidsL R z).length = 7) := by show _ = _; unfold kidsL; simp
  have HWD : Hid (∀ d, d < 7 → ∀ w : World, Calls Try.prog 12 #[vC (R + 1 : Nat) (downE z d)] w fun e w' => e = .returned (.tuple #[.int .u64 ((kidW R z).getD d 0), .int .i64 0]) ∧ Below w.heap.size w w') := fun d h w => by
    have := word_any (R + 1 : Nat) (downE z d) w
    rw [(ofW_ok (kid_ok hok (by omega) h)).2.1, ← kidW_get R z h] at this
    exact this
  have HDI : Hid (∀ i, i < 7 → ∀ k, k < 7 → ∀ w : World, Calls Try.prog 22 #[.int .u64 ((kidW R z).getD i 0), .int .u64 ((kidW R z).getD k 0)] w fun e w' => e = .returned (.tuple #[.int .i64 (tabD i k), .int .i64 0]) ∧ Below w.heap.size w w') := fun i hi k hk w => by
    have oi := kid_ok hok (by omega) hi
    have ok := kid_ok hok (by omega) hk
    have := dist_any _ _ (ofW_ok oi).2.2 (ofW_ok ok).2.2 w
    rw [(ds_ok oi ok).1, (ds_ok oi ok).2, down_sub] at this
    rw [kidW_get R z hi, kidW_get R z hk]
    exact this
  have HVL : Hid ((kidW R z).length = 7) := by show _ = _; unfold kidW; simp
  have HDZ : Hid (∀ d, d < 7 → Sm 4294967296 (downE z d)) := fun d hd => by
    have := (ok_parts (kid_ok hok (by omega) hd)).2.2
    exact this.mono (by decide)
  generalize kidW R z = V at *
  generalize kidsL R z = L at *
  generalize ofW R z = W at *
  clear c1 c2 c3 d1 d2 hok hw64
  have HAW := Lib.hid awake_any
  have hcs : ((R + 1 : Nat) : Int) = (R : Int) + 1 := by omega
  simp only [vC] at *
  go_enter Try.func6, Try.ntmps6
  go_wp2_with fail
  refine (HLW.out _).mono ?_
  rintro e w1 ⟨rfl, hb1⟩
  have B1 := Lib.hid hb1
  clear hb1
  go_wp2_with fail
  refine (HCE.out _).mono ?_
  rintro e w2 ⟨rfl, hb2⟩
  have B2 := Lib.hid (B1.out.trans (hb2.mono B1.out.size))
  clear hb2 B1
  have B3 : Hid (Below w.heap.size w (w2.alloc (.cells #[.int .i64 R, .int .i64 z.1, .int .i64 z.2] 29))) := B2.out.alloc B2.out.size _
  have T3 : Hid (Tri (w2.alloc (.cells #[.int .i64 R, .int .i64 z.1, .int .i64 z.2] 29)) w2.heap.size R z) := heap_new _ _ _ rfl
  clear B2
  go_upto_region 3 with (fail)
  generalize w2.alloc (.cells #[.int .i64 R, .int .i64 z.1, .int .i64 z.2] 29) = w3 at *
  obtain ⟨t0, t1, t2, t3, t4, t5, t6⟩ := T3.out.cells
  go_wp2_with fail
  refine (HKI.out _).mono ?_
  rintro e w4 ⟨ao, c, rfl, h4, hb4⟩
  have B4 := Lib.hid (B3.out.trans (hb4.mono B3.out.size))
  clear hb4 B3 T3 t0 t1 t2 t3 t4 t5 t6
  rw [HLN.out]
  have A4 := Lib.hid h4
  clear h4
  go_wp2
  go_loopw [11, 12] (fun sl i wr => ∃ (k : Nat) (bo : Option Addr) (d : Nat), k ≤ 7 ∧ i = .int .i64 k ∧ sl = .slice bo k d ∧ Hid (wr.ownsRow w4.heap.size 25 1 (.slice bo k d) k (uV (V.take k)) ∧ Below w4.heap.size w4 wr)) (fun _ i _ => 7 - (intOf i).toNat)
  case atStart => exact ⟨0, _, _, by omega, rfl, rfl, World.ownsRow_nil _ _ _ _, Below.refl _ _⟩
  case round =>
    obtain ⟨k, bo, d, hk, rfl, rfl, HI⟩ := hrel
    by_cases hlt : k < 7
    · obtain ⟨g, off, rfl, hg, hc⟩ := (A4.out.below HI.out.2) (by rw [HLN.out]; omega)
      obtain ⟨c0, c1, c2⟩ := hc k (by rw [HLN.out]; exact hlt)
      rw [HGT.out k hlt] at c0 c1 c2
      have HWK := Lib.hid (HWD.out k hlt)
      have HTK := Lib.hid (take_w V (k := k) (by rw [HVL.out]; exact hlt))
      generalize V.getD k 0 = v at *
      generalize downE z k = y at *
      simp only at c0 c1 c2
      clear hc
      go_wp2_with fail
      refine (HWK.out _).mono ?_
      rintro e w5 ⟨rfl, hb5⟩
      have hown := own_later HI.out.1 hb5
      have hsr := HI.out.2.size
      have hz5 := hb5.size
      have HB5 := Lib.hid (HI.out.2.trans (hb5.mono hsr))
      clear HI hb5 c0 c1 c2
      go_wp2_with (at_builtin; refine wpList_append_own _ rfl (.tmp 52) (.tmp 54) 30 rfl w4.heap.size 25 i0 (.int .u64 0) 1 8 Try.underlying30 hi hz0 hz1 hz2 rfl (by decide) _ _ _ rfl (hown.alloc _) ⟨w5.heap.size, 0, none⟩ 1 1 [.int .u64 v] rfl rfl (cells_new _ _ _ _ rfl) (by simp [Value.oneCell']) (by unfold maxLen; omega) (by omega) (by simp; omega) ?_; intro v' w7 hown1 hgrow _)
      have HB7 : Hid (Below w4.heap.size w4 w7) := below_append (HB5.out.alloc (by omega) (.cells #[.int .u64 v] 25)) (hown.alloc (.cells #[.int .u64 v] 25)) (by simp; omega) hgrow
      obtain ⟨ao', c', rfl, _⟩ := own_form hown1
      have ho7 : w7.ownsRow w4.heap.size 25 1 (.slice ao' (k + 1) c') (k + 1) (uV (V.take (k + 1))) := by rw [HTK.out]; simpa [uV] using hown1
      have HO7 := Lib.hid ho7
      clear ho7
      clear hown1 hgrow hown
      go_wp2
      go_roundw
      case rel => exact ⟨k + 1, ao', c', by omega, by go_num, rfl, HO7.out, HB7.out⟩
      case measure => simp [intOf]; omega
    · have h7 : 7 ≤ k := by omega
      have hown := HI.out.1
      rw [show V.take k = V from List.take_of_length_le (by rw [HVL.out]; exact h7)] at hown
      have hWA := words_own (by rw [HVL.out]; omega) hown
      have HBW := Lib.hid (B4.out.trans (HI.out.2.mono B4.out.size))
      have HWA := Lib.hid hWA
      clear HI hown A4 hWA HWD HGT HDZ HKI HLW HCE
      obtain ⟨w8, rfl⟩ : ∃ w8, w8 = wr := ⟨_, rfl⟩
      obtain ⟨N, rfl⟩ : ∃ N, N = k := ⟨_, rfl⟩
      go_wp2
      go_loopw [15] (fun i wz => ∃ k : Nat, k ≤ 7 ∧ i = .int .i64 k ∧ Hid (Below w8.heap.size w8 wz)) (fun i _ => 7 - (intOf i).toNat)
      case atStart => exact ⟨0, by omega, rfl, Below.refl _ _⟩
      case round =>
        obtain ⟨i, hk, rfl, HI⟩ := hrel
        by_cases hlt : i < 7
        · have q2 : decide ((i : Int) < 7) = true := decide_eq_true (by omega)
          have HDJ := Lib.hid (HDI.out i hlt)
          have HTI := Lib.hid (tab_in i hlt)
          obtain ⟨hc7, hce⟩ := cnt_in i hlt
          have HC7 := Lib.hid hc7
          have HCS : Hid (∀ k, cntD i (k + 1) = cntD i k + if tabD i k = 1 then 1 else 0) := fun k => rfl
          have HC0 : Hid (cntD i 0 = 0) := rfl
          obtain ⟨T, hT⟩ : ∃ T, tabD i = T := ⟨_, rfl⟩
          obtain ⟨C, hC⟩ : ∃ C, cntD i = C := ⟨_, rfl⟩
          rw [hT] at HCS HTI
          rw [hC] at HCS HC7 HC0 hce
          simp only [hT] at HDJ
          have HCE := Lib.hid hce
          clear hT hC hc7 hce
          obtain ⟨w9, rfl⟩ : ∃ w9, w9 = wr := ⟨_, rfl⟩
          go_wp2
          go_loopw [16, 17] (fun n i wz => ∃ (k : Nat), k ≤ 7 ∧ i = .int .i64 k ∧ Hid (n = .int .i64 (C k) ∧ Below w8.heap.size w8 wz)) (fun _ i _ => 7 - (intOf i).toNat)
          case atStart => exact ⟨0, by omega, rfl, by rw [HC0.out]; rfl, HI.out⟩
          case round =>
            obtain ⟨k, hk2, rfl, rfl, hj⟩ := hrel
            have HJ := Lib.hid hj
            clear hj
            by_cases hlt2 : k < 7
            · have q3 : decide ((k : Int) < 7) = true := decide_eq_true (by omega)
              have hk8 := HC7.out k (by omega)
              obtain ⟨t1, t2⟩ := HTI.out k hlt2
              have HS := Lib.hid (HCS.out k)
              have HDK := Lib.hid (HDJ.out k hlt2)
              obtain ⟨g, off, rfl, hg, hc⟩ := HWA.out (by rw [HVL.out]; omega)
              have c0 := hc i (by rw [HVL.out]; exact hlt)
              have c1 := hc k (by rw [HVL.out]; exact hlt2)
              generalize V.getD i 0 = x at *
              generalize V.getD k 0 = y at *
              generalize T k = t at *
              have HCX : Hid (∀ wx, Below wr.heap.size wr wx → wx.cell? ⟨g, off + i, none⟩ = some (.int .u64 x) ∧ wx.cell? ⟨g, off + k, none⟩ = some (.int .u64 y)) := fun wx hx => by
                have hb := HJ.out.trans (hx.mono HJ.out.size)
                exact ⟨(hb.cell (p := ⟨g, off + i, none⟩) hg).trans c0, (hb.cell (p := ⟨g, off + k, none⟩) hg).trans c1⟩
              have hgz : g < wr.heap.size := Nat.lt_of_lt_of_le hg HJ.out.size
              clear hc c0 c1
              obtain ⟨r1, r2⟩ := HCX.out wr (Below.refl _ _)
              go_upto_region 17 with (fail)
              clear r1 r2
              refine wp_region_inv (fun w w' => Below w.heap.size w w') (fun qi_ qv_ _ => qv_ = ([.slice (some ⟨g, off, none⟩) N d, .int .i64 i, .pointer (some ⟨g, off + i, none⟩), .int .u64 x, .slice (some ⟨g, off, none⟩) N d, .int .i64 k, .pointer (some ⟨g, off + k, none⟩), .int .u64 y, .tuple #[.int .i64 t, .int .i64 0], .tuple #[.int .i64 t, .int .i64 0], .int .i64 t, .int .i64 0, .int .i64 t, .int .i64 0] : List Value).getD qi_ undef) (by kernel_rfl) (by kernel_rfl) (fun _ => Below.refl _ _) (fun _ _ _ h1 h2 => below_later h1 h1.size h2) (fun _ _ _ _ _ _ h => h) ?_
              refine inv_cons (fun wx hg hd => ?_) (fun v0 => ?_)
              · have hx := ((Below.refl wr.heap.size wr).drew).trans hg
                clear hd hg
                go_wp2
                exact ⟨_, rfl, Below.refl _ _, rfl⟩
              (try simp only [List.nil_append, Act.put, List.setIfInBounds_toArray, List.set_cons_zero, List.set_cons_succ])
              refine inv_cons (fun wx hg hd => ?_) (fun v1 => ?_)
              · have hx := ((Below.refl wr.heap.size wr).drew).trans hg
                clear hd hg
                go_wp2
                exact ⟨_, rfl, Below.refl _ _, rfl⟩
              (try simp only [List.cons_append, List.nil_append, Act.put, List.setIfInBounds_toArray, List.set_cons_zero, List.set_cons_succ])
              refine inv_cons (fun wx hg hd => ?_) (fun v2 => ?_)
              · have hx := ((Below.refl wr.heap.size wr).drew).trans hg
                (try (have ee : v0 = (.slice (some ⟨g, off, none⟩) N d : Value) := hd 0 (by simp) (by decide); subst ee))
                (try (have ee : v1 = (.int .i64 i : Value) := hd 1 (by simp) (by decide); subst ee))
                clear hd hg
                go_wp2
                exact ⟨_, rfl, Below.refl _ _, rfl⟩
              (try simp only [List.cons_append, List.nil_append, Act.put, List.setIfInBounds_toArray, List.set_cons_zero, List.set_cons_succ])
              refine inv_cons (fun wx hg hd => ?_) (fun v3 => ?_)
              · have hx := ((Below.refl wr.heap.size wr).drew).trans hg
                (try (have ee : v2 = (.pointer (some ⟨g, off + i, none⟩) : Value) := hd 2 (by simp) (by decide); subst ee))
                clear hd hg
                obtain ⟨k1, k2⟩ := HCX.out _ hx
                go_wp2
                exact ⟨_, rfl, Below.refl _ _, rfl⟩
              (try simp only [List.cons_append, List.nil_append, Act.put, List.setIfInBounds_toArray, List.set_cons_zero, List.set_cons_succ])
              refine inv_cons (fun wx hg hd => ?_) (fun v4 => ?_)
              · have hx := ((Below.refl wr.heap.size wr).drew).trans hg
                clear hd hg
                go_wp2
                exact ⟨_, rfl, Below.refl _ _, rfl⟩
              (try simp only [List.cons_append, List.nil_append, Act.put, List.setIfInBounds_toArray, List.set_cons_zero, List.set_cons_succ])
              refine inv_cons (fun wx hg hd => ?_) (fun v5 => ?_)
              · have hx := ((Below.refl wr.heap.size wr).drew).trans hg
                clear hd hg
                go_wp2
                exact ⟨_, rfl, Below.refl _ _, rfl⟩
              (try simp only [List.cons_append, List.nil_append, Act.put, List.setIfInBounds_toArray, List.set_cons_zero, List.set_cons_succ])
              refine inv_cons (fun wx hg hd => ?_) (fun v6 => ?_)
              · have hx := ((Below.refl wr.heap.size wr).drew).trans hg
                (try (have ee : v4 = (.slice (some ⟨g, off, none⟩) N d : Value) := hd 4 (by simp) (by decide); subst ee))
                (try (have ee : v5 = (.int .i64 k : Value) := hd 5 (by simp) (by decide); subst ee))
                clear hd hg
                go_wp2
                exact ⟨_, rfl, Below.refl _ _, rfl⟩
              (try simp only [List.cons_append, List.nil_append, Act.put, List.setIfInBounds_toArray, List.set_cons_zero, List.set_cons_succ])
              refine inv_cons (fun wx hg hd => ?_) (fun v7 => ?_)
              · have hx := ((Below.refl wr.heap.size wr).drew).trans hg
                (try (have ee : v6 = (.pointer (some ⟨g, off + k, none⟩) : Value) := hd 6 (by simp) (by decide); subst ee))
                clear hd hg
                obtain ⟨k1, k2⟩ := HCX.out _ hx
                go_wp2
                exact ⟨_, rfl, Below.refl _ _, rfl⟩
              (try simp only [List.cons_append, List.nil_append, Act.put, List.setIfInBounds_toArray, List.set_cons_zero, List.set_cons_succ])
              refine inv_cons (fun wx hg hd => ?_) (fun v8 => ?_)
              · have hx := ((Below.refl wr.heap.size wr).drew).trans hg
                (try (have ee : v3 = (.int .u64 x : Value) := hd 3 (by simp) (by decide); subst ee))
                (try (have ee : v7 = (.int .u64 y : Value) := hd 7 (by simp) (by decide); subst ee))
                clear hd hg
                go_wp2_with fail
                refine (HDK.out _).mono ?_
                rintro e w' ⟨rfl, hb⟩
                go_wp2
                exact ⟨_, rfl, hb, rfl⟩
              (try simp only [List.cons_append, List.nil_append, Act.put, List.setIfInBounds_toArray, List.set_cons_zero, List.set_cons_succ])
              refine inv_cons (fun wx hg hd => ?_) (fun v9 => ?_)
              · have hx := ((Below.refl wr.heap.size wr).drew).trans hg
                (try (have ee : v8 = (.tuple #[.int .i64 t, .int .i64 0] : Value) := hd 8 (by simp) (by decide); subst ee))
                clear hd hg
                go_wp2
                exact ⟨_, rfl, Below.refl _ _, rfl⟩
              (try simp only [List.cons_append, List.nil_append, Act.put, List.setIfInBounds_toArray, List.set_cons_zero, List.set_cons_succ])
              refine inv_cons (fun wx hg hd => ?_) (fun v10 => ?_)
              · have hx := ((Below.refl wr.heap.size wr).drew).trans hg
                (try (have ee : v9 = (.tuple #[.int .i64 t, .int .i64 0] : Value) := hd 9 (by simp) (by decide); subst ee))
                clear hd hg
                go_wp2
                exact ⟨_, rfl, Below.refl _ _, rfl⟩
              (try simp only [List.cons_append, List.nil_append, Act.put, List.setIfInBounds_toArray, List.set_cons_zero, List.set_cons_succ])
              refine inv_cons (fun wx hg hd => ?_) (fun v11 => ?_)
              · have hx := ((Below.refl wr.heap.size wr).drew).trans hg
                (try (have ee : v9 = (.tuple #[.int .i64 t, .int .i64 0] : Value) := hd 9 (by simp) (by decide); subst ee))
                clear hd hg
                go_wp2
                exact ⟨_, rfl, Below.refl _ _, rfl⟩
              (try simp only [List.cons_append, List.nil_append, Act.put, List.setIfInBounds_toArray, List.set_cons_zero, List.set_cons_succ])
              refine inv_cons (fun wx hg hd => ?_) (fun v12 => ?_)
              · have hx := ((Below.refl wr.heap.size wr).drew).trans hg
                (try (have ee : v10 = (.int .i64 t : Value) := hd 10 (by simp) (by decide); subst ee))
                clear hd hg
                go_wp2
                exact ⟨_, rfl, Below.refl _ _, rfl⟩
              (try simp only [List.cons_append, List.nil_append, Act.put, List.setIfInBounds_toArray, List.set_cons_zero, List.set_cons_succ])
              refine inv_cons (fun wx hg hd => ?_) (fun v13 => ?_)
              · have hx := ((Below.refl wr.heap.size wr).drew).trans hg
                (try (have ee : v11 = (.int .i64 0 : Value) := hd 11 (by simp) (by decide); subst ee))
                clear hd hg
                go_wp2
                exact ⟨_, rfl, Below.refl _ _, rfl⟩
              (try simp only [List.cons_append, List.nil_append, Act.put, List.setIfInBounds_toArray, List.set_cons_zero, List.set_cons_succ])
              refine inv_done (fun wx hg hd => ?_)
              have hx := ((Below.refl wr.heap.size wr).drew).trans hg
              (have ee : v0 = (.slice (some ⟨g, off, none⟩) N d : Value) := hd 0 (by simp); subst ee)
              (have ee : v1 = (.int .i64 i : Value) := hd 1 (by simp); subst ee)
              (have ee : v2 = (.pointer (some ⟨g, off + i, none⟩) : Value) := hd 2 (by simp); subst ee)
              (have ee : v3 = (.int .u64 x : Value) := hd 3 (by simp); subst ee)
              (have ee : v4 = (.slice (some ⟨g, off, none⟩) N d : Value) := hd 4 (by simp); subst ee)
              (have ee : v5 = (.int .i64 k : Value) := hd 5 (by simp); subst ee)
              (have ee : v6 = (.pointer (some ⟨g, off + k, none⟩) : Value) := hd 6 (by simp); subst ee)
              (have ee : v7 = (.int .u64 y : Value) := hd 7 (by simp); subst ee)
              (have ee : v8 = (.tuple #[.int .i64 t, .int .i64 0] : Value) := hd 8 (by simp); subst ee)
              (have ee : v9 = (.tuple #[.int .i64 t, .int .i64 0] : Value) := hd 9 (by simp); subst ee)
              (have ee : v10 = (.int .i64 t : Value) := hd 10 (by simp); subst ee)
              (have ee : v11 = (.int .i64 0 : Value) := hd 11 (by simp); subst ee)
              (have ee : v12 = (.int .i64 t : Value) := hd 12 (by simp); subst ee)
              (have ee : v13 = (.int .i64 0 : Value) := hd 13 (by simp); subst ee)
              clear hd hg
              (try go_simp)
              have HX := Lib.hid (HJ.out.trans (hx.mono HJ.out.size))
              clear hx HCX
              have q4 : decide (2 < t) = false := decide_eq_false (by omega)
              by_cases h1 : t = 1
              · subst h1
                have HS1 : Hid (C (k + 1) = C k + 1) := by show _ = _; rw [HS.out]; rfl
                go_wp2
                go_roundw
                case rel => exact ⟨k + 1, by omega, by go_num, by rw [HS1.out]; go_num, HX.out⟩
                case measure => simp [intOf]; omega
              · have q5 : (t == 1) = false := by simp [h1]
                have HS1 : Hid (C (k + 1) = C k) := by show _ = _; rw [HS.out, if_neg h1]; rfl
                go_wp2
                go_roundw
                case rel => exact ⟨k + 1, by omega, by go_num, by rw [HS1.out], HX.out⟩
                case measure => simp [intOf]; omega
            · obtain rfl : k = 7 := by omega
              have e7 := HCE.out
              cases i with
              | zero =>
                rw [if_pos rfl] at e7
                rw [e7]
                go_wp2
                go_roundw
                case rel => exact ⟨1, by omega, by go_num, HJ.out⟩
                case measure => simp [intOf]
              | succ i =>
                rw [if_neg (by omega)] at e7
                rw [e7]
                have q5 : (((i + 1 : Nat) : Int) == 0) = false := by simp; omega
                have q6 : decide (0 < ((i + 1 : Nat) : Int)) = true := decide_eq_true (by omega)
                have q5' : ((i : Int) + 1 == 0) = false := by simp; omega
                have q6' : decide (0 < (i : Int) + 1) = true := decide_eq_true (by omega)
                go_wp2
                go_roundw
                case rel => exact ⟨i + 1 + 1, by omega, by go_num, HJ.out⟩
                case measure => simp [intOf]; omega
        · obtain rfl : i = 7 := by omega
          go_wp2_with fail
          refine (HAW.out _).mono ?_
          rintro e w5 ⟨rfl, hb5⟩
          have HF := Lib.hid ((HBW.out.trans (HI.out.mono HBW.out.size)).trans (hb5.mono (Nat.le_trans HBW.out.size HI.out.size)))
          clear hb5
          go_wp2
          go_ret
          exact ⟨rfl, HF.out⟩
theorem walk {w : World} (a0 : Int) (_w0 : (Lit.int .i64 a0).wf = true) (a1 : Int) (_w1 : (Lit.int .i64 a1).wf = true) (a2 : Int) (_w2 : (Lit.int .i64 a2).wf = true) :
    Calls Try.prog 6 #[.int .i64 a0, .int .i64 a1, .int .i64 a2] w fun e w' => e = .returned (.bool true) ∧ Below w.heap.size w w' := core w a0 a1 a2
end Go.Proofs.Yticbkdignmlfiaa.nearKids
