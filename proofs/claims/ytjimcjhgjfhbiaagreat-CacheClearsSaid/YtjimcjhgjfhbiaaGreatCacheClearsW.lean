/- The walk of the law CacheClears. -/
import Derived.Test.YtjimcjhgjfhbiaaGreatPackBK
namespace Go.Proofs.YtjimcjhgjfhbiaaGreat.cacheClears
open Go.RowKit Go.Lib Wd Cv

theorem xor_bd (x : Int) (hx : 0 ≤ x ∧ x < 1073741824) : ∃ X, bits BinOp.xor IntKind.i64 x 536870912 = X ∧ 0 ≤ X ∧ X < 1073741824 := by
  refine ⟨_, rfl, ?_⟩
  show 0 ≤ IntKind.i64.wrap ((BitVec.ofInt 64 x ^^^ BitVec.ofInt 64 536870912).toNat : Int) ∧ IntKind.i64.wrap ((BitVec.ofInt 64 x ^^^ BitVec.ofInt 64 536870912).toNat : Int) < 1073741824
  have h1 : (BitVec.ofInt 64 x).toNat < 2 ^ 30 := by
    rw [BitVec.toNat_ofInt]
    omega
  have h2 : (BitVec.ofInt 64 536870912).toNat < 2 ^ 30 := by decide
  have h : (BitVec.ofInt 64 x ^^^ BitVec.ofInt 64 536870912).toNat < 2 ^ 30 := by
    rw [BitVec.toNat_xor]
    exact Nat.xor_lt_two_pow h1 h2
  generalize (BitVec.ofInt 64 x ^^^ BitVec.ofInt 64 536870912).toNat = n at *
  rw [IntKind.wrap_i64]
  omega
theorem bytes_one (w : World) (b : Int) : BytesAt (w.alloc (.cells #[.int .u8 b] 5)) (some ⟨w.heap.size, 0, none⟩) [b] ∧ Below w.heap.size w (w.alloc (.cells #[.int .u8 b] 5)) := bytes_lit w [b] (0, 0)
set_option maxRecDepth 100000 in
set_option maxHeartbeats 16000000 in
theorem walk {w : World} (a0 : Int) (_w0 : (Lit.int .i64 a0).wf = true) (a1 : Int) (_w1 : (Lit.int .i64 a1).wf = true) (a2 : Int) (_w2 : (Lit.int .i64 a2).wf = true) :
    Calls Tryz.prog 3 #[.int .i64 a0, .int .i64 a1, .int .i64 a2] w fun e w' => e = .returned (.bool true) ∧ Below w.heap.size w w' := by
  have e0 : bits BinOp.and IntKind.i64 a0 1073741823 = a0 % 1073741824 := i64_and_mask a0 30 (by omega) 1073741823 rfl
  have e1 : bits BinOp.and IntKind.i64 a1 1073741823 = a1 % 1073741824 := i64_and_mask a1 30 (by omega) 1073741823 rfl
  have hX : 0 ≤ a0 % 1073741824 ∧ a0 % 1073741824 < 1073741824 := by omega
  have hY : 0 ≤ a1 % 1073741824 ∧ a1 % 1073741824 < 1073741824 := by omega
  generalize a0 % 1073741824 = X at *
  generalize a1 % 1073741824 = Y at *
  obtain ⟨X2, hX2, hX3⟩ := xor_bd X hX
  obtain ⟨Y2, hY2, hY3⟩ := xor_bd Y hY
  have HNEW := Lib.hid (mine_new 100 (Below.refl w.heap.size w))
  have HAW := Lib.hid awake24_any
  obtain ⟨RR, hRR, hRR2⟩ : ∃ RR : Nat, (a2 % 13).toNat = RR ∧ RR ≤ 12 := ⟨_, rfl, by omega⟩
  have HTI : Hid (∀ (i : Nat), i ≤ 18 → ∀ W, Calls Tryz.prog 6 #[.int .i64 X, .int .i64 Y, .int .i64 i, .int .i64 a2] W fun e w' => e = .returned (tlV (tileN X Y i RR)) ∧ Below W.heap.size W w') := fun i hi W => by
    have := tile_any X Y i a2 W
    rwa [Int.emod_eq_of_lt hX.1 hX.2, Int.emod_eq_of_lt hY.1 hY.2, Int.emod_eq_of_lt (show (0 : Int) ≤ (i : Int) by omega) (by omega), Int.toNat_natCast, hRR] at this
  have HTU : Hid (∀ (i : Nat), i ≤ 18 → ∀ W, Calls Tryz.prog 6 #[.int .i64 X2, .int .i64 Y2, .int .i64 i, .int .i64 a2] W fun e w' => e = .returned (tlV (tileN X2 Y2 i RR)) ∧ Below W.heap.size W w') := fun i hi W => by
    have := tile_any X2 Y2 i a2 W
    rwa [Int.emod_eq_of_lt hX3.1 hX3.2, Int.emod_eq_of_lt hY3.1 hY3.2, Int.emod_eq_of_lt (show (0 : Int) ≤ (i : Int) by omega) (by omega), Int.toNat_natCast, hRR] at this
  have HOK : Hid (∀ i, i ≤ 18 → (isT (tileN X Y i RR) = true ∧ goodP 100 (tileN X Y i RR) = true ∧ goneT X Y (tileN X Y i RR) = true) ∧ isT (tileN X2 Y2 i RR) = true ∧ goodP 100 (tileN X2 Y2 i RR) = true) := fun i hi => by
    have h1 := tileN_ok hX hY hi hRR2
    have h2 := tileN_ok hX3 hY3 hi hRR2
    exact ⟨⟨h1.1, by unfold goodP; rw [h1.2.1]; rfl, gone_own hX hY hi hRR2⟩, h2.1, by unfold goodP; rw [h2.2.1]; rfl⟩
  have HWO : Hid (∀ i, i ≤ 18 → ∀ W, Calls Tryz.prog 9 #[.int .i64 X, .int .i64 Y, .int .i64 (tileN X2 Y2 i RR).2.2.2] W fun e w' => e = .returned (.int .u64 (wordN (rOf (i : Int) RR) (nearE X Y (rOf (i : Int) RR)) : Nat)) ∧ Below W.heap.size W w') := fun i hi W => wordof_in X Y hX hY _ (Nat.le_trans (rOf_le _ _) hRR2) W
  have HON : Hid (∀ i, i ≤ 18 → ∀ W, Calls Tryz.prog 8 #[tlV (tileN X2 Y2 i RR), .int .u64 (wordN (rOf (i : Int) RR) (nearE X Y (rOf (i : Int) RR)) : Nat)] W fun e w' => e = .returned (.bool (goneT X Y (tileN X2 Y2 i RR))) ∧ Below W.heap.size W w') := fun i hi W => by
    have h2 := tileN_ok hX3 hY3 hi hRR2
    have hr := Nat.le_trans (rOf_le (i : Int) RR) hRR2
    have := on1_in (tileN X2 Y2 i RR) h2.2.1 (R := rOf (i : Int) RR) rfl (near_ok0 hX hY hr) W
    have e : goneT X Y (tileN X2 Y2 i RR) = vtB (tileN X2 Y2 i RR) (rOf (i : Int) RR : Nat) (nearE X Y (rOf (i : Int) RR)) := by
      unfold goneT
      rw [(worldB_iff X Y).2 ⟨hX, hY⟩]
      rfl
    rw [e]
    exact this
  have HZ : Hid (∀ i : Nat, (tileN X Y i RR).1 = (i : Int) ∧ (tileN X2 Y2 i RR).1 = (i : Int) ∧ (tileN X2 Y2 i RR).2.2.2 = (tileN X Y i RR).2.2.2) := fun i => ⟨rfl, rfl, rfl⟩
  generalize (fun i => tileN X Y i RR) = tf at *
  clear hRR hRR2 hX hY
  go_enter Tryz.func3, Tryz.ntmps3
  go_wp2_with fail
  refine HNEW.out.mono ?_
  rintro e w1 ⟨r, rfl, hm1, -⟩
  have HM1 := Lib.hid (hm1.beside (.cells #[.int .i64 X2, .int .i64 Y2] 24))
  obtain ⟨w2, hw2⟩ : ∃ W, w1.alloc (.cells #[.int .i64 X2, .int .i64 Y2] 24) = W := ⟨_, rfl⟩
  rw [hw2] at HM1
  have HW2 := Lib.hid hw2
  have q100 : (min (max 100 0) 1000 : Int).toNat = 100 := by decide
  rw [q100] at HM1
  clear hw2 hm1 HNEW q100
  go_upto_region 8 with (first | rw [hX2] | rw [hY2] | rw [HW2.out])
  generalize w1.heap.size = g at *
  as_aux_lemma =>
    go_loopw [9, 10, 11] (fun o9 o10 o11 wr => ∃ (i c : Nat) (A : List AE), i ≤ 19 ∧ c ≤ 38 ∧ o9 = .int .i64 i ∧ o10 = .int .i64 c ∧ o11 = .int .i64 i ∧ Hid (ClI X Y i c A) ∧ Hid (MineF w wr r 100 (2 * i) A [(g, .cells #[.int .i64 X2, .int .i64 Y2] 24)])) (fun _ _ o11 _ => 19 - (intOf o11).toNat)
    case atStart => exact ⟨0, 0, [], by omega, by omega, rfl, rfl, rfl, cl_zero X Y, HM1.out⟩
    case round =>
      obtain ⟨i, c, A, hi, hc, rfl, rfl, rfl, HI, HM⟩ := hrel
      by_cases hlt : i ≤ 18
      · have hli : (i : Int) ≤ 18 := by omega
        obtain ⟨⟨ht, htg, htn⟩, hu, hug⟩ := HOK.out i hlt
        obtain ⟨z1, z2, z3⟩ := HZ.out i
        have HCT := Lib.hid (HTI.out i hlt)
        have HCU := Lib.hid (HTU.out i hlt)
        have HCW := Lib.hid (HWO.out i hlt)
        have HCO := Lib.hid (HON.out i hlt)
        have HST : Hid (∀ l m, ClI X Y (i + 1) (if decide (tileN X2 Y2 i RR ≠ tileN X Y i RR) && !goneT X Y (tileN X2 Y2 i RR) then c + 1 else c) (putA 100 (putA 100 A (tileN X Y i RR) l) (tileN X2 Y2 i RR) m)) := fun l m => cl_step hlt HI.out ht hu z1 z2 htn l m
        rw [z3] at HCW
        generalize wordN (rOf (i : Int) RR) (nearE X Y (rOf (i : Int) RR)) = wd at *
        generalize goneT X Y (tileN X2 Y2 i RR) = on at *
        generalize tileN X2 Y2 i RR = u at *
        generalize tileN X Y i RR = t at *
        have hM := HM.out
        have HCL := Lib.hid (cl_lt HI.out)
        clear ht htn hu HI HM
        -- ROUND
        as_aux_lemma =>
          obtain ⟨tz, tx, ty, tr⟩ := t
          obtain ⟨uz, ux, uy, ur⟩ := u
          dsimp only at z1 z2 z3
          subst z1 z2 z3
          unfold tlV at HCT HCU HCO
          dsimp only at HCT HCU HCO HCW
          have hgo := hM.at _ (List.mem_singleton.2 rfl)
          go_wp2_with fail
          refine (HCT.out _).mono ?_
          rintro e w3 ⟨rfl, hb3⟩
          obtain ⟨w4, hw4⟩ : ∃ W, w3.alloc (.cells #[.int .i64 i, .int .i64 tx, .int .i64 ty, .int .i64 ur] 26) = W := ⟨_, rfl⟩
          have y4 : w4.heap[w3.heap.size]? = some (.cells #[.int .i64 i, .int .i64 tx, .int .i64 ty, .int .i64 ur] 26 (0, 0)) := by rw [← hw4]; exact heap_new _ _ _ rfl
          have hb4 : Below w3.heap.size w3 w4 := by rw [← hw4]; exact (Below.refl _ _).alloc (Nat.le_refl _) _
          have HB4 := Lib.hid (hb3.trans (hb4.mono hb3.size))
          have htb4 := (Array.getElem?_eq_some_iff.1 y4).1
          have htbr : wr.heap.size ≤ w3.heap.size := hb3.size
          have HW4 := Lib.hid hw4
          clear hb3 hb4 hw4
          go_upto_region 11 with (rw [HW4.out])
          first | rw [HW4.out] | skip
          generalize w3.heap.size = tb at *
          have f4 := (HB4.out.block _ hgo.1).trans hgo.2
          have f0 := cell_of_row _ _ 0 _ _ _ f4
          have f1 := cell_of_row _ _ 1 _ _ _ f4
          have hg4 : g < w4.heap.size := Nat.lt_of_lt_of_le hgo.1 HB4.out.size
          go_wp2_with fail
          refine (HCU.out _).mono ?_
          rintro e w5 ⟨rfl, hb5⟩
          obtain ⟨w6, hw6⟩ : ∃ W, w5.alloc (.cells #[.int .i64 i, .int .i64 ux, .int .i64 uy, .int .i64 ur] 26) = W := ⟨_, rfl⟩
          have y6 : w6.heap[w5.heap.size]? = some (.cells #[.int .i64 i, .int .i64 ux, .int .i64 uy, .int .i64 ur] 26 (0, 0)) := by rw [← hw6]; exact heap_new _ _ _ rfl
          have hb6 : Below w5.heap.size w5 w6 := by rw [← hw6]; exact (Below.refl _ _).alloc (Nat.le_refl _) _
          have hb46 := hb5.trans (hb6.mono hb5.size)
          have t6 := (hb46.block _ htb4).trans y4
          have htb6 : tb < w6.heap.size := Nat.lt_of_lt_of_le htb4 hb46.size
          have hub6 := (Array.getElem?_eq_some_iff.1 y6).1
          have HB6 := Lib.hid (HB4.out.trans (hb46.mono HB4.out.size))
          have hubr : wr.heap.size ≤ w5.heap.size := Nat.le_trans HB4.out.size hb5.size
          have HW6 := Lib.hid hw6
          clear hb5 hb6 hb46 hw6 f4 f0 f1 hg4 y4 htb4 HB4 HW4 HCT HCU hgo
          go_upto_region 12 with (rw [HW6.out])
          first | rw [HW6.out] | skip
          generalize w5.heap.size = ub at *
          clear HW6
          have k0 := cell_of_row _ _ 0 _ _ _ t6
          have k1 := cell_of_row _ _ 1 _ _ _ t6
          have k2 := cell_of_row _ _ 2 _ _ _ t6
          have k3 := cell_of_row _ _ 3 _ _ _ t6
          obtain ⟨hby, hb7⟩ := bytes_one w6 1
          obtain ⟨w7, hw7⟩ : ∃ W, w6.alloc (.cells #[.int .u8 1] 5) = W := ⟨_, rfl⟩
          rw [hw7] at hby hb7
          have hP1 := mf_put hM (HB6.out.trans (hb7.mono HB6.out.size)) [(tb, .cells #[.int .i64 i, .int .i64 tx, .int .i64 ty, .int .i64 ur] 26 (0, 0)), (ub, .cells #[.int .i64 i, .int .i64 ux, .int .i64 uy, .int .i64 ur] 26 (0, 0))]
            (fun q hq => by
              simp only [List.mem_cons, List.not_mem_nil, or_false] at hq
              rcases hq with rfl | rfl
              · exact ⟨htbr, Nat.lt_of_lt_of_le htb6 hb7.size, (hb7.block _ htb6).trans t6⟩
              · exact ⟨hubr, Nat.lt_of_lt_of_le hub6 hb7.size, (hb7.block _ hub6).trans y6⟩) (by omega) ((i : Int), tx, ty, ur) [1] (n := 1) (c := 1) rfl (by decide) hby (fun e => by cases e)
          rw [htg, if_pos rfl] at hP1
          unfold tlV at hP1
          dsimp only at hP1
          have HP1 := Lib.hid hP1
          have HW7 := Lib.hid hw7
          clear hP1 hw7 hby hb7 hM t6 y6 HB6 htbr hubr
          as_aux_lemma =>
            go_wp2_with (first | rw [HW7.out] | (go_at_call 7; refine HP1.out.mono ?_))
            rintro e w8 ⟨rfl, hm8⟩
            have HM8 := Lib.hid hm8
            obtain ⟨hub8, y8⟩ := hm8.at (ub, .cells #[.int .i64 i, .int .i64 ux, .int .i64 uy, .int .i64 ur] 26 (0, 0)) (by simp)
            dsimp only at hub8 y8
            clear k0 k1 k2 k3 HP1 HW7 hm8 htb6 hub6
            have k0 := cell_of_row _ _ 0 _ _ _ y8
            have k1 := cell_of_row _ _ 1 _ _ _ y8
            have k2 := cell_of_row _ _ 2 _ _ _ y8
            have k3 := cell_of_row _ _ 3 _ _ _ y8
            obtain ⟨hby, hb9⟩ := bytes_one w8 2
            obtain ⟨w9, hw9⟩ : ∃ W, w8.alloc (.cells #[.int .u8 2] 5) = W := ⟨_, rfl⟩
            rw [hw9] at hby hb9
            have hP2 := mf_put HM8.out hb9 [] (fun q hq => by cases hq) (by omega) ((i : Int), ux, uy, ur) [2] (n := 1) (c := 1) rfl (by decide) hby (fun e => by cases e)
            rw [hug, if_pos rfl, List.nil_append] at hP2
            unfold tlV at hP2
            dsimp only at hP2
            have HP2 := Lib.hid hP2
            have HW9 := Lib.hid hw9
            clear hP2 hw9 hby hb9 y8 HM8
            go_wp2_with (first | rw [HW9.out] | (go_at_call 7; refine HP2.out.mono ?_))
            rintro e w10 ⟨rfl, hm10⟩
            have HM10 := Lib.hid hm10
            obtain ⟨htb, y10⟩ := hm10.at (tb, .cells #[.int .i64 i, .int .i64 tx, .int .i64 ty, .int .i64 ur] 26 (0, 0)) (by simp)
            obtain ⟨hub, v10⟩ := hm10.at (ub, .cells #[.int .i64 i, .int .i64 ux, .int .i64 uy, .int .i64 ur] 26 (0, 0)) (by simp)
            dsimp only at htb y10 hub v10
            have HTT : Hid (∀ W, Below w10.heap.size w10 W → TileAt W tb ((i : Int), tx, ty, ur)) := fun W hW => ⟨cell_of_row _ _ 0 _ _ _ ((hW.block _ htb).trans y10), cell_of_row _ _ 1 _ _ _ ((hW.block _ htb).trans y10), cell_of_row _ _ 2 _ _ _ ((hW.block _ htb).trans y10), cell_of_row _ _ 3 _ _ _ ((hW.block _ htb).trans y10)⟩
            have HTU2 : Hid (∀ W, Below w10.heap.size w10 W → TileAt W ub ((i : Int), ux, uy, ur)) := fun W hW => ⟨cell_of_row _ _ 0 _ _ _ ((hW.block _ hub).trans v10), cell_of_row _ _ 1 _ _ _ ((hW.block _ hub).trans v10), cell_of_row _ _ 2 _ _ _ ((hW.block _ hub).trans v10), cell_of_row _ _ 3 _ _ _ ((hW.block _ hub).trans v10)⟩
            have HS := Lib.hid (HST.out [1] [2])
            obtain ⟨AA, hAA⟩ : ∃ q, putA 100 (putA 100 A ((i : Int), tx, ty, ur) [1]) ((i : Int), ux, uy, ur) [2] = q := ⟨_, rfl⟩
            rw [hAA] at HS HM10
            clear hAA
            have hc2 := HCL.out
            clear k0 k1 k2 k3 hub8 HP2 HW9 hm10 y10 v10 HST
            go_upto_region 15 with (fail)
            as_aux_lemma =>
              by_cases hxx : ux = tx
              · subst hxx
                by_cases hyy : uy = ty
                · subst hyy
                  have HS2 : Hid (ClI X Y (i + 1) c AA) := by
                    have := HS.out
                    rw [decide_eq_false (fun h => h rfl), Bool.false_and, if_neg (by simp)] at this
                    exact this
                  clear HS
                  refine wp_region_inv (fun w w' => Below w.heap.size w w') (fun qi_ qv_ _ => qv_ = ([.agg #[.int .i64 i, .int .i64 ux, .int .i64 uy, .int .i64 ur], .agg #[.int .i64 i, .int .i64 ux, .int .i64 uy, .int .i64 ur], .bool false, .bool false, undef, undef, undef, undef, undef, undef, undef, undef, .bool false] : List Value).getD qi_ undef) (by kernel_rfl) (by kernel_rfl) (fun _ => Below.refl _ _) (fun _ _ _ h1 h2 => below_later h1 h1.size h2) (fun _ _ _ _ _ _ h => h) ?_
                  refine inv_cons (fun wx hg hd => ?_) (fun v0 => ?_)
                  · have hx := ((Below.refl w10.heap.size w10).drew).trans hg
                    clear hd hg
                    obtain ⟨k0, k1, k2, k3⟩ := HTU2.out _ hx
                    have hsx : ub < wx.heap.size := Nat.lt_of_lt_of_le hub hx.size
                    go_wp2
                    exact ⟨_, rfl, Below.refl _ _, rfl⟩
                  (try simp only [List.nil_append, Act.put, List.setIfInBounds_toArray, List.set_cons_zero, List.set_cons_succ])
                  refine inv_cons (fun wx hg hd => ?_) (fun v1 => ?_)
                  · have hx := ((Below.refl w10.heap.size w10).drew).trans hg
                    clear hd hg
                    obtain ⟨k0, k1, k2, k3⟩ := HTT.out _ hx
                    have hsx : tb < wx.heap.size := Nat.lt_of_lt_of_le htb hx.size
                    go_wp2
                    exact ⟨_, rfl, Below.refl _ _, rfl⟩
                  (try simp only [List.cons_append, List.nil_append, Act.put, List.setIfInBounds_toArray, List.set_cons_zero, List.set_cons_succ])
                  refine inv_cons (fun wx hg hd => ?_) (fun v2 => ?_)
                  · have hx := ((Below.refl w10.heap.size w10).drew).trans hg
                    (try (have ee : v0 = (.agg #[.int .i64 i, .int .i64 ux, .int .i64 uy, .int .i64 ur] : Value) := hd 0 (by simp) (by decide); subst ee))
                    (try (have ee : v1 = (.agg #[.int .i64 i, .int .i64 ux, .int .i64 uy, .int .i64 ur] : Value) := hd 1 (by simp) (by decide); subst ee))
                    clear hd hg
                    go_wp2
                    exact ⟨_, rfl, Below.refl _ _, rfl⟩
                  (try simp only [List.cons_append, List.nil_append, Act.put, List.setIfInBounds_toArray, List.set_cons_zero, List.set_cons_succ])
                  refine inv_cons (fun wx hg hd => ?_) (fun v3 => ?_)
                  · have hx := ((Below.refl w10.heap.size w10).drew).trans hg
                    (try (have ee : v2 = (.bool false : Value) := hd 2 (by simp) (by decide); subst ee))
                    clear hd hg
                    go_wp2
                    exact ⟨_, rfl, Below.refl _ _, rfl⟩
                  (try simp only [List.cons_append, List.nil_append, Act.put, List.setIfInBounds_toArray, List.set_cons_zero, List.set_cons_succ])
                  refine inv_cons (fun wx hg hd => ?_) (fun v4 => ?_)
                  · have hx := ((Below.refl w10.heap.size w10).drew).trans hg
                    (try (have ee : v3 = (.bool false : Value) := hd 3 (by simp) (by decide); subst ee))
                    clear hd hg
                    go_wp2
                    exact ⟨_, rfl, Below.refl _ _, rfl⟩
                  (try simp only [List.cons_append, List.nil_append, Act.put, List.setIfInBounds_toArray, List.set_cons_zero, List.set_cons_succ])
                  refine inv_cons (fun wx hg hd => ?_) (fun v5 => ?_)
                  · have hx := ((Below.refl w10.heap.size w10).drew).trans hg
                    (try (have ee : v3 = (.bool false : Value) := hd 3 (by simp) (by decide); subst ee))
                    clear hd hg
                    go_wp2
                    exact ⟨_, rfl, Below.refl _ _, rfl⟩
                  (try simp only [List.cons_append, List.nil_append, Act.put, List.setIfInBounds_toArray, List.set_cons_zero, List.set_cons_succ])
                  refine inv_cons (fun wx hg hd => ?_) (fun v6 => ?_)
                  · have hx := ((Below.refl w10.heap.size w10).drew).trans hg
                    (try (have ee : v3 = (.bool false : Value) := hd 3 (by simp) (by decide); subst ee))
                    clear hd hg
                    go_wp2
                    exact ⟨_, rfl, Below.refl _ _, rfl⟩
                  (try simp only [List.cons_append, List.nil_append, Act.put, List.setIfInBounds_toArray, List.set_cons_zero, List.set_cons_succ])
                  refine inv_cons (fun wx hg hd => ?_) (fun v7 => ?_)
                  · have hx := ((Below.refl w10.heap.size w10).drew).trans hg
                    (try (have ee : v3 = (.bool false : Value) := hd 3 (by simp) (by decide); subst ee))
                    clear hd hg
                    go_wp2
                    exact ⟨_, rfl, Below.refl _ _, rfl⟩
                  (try simp only [List.cons_append, List.nil_append, Act.put, List.setIfInBounds_toArray, List.set_cons_zero, List.set_cons_succ])
                  refine inv_cons (fun wx hg hd => ?_) (fun v8 => ?_)
                  · have hx := ((Below.refl w10.heap.size w10).drew).trans hg
                    (try (have ee : v3 = (.bool false : Value) := hd 3 (by simp) (by decide); subst ee))
                    (try (have ee : v7 = (undef : Value) := hd 7 (by simp) (by decide); subst ee))
                    clear hd hg
                    go_wp2
                    exact ⟨_, rfl, Below.refl _ _, rfl⟩
                  (try simp only [List.cons_append, List.nil_append, Act.put, List.setIfInBounds_toArray, List.set_cons_zero, List.set_cons_succ])
                  refine inv_cons (fun wx hg hd => ?_) (fun v9 => ?_)
                  · have hx := ((Below.refl w10.heap.size w10).drew).trans hg
                    (try (have ee : v3 = (.bool false : Value) := hd 3 (by simp) (by decide); subst ee))
                    (try (have ee : v5 = (undef : Value) := hd 5 (by simp) (by decide); subst ee))
                    (try (have ee : v6 = (undef : Value) := hd 6 (by simp) (by decide); subst ee))
                    (try (have ee : v8 = (undef : Value) := hd 8 (by simp) (by decide); subst ee))
                    clear hd hg
                    go_wp2
                    exact ⟨_, rfl, Below.refl _ _, rfl⟩
                  (try simp only [List.cons_append, List.nil_append, Act.put, List.setIfInBounds_toArray, List.set_cons_zero, List.set_cons_succ])
                  refine inv_cons (fun wx hg hd => ?_) (fun v10 => ?_)
                  · have hx := ((Below.refl w10.heap.size w10).drew).trans hg
                    (try (have ee : v3 = (.bool false : Value) := hd 3 (by simp) (by decide); subst ee))
                    (try (have ee : v4 = (undef : Value) := hd 4 (by simp) (by decide); subst ee))
                    (try (have ee : v9 = (undef : Value) := hd 9 (by simp) (by decide); subst ee))
                    clear hd hg
                    go_wp2
                    exact ⟨_, rfl, Below.refl _ _, rfl⟩
                  (try simp only [List.cons_append, List.nil_append, Act.put, List.setIfInBounds_toArray, List.set_cons_zero, List.set_cons_succ])
                  refine inv_cons (fun wx hg hd => ?_) (fun v11 => ?_)
                  · have hx := ((Below.refl w10.heap.size w10).drew).trans hg
                    (try (have ee : v3 = (.bool false : Value) := hd 3 (by simp) (by decide); subst ee))
                    (try (have ee : v10 = (undef : Value) := hd 10 (by simp) (by decide); subst ee))
                    clear hd hg
                    go_wp2
                    exact ⟨_, rfl, Below.refl _ _, rfl⟩
                  (try simp only [List.cons_append, List.nil_append, Act.put, List.setIfInBounds_toArray, List.set_cons_zero, List.set_cons_succ])
                  refine inv_cons (fun wx hg hd => ?_) (fun v12 => ?_)
                  · have hx := ((Below.refl w10.heap.size w10).drew).trans hg
                    (try (have ee : v3 = (.bool false : Value) := hd 3 (by simp) (by decide); subst ee))
                    (try (have ee : v11 = (undef : Value) := hd 11 (by simp) (by decide); subst ee))
                    clear hd hg
                    go_wp2
                    exact ⟨_, rfl, Below.refl _ _, rfl⟩
                  (try simp only [List.cons_append, List.nil_append, Act.put, List.setIfInBounds_toArray, List.set_cons_zero, List.set_cons_succ])
                  refine inv_done (fun wx hg hd => ?_)
                  have hx := ((Below.refl w10.heap.size w10).drew).trans hg
                  (have ee : v0 = (.agg #[.int .i64 i, .int .i64 ux, .int .i64 uy, .int .i64 ur] : Value) := hd 0 (by simp); subst ee)
                  (have ee : v1 = (.agg #[.int .i64 i, .int .i64 ux, .int .i64 uy, .int .i64 ur] : Value) := hd 1 (by simp); subst ee)
                  (have ee : v2 = (.bool false : Value) := hd 2 (by simp); subst ee)
                  (have ee : v3 = (.bool false : Value) := hd 3 (by simp); subst ee)
                  (have ee : v4 = (undef : Value) := hd 4 (by simp); subst ee)
                  (have ee : v5 = (undef : Value) := hd 5 (by simp); subst ee)
                  (have ee : v6 = (undef : Value) := hd 6 (by simp); subst ee)
                  (have ee : v7 = (undef : Value) := hd 7 (by simp); subst ee)
                  (have ee : v8 = (undef : Value) := hd 8 (by simp); subst ee)
                  (have ee : v9 = (undef : Value) := hd 9 (by simp); subst ee)
                  (have ee : v10 = (undef : Value) := hd 10 (by simp); subst ee)
                  (have ee : v11 = (undef : Value) := hd 11 (by simp); subst ee)
                  (have ee : v12 = (.bool false : Value) := hd 12 (by simp); subst ee)
                  clear hd hg
                  (try go_simp)
                  have HMX := Lib.hid ((HM10.out.sub (G' := [(g, .cells #[.int .i64 X2, .int .i64 Y2] 24)]) (by simp)).below hx)
                  clear hx
                  go_wp2
                  go_roundw
                  case rel => exact ⟨i + 1, c, AA, by omega, by omega, by go_num, rfl, by go_num, HS2.out, by show MineF _ _ _ _ (2 * (i + 1)) _ _; rw [show 2 * (i + 1) = 2 * i + 1 + 1 by omega]; exact HMX.out⟩
                  case measure => simp [intOf]; omega
                · have HNE : Hid (decide ((((i : Int), ux, uy, ur) : TL) ≠ ((i : Int), ux, ty, ur)) = true) := decide_eq_true (fun h => by simp at h; exact hyy h)
                  cases on with
                  | true =>
                    have HS2 : Hid (ClI X Y (i + 1) c AA) := by
                      have := HS.out
                      rw [HNE.out, Bool.true_and, if_neg (by simp)] at this
                      exact this
                    clear HS HNE
                    refine wp_region_inv (fun w w' => Below w.heap.size w w') (fun qi_ qv_ _ => qv_ = ([.agg #[.int .i64 i, .int .i64 ux, .int .i64 uy, .int .i64 ur], .agg #[.int .i64 i, .int .i64 ux, .int .i64 ty, .int .i64 ur], .bool true, .bool true, .agg #[.int .i64 i, .int .i64 ux, .int .i64 uy, .int .i64 ur], .int .i64 X, .int .i64 Y, .pointer (some ⟨ub, 3, none⟩), .int .i64 ur, .int .u64 wd, .bool true, .bool false, .bool false] : List Value).getD qi_ undef) (by kernel_rfl) (by kernel_rfl) (fun _ => Below.refl _ _) (fun _ _ _ h1 h2 => below_later h1 h1.size h2) (fun _ _ _ _ _ _ h => h) ?_
                    refine inv_cons (fun wx hg hd => ?_) (fun v0 => ?_)
                    · have hx := ((Below.refl w10.heap.size w10).drew).trans hg
                      clear hd hg
                      obtain ⟨k0, k1, k2, k3⟩ := HTU2.out _ hx
                      have hsx : ub < wx.heap.size := Nat.lt_of_lt_of_le hub hx.size
                      go_wp2
                      exact ⟨_, rfl, Below.refl _ _, rfl⟩
                    (try simp only [List.nil_append, Act.put, List.setIfInBounds_toArray, List.set_cons_zero, List.set_cons_succ])
                    refine inv_cons (fun wx hg hd => ?_) (fun v1 => ?_)
                    · have hx := ((Below.refl w10.heap.size w10).drew).trans hg
                      clear hd hg
                      obtain ⟨k0, k1, k2, k3⟩ := HTT.out _ hx
                      have hsx : tb < wx.heap.size := Nat.lt_of_lt_of_le htb hx.size
                      go_wp2
                      exact ⟨_, rfl, Below.refl _ _, rfl⟩
                    (try simp only [List.cons_append, List.nil_append, Act.put, List.setIfInBounds_toArray, List.set_cons_zero, List.set_cons_succ])
                    refine inv_cons (fun wx hg hd => ?_) (fun v2 => ?_)
                    · have hx := ((Below.refl w10.heap.size w10).drew).trans hg
                      (try (have ee : v0 = (.agg #[.int .i64 i, .int .i64 ux, .int .i64 uy, .int .i64 ur] : Value) := hd 0 (by simp) (by decide); subst ee))
                      (try (have ee : v1 = (.agg #[.int .i64 i, .int .i64 ux, .int .i64 ty, .int .i64 ur] : Value) := hd 1 (by simp) (by decide); subst ee))
                      clear hd hg
                      go_wp2
                      exact ⟨_, rfl, Below.refl _ _, rfl⟩
                    (try simp only [List.cons_append, List.nil_append, Act.put, List.setIfInBounds_toArray, List.set_cons_zero, List.set_cons_succ])
                    refine inv_cons (fun wx hg hd => ?_) (fun v3 => ?_)
                    · have hx := ((Below.refl w10.heap.size w10).drew).trans hg
                      (try (have ee : v2 = (.bool true : Value) := hd 2 (by simp) (by decide); subst ee))
                      clear hd hg
                      go_wp2
                      exact ⟨_, rfl, Below.refl _ _, rfl⟩
                    (try simp only [List.cons_append, List.nil_append, Act.put, List.setIfInBounds_toArray, List.set_cons_zero, List.set_cons_succ])
                    refine inv_cons (fun wx hg hd => ?_) (fun v4 => ?_)
                    · have hx := ((Below.refl w10.heap.size w10).drew).trans hg
                      (try (have ee : v3 = (.bool true : Value) := hd 3 (by simp) (by decide); subst ee))
                      clear hd hg
                      obtain ⟨k0, k1, k2, k3⟩ := HTU2.out _ hx
                      have hsx : ub < wx.heap.size := Nat.lt_of_lt_of_le hub hx.size
                      go_wp2
                      exact ⟨_, rfl, Below.refl _ _, rfl⟩
                    (try simp only [List.cons_append, List.nil_append, Act.put, List.setIfInBounds_toArray, List.set_cons_zero, List.set_cons_succ])
                    refine inv_cons (fun wx hg hd => ?_) (fun v5 => ?_)
                    · have hx := ((Below.refl w10.heap.size w10).drew).trans hg
                      (try (have ee : v3 = (.bool true : Value) := hd 3 (by simp) (by decide); subst ee))
                      clear hd hg
                      go_wp2
                      exact ⟨_, rfl, Below.refl _ _, rfl⟩
                    (try simp only [List.cons_append, List.nil_append, Act.put, List.setIfInBounds_toArray, List.set_cons_zero, List.set_cons_succ])
                    refine inv_cons (fun wx hg hd => ?_) (fun v6 => ?_)
                    · have hx := ((Below.refl w10.heap.size w10).drew).trans hg
                      (try (have ee : v3 = (.bool true : Value) := hd 3 (by simp) (by decide); subst ee))
                      clear hd hg
                      go_wp2
                      exact ⟨_, rfl, Below.refl _ _, rfl⟩
                    (try simp only [List.cons_append, List.nil_append, Act.put, List.setIfInBounds_toArray, List.set_cons_zero, List.set_cons_succ])
                    refine inv_cons (fun wx hg hd => ?_) (fun v7 => ?_)
                    · have hx := ((Below.refl w10.heap.size w10).drew).trans hg
                      (try (have ee : v3 = (.bool true : Value) := hd 3 (by simp) (by decide); subst ee))
                      clear hd hg
                      go_wp2
                      exact ⟨_, rfl, Below.refl _ _, rfl⟩
                    (try simp only [List.cons_append, List.nil_append, Act.put, List.setIfInBounds_toArray, List.set_cons_zero, List.set_cons_succ])
                    refine inv_cons (fun wx hg hd => ?_) (fun v8 => ?_)
                    · have hx := ((Below.refl w10.heap.size w10).drew).trans hg
                      (try (have ee : v3 = (.bool true : Value) := hd 3 (by simp) (by decide); subst ee))
                      (try (have ee : v7 = (.pointer (some ⟨ub, 3, none⟩) : Value) := hd 7 (by simp) (by decide); subst ee))
                      clear hd hg
                      obtain ⟨k0, k1, k2, k3⟩ := HTU2.out _ hx
                      have hsx : ub < wx.heap.size := Nat.lt_of_lt_of_le hub hx.size
                      go_wp2
                      exact ⟨_, rfl, Below.refl _ _, rfl⟩
                    (try simp only [List.cons_append, List.nil_append, Act.put, List.setIfInBounds_toArray, List.set_cons_zero, List.set_cons_succ])
                    refine inv_cons (fun wx hg hd => ?_) (fun v9 => ?_)
                    · have hx := ((Below.refl w10.heap.size w10).drew).trans hg
                      (try (have ee : v3 = (.bool true : Value) := hd 3 (by simp) (by decide); subst ee))
                      (try (have ee : v5 = (.int .i64 X : Value) := hd 5 (by simp) (by decide); subst ee))
                      (try (have ee : v6 = (.int .i64 Y : Value) := hd 6 (by simp) (by decide); subst ee))
                      (try (have ee : v8 = (.int .i64 ur : Value) := hd 8 (by simp) (by decide); subst ee))
                      clear hd hg
                      go_wp2_with fail
                      refine (HCW.out _).mono ?_
                      rintro e w' ⟨rfl, hb⟩
                      go_wp2
                      exact ⟨_, rfl, hb, rfl⟩
                    (try simp only [List.cons_append, List.nil_append, Act.put, List.setIfInBounds_toArray, List.set_cons_zero, List.set_cons_succ])
                    refine inv_cons (fun wx hg hd => ?_) (fun v10 => ?_)
                    · have hx := ((Below.refl w10.heap.size w10).drew).trans hg
                      (try (have ee : v3 = (.bool true : Value) := hd 3 (by simp) (by decide); subst ee))
                      (try (have ee : v4 = (.agg #[.int .i64 i, .int .i64 ux, .int .i64 uy, .int .i64 ur] : Value) := hd 4 (by simp) (by decide); subst ee))
                      (try (have ee : v9 = (.int .u64 wd : Value) := hd 9 (by simp) (by decide); subst ee))
                      clear hd hg
                      go_wp2_with fail
                      refine (HCO.out _).mono ?_
                      rintro e w' ⟨rfl, hb⟩
                      go_wp2
                      exact ⟨_, rfl, hb, rfl⟩
                    (try simp only [List.cons_append, List.nil_append, Act.put, List.setIfInBounds_toArray, List.set_cons_zero, List.set_cons_succ])
                    refine inv_cons (fun wx hg hd => ?_) (fun v11 => ?_)
                    · have hx := ((Below.refl w10.heap.size w10).drew).trans hg
                      (try (have ee : v3 = (.bool true : Value) := hd 3 (by simp) (by decide); subst ee))
                      (try (have ee : v10 = (.bool true : Value) := hd 10 (by simp) (by decide); subst ee))
                      clear hd hg
                      go_wp2
                      exact ⟨_, rfl, Below.refl _ _, rfl⟩
                    (try simp only [List.cons_append, List.nil_append, Act.put, List.setIfInBounds_toArray, List.set_cons_zero, List.set_cons_succ])
                    refine inv_cons (fun wx hg hd => ?_) (fun v12 => ?_)
                    · have hx := ((Below.refl w10.heap.size w10).drew).trans hg
                      (try (have ee : v3 = (.bool true : Value) := hd 3 (by simp) (by decide); subst ee))
                      (try (have ee : v11 = (.bool false : Value) := hd 11 (by simp) (by decide); subst ee))
                      clear hd hg
                      go_wp2
                      exact ⟨_, rfl, Below.refl _ _, rfl⟩
                    (try simp only [List.cons_append, List.nil_append, Act.put, List.setIfInBounds_toArray, List.set_cons_zero, List.set_cons_succ])
                    refine inv_done (fun wx hg hd => ?_)
                    have hx := ((Below.refl w10.heap.size w10).drew).trans hg
                    (have ee : v0 = (.agg #[.int .i64 i, .int .i64 ux, .int .i64 uy, .int .i64 ur] : Value) := hd 0 (by simp); subst ee)
                    (have ee : v1 = (.agg #[.int .i64 i, .int .i64 ux, .int .i64 ty, .int .i64 ur] : Value) := hd 1 (by simp); subst ee)
                    (have ee : v2 = (.bool true : Value) := hd 2 (by simp); subst ee)
                    (have ee : v3 = (.bool true : Value) := hd 3 (by simp); subst ee)
                    (have ee : v4 = (.agg #[.int .i64 i, .int .i64 ux, .int .i64 uy, .int .i64 ur] : Value) := hd 4 (by simp); subst ee)
                    (have ee : v5 = (.int .i64 X : Value) := hd 5 (by simp); subst ee)
                    (have ee : v6 = (.int .i64 Y : Value) := hd 6 (by simp); subst ee)
                    (have ee : v7 = (.pointer (some ⟨ub, 3, none⟩) : Value) := hd 7 (by simp); subst ee)
                    (have ee : v8 = (.int .i64 ur : Value) := hd 8 (by simp); subst ee)
                    (have ee : v9 = (.int .u64 wd : Value) := hd 9 (by simp); subst ee)
                    (have ee : v10 = (.bool true : Value) := hd 10 (by simp); subst ee)
                    (have ee : v11 = (.bool false : Value) := hd 11 (by simp); subst ee)
                    (have ee : v12 = (.bool false : Value) := hd 12 (by simp); subst ee)
                    clear hd hg
                    (try go_simp)
                    have HMX := Lib.hid ((HM10.out.sub (G' := [(g, .cells #[.int .i64 X2, .int .i64 Y2] 24)]) (by simp)).below hx)
                    clear hx
                    go_wp2
                    go_roundw
                    case rel => exact ⟨i + 1, c, AA, by omega, by omega, by go_num, rfl, by go_num, HS2.out, by show MineF _ _ _ _ (2 * (i + 1)) _ _; rw [show 2 * (i + 1) = 2 * i + 1 + 1 by omega]; exact HMX.out⟩
                    case measure => simp [intOf]; omega
                  | false =>
                    have HS2 : Hid (ClI X Y (i + 1) (c + 1) AA) := by
                      have := HS.out
                      rw [HNE.out, Bool.true_and, if_pos (by rfl)] at this
                      exact this
                    clear HS HNE
                    refine wp_region_inv (fun w w' => Below w.heap.size w w') (fun qi_ qv_ _ => qv_ = ([.agg #[.int .i64 i, .int .i64 ux, .int .i64 uy, .int .i64 ur], .agg #[.int .i64 i, .int .i64 ux, .int .i64 ty, .int .i64 ur], .bool true, .bool true, .agg #[.int .i64 i, .int .i64 ux, .int .i64 uy, .int .i64 ur], .int .i64 X, .int .i64 Y, .pointer (some ⟨ub, 3, none⟩), .int .i64 ur, .int .u64 wd, .bool false, .bool true, .bool true] : List Value).getD qi_ undef) (by kernel_rfl) (by kernel_rfl) (fun _ => Below.refl _ _) (fun _ _ _ h1 h2 => below_later h1 h1.size h2) (fun _ _ _ _ _ _ h => h) ?_
                    refine inv_cons (fun wx hg hd => ?_) (fun v0 => ?_)
                    · have hx := ((Below.refl w10.heap.size w10).drew).trans hg
                      clear hd hg
                      obtain ⟨k0, k1, k2, k3⟩ := HTU2.out _ hx
                      have hsx : ub < wx.heap.size := Nat.lt_of_lt_of_le hub hx.size
                      go_wp2
                      exact ⟨_, rfl, Below.refl _ _, rfl⟩
                    (try simp only [List.nil_append, Act.put, List.setIfInBounds_toArray, List.set_cons_zero, List.set_cons_succ])
                    refine inv_cons (fun wx hg hd => ?_) (fun v1 => ?_)
                    · have hx := ((Below.refl w10.heap.size w10).drew).trans hg
                      clear hd hg
                      obtain ⟨k0, k1, k2, k3⟩ := HTT.out _ hx
                      have hsx : tb < wx.heap.size := Nat.lt_of_lt_of_le htb hx.size
                      go_wp2
                      exact ⟨_, rfl, Below.refl _ _, rfl⟩
                    (try simp only [List.cons_append, List.nil_append, Act.put, List.setIfInBounds_toArray, List.set_cons_zero, List.set_cons_succ])
                    refine inv_cons (fun wx hg hd => ?_) (fun v2 => ?_)
                    · have hx := ((Below.refl w10.heap.size w10).drew).trans hg
                      (try (have ee : v0 = (.agg #[.int .i64 i, .int .i64 ux, .int .i64 uy, .int .i64 ur] : Value) := hd 0 (by simp) (by decide); subst ee))
                      (try (have ee : v1 = (.agg #[.int .i64 i, .int .i64 ux, .int .i64 ty, .int .i64 ur] : Value) := hd 1 (by simp) (by decide); subst ee))
                      clear hd hg
                      go_wp2
                      exact ⟨_, rfl, Below.refl _ _, rfl⟩
                    (try simp only [List.cons_append, List.nil_append, Act.put, List.setIfInBounds_toArray, List.set_cons_zero, List.set_cons_succ])
                    refine inv_cons (fun wx hg hd => ?_) (fun v3 => ?_)
                    · have hx := ((Below.refl w10.heap.size w10).drew).trans hg
                      (try (have ee : v2 = (.bool true : Value) := hd 2 (by simp) (by decide); subst ee))
                      clear hd hg
                      go_wp2
                      exact ⟨_, rfl, Below.refl _ _, rfl⟩
                    (try simp only [List.cons_append, List.nil_append, Act.put, List.setIfInBounds_toArray, List.set_cons_zero, List.set_cons_succ])
                    refine inv_cons (fun wx hg hd => ?_) (fun v4 => ?_)
                    · have hx := ((Below.refl w10.heap.size w10).drew).trans hg
                      (try (have ee : v3 = (.bool true : Value) := hd 3 (by simp) (by decide); subst ee))
                      clear hd hg
                      obtain ⟨k0, k1, k2, k3⟩ := HTU2.out _ hx
                      have hsx : ub < wx.heap.size := Nat.lt_of_lt_of_le hub hx.size
                      go_wp2
                      exact ⟨_, rfl, Below.refl _ _, rfl⟩
                    (try simp only [List.cons_append, List.nil_append, Act.put, List.setIfInBounds_toArray, List.set_cons_zero, List.set_cons_succ])
                    refine inv_cons (fun wx hg hd => ?_) (fun v5 => ?_)
                    · have hx := ((Below.refl w10.heap.size w10).drew).trans hg
                      (try (have ee : v3 = (.bool true : Value) := hd 3 (by simp) (by decide); subst ee))
                      clear hd hg
                      go_wp2
                      exact ⟨_, rfl, Below.refl _ _, rfl⟩
                    (try simp only [List.cons_append, List.nil_append, Act.put, List.setIfInBounds_toArray, List.set_cons_zero, List.set_cons_succ])
                    refine inv_cons (fun wx hg hd => ?_) (fun v6 => ?_)
                    · have hx := ((Below.refl w10.heap.size w10).drew).trans hg
                      (try (have ee : v3 = (.bool true : Value) := hd 3 (by simp) (by decide); subst ee))
                      clear hd hg
                      go_wp2
                      exact ⟨_, rfl, Below.refl _ _, rfl⟩
                    (try simp only [List.cons_append, List.nil_append, Act.put, List.setIfInBounds_toArray, List.set_cons_zero, List.set_cons_succ])
                    refine inv_cons (fun wx hg hd => ?_) (fun v7 => ?_)
                    · have hx := ((Below.refl w10.heap.size w10).drew).trans hg
                      (try (have ee : v3 = (.bool true : Value) := hd 3 (by simp) (by decide); subst ee))
                      clear hd hg
                      go_wp2
                      exact ⟨_, rfl, Below.refl _ _, rfl⟩
                    (try simp only [List.cons_append, List.nil_append, Act.put, List.setIfInBounds_toArray, List.set_cons_zero, List.set_cons_succ])
                    refine inv_cons (fun wx hg hd => ?_) (fun v8 => ?_)
                    · have hx := ((Below.refl w10.heap.size w10).drew).trans hg
                      (try (have ee : v3 = (.bool true : Value) := hd 3 (by simp) (by decide); subst ee))
                      (try (have ee : v7 = (.pointer (some ⟨ub, 3, none⟩) : Value) := hd 7 (by simp) (by decide); subst ee))
                      clear hd hg
                      obtain ⟨k0, k1, k2, k3⟩ := HTU2.out _ hx
                      have hsx : ub < wx.heap.size := Nat.lt_of_lt_of_le hub hx.size
                      go_wp2
                      exact ⟨_, rfl, Below.refl _ _, rfl⟩
                    (try simp only [List.cons_append, List.nil_append, Act.put, List.setIfInBounds_toArray, List.set_cons_zero, List.set_cons_succ])
                    refine inv_cons (fun wx hg hd => ?_) (fun v9 => ?_)
                    · have hx := ((Below.refl w10.heap.size w10).drew).trans hg
                      (try (have ee : v3 = (.bool true : Value) := hd 3 (by simp) (by decide); subst ee))
                      (try (have ee : v5 = (.int .i64 X : Value) := hd 5 (by simp) (by decide); subst ee))
                      (try (have ee : v6 = (.int .i64 Y : Value) := hd 6 (by simp) (by decide); subst ee))
                      (try (have ee : v8 = (.int .i64 ur : Value) := hd 8 (by simp) (by decide); subst ee))
                      clear hd hg
                      go_wp2_with fail
                      refine (HCW.out _).mono ?_
                      rintro e w' ⟨rfl, hb⟩
                      go_wp2
                      exact ⟨_, rfl, hb, rfl⟩
                    (try simp only [List.cons_append, List.nil_append, Act.put, List.setIfInBounds_toArray, List.set_cons_zero, List.set_cons_succ])
                    refine inv_cons (fun wx hg hd => ?_) (fun v10 => ?_)
                    · have hx := ((Below.refl w10.heap.size w10).drew).trans hg
                      (try (have ee : v3 = (.bool true : Value) := hd 3 (by simp) (by decide); subst ee))
                      (try (have ee : v4 = (.agg #[.int .i64 i, .int .i64 ux, .int .i64 uy, .int .i64 ur] : Value) := hd 4 (by simp) (by decide); subst ee))
                      (try (have ee : v9 = (.int .u64 wd : Value) := hd 9 (by simp) (by decide); subst ee))
                      clear hd hg
                      go_wp2_with fail
                      refine (HCO.out _).mono ?_
                      rintro e w' ⟨rfl, hb⟩
                      go_wp2
                      exact ⟨_, rfl, hb, rfl⟩
                    (try simp only [List.cons_append, List.nil_append, Act.put, List.setIfInBounds_toArray, List.set_cons_zero, List.set_cons_succ])
                    refine inv_cons (fun wx hg hd => ?_) (fun v11 => ?_)
                    · have hx := ((Below.refl w10.heap.size w10).drew).trans hg
                      (try (have ee : v3 = (.bool true : Value) := hd 3 (by simp) (by decide); subst ee))
                      (try (have ee : v10 = (.bool false : Value) := hd 10 (by simp) (by decide); subst ee))
                      clear hd hg
                      go_wp2
                      exact ⟨_, rfl, Below.refl _ _, rfl⟩
                    (try simp only [List.cons_append, List.nil_append, Act.put, List.setIfInBounds_toArray, List.set_cons_zero, List.set_cons_succ])
                    refine inv_cons (fun wx hg hd => ?_) (fun v12 => ?_)
                    · have hx := ((Below.refl w10.heap.size w10).drew).trans hg
                      (try (have ee : v3 = (.bool true : Value) := hd 3 (by simp) (by decide); subst ee))
                      (try (have ee : v11 = (.bool true : Value) := hd 11 (by simp) (by decide); subst ee))
                      clear hd hg
                      go_wp2
                      exact ⟨_, rfl, Below.refl _ _, rfl⟩
                    (try simp only [List.cons_append, List.nil_append, Act.put, List.setIfInBounds_toArray, List.set_cons_zero, List.set_cons_succ])
                    refine inv_done (fun wx hg hd => ?_)
                    have hx := ((Below.refl w10.heap.size w10).drew).trans hg
                    (have ee : v0 = (.agg #[.int .i64 i, .int .i64 ux, .int .i64 uy, .int .i64 ur] : Value) := hd 0 (by simp); subst ee)
                    (have ee : v1 = (.agg #[.int .i64 i, .int .i64 ux, .int .i64 ty, .int .i64 ur] : Value) := hd 1 (by simp); subst ee)
                    (have ee : v2 = (.bool true : Value) := hd 2 (by simp); subst ee)
                    (have ee : v3 = (.bool true : Value) := hd 3 (by simp); subst ee)
                    (have ee : v4 = (.agg #[.int .i64 i, .int .i64 ux, .int .i64 uy, .int .i64 ur] : Value) := hd 4 (by simp); subst ee)
                    (have ee : v5 = (.int .i64 X : Value) := hd 5 (by simp); subst ee)
                    (have ee : v6 = (.int .i64 Y : Value) := hd 6 (by simp); subst ee)
                    (have ee : v7 = (.pointer (some ⟨ub, 3, none⟩) : Value) := hd 7 (by simp); subst ee)
                    (have ee : v8 = (.int .i64 ur : Value) := hd 8 (by simp); subst ee)
                    (have ee : v9 = (.int .u64 wd : Value) := hd 9 (by simp); subst ee)
                    (have ee : v10 = (.bool false : Value) := hd 10 (by simp); subst ee)
                    (have ee : v11 = (.bool true : Value) := hd 11 (by simp); subst ee)
                    (have ee : v12 = (.bool true : Value) := hd 12 (by simp); subst ee)
                    clear hd hg
                    (try go_simp)
                    have HMX := Lib.hid ((HM10.out.sub (G' := [(g, .cells #[.int .i64 X2, .int .i64 Y2] 24)]) (by simp)).below hx)
                    clear hx
                    go_wp2
                    go_roundw
                    case rel => exact ⟨i + 1, c + 1, AA, by omega, by omega, by go_num, by go_num, by go_num, HS2.out, by show MineF _ _ _ _ (2 * (i + 1)) _ _; rw [show 2 * (i + 1) = 2 * i + 1 + 1 by omega]; exact HMX.out⟩
                    case measure => simp [intOf]; omega
              · have HNE : Hid (decide ((((i : Int), ux, uy, ur) : TL) ≠ ((i : Int), tx, ty, ur)) = true) := decide_eq_true (fun h => by simp at h; exact hxx h.1)
                cases on with
                | true =>
                  have HS2 : Hid (ClI X Y (i + 1) c AA) := by
                    have := HS.out
                    rw [HNE.out, Bool.true_and, if_neg (by simp)] at this
                    exact this
                  clear HS HNE
                  refine wp_region_inv (fun w w' => Below w.heap.size w w') (fun qi_ qv_ _ => qv_ = ([.agg #[.int .i64 i, .int .i64 ux, .int .i64 uy, .int .i64 ur], .agg #[.int .i64 i, .int .i64 tx, .int .i64 ty, .int .i64 ur], .bool true, .bool true, .agg #[.int .i64 i, .int .i64 ux, .int .i64 uy, .int .i64 ur], .int .i64 X, .int .i64 Y, .pointer (some ⟨ub, 3, none⟩), .int .i64 ur, .int .u64 wd, .bool true, .bool false, .bool false] : List Value).getD qi_ undef) (by kernel_rfl) (by kernel_rfl) (fun _ => Below.refl _ _) (fun _ _ _ h1 h2 => below_later h1 h1.size h2) (fun _ _ _ _ _ _ h => h) ?_
                  refine inv_cons (fun wx hg hd => ?_) (fun v0 => ?_)
                  · have hx := ((Below.refl w10.heap.size w10).drew).trans hg
                    clear hd hg
                    obtain ⟨k0, k1, k2, k3⟩ := HTU2.out _ hx
                    have hsx : ub < wx.heap.size := Nat.lt_of_lt_of_le hub hx.size
                    go_wp2
                    exact ⟨_, rfl, Below.refl _ _, rfl⟩
                  (try simp only [List.nil_append, Act.put, List.setIfInBounds_toArray, List.set_cons_zero, List.set_cons_succ])
                  refine inv_cons (fun wx hg hd => ?_) (fun v1 => ?_)
                  · have hx := ((Below.refl w10.heap.size w10).drew).trans hg
                    clear hd hg
                    obtain ⟨k0, k1, k2, k3⟩ := HTT.out _ hx
                    have hsx : tb < wx.heap.size := Nat.lt_of_lt_of_le htb hx.size
                    go_wp2
                    exact ⟨_, rfl, Below.refl _ _, rfl⟩
                  (try simp only [List.cons_append, List.nil_append, Act.put, List.setIfInBounds_toArray, List.set_cons_zero, List.set_cons_succ])
                  refine inv_cons (fun wx hg hd => ?_) (fun v2 => ?_)
                  · have hx := ((Below.refl w10.heap.size w10).drew).trans hg
                    (try (have ee : v0 = (.agg #[.int .i64 i, .int .i64 ux, .int .i64 uy, .int .i64 ur] : Value) := hd 0 (by simp) (by decide); subst ee))
                    (try (have ee : v1 = (.agg #[.int .i64 i, .int .i64 tx, .int .i64 ty, .int .i64 ur] : Value) := hd 1 (by simp) (by decide); subst ee))
                    clear hd hg
                    go_wp2
                    exact ⟨_, rfl, Below.refl _ _, rfl⟩
                  (try simp only [List.cons_append, List.nil_append, Act.put, List.setIfInBounds_toArray, List.set_cons_zero, List.set_cons_succ])
                  refine inv_cons (fun wx hg hd => ?_) (fun v3 => ?_)
                  · have hx := ((Below.refl w10.heap.size w10).drew).trans hg
                    (try (have ee : v2 = (.bool true : Value) := hd 2 (by simp) (by decide); subst ee))
                    clear hd hg
                    go_wp2
                    exact ⟨_, rfl, Below.refl _ _, rfl⟩
                  (try simp only [List.cons_append, List.nil_append, Act.put, List.setIfInBounds_toArray, List.set_cons_zero, List.set_cons_succ])
                  refine inv_cons (fun wx hg hd => ?_) (fun v4 => ?_)
                  · have hx := ((Below.refl w10.heap.size w10).drew).trans hg
                    (try (have ee : v3 = (.bool true : Value) := hd 3 (by simp) (by decide); subst ee))
                    clear hd hg
                    obtain ⟨k0, k1, k2, k3⟩ := HTU2.out _ hx
                    have hsx : ub < wx.heap.size := Nat.lt_of_lt_of_le hub hx.size
                    go_wp2
                    exact ⟨_, rfl, Below.refl _ _, rfl⟩
                  (try simp only [List.cons_append, List.nil_append, Act.put, List.setIfInBounds_toArray, List.set_cons_zero, List.set_cons_succ])
                  refine inv_cons (fun wx hg hd => ?_) (fun v5 => ?_)
                  · have hx := ((Below.refl w10.heap.size w10).drew).trans hg
                    (try (have ee : v3 = (.bool true : Value) := hd 3 (by simp) (by decide); subst ee))
                    clear hd hg
                    go_wp2
                    exact ⟨_, rfl, Below.refl _ _, rfl⟩
                  (try simp only [List.cons_append, List.nil_append, Act.put, List.setIfInBounds_toArray, List.set_cons_zero, List.set_cons_succ])
                  refine inv_cons (fun wx hg hd => ?_) (fun v6 => ?_)
                  · have hx := ((Below.refl w10.heap.size w10).drew).trans hg
                    (try (have ee : v3 = (.bool true : Value) := hd 3 (by simp) (by decide); subst ee))
                    clear hd hg
                    go_wp2
                    exact ⟨_, rfl, Below.refl _ _, rfl⟩
                  (try simp only [List.cons_append, List.nil_append, Act.put, List.setIfInBounds_toArray, List.set_cons_zero, List.set_cons_succ])
                  refine inv_cons (fun wx hg hd => ?_) (fun v7 => ?_)
                  · have hx := ((Below.refl w10.heap.size w10).drew).trans hg
                    (try (have ee : v3 = (.bool true : Value) := hd 3 (by simp) (by decide); subst ee))
                    clear hd hg
                    go_wp2
                    exact ⟨_, rfl, Below.refl _ _, rfl⟩
                  (try simp only [List.cons_append, List.nil_append, Act.put, List.setIfInBounds_toArray, List.set_cons_zero, List.set_cons_succ])
                  refine inv_cons (fun wx hg hd => ?_) (fun v8 => ?_)
                  · have hx := ((Below.refl w10.heap.size w10).drew).trans hg
                    (try (have ee : v3 = (.bool true : Value) := hd 3 (by simp) (by decide); subst ee))
                    (try (have ee : v7 = (.pointer (some ⟨ub, 3, none⟩) : Value) := hd 7 (by simp) (by decide); subst ee))
                    clear hd hg
                    obtain ⟨k0, k1, k2, k3⟩ := HTU2.out _ hx
                    have hsx : ub < wx.heap.size := Nat.lt_of_lt_of_le hub hx.size
                    go_wp2
                    exact ⟨_, rfl, Below.refl _ _, rfl⟩
                  (try simp only [List.cons_append, List.nil_append, Act.put, List.setIfInBounds_toArray, List.set_cons_zero, List.set_cons_succ])
                  refine inv_cons (fun wx hg hd => ?_) (fun v9 => ?_)
                  · have hx := ((Below.refl w10.heap.size w10).drew).trans hg
                    (try (have ee : v3 = (.bool true : Value) := hd 3 (by simp) (by decide); subst ee))
                    (try (have ee : v5 = (.int .i64 X : Value) := hd 5 (by simp) (by decide); subst ee))
                    (try (have ee : v6 = (.int .i64 Y : Value) := hd 6 (by simp) (by decide); subst ee))
                    (try (have ee : v8 = (.int .i64 ur : Value) := hd 8 (by simp) (by decide); subst ee))
                    clear hd hg
                    go_wp2_with fail
                    refine (HCW.out _).mono ?_
                    rintro e w' ⟨rfl, hb⟩
                    go_wp2
                    exact ⟨_, rfl, hb, rfl⟩
                  (try simp only [List.cons_append, List.nil_append, Act.put, List.setIfInBounds_toArray, List.set_cons_zero, List.set_cons_succ])
                  refine inv_cons (fun wx hg hd => ?_) (fun v10 => ?_)
                  · have hx := ((Below.refl w10.heap.size w10).drew).trans hg
                    (try (have ee : v3 = (.bool true : Value) := hd 3 (by simp) (by decide); subst ee))
                    (try (have ee : v4 = (.agg #[.int .i64 i, .int .i64 ux, .int .i64 uy, .int .i64 ur] : Value) := hd 4 (by simp) (by decide); subst ee))
                    (try (have ee : v9 = (.int .u64 wd : Value) := hd 9 (by simp) (by decide); subst ee))
                    clear hd hg
                    go_wp2_with fail
                    refine (HCO.out _).mono ?_
                    rintro e w' ⟨rfl, hb⟩
                    go_wp2
                    exact ⟨_, rfl, hb, rfl⟩
                  (try simp only [List.cons_append, List.nil_append, Act.put, List.setIfInBounds_toArray, List.set_cons_zero, List.set_cons_succ])
                  refine inv_cons (fun wx hg hd => ?_) (fun v11 => ?_)
                  · have hx := ((Below.refl w10.heap.size w10).drew).trans hg
                    (try (have ee : v3 = (.bool true : Value) := hd 3 (by simp) (by decide); subst ee))
                    (try (have ee : v10 = (.bool true : Value) := hd 10 (by simp) (by decide); subst ee))
                    clear hd hg
                    go_wp2
                    exact ⟨_, rfl, Below.refl _ _, rfl⟩
                  (try simp only [List.cons_append, List.nil_append, Act.put, List.setIfInBounds_toArray, List.set_cons_zero, List.set_cons_succ])
                  refine inv_cons (fun wx hg hd => ?_) (fun v12 => ?_)
                  · have hx := ((Below.refl w10.heap.size w10).drew).trans hg
                    (try (have ee : v3 = (.bool true : Value) := hd 3 (by simp) (by decide); subst ee))
                    (try (have ee : v11 = (.bool false : Value) := hd 11 (by simp) (by decide); subst ee))
                    clear hd hg
                    go_wp2
                    exact ⟨_, rfl, Below.refl _ _, rfl⟩
                  (try simp only [List.cons_append, List.nil_append, Act.put, List.setIfInBounds_toArray, List.set_cons_zero, List.set_cons_succ])
                  refine inv_done (fun wx hg hd => ?_)
                  have hx := ((Below.refl w10.heap.size w10).drew).trans hg
                  (have ee : v0 = (.agg #[.int .i64 i, .int .i64 ux, .int .i64 uy, .int .i64 ur] : Value) := hd 0 (by simp); subst ee)
                  (have ee : v1 = (.agg #[.int .i64 i, .int .i64 tx, .int .i64 ty, .int .i64 ur] : Value) := hd 1 (by simp); subst ee)
                  (have ee : v2 = (.bool true : Value) := hd 2 (by simp); subst ee)
                  (have ee : v3 = (.bool true : Value) := hd 3 (by simp); subst ee)
                  (have ee : v4 = (.agg #[.int .i64 i, .int .i64 ux, .int .i64 uy, .int .i64 ur] : Value) := hd 4 (by simp); subst ee)
                  (have ee : v5 = (.int .i64 X : Value) := hd 5 (by simp); subst ee)
                  (have ee : v6 = (.int .i64 Y : Value) := hd 6 (by simp); subst ee)
                  (have ee : v7 = (.pointer (some ⟨ub, 3, none⟩) : Value) := hd 7 (by simp); subst ee)
                  (have ee : v8 = (.int .i64 ur : Value) := hd 8 (by simp); subst ee)
                  (have ee : v9 = (.int .u64 wd : Value) := hd 9 (by simp); subst ee)
                  (have ee : v10 = (.bool true : Value) := hd 10 (by simp); subst ee)
                  (have ee : v11 = (.bool false : Value) := hd 11 (by simp); subst ee)
                  (have ee : v12 = (.bool false : Value) := hd 12 (by simp); subst ee)
                  clear hd hg
                  (try go_simp)
                  have HMX := Lib.hid ((HM10.out.sub (G' := [(g, .cells #[.int .i64 X2, .int .i64 Y2] 24)]) (by simp)).below hx)
                  clear hx
                  go_wp2
                  go_roundw
                  case rel => exact ⟨i + 1, c, AA, by omega, by omega, by go_num, rfl, by go_num, HS2.out, by show MineF _ _ _ _ (2 * (i + 1)) _ _; rw [show 2 * (i + 1) = 2 * i + 1 + 1 by omega]; exact HMX.out⟩
                  case measure => simp [intOf]; omega
                | false =>
                  have HS2 : Hid (ClI X Y (i + 1) (c + 1) AA) := by
                    have := HS.out
                    rw [HNE.out, Bool.true_and, if_pos (by rfl)] at this
                    exact this
                  clear HS HNE
                  refine wp_region_inv (fun w w' => Below w.heap.size w w') (fun qi_ qv_ _ => qv_ = ([.agg #[.int .i64 i, .int .i64 ux, .int .i64 uy, .int .i64 ur], .agg #[.int .i64 i, .int .i64 tx, .int .i64 ty, .int .i64 ur], .bool true, .bool true, .agg #[.int .i64 i, .int .i64 ux, .int .i64 uy, .int .i64 ur], .int .i64 X, .int .i64 Y, .pointer (some ⟨ub, 3, none⟩), .int .i64 ur, .int .u64 wd, .bool false, .bool true, .bool true] : List Value).getD qi_ undef) (by kernel_rfl) (by kernel_rfl) (fun _ => Below.refl _ _) (fun _ _ _ h1 h2 => below_later h1 h1.size h2) (fun _ _ _ _ _ _ h => h) ?_
                  refine inv_cons (fun wx hg hd => ?_) (fun v0 => ?_)
                  · have hx := ((Below.refl w10.heap.size w10).drew).trans hg
                    clear hd hg
                    obtain ⟨k0, k1, k2, k3⟩ := HTU2.out _ hx
                    have hsx : ub < wx.heap.size := Nat.lt_of_lt_of_le hub hx.size
                    go_wp2
                    exact ⟨_, rfl, Below.refl _ _, rfl⟩
                  (try simp only [List.nil_append, Act.put, List.setIfInBounds_toArray, List.set_cons_zero, List.set_cons_succ])
                  refine inv_cons (fun wx hg hd => ?_) (fun v1 => ?_)
                  · have hx := ((Below.refl w10.heap.size w10).drew).trans hg
                    clear hd hg
                    obtain ⟨k0, k1, k2, k3⟩ := HTT.out _ hx
                    have hsx : tb < wx.heap.size := Nat.lt_of_lt_of_le htb hx.size
                    go_wp2
                    exact ⟨_, rfl, Below.refl _ _, rfl⟩
                  (try simp only [List.cons_append, List.nil_append, Act.put, List.setIfInBounds_toArray, List.set_cons_zero, List.set_cons_succ])
                  refine inv_cons (fun wx hg hd => ?_) (fun v2 => ?_)
                  · have hx := ((Below.refl w10.heap.size w10).drew).trans hg
                    (try (have ee : v0 = (.agg #[.int .i64 i, .int .i64 ux, .int .i64 uy, .int .i64 ur] : Value) := hd 0 (by simp) (by decide); subst ee))
                    (try (have ee : v1 = (.agg #[.int .i64 i, .int .i64 tx, .int .i64 ty, .int .i64 ur] : Value) := hd 1 (by simp) (by decide); subst ee))
                    clear hd hg
                    go_wp2
                    exact ⟨_, rfl, Below.refl _ _, rfl⟩
                  (try simp only [List.cons_append, List.nil_append, Act.put, List.setIfInBounds_toArray, List.set_cons_zero, List.set_cons_succ])
                  refine inv_cons (fun wx hg hd => ?_) (fun v3 => ?_)
                  · have hx := ((Below.refl w10.heap.size w10).drew).trans hg
                    (try (have ee : v2 = (.bool true : Value) := hd 2 (by simp) (by decide); subst ee))
                    clear hd hg
                    go_wp2
                    exact ⟨_, rfl, Below.refl _ _, rfl⟩
                  (try simp only [List.cons_append, List.nil_append, Act.put, List.setIfInBounds_toArray, List.set_cons_zero, List.set_cons_succ])
                  refine inv_cons (fun wx hg hd => ?_) (fun v4 => ?_)
                  · have hx := ((Below.refl w10.heap.size w10).drew).trans hg
                    (try (have ee : v3 = (.bool true : Value) := hd 3 (by simp) (by decide); subst ee))
                    clear hd hg
                    obtain ⟨k0, k1, k2, k3⟩ := HTU2.out _ hx
                    have hsx : ub < wx.heap.size := Nat.lt_of_lt_of_le hub hx.size
                    go_wp2
                    exact ⟨_, rfl, Below.refl _ _, rfl⟩
                  (try simp only [List.cons_append, List.nil_append, Act.put, List.setIfInBounds_toArray, List.set_cons_zero, List.set_cons_succ])
                  refine inv_cons (fun wx hg hd => ?_) (fun v5 => ?_)
                  · have hx := ((Below.refl w10.heap.size w10).drew).trans hg
                    (try (have ee : v3 = (.bool true : Value) := hd 3 (by simp) (by decide); subst ee))
                    clear hd hg
                    go_wp2
                    exact ⟨_, rfl, Below.refl _ _, rfl⟩
                  (try simp only [List.cons_append, List.nil_append, Act.put, List.setIfInBounds_toArray, List.set_cons_zero, List.set_cons_succ])
                  refine inv_cons (fun wx hg hd => ?_) (fun v6 => ?_)
                  · have hx := ((Below.refl w10.heap.size w10).drew).trans hg
                    (try (have ee : v3 = (.bool true : Value) := hd 3 (by simp) (by decide); subst ee))
                    clear hd hg
                    go_wp2
                    exact ⟨_, rfl, Below.refl _ _, rfl⟩
                  (try simp only [List.cons_append, List.nil_append, Act.put, List.setIfInBounds_toArray, List.set_cons_zero, List.set_cons_succ])
                  refine inv_cons (fun wx hg hd => ?_) (fun v7 => ?_)
                  · have hx := ((Below.refl w10.heap.size w10).drew).trans hg
                    (try (have ee : v3 = (.bool true : Value) := hd 3 (by simp) (by decide); subst ee))
                    clear hd hg
                    go_wp2
                    exact ⟨_, rfl, Below.refl _ _, rfl⟩
                  (try simp only [List.cons_append, List.nil_append, Act.put, List.setIfInBounds_toArray, List.set_cons_zero, List.set_cons_succ])
                  refine inv_cons (fun wx hg hd => ?_) (fun v8 => ?_)
                  · have hx := ((Below.refl w10.heap.size w10).drew).trans hg
                    (try (have ee : v3 = (.bool true : Value) := hd 3 (by simp) (by decide); subst ee))
                    (try (have ee : v7 = (.pointer (some ⟨ub, 3, none⟩) : Value) := hd 7 (by simp) (by decide); subst ee))
                    clear hd hg
                    obtain ⟨k0, k1, k2, k3⟩ := HTU2.out _ hx
                    have hsx : ub < wx.heap.size := Nat.lt_of_lt_of_le hub hx.size
                    go_wp2
                    exact ⟨_, rfl, Below.refl _ _, rfl⟩
                  (try simp only [List.cons_append, List.nil_append, Act.put, List.setIfInBounds_toArray, List.set_cons_zero, List.set_cons_succ])
                  refine inv_cons (fun wx hg hd => ?_) (fun v9 => ?_)
                  · have hx := ((Below.refl w10.heap.size w10).drew).trans hg
                    (try (have ee : v3 = (.bool true : Value) := hd 3 (by simp) (by decide); subst ee))
                    (try (have ee : v5 = (.int .i64 X : Value) := hd 5 (by simp) (by decide); subst ee))
                    (try (have ee : v6 = (.int .i64 Y : Value) := hd 6 (by simp) (by decide); subst ee))
                    (try (have ee : v8 = (.int .i64 ur : Value) := hd 8 (by simp) (by decide); subst ee))
                    clear hd hg
                    go_wp2_with fail
                    refine (HCW.out _).mono ?_
                    rintro e w' ⟨rfl, hb⟩
                    go_wp2
                    exact ⟨_, rfl, hb, rfl⟩
                  (try simp only [List.cons_append, List.nil_append, Act.put, List.setIfInBounds_toArray, List.set_cons_zero, List.set_cons_succ])
                  refine inv_cons (fun wx hg hd => ?_) (fun v10 => ?_)
                  · have hx := ((Below.refl w10.heap.size w10).drew).trans hg
                    (try (have ee : v3 = (.bool true : Value) := hd 3 (by simp) (by decide); subst ee))
                    (try (have ee : v4 = (.agg #[.int .i64 i, .int .i64 ux, .int .i64 uy, .int .i64 ur] : Value) := hd 4 (by simp) (by decide); subst ee))
                    (try (have ee : v9 = (.int .u64 wd : Value) := hd 9 (by simp) (by decide); subst ee))
                    clear hd hg
                    go_wp2_with fail
                    refine (HCO.out _).mono ?_
                    rintro e w' ⟨rfl, hb⟩
                    go_wp2
                    exact ⟨_, rfl, hb, rfl⟩
                  (try simp only [List.cons_append, List.nil_append, Act.put, List.setIfInBounds_toArray, List.set_cons_zero, List.set_cons_succ])
                  refine inv_cons (fun wx hg hd => ?_) (fun v11 => ?_)
                  · have hx := ((Below.refl w10.heap.size w10).drew).trans hg
                    (try (have ee : v3 = (.bool true : Value) := hd 3 (by simp) (by decide); subst ee))
                    (try (have ee : v10 = (.bool false : Value) := hd 10 (by simp) (by decide); subst ee))
                    clear hd hg
                    go_wp2
                    exact ⟨_, rfl, Below.refl _ _, rfl⟩
                  (try simp only [List.cons_append, List.nil_append, Act.put, List.setIfInBounds_toArray, List.set_cons_zero, List.set_cons_succ])
                  refine inv_cons (fun wx hg hd => ?_) (fun v12 => ?_)
                  · have hx := ((Below.refl w10.heap.size w10).drew).trans hg
                    (try (have ee : v3 = (.bool true : Value) := hd 3 (by simp) (by decide); subst ee))
                    (try (have ee : v11 = (.bool true : Value) := hd 11 (by simp) (by decide); subst ee))
                    clear hd hg
                    go_wp2
                    exact ⟨_, rfl, Below.refl _ _, rfl⟩
                  (try simp only [List.cons_append, List.nil_append, Act.put, List.setIfInBounds_toArray, List.set_cons_zero, List.set_cons_succ])
                  refine inv_done (fun wx hg hd => ?_)
                  have hx := ((Below.refl w10.heap.size w10).drew).trans hg
                  (have ee : v0 = (.agg #[.int .i64 i, .int .i64 ux, .int .i64 uy, .int .i64 ur] : Value) := hd 0 (by simp); subst ee)
                  (have ee : v1 = (.agg #[.int .i64 i, .int .i64 tx, .int .i64 ty, .int .i64 ur] : Value) := hd 1 (by simp); subst ee)
                  (have ee : v2 = (.bool true : Value) := hd 2 (by simp); subst ee)
                  (have ee : v3 = (.bool true : Value) := hd 3 (by simp); subst ee)
                  (have ee : v4 = (.agg #[.int .i64 i, .int .i64 ux, .int .i64 uy, .int .i64 ur] : Value) := hd 4 (by simp); subst ee)
                  (have ee : v5 = (.int .i64 X : Value) := hd 5 (by simp); subst ee)
                  (have ee : v6 = (.int .i64 Y : Value) := hd 6 (by simp); subst ee)
                  (have ee : v7 = (.pointer (some ⟨ub, 3, none⟩) : Value) := hd 7 (by simp); subst ee)
                  (have ee : v8 = (.int .i64 ur : Value) := hd 8 (by simp); subst ee)
                  (have ee : v9 = (.int .u64 wd : Value) := hd 9 (by simp); subst ee)
                  (have ee : v10 = (.bool false : Value) := hd 10 (by simp); subst ee)
                  (have ee : v11 = (.bool true : Value) := hd 11 (by simp); subst ee)
                  (have ee : v12 = (.bool true : Value) := hd 12 (by simp); subst ee)
                  clear hd hg
                  (try go_simp)
                  have HMX := Lib.hid ((HM10.out.sub (G' := [(g, .cells #[.int .i64 X2, .int .i64 Y2] 24)]) (by simp)).below hx)
                  clear hx
                  go_wp2
                  go_roundw
                  case rel => exact ⟨i + 1, c + 1, AA, by omega, by omega, by go_num, by go_num, by go_num, HS2.out, by show MineF _ _ _ _ (2 * (i + 1)) _ _; rw [show 2 * (i + 1) = 2 * i + 1 + 1 by omega]; exact HMX.out⟩
                  case measure => simp [intOf]; omega
      · have hi19 : i = 19 := by omega
        subst hi19
        have hM := HM.out.mine
        have hT : ∀ a ∈ A, isT a.1 = true := fun a ha => (HI.out.2.1 a ha).1
        have HCL := Lib.hid (mine_clear hM hT X Y)
        have HC3 : Hid (c = (clearA A X Y).length) := HI.out.2.2
        have HNO : Hid (∀ (j : Nat), j ≤ 18 → ∀ a ∈ clearA A X Y, a.1 ≠ tileN X Y j RR) := fun j hj => cl_none (HOK.out j hj).1.2.2
        have HTA : Hid (∀ a ∈ clearA A X Y, isT a.1 = true) := fun a ha => hT a (List.mem_filter.1 ha).1
        have hcA : (clearA A X Y).length ≤ 38 := by have := HC3.out; omega
        have hAl : A.length ≤ 38 := HI.out.1
        clear hM hT HI HM HTU HWO HON
        generalize clearA A X Y = B at *
        generalize A.length = na at *
        obtain ⟨nb, hnb⟩ : ∃ nb, B.length = nb := ⟨_, rfl⟩
        rw [hnb] at HCL hcA HC3
        have HNB := Lib.hid hnb
        clear hnb
        as_aux_lemma =>
          go_wp2_with fail
          refine HCL.out.mono ?_
          rintro e w3 ⟨rfl, hm3⟩
          have HM3 := Lib.hid hm3
          clear hm3 HCL
          go_upto_region 19 with (fail)
          as_aux_lemma =>
            go_loopw [14] (fun iv wr => ∃ j : Nat, j ≤ 19 ∧ iv = .int .i64 j ∧ Hid (Mine w wr r 100 (38 + j) B)) (fun iv _ => 19 - (intOf iv).toNat)
            case atStart => exact ⟨0, by omega, rfl, HM3.out⟩
            case round =>
              obtain ⟨j, hj, rfl, HM⟩ := hrel
              by_cases hlt : j ≤ 18
              · have hlj : (j : Int) ≤ 18 := by omega
                have HCT := Lib.hid (HTI.out j hlt)
                have HNJ := Lib.hid (HNO.out j hlt)
                generalize tileN X Y j RR = t at *
                obtain ⟨tz, tx, ty, tr⟩ := t
                unfold tlV at HCT
                dsimp only at HCT
                go_wp2_with fail
                refine (HCT.out _).mono ?_
                rintro e w4 ⟨rfl, hb4⟩
                have hG := mine_get (HM.out.below hb4) (by omega) (tz, tx, ty, tr)
                unfold tlV at hG
                dsimp only at hG
                have HG := Lib.hid hG
                clear hG hb4 HCT
                go_wp2_with fail
                refine HG.out.mono ?_
                rintro e w5 (⟨-, rfl, hm5, -⟩ | ⟨a, ao, ca, h1, h2, -⟩)
                · have HM5 := Lib.hid hm5
                  clear hm5 HG
                  go_wp2
                  go_roundw
                  case rel => exact ⟨j + 1, by omega, by go_num, by show Mine _ _ _ _ _ _; rw [show 38 + (j + 1) = 38 + j + 1 by omega]; exact HM5.out⟩
                  case measure => simp [intOf]; omega
                · exact absurd h2 (HNJ.out a (List.mem_of_getElem? h1))
              · have hj19 : j = 19 := by omega
                subst hj19
                have hL := mine_len HM.out
                have hC := mine_clear HM.out HTA.out (-1) 5
                rw [clear_out, HNB.out] at hC
                rw [HNB.out] at hL
                have HL := Lib.hid hL
                have HC := Lib.hid hC
                have q1 : ((nb : Int) == (c : Int)) = true := by rw [HC3.out]; exact beq_self_eq_true _
                have q2 : ((nb : Int) - (nb : Int)) = 0 := by omega
                rw [q2] at HC
                clear hL hC q2
                go_wp2_with fail
                refine HL.out.mono ?_
                rintro e w6 ⟨rfl, rfl⟩
                go_wp2_with fail
                refine HC.out.mono ?_
                rintro e w7 ⟨rfl, hm7⟩
                have HB7 := Lib.hid hm7.pre
                clear hm7 HL HC
                go_wp2_with fail
                refine (HAW.out _).mono ?_
                rintro e w8 ⟨rfl, hb8⟩
                have HB8 := Lib.hid (HB7.out.trans (hb8.mono HB7.out.size))
                clear hb8
                go_wp2
                go_ret
                exact ⟨rfl, HB8.out⟩
end Go.Proofs.YtjimcjhgjfhbiaaGreat.cacheClears
