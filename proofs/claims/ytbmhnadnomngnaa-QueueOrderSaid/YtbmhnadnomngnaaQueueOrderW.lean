/- The walk of the law QueueOrder. -/
import Derived.Test.YtbmhnadnomngnaaQI
namespace Go.Proofs.Ytbmhnadnomngnaa.queueOrder
open Go.RowKit Go.Lib

set_option maxRecDepth 100000 in
set_option maxHeartbeats 4000000 in
theorem core (w : World) (a0 : Option Addr) (n0 c0 : Nat) (z : Nat → Int) (h0 : IntsAtK .i64 w w.heap.size a0 n0 z) (b0 : ∀ i, i < n0 → (Lit.int .i64 (z i)).wf = true) (s0 : n0 ≤ 17592186044404) (turn : Int) :
    Calls Try.prog 3 #[.slice a0 n0 c0, .int .i64 turn] w fun e w' => e = .returned (.bool true) ∧ Below w.heap.size w w' := by
  have hnp : ∀ (w : World) (a : Addr), (binOp .eql 23 (.pointer (some a)) (.pointer none)).run Try.prog w = .ok (.bool false) w := fun w a => by kernel_rfl
  obtain ⟨n, hn, hn60, hn0⟩ : ∃ n : Nat, min (n0 : Int) 60 = (n : Int) ∧ n ≤ 60 ∧ n ≤ n0 := ⟨min n0 60, by omega, by omega, by omega⟩
  obtain ⟨t, et, ht⟩ : ∃ t : Nat, bits BinOp.and IntKind.i64 turn 255 = (t : Int) ∧ t ≤ 255 := ⟨(turn % 256).toNat, by rw [i64_and_mask turn 8 (by omega) 255 rfl]; omega, by omega⟩
  obtain ⟨X, hX⟩ : ∃ X : Nat → Prop, X = fun k => k < w.heap.size := ⟨_, rfl⟩
  have HX : Hid (∀ k, X k ↔ k < w.heap.size) := fun k => by rw [hX]
  have HN := Lib.hid (one_new X w (fun k h => (HX.out k).1 h))
  have HI := Lib.hid h0
  have HBW := Lib.hid b0
  have HAW := Lib.hid awake16_any
  clear h0 b0 hX
  go_enter Try.func3, Try.ntmps3
  go_wp2_with fail
  refine HN.out.mono ?_
  rintro e w1 ⟨qa, rfl, h1, hb1⟩
  have HS1 := Lib.hid (Stay.of_below (X := X) hb1)
  obtain ⟨Fa, hfa, hxa⟩ := h1
  have HA1 := Lib.hid (And.intro hfa hxa)
  have HN2 := Lib.hid (one_new (fun k => k < w1.heap.size) w1 (fun _ h => h))
  clear hb1 hfa hxa HN
  go_wp2_with fail
  refine HN2.out.mono ?_
  rintro e w2 ⟨qb, rfl, h2, hb2⟩
  have HT2 : Hid (Two X w2 qa qb [] [] ∧ Stay X w w2) := by
    obtain ⟨Fb, hfb, hxb⟩ := h2
    refine ⟨⟨Fa, Fb, HA1.out.1.below hb2, hfb, fun k ha hb => (hxb k (HA1.out.1.lt k ha)).2 hb, fun k hk => ?_⟩, HS1.out.trans (Stay.of_below hb2)⟩
    have h9 := HA1.out.2 k hk
    exact ⟨Nat.lt_of_lt_of_le h9.1 hb2.size, h9.2, (hxb k h9.1).2⟩
  clear h2 hb2 HN2 HA1 HS1
  go_upto_region 2 with (fail)
  go_cut [7] from 18 to 20 (fun v wx => v = .int .i64 n ∧ wx = w2)
  case first =>
    go_wp2
    all_goals
      go_meet
      first
        | exact ⟨by rw [show (n0 : Int) = (n : Int) by omega], rfl⟩
        | exact ⟨by rw [show (60 : Int) = (n : Int) by omega], rfl⟩
  case rest =>
  obtain ⟨rfl, rfl⟩ := hcut
  clear hn
  go_wp2_with fail
  go_loopw [8] (fun i wr => ∃ (k : Nat) (La Lb : List Wt), k ≤ n ∧ i = .int .i64 k ∧ Hid (La.Perm (firstN z k) ∧ Lb.Perm (turnN z t n k) ∧ Two X wr qa qb La Lb ∧ Stay X w wr)) (fun i _ => n - (intOf i).toNat)
  case atStart => exact ⟨0, [], [], Nat.zero_le _, rfl, List.Perm.refl _, List.Perm.refl _, HT2.out⟩
  case round =>
    obtain ⟨k, La, Lb, hk, rfl, HR⟩ := hrel
    by_cases hlt : k < n
    · obtain ⟨s, hs, hsn⟩ : ∃ s, (k + t) % n = s ∧ s < n := ⟨_, rfl, Nat.mod_lt _ (by omega)⟩
      have hsI : ((k : Int) + (t : Int)) % (n : Int) = (s : Int) := by have := congrArg (fun x : Nat => (x : Int)) hs; simpa using this
      have HSS := Lib.hid hs
      have HBELOW : Hid (∀ wx, Stay X w wx → Below w.heap.size w wx) := fun wx hx => hx.below (Nat.le_refl _) fun k hk => (HX.out k).2 hk
      obtain ⟨bb, off, rfl, hbb, hc⟩ := (HI.out.below (HBELOW.out _ HR.out.2.2.2) (Nat.le_refl _)) (by omega)
      have c1 := hc k (by omega)
      have hbw : bb < wr.heap.size := Nat.lt_of_lt_of_le hbb HR.out.2.2.2.size
      have hw1 : IntKind.u64.wrap (k : Int) = (k : Int) := by rw [IntKind.wrap_u64]; omega
      have hw2 : IntKind.u64.wrap (s : Int) = (s : Int) := by rw [IntKind.wrap_u64]; omega
      have wf1 : WfW (wn z k) := ⟨by unfold Lit.wf; rw [Bool.and_eq_true, decide_eq_true_eq, decide_eq_true_eq]; exact ⟨show (0 : Int) ≤ (k : Int) by omega, show (k : Int) ≤ 18446744073709551615 by omega⟩, HBW.out k (by omega)⟩
      have wf2 : WfW (wn z s) := ⟨by unfold Lit.wf; rw [Bool.and_eq_true, decide_eq_true_eq, decide_eq_true_eq]; exact ⟨show (0 : Int) ≤ (s : Int) by omega, show (s : Int) ≤ 18446744073709551615 by omega⟩, HBW.out s (by omega)⟩
      have HP1 := Lib.hid (two_push HR.out.2.2.1 (wn z k) wf1 (fun p hp => firstN_new p (HR.out.1.mem_iff.1 hp)) (by rw [HR.out.1.length_eq, firstN_length]; omega))
      have HW2 := Lib.hid wf2
      unfold aggW wn at HP1
      clear hc hs wf1 wf2
      go_wp2_with fail
      refine HP1.out.mono ?_
      rintro e w3 ⟨rfl, La', p1, h3, t3⟩
      have HP2 := Lib.hid (two_push h3.symm (wn z s) HW2.out (by
        intro p hp
        have := turnN_new (z := z) (t := t) hlt p (HR.out.2.1.mem_iff.1 hp)
        rwa [HSS.out] at this) (by rw [HR.out.2.1.length_eq, turnN_length]; omega))
      have HS3 := Lib.hid (HR.out.2.2.2.trans t3)
      have HP3 := Lib.hid (p1.trans ((List.Perm.cons _ HR.out.1).trans (firstN_succ z k)))
      obtain ⟨_, _, he, _, hc⟩ := (HI.out.below (HBELOW.out _ HS3.out) (Nat.le_refl _)) (by omega)
      cases he
      have c2 := hc s (by omega)
      have hbw3 : bb < w3.heap.size := Nat.lt_of_lt_of_le hbb HS3.out.size
      unfold aggW wn at HP2
      clear hc p1 h3 t3 HP1
      go_wp2_with fail
      refine HP2.out.mono ?_
      rintro e w4 ⟨rfl, Lb', p2, h4, t4⟩
      have HN4 : Hid (La'.Perm (firstN z (k + 1)) ∧ Lb'.Perm (turnN z t n (k + 1)) ∧ Two X w4 qa qb La' Lb' ∧ Stay X w w4) := by
        refine ⟨HP3.out, ?_, h4.symm, HS3.out.trans t4⟩
        have h9 := turnN_succ z t n k
        rw [HSS.out] at h9
        exact p2.trans ((List.Perm.cons _ HR.out.2.1).trans h9)
      clear p2 h4 t4 HP2 HR hsI
      go_wp2
      go_roundw
      case rel => exact ⟨k + 1, La', Lb', by omega, by go_num, HN4.out⟩
      case measure => simp [intOf]; omega
    · obtain rfl : k = n := by omega
      obtain ⟨e, he⟩ : ∃ e, wr.heap.size = e := ⟨_, rfl⟩
      have hbe : Below wr.heap.size wr (wr.alloc (.cells #[.int .u64 0, .int .i64 0] 28)) := (Below.refl _ _).alloc (Nat.le_refl _) _
      have hew : w.heap.size ≤ e := by rw [← he]; exact HR.out.2.2.2.size
      have hXe : ¬ X e := fun h => by have := (HX.out e).1 h; omega
      have HXE := Lib.hid hXe
      have HE := Lib.hid he
      have HR2 : Hid (La.Perm Lb ∧ La.length = k ∧ Two (fun y => X y ∨ y = e) (wr.alloc (.cells #[.int .u64 0, .int .i64 0] 28)) qa qb La Lb ∧ Stay X w (wr.alloc (.cells #[.int .u64 0, .int .i64 0] 28))) :=
        ⟨HR.out.1.trans ((HR.out.2.1.trans (turnN_all z t k)).symm), by rw [HR.out.1.length_eq, firstN_length], HR.out.2.2.1.more hbe (Nat.le_of_eq he) (by rw [World.size_alloc]; omega), HR.out.2.2.2.trans (Stay.of_below hbe)⟩
      clear hbe HR hXe
      have EQ := eq_wt
      go_upto_region 12 with (fail)
      have hh0 : (wr.alloc (.cells #[.int .u64 0, .int .i64 0] 28)).heap[e]? = some (.cells #[.int .u64 0, .int .i64 0] 28 (0, 0)) := heap_new _ _ _ he
      have hs0 : e < (wr.alloc (.cells #[.int .u64 0, .int .i64 0] 28)).heap.size := by rw [World.size_alloc]; omega
      generalize wr.alloc (.cells #[.int .u64 0, .int .i64 0] 28) = wz at *
      have hz0 : wz.cell? ⟨e, 0, none⟩ = some (.int .u64 0) := cell_of_row _ _ 0 _ _ _ hh0
      have hz1 : wz.cell? ⟨e, 1, none⟩ = some (.int .i64 0) := cell_of_row _ _ 1 _ _ _ hh0
      have hz2 : ∀ j, wz.frozen? ⟨e, j, none⟩ = false := fun j => frozen_of_row hh0
      have hz20 := hz2 0
      have hz21 := hz2 1
      clear hh0 hz2 he
      go_wp2
      go_loopw [11] (fun i wr => ∃ (j : Nat) (Ma Mb : List Wt) (p : Wt), j ≤ k ∧ i = .int .i64 j ∧ wr.cell? ⟨e, 0, none⟩ = some (.int .u64 p.1) ∧ wr.cell? ⟨e, 1, none⟩ = some (.int .i64 p.2) ∧ wr.frozen? ⟨e, 0, none⟩ = false ∧ wr.frozen? ⟨e, 1, none⟩ = false ∧ e < wr.heap.size ∧
        Hid (Ma.Perm Mb ∧ Ma.length + j = k ∧ (0 < j → ∀ q ∈ Ma, lessW p q = true) ∧ Two (fun y => X y ∨ y = e) wr qa qb Ma Mb ∧ Stay X w wr)) (fun i _ => k - (intOf i).toNat)
      case atStart => exact ⟨0, La, Lb, (0, 0), Nat.zero_le _, rfl, hz0, hz1, hz20, hz21, hs0, HR2.out.1, by rw [HR2.out.2.1]; rfl, fun h => absurd h (Nat.lt_irrefl _), HR2.out.2.2.1, HR2.out.2.2.2⟩
      case round =>
        obtain ⟨j, Ma, Mb, p, hj, rfl, e0, e1, f0, f1, hes, HM⟩ := hrel
        by_cases hjk : j < k
        · have hpos : 0 < Ma.length := by have := HM.out.2.1; omega
          have hposb : 0 < Mb.length := by rw [← HM.out.1.length_eq]; exact hpos
          have hsame := first_same HM.out.1 hpos HM.out.2.2.2.1.first HM.out.2.2.2.1.symm.first
          obtain ⟨x, hx⟩ : ∃ x, wg Ma 0 = x := ⟨_, rfl⟩
          have hfst : ∀ q ∈ Ma, lessW q x = false := by rw [← hx]; exact HM.out.2.2.2.1.first
          have hlx : 0 < j → lessW p x = true := fun h => HM.out.2.2.1 h x (by rw [← hx]; exact wg_mem hpos)
          have hp1 := two_pop HM.out.2.2.2.1
          rw [hx, decide_eq_true hpos] at hp1
          simp only [if_pos hpos] at hp1
          rw [hx] at hsame
          have HP1 := Lib.hid hp1
          have HSM := Lib.hid hsame
          have HFS := Lib.hid hfst
          have HLX := Lib.hid hlx
          have HPB := Lib.hid hposb
          unfold aggW at HP1
          clear hpos hposb hsame hx hfst hlx hp1
          go_wp2_with fail
          refine HP1.out.mono ?_
          rintro e w3 ⟨rfl, Ma', p1, h3, t3⟩
          obtain ⟨d, hd⟩ : ∃ d, w3.heap.size = d := ⟨_, rfl⟩
          have hb3 : Below w3.heap.size w3 (w3.alloc (.cells #[.int .u64 x.1, .int .i64 x.2] 28)) := (Below.refl _ _).alloc (Nat.le_refl _) _
          have h3' := h3.more hb3 (e := d) (Nat.le_of_eq hd) (by rw [World.size_alloc]; omega)
          have hp2 := two_pop h3'.symm
          rw [HSM.out.symm, decide_eq_true HPB.out] at hp2
          simp only [if_pos HPB.out] at hp2
          have HP2 := Lib.hid hp2
          have HB3 := Lib.hid hb3
          have HT3 := Lib.hid t3
          have HN3 := Lib.hid (first_ahead HM.out.2.2.2.1.nodup HFS.out p1)
          have HPM := Lib.hid p1
          have HD := Lib.hid hd
          have hes3 : e < w3.heap.size := Nat.lt_of_lt_of_le hes t3.size
          have hde : e < d := by omega
          unfold aggW at HP2
          clear hb3 h3 h3' hp2 t3 p1 HP1
          go_wp2_with fail
          refine HP2.out.mono ?_
          rintro e' w4 ⟨rfl, Mb', p2, h4, t4⟩
          have hs3 : (w3.alloc (.cells #[.int .u64 x.1, .int .i64 x.2] 28)).heap.size = d + 1 := by rw [World.size_alloc, hd]
          have hs4 := t4.size
          rw [hs3] at hs4
          have be : w4.heap[e]? = wr.heap[e]? := (t4.block (by rw [hs3]; omega) (.inl (.inr rfl))).trans ((Below.heap_alloc _ _ _ hes3).trans (HT3.out.block hes (.inr rfl)))
          have bd : w4.heap[d]? = some (.cells #[.int .u64 x.1, .int .i64 x.2] 28 (0, 0)) := (t4.block (by rw [hs3]; omega) (.inr rfl)).trans (heap_new _ _ _ hd)
          have k0 : w4.cell? ⟨e, 0, none⟩ = some (.int .u64 p.1) := (World.cell?_of_block (w := wr) (a := ⟨e, 0, none⟩) be).trans e0
          have k1 : w4.cell? ⟨e, 1, none⟩ = some (.int .i64 p.2) := (World.cell?_of_block (w := wr) (a := ⟨e, 1, none⟩) be).trans e1
          have g0 : w4.frozen? ⟨e, 0, none⟩ = false := (World.frozen?_of_block (w := wr) (a := ⟨e, 0, none⟩) be).trans f0
          have g1 : w4.frozen? ⟨e, 1, none⟩ = false := (World.frozen?_of_block (w := wr) (a := ⟨e, 1, none⟩) be).trans f1
          have d0 : w4.cell? ⟨d, 0, none⟩ = some (.int .u64 x.1) := cell_of_row _ _ 0 _ _ _ bd
          have d1 : w4.cell? ⟨d, 1, none⟩ = some (.int .i64 x.2) := cell_of_row _ _ 1 _ _ _ bd
          have he4 : e < w4.heap.size := by omega
          have hd4 : d < w4.heap.size := by omega
          have HT4 : Hid (Two (fun y => X y ∨ y = e) w4 qa qb Ma' Mb' ∧ Stay X w w4) := by
            obtain ⟨Fa', Fb', u1, u2, u3, u4⟩ := h4.symm
            exact ⟨⟨Fa', Fb', u1, u2, u3, fun y hy => u4 y (.inl hy)⟩, ((HM.out.2.2.2.2.trans (HT3.out.less fun y hy => .inl hy)).trans (Stay.of_below HB3.out)).trans (t4.less fun y hy => .inl (.inl hy))⟩
          have HPE : Hid (Ma'.Perm Mb') := by
            have h8 : (x :: Ma').Perm (x :: Mb') := HPM.out.trans (HM.out.1.trans p2.symm)
            exact (List.perm_cons x).1 h8
          have HLN : Hid (Ma'.length + (j + 1) = k) := by
            have := HPM.out.length_eq
            have h9 := HM.out.2.1
            simp only [List.length_cons] at this
            show _ = _
            omega
          have hbl : Below w4.heap.size w4 (w4.alloc (.cells #[.int .u64 x.1, .int .i64 x.2] 28)) := (Below.refl _ _).alloc (Nat.le_refl _) _
          have HB4 := Lib.hid hbl
          have hle := less_any p x
          have HLE := Lib.hid hle
          have K0 := Lib.hid k0
          have K1 := Lib.hid k1
          have G0 := Lib.hid g0
          have G1 := Lib.hid g1
          have HE4 := Lib.hid he4
          have HFIN : Hid (∀ wx, Below w4.heap.size w4 wx → ∀ u v, ((wx.setCell ⟨e, 0, none⟩ u).setCell ⟨e, 1, none⟩ v).cell? ⟨e, 0, none⟩ = some u ∧ ((wx.setCell ⟨e, 0, none⟩ u).setCell ⟨e, 1, none⟩ v).cell? ⟨e, 1, none⟩ = some v ∧
              ((wx.setCell ⟨e, 0, none⟩ u).setCell ⟨e, 1, none⟩ v).frozen? ⟨e, 0, none⟩ = false ∧ ((wx.setCell ⟨e, 0, none⟩ u).setCell ⟨e, 1, none⟩ v).frozen? ⟨e, 1, none⟩ = false ∧ e < ((wx.setCell ⟨e, 0, none⟩ u).setCell ⟨e, 1, none⟩ v).heap.size ∧
              Two (fun y => X y ∨ y = e) ((wx.setCell ⟨e, 0, none⟩ u).setCell ⟨e, 1, none⟩ v) qa qb Ma' Mb' ∧ Stay X w ((wx.setCell ⟨e, 0, none⟩ u).setCell ⟨e, 1, none⟩ v)) := fun wx hx u v => by
            have m0 := (hx.cell (p := ⟨e, 0, none⟩) HE4.out).trans K0.out
            have m1 := (hx.cell (p := ⟨e, 1, none⟩) HE4.out).trans K1.out
            refine ⟨?_, ?_, ?_, ?_, ?_, ?_, ?_⟩
            · rw [World.cell?_setCell_other _ _ _ _ (by simp)]; exact World.cell?_setCell_same _ _ _ m0
            · refine World.cell?_setCell_same _ _ _ (u := .int .i64 p.2) ?_
              rw [World.cell?_setCell_other _ _ _ _ (by simp)]; exact m1
            · rw [World.frozen?_setCell, World.frozen?_setCell]; exact (hx.frozen (p := ⟨e, 0, none⟩) HE4.out).trans G0.out
            · rw [World.frozen?_setCell, World.frozen?_setCell]; exact (hx.frozen (p := ⟨e, 1, none⟩) HE4.out).trans G1.out
            · have := HE4.out
              have h9 := hx.size
              simp
              omega
            · exact (HT4.out.1.later hx).wrote (.inr rfl) (((Turn.refl (fun y => y = e) wx).setCell (a := ⟨e, 0, none⟩) rfl u).setCell (a := ⟨e, 1, none⟩) rfl v)
            · exact Turn.setCell (S := fun y => ¬ X y) (a := ⟨e, 1, none⟩) (Turn.setCell (S := fun y => ¬ X y) (a := ⟨e, 0, none⟩) (HT4.out.2.trans (Stay.of_below hx)) HXE.out u) HXE.out v
          clear be bd p2 h4 t4 hs3 hs4 hbl hle e0 e1 f0 f1 hes hes3 hde HP2 HT4 HM HPM HT3 HB3
          by_cases hj0 : j = 0
          · subst hj0
            go_wp2_with fail
            go_roundw
            case rel =>
              obtain ⟨q0, q1, q2, q3, q4, q5, q6⟩ := HFIN.out w4 (Below.refl _ _) (.int .u64 x.1) (.int .i64 x.2)
              have hal : Below ((w4.setCell ⟨e, 0, none⟩ (.int .u64 x.1)).setCell ⟨e, 1, none⟩ (.int .i64 x.2)).heap.size ((w4.setCell ⟨e, 0, none⟩ (.int .u64 x.1)).setCell ⟨e, 1, none⟩ (.int .i64 x.2)) (((w4.setCell ⟨e, 0, none⟩ (.int .u64 x.1)).setCell ⟨e, 1, none⟩ (.int .i64 x.2)).alloc (.cells #[.int .u64 x.1, .int .i64 x.2] 28)) := (Below.refl _ _).alloc (Nat.le_refl _) _
              exact ⟨1, Ma', Mb', x, by omega, rfl, (hal.cell (p := ⟨e, 0, none⟩) q4).trans q0, (hal.cell (p := ⟨e, 1, none⟩) q4).trans q1, (hal.frozen (p := ⟨e, 0, none⟩) q4).trans q2, (hal.frozen (p := ⟨e, 1, none⟩) q4).trans q3, Nat.lt_of_lt_of_le q4 hal.size,
                HPE.out, HLN.out, fun _ => HN3.out, q5.later hal, q6.trans (Stay.of_below hal)⟩
            case measure => simp [intOf]; omega
          · have qj : decide (0 < j) = true := by simp; omega
            have hll := HLX.out (by omega)
            rw [hll] at HLE
            clear hll
            go_wp2_with fail
            refine (HLE.out _).mono ?_
            rintro e' w5 ⟨rfl, hb5⟩
            have hb45 : Below w4.heap.size w4 w5 := HB4.out.trans (hb5.mono HB4.out.size)
            have m0 : w5.cell? ⟨d, 0, none⟩ = some (.int .u64 x.1) := (hb45.cell (p := ⟨d, 0, none⟩) hd4).trans d0
            have m1 : w5.cell? ⟨d, 1, none⟩ = some (.int .i64 x.2) := (hb45.cell (p := ⟨d, 1, none⟩) hd4).trans d1
            have m2 : w5.cell? ⟨e, 0, none⟩ = some (.int .u64 p.1) := (hb45.cell (p := ⟨e, 0, none⟩) he4).trans k0
            have m3 : w5.cell? ⟨e, 1, none⟩ = some (.int .i64 p.2) := (hb45.cell (p := ⟨e, 1, none⟩) he4).trans k1
            have m4 : w5.frozen? ⟨e, 0, none⟩ = false := (hb45.frozen (p := ⟨e, 0, none⟩) he4).trans g0
            have m5 : w5.frozen? ⟨e, 1, none⟩ = false := (hb45.frozen (p := ⟨e, 1, none⟩) he4).trans g1
            have m6 : e < w5.heap.size := Nat.lt_of_lt_of_le he4 hb45.size
            have m7 : d < w5.heap.size := Nat.lt_of_lt_of_le hd4 hb45.size
            have HB5 := Lib.hid hb45
            clear hb5 hb45 k0 k1 g0 g1 d0 d1
            go_wp2
            go_roundw
            case rel =>
              obtain ⟨q0, q1, q2, q3, q4, q5, q6⟩ := HFIN.out w5 HB5.out (.int .u64 x.1) (.int .i64 x.2)
              exact ⟨j + 1, Ma', Mb', x, by omega, by go_num, q0, q1, q2, q3, q4, HPE.out, HLN.out, fun _ => HN3.out, q5, q6⟩
            case measure => simp [intOf]; omega
        · obtain rfl : j = k := by omega
          have hl : Ma.length = 0 := by have := HM.out.2.1; omega
          have hlb : Mb.length = 0 := by rw [← HM.out.1.length_eq]; exact hl
          have hp1 := two_len HM.out.2.2.2.1
          have hp2 := two_len HM.out.2.2.2.1.symm
          rw [hl] at hp1
          rw [hlb] at hp2
          have HP1 := Lib.hid hp1
          have HP2 := Lib.hid hp2
          have HS := Lib.hid HM.out.2.2.2.2
          clear hp1 hp2 hl hlb HM
          go_wp2_with fail
          refine HP1.out.mono ?_
          rintro e' w5 ⟨rfl, rfl⟩
          go_wp2_with fail
          refine HP2.out.mono ?_
          rintro e' w5 ⟨rfl, rfl⟩
          go_wp2_with fail
          refine (HAW.out _).mono ?_
          rintro e' w6 ⟨rfl, hb⟩
          have HF : Hid (Below w.heap.size w w6) := (HS.out.trans (Stay.of_below hb)).below (Nat.le_refl _) fun k hk => (HX.out k).2 hk
          clear hb
          go_wp2
          go_ret
          exact ⟨rfl, HF.out⟩

theorem walk {w : World} (a0 : Option Addr) (n0 c0 : Nat) (z0 : Nat → Int) (h0 : IntsAtK .i64 w w.heap.size a0 n0 z0) (b0 : ∀ i, i < n0 → (Lit.int .i64 (z0 i)).wf = true) (s0 : n0 * 8 ≤ 140737488351232)
    (a1 : Int) (_w1 : (Lit.int .i64 a1).wf = true) :
    Calls Try.prog 3 #[.slice a0 n0 c0, .int .i64 a1] w fun e w' => e = .returned (.bool true) ∧ Below w.heap.size w w' :=
  core w a0 n0 c0 z0 h0 b0 (by omega) a1
end Go.Proofs.Ytbmhnadnomngnaa.queueOrder
