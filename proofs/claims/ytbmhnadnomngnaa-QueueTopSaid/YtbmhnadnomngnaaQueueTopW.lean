/- The walk of the law QueueTop. -/
import Derived.Test.YtbmhnadnomngnaaQT
import Derived.Test.YtbmhnadnomngnaaLex4
import Derived.Deep.CutRange
import Derived.Deep.CutBlock
import Derived.Deep.RegionWith
namespace Go.Proofs.Ytbmhnadnomngnaa.queueTop
open Go.RowKit Go.Lib

set_option maxRecDepth 100000 in
set_option maxHeartbeats 4000000 in
theorem core (w : World) (a0 : Option Addr) (n0 c0 : Nat) (ls : List Wt) (l0 : ls.length = n0) (h0 : WAt w a0 ls) (k : Int) (x y : Wt) :
    Calls Try.prog 7 #[.slice a0 n0 c0, .int .i64 k, .agg #[.int .u64 x.1, .int .i64 x.2], .agg #[.int .u64 y.1, .int .i64 y.2]] w fun e w' => e = .returned (.bool true) ∧ Below w.heap.size w w' := by
  have HAW := Lib.hid awake16_any
  have HLE := Lib.hid (less_any x y)
  have HHE := Lib.hid (heavier_any x y)
  have hb0 : Below w.heap.size w ((w.alloc (.cells #[.int .u64 x.1, .int .i64 x.2] 28)).alloc (.cells #[.int .u64 y.1, .int .i64 y.2] 28)) := ((Below.refl w.heap.size w).alloc (Nat.le_refl _) _).alloc (by simp) _
  have HB0 := Lib.hid hb0
  have HX0 : Hid (((w.alloc (.cells #[.int .u64 x.1, .int .i64 x.2] 28)).alloc (.cells #[.int .u64 y.1, .int .i64 y.2] 28)).heap[w.heap.size]? = some (.cells #[.int .u64 x.1, .int .i64 x.2] 28 (0, 0))) := (Below.heap_alloc _ _ _ (by rw [World.size_alloc]; omega)).trans (heap_new _ _ _ rfl)
  have HY0 : Hid (((w.alloc (.cells #[.int .u64 x.1, .int .i64 x.2] 28)).alloc (.cells #[.int .u64 y.1, .int .i64 y.2] 28)).heap[w.heap.size + 1]? = some (.cells #[.int .u64 y.1, .int .i64 y.2] 28 (0, 0))) := heap_new _ _ _ (by rw [World.size_alloc])
  have HS0 : Hid (((w.alloc (.cells #[.int .u64 x.1, .int .i64 x.2] 28)).alloc (.cells #[.int .u64 y.1, .int .i64 y.2] 28)).heap.size = w.heap.size + 2) := by show _ = _; rw [World.size_alloc, World.size_alloc]
  have HW := Lib.hid (h0.below hb0)
  have HL := Lib.hid l0
  clear h0 l0 hb0
  by_cases hn : 100 < n0
  · have q1 : (100 : Int) < (n0 : Int) := by omega
    clear hn
    go_enter Try.func7, Try.ntmps7
    go_wp2_with fail
    refine (HAW.out _).mono ?_
    rintro e w2 ⟨rfl, hb⟩
    have HF : Hid (Below w.heap.size w w2) := HB0.out.trans (hb.mono HB0.out.size)
    clear hb
    go_wp2
    go_ret
    exact ⟨rfl, HF.out⟩
  · have q1 : (n0 : Int) ≤ 100 := by omega
    have hn' : n0 ≤ 100 := by omega
    clear hn
    go_enter Try.func7, Try.ntmps7
    go_upto_region 3 with (fail)
    generalize (w.alloc (.cells #[.int .u64 x.1, .int .i64 x.2] 28)).alloc (.cells #[.int .u64 y.1, .int .i64 y.2] 28) = w0 at *
    have hso := sorted_any a0 c0 ls w0 HW.out (by rw [HL.out]; omega)
    rw [HL.out] at hso
    have HSO := Lib.hid hso
    clear hso
    go_wp2_with fail
    refine HSO.out.mono ?_
    rintro e w1 ⟨ao, cs, R, rfl, hp, hs, ho, hb⟩
    have hrl : R.length = n0 := by rw [hp.length_eq, HL.out]
    rw [hrl] at ho ⊢
    have hto := top_any a0 c0 ls k w1 (HW.out.below hb) (by rw [HL.out]; omega)
    rw [HL.out] at hto
    have HTO := Lib.hid hto
    have HR : Hid (R.Perm ls ∧ SortedW R ∧ R.length = n0 ∧ w1.ownsRow w0.heap.size 28 2 (.slice ao n0 cs) n0 (wV R) ∧ Below w0.heap.size w0 w1) := ⟨hp, hs, hrl, ho, hb⟩
    clear hto hp hs ho hb hrl HSO
    go_wp2_with fail
    refine HTO.out.mono ?_
    rintro e w2 ⟨ao2, R2, m, rfl, hm, hmn, hp, hs, hw2, hb⟩
    obtain rfl : R2 = R := sorted_same (hp.trans HR.out.1.symm) hs HR.out.2.1
    have HWS : Hid (WAt w2 ao R2) := (wAt_own HR.out.2.2.1.symm HR.out.2.2.2.1).below hb
    have HWT := Lib.hid hw2
    have HB2 : Hid (Below w0.heap.size w0 w2) := HR.out.2.2.2.2.trans (hb.mono HR.out.2.2.2.2.size)
    have HLR := Lib.hid HR.out.2.2.1
    rw [HL.out] at hm hmn
    have hm' : min (max k 0) (n0 : Int) = (m : Int) := hm.symm
    clear hm hp hs hw2 hb HTO
    go_wp2
    go_loopw [11] (fun i wr => ∃ j : Nat, j ≤ m ∧ i = .int .i64 j ∧ Hid (Below w2.heap.size w2 wr)) (fun i _ => m - (intOf i).toNat)
    case atStart => exact ⟨0, Nat.zero_le _, rfl, Below.refl _ _⟩
    case round =>
      obtain ⟨j, hj, rfl, HJ⟩ := hrel
      by_cases hjm : j < m
      · obtain ⟨b1, o1, rfl, hb1, hc1⟩ := (HWS.out.below HJ.out) (by rw [HLR.out]; omega)
        obtain ⟨b2, o2, rfl, hb2, hc2⟩ := (HWT.out.below HJ.out) (by rw [List.length_take, HLR.out]; omega)
        obtain ⟨d0, d1⟩ := hc1 j (by rw [HLR.out]; omega)
        obtain ⟨e0, e1⟩ := hc2 j (by rw [List.length_take, HLR.out]; omega)
        rw [show wg (R2.take m) j = wg R2 j from wg_take hjm] at e0 e1
        generalize wg R2 j = x1 at d0 d1 e0 e1
        clear hc1 hc2
        have EQ := eq_wt
        have HNX : Hid (∀ nq, Below w2.heap.size w2 (wr.drewN nq)) := fun nq => HJ.out.trans (below_dn _ nq |>.mono HJ.out.size)
        go_upto_region 10 with (fail)
        go_quiet (fail)
        go_wp2
        go_roundw
        case rel => exact ⟨j + 1, by omega, by go_num, HNX.out _⟩
        case measure => simp [intOf]; omega
      · obtain rfl : j = m := by omega
        have HBR : Hid (Below w0.heap.size w0 wr) := HB2.out.trans (HJ.out.mono HB2.out.size)
        have hcs : ∀ wx, Below wr.heap.size wr wx → wx.cell? ⟨w.heap.size, 0, none⟩ = some (.int .u64 x.1) ∧ wx.cell? ⟨w.heap.size, 1, none⟩ = some (.int .i64 x.2) ∧ wx.cell? ⟨w.heap.size + 1, 0, none⟩ = some (.int .u64 y.1) ∧ wx.cell? ⟨w.heap.size + 1, 1, none⟩ = some (.int .i64 y.2) := fun wx hx => by
          have hb0x : Below w0.heap.size w0 wx := HBR.out.trans (hx.mono HBR.out.size)
          exact ⟨(hb0x.cell (p := ⟨w.heap.size, 0, none⟩) (by rw [HS0.out]; show w.heap.size < _; omega)).trans (cell_of_row _ _ 0 _ _ _ HX0.out),
            (hb0x.cell (p := ⟨w.heap.size, 1, none⟩) (by rw [HS0.out]; show w.heap.size < _; omega)).trans (cell_of_row _ _ 1 _ _ _ HX0.out),
            (hb0x.cell (p := ⟨w.heap.size + 1, 0, none⟩) (by rw [HS0.out]; show w.heap.size + 1 < _; omega)).trans (cell_of_row _ _ 0 _ _ _ HY0.out),
            (hb0x.cell (p := ⟨w.heap.size + 1, 1, none⟩) (by rw [HS0.out]; show w.heap.size + 1 < _; omega)).trans (cell_of_row _ _ 1 _ _ _ HY0.out)⟩
        have HCS := Lib.hid hcs
        generalize lessW x y = r at HLE HHE
        have HFF : Hid (∀ wx, Below wr.heap.size wr wx → Below w.heap.size w wx) := fun wx hx => (HB0.out.trans (HBR.out.mono HB0.out.size)).trans (hx.mono (Nat.le_trans HB0.out.size HBR.out.size))
        clear hj hjm hcs HBR HX0 HY0 HS0 HJ HWS HWT HW HB0 HB2
        go_upto_region 12 with (fail)
        refine wp_region_inv (fun w w' => Below w.heap.size w w') (fun j v _ => v = ([.agg #[.int .u64 x.1, .int .i64 x.2], .agg #[.int .u64 y.1, .int .i64 y.2], .bool r, .agg #[.int .u64 x.1, .int .i64 x.2], .agg #[.int .u64 y.1, .int .i64 y.2], .bool r, .bool true, .bool true, .bool true, .bool true, .bool true] : List Value).getD j undef) (by kernel_rfl) (by kernel_rfl) (fun _ => Below.refl _ _) (fun _ _ _ h1 h2 => below_later h1 h1.size h2) (fun _ _ _ _ _ _ h => h) ?_
        refine ⟨fun wx hg hd => ?_, fun v0 => ⟨fun wx hg hd => ?_, fun v1 => ⟨fun wx hg hd => ?_, fun v2 => ⟨fun wx hg hd => ?_, fun v3 => ⟨fun wx hg hd => ?_, fun v4 => ⟨fun wx hg hd => ?_, fun v5 => ⟨fun wx hg hd => ?_, fun v6 => ⟨fun wx hg hd => ?_, fun v7 => ⟨fun wx hg hd => ?_, fun v8 => ⟨fun wx hg hd => ?_, fun v9 => ⟨fun wx hg hd => ?_, fun v10 => fun wx hg hd => ?_⟩⟩⟩⟩⟩⟩⟩⟩⟩⟩⟩
        · have hx := ((Below.refl wr.heap.size wr).drew).trans hg
          clear hd hg
          (try go_simp)
          obtain ⟨x0, x1, y0, y1⟩ := HCS.out _ hx
          go_wp2
          exact ⟨_, rfl, Below.refl _ _, rfl⟩
        · have hx := ((Below.refl wr.heap.size wr).drew).trans hg
          (try (have ee : v0 = (.agg #[.int .u64 x.1, .int .i64 x.2] : Value) := hd 0 (by simp) (by decide); subst ee))
          clear hd hg
          (try go_simp)
          obtain ⟨x0, x1, y0, y1⟩ := HCS.out _ hx
          go_wp2
          exact ⟨_, rfl, Below.refl _ _, rfl⟩
        · have hx := ((Below.refl wr.heap.size wr).drew).trans hg
          (try (have ee : v0 = (.agg #[.int .u64 x.1, .int .i64 x.2] : Value) := hd 0 (by simp) (by decide); subst ee))
          (try (have ee : v1 = (.agg #[.int .u64 y.1, .int .i64 y.2] : Value) := hd 1 (by simp) (by decide); subst ee))
          clear hd hg
          (try go_simp)
          go_wp2_with fail
          refine (HLE.out _).mono ?_
          rintro e w' ⟨rfl, hb⟩
          go_wp2
          exact ⟨_, rfl, hb, rfl⟩
        · have hx := ((Below.refl wr.heap.size wr).drew).trans hg
          (try (have ee : v0 = (.agg #[.int .u64 x.1, .int .i64 x.2] : Value) := hd 0 (by simp) (by decide); subst ee))
          (try (have ee : v1 = (.agg #[.int .u64 y.1, .int .i64 y.2] : Value) := hd 1 (by simp) (by decide); subst ee))
          (try (have ee : v2 = (.bool r : Value) := hd 2 (by simp) (by decide); subst ee))
          clear hd hg
          (try go_simp)
          obtain ⟨x0, x1, y0, y1⟩ := HCS.out _ hx
          go_wp2
          exact ⟨_, rfl, Below.refl _ _, rfl⟩
        · have hx := ((Below.refl wr.heap.size wr).drew).trans hg
          (try (have ee : v0 = (.agg #[.int .u64 x.1, .int .i64 x.2] : Value) := hd 0 (by simp) (by decide); subst ee))
          (try (have ee : v1 = (.agg #[.int .u64 y.1, .int .i64 y.2] : Value) := hd 1 (by simp) (by decide); subst ee))
          (try (have ee : v2 = (.bool r : Value) := hd 2 (by simp) (by decide); subst ee))
          (try (have ee : v3 = (.agg #[.int .u64 x.1, .int .i64 x.2] : Value) := hd 3 (by simp) (by decide); subst ee))
          clear hd hg
          (try go_simp)
          obtain ⟨x0, x1, y0, y1⟩ := HCS.out _ hx
          go_wp2
          exact ⟨_, rfl, Below.refl _ _, rfl⟩
        · have hx := ((Below.refl wr.heap.size wr).drew).trans hg
          (try (have ee : v0 = (.agg #[.int .u64 x.1, .int .i64 x.2] : Value) := hd 0 (by simp) (by decide); subst ee))
          (try (have ee : v1 = (.agg #[.int .u64 y.1, .int .i64 y.2] : Value) := hd 1 (by simp) (by decide); subst ee))
          (try (have ee : v2 = (.bool r : Value) := hd 2 (by simp) (by decide); subst ee))
          (try (have ee : v3 = (.agg #[.int .u64 x.1, .int .i64 x.2] : Value) := hd 3 (by simp) (by decide); subst ee))
          (try (have ee : v4 = (.agg #[.int .u64 y.1, .int .i64 y.2] : Value) := hd 4 (by simp) (by decide); subst ee))
          clear hd hg
          (try go_simp)
          go_wp2_with fail
          refine (HHE.out _).mono ?_
          rintro e w' ⟨rfl, hb⟩
          go_wp2
          exact ⟨_, rfl, hb, rfl⟩
        · have hx := ((Below.refl wr.heap.size wr).drew).trans hg
          (try (have ee : v0 = (.agg #[.int .u64 x.1, .int .i64 x.2] : Value) := hd 0 (by simp) (by decide); subst ee))
          (try (have ee : v1 = (.agg #[.int .u64 y.1, .int .i64 y.2] : Value) := hd 1 (by simp) (by decide); subst ee))
          (try (have ee : v2 = (.bool r : Value) := hd 2 (by simp) (by decide); subst ee))
          (try (have ee : v3 = (.agg #[.int .u64 x.1, .int .i64 x.2] : Value) := hd 3 (by simp) (by decide); subst ee))
          (try (have ee : v4 = (.agg #[.int .u64 y.1, .int .i64 y.2] : Value) := hd 4 (by simp) (by decide); subst ee))
          (try (have ee : v5 = (.bool r : Value) := hd 5 (by simp) (by decide); subst ee))
          clear hd hg
          (try go_simp)
          go_wp2
          exact ⟨_, rfl, Below.refl _ _, rfl⟩
        · have hx := ((Below.refl wr.heap.size wr).drew).trans hg
          (try (have ee : v0 = (.agg #[.int .u64 x.1, .int .i64 x.2] : Value) := hd 0 (by simp) (by decide); subst ee))
          (try (have ee : v1 = (.agg #[.int .u64 y.1, .int .i64 y.2] : Value) := hd 1 (by simp) (by decide); subst ee))
          (try (have ee : v2 = (.bool r : Value) := hd 2 (by simp) (by decide); subst ee))
          (try (have ee : v3 = (.agg #[.int .u64 x.1, .int .i64 x.2] : Value) := hd 3 (by simp) (by decide); subst ee))
          (try (have ee : v4 = (.agg #[.int .u64 y.1, .int .i64 y.2] : Value) := hd 4 (by simp) (by decide); subst ee))
          (try (have ee : v5 = (.bool r : Value) := hd 5 (by simp) (by decide); subst ee))
          (try (have ee : v6 = (.bool true : Value) := hd 6 (by simp) (by decide); subst ee))
          clear hd hg
          (try go_simp)
          go_wp2
          exact ⟨_, rfl, Below.refl _ _, rfl⟩
        · have hx := ((Below.refl wr.heap.size wr).drew).trans hg
          (try (have ee : v0 = (.agg #[.int .u64 x.1, .int .i64 x.2] : Value) := hd 0 (by simp) (by decide); subst ee))
          (try (have ee : v1 = (.agg #[.int .u64 y.1, .int .i64 y.2] : Value) := hd 1 (by simp) (by decide); subst ee))
          (try (have ee : v2 = (.bool r : Value) := hd 2 (by simp) (by decide); subst ee))
          (try (have ee : v3 = (.agg #[.int .u64 x.1, .int .i64 x.2] : Value) := hd 3 (by simp) (by decide); subst ee))
          (try (have ee : v4 = (.agg #[.int .u64 y.1, .int .i64 y.2] : Value) := hd 4 (by simp) (by decide); subst ee))
          (try (have ee : v5 = (.bool r : Value) := hd 5 (by simp) (by decide); subst ee))
          (try (have ee : v6 = (.bool true : Value) := hd 6 (by simp) (by decide); subst ee))
          (try (have ee : v7 = (.bool true : Value) := hd 7 (by simp) (by decide); subst ee))
          clear hd hg
          (try go_simp)
          go_wp2_with fail
          refine (HAW.out _).mono ?_
          rintro e w' ⟨rfl, hb⟩
          go_wp2
          exact ⟨_, rfl, hb, rfl⟩
        · have hx := ((Below.refl wr.heap.size wr).drew).trans hg
          (try (have ee : v0 = (.agg #[.int .u64 x.1, .int .i64 x.2] : Value) := hd 0 (by simp) (by decide); subst ee))
          (try (have ee : v1 = (.agg #[.int .u64 y.1, .int .i64 y.2] : Value) := hd 1 (by simp) (by decide); subst ee))
          (try (have ee : v2 = (.bool r : Value) := hd 2 (by simp) (by decide); subst ee))
          (try (have ee : v3 = (.agg #[.int .u64 x.1, .int .i64 x.2] : Value) := hd 3 (by simp) (by decide); subst ee))
          (try (have ee : v4 = (.agg #[.int .u64 y.1, .int .i64 y.2] : Value) := hd 4 (by simp) (by decide); subst ee))
          (try (have ee : v5 = (.bool r : Value) := hd 5 (by simp) (by decide); subst ee))
          (try (have ee : v6 = (.bool true : Value) := hd 6 (by simp) (by decide); subst ee))
          (try (have ee : v7 = (.bool true : Value) := hd 7 (by simp) (by decide); subst ee))
          (try (have ee : v8 = (.bool true : Value) := hd 8 (by simp) (by decide); subst ee))
          clear hd hg
          (try go_simp)
          go_wp2
          exact ⟨_, rfl, Below.refl _ _, rfl⟩
        · have hx := ((Below.refl wr.heap.size wr).drew).trans hg
          (try (have ee : v0 = (.agg #[.int .u64 x.1, .int .i64 x.2] : Value) := hd 0 (by simp) (by decide); subst ee))
          (try (have ee : v1 = (.agg #[.int .u64 y.1, .int .i64 y.2] : Value) := hd 1 (by simp) (by decide); subst ee))
          (try (have ee : v2 = (.bool r : Value) := hd 2 (by simp) (by decide); subst ee))
          (try (have ee : v3 = (.agg #[.int .u64 x.1, .int .i64 x.2] : Value) := hd 3 (by simp) (by decide); subst ee))
          (try (have ee : v4 = (.agg #[.int .u64 y.1, .int .i64 y.2] : Value) := hd 4 (by simp) (by decide); subst ee))
          (try (have ee : v5 = (.bool r : Value) := hd 5 (by simp) (by decide); subst ee))
          (try (have ee : v6 = (.bool true : Value) := hd 6 (by simp) (by decide); subst ee))
          (try (have ee : v7 = (.bool true : Value) := hd 7 (by simp) (by decide); subst ee))
          (try (have ee : v8 = (.bool true : Value) := hd 8 (by simp) (by decide); subst ee))
          (try (have ee : v9 = (.bool true : Value) := hd 9 (by simp) (by decide); subst ee))
          clear hd hg
          (try go_simp)
          go_wp2
          exact ⟨_, rfl, Below.refl _ _, rfl⟩
        have hx := ((Below.refl wr.heap.size wr).drew).trans hg
        (have ee : v0 = (.agg #[.int .u64 x.1, .int .i64 x.2] : Value) := hd 0 (by simp); subst ee)
        (have ee : v1 = (.agg #[.int .u64 y.1, .int .i64 y.2] : Value) := hd 1 (by simp); subst ee)
        (have ee : v2 = (.bool r : Value) := hd 2 (by simp); subst ee)
        (have ee : v3 = (.agg #[.int .u64 x.1, .int .i64 x.2] : Value) := hd 3 (by simp); subst ee)
        (have ee : v4 = (.agg #[.int .u64 y.1, .int .i64 y.2] : Value) := hd 4 (by simp); subst ee)
        (have ee : v5 = (.bool r : Value) := hd 5 (by simp); subst ee)
        (have ee : v6 = (.bool true : Value) := hd 6 (by simp); subst ee)
        (have ee : v7 = (.bool true : Value) := hd 7 (by simp); subst ee)
        (have ee : v8 = (.bool true : Value) := hd 8 (by simp); subst ee)
        (have ee : v9 = (.bool true : Value) := hd 9 (by simp); subst ee)
        (have ee : v10 = (.bool true : Value) := hd 10 (by simp); subst ee)
        clear hd hg
        (try go_simp)
        have HF := Lib.hid (HFF.out _ hx)
        clear hx
        go_wp2
        go_ret
        exact ⟨rfl, HF.out⟩
theorem walk {w : World} (a0 : Option Addr) (n0 c0 : Nat) (ls : List Wt) (l0 : ls.length = n0) (g0 : WAt w a0 ls) (_m0 : ∀ p ∈ ls, WfW p) (_o0 : n0 ≤ c0) (a1 : Int) (_w1 : (Lit.int .i64 a1).wf = true) (x2 x3 : Wt) :
    Calls Try.prog 7 #[.slice a0 n0 c0, .int .i64 a1, .agg #[.int .u64 x2.1, .int .i64 x2.2], .agg #[.int .u64 x3.1, .int .i64 x3.2]] w fun e w' => e = .returned (.bool true) ∧ Below w.heap.size w w' :=
  core w a0 n0 c0 ls l0 g0 a1 x2 x3
end Go.Proofs.Ytbmhnadnomngnaa.queueTop
