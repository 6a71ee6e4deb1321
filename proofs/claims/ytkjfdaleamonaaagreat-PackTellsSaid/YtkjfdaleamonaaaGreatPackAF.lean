/- Joined: NfC, NfD, NfE, NfL, WdN, NcM, SlA, CellA, SlB, SetP, NcP, NcA, NcB: contracts and plain laws, each with its own heading below. -/
import Derived.Test.YtkjfdaleamonaaaGreatPackAE
import Derived.Test.YtkjfdaleamonaaaGreatPackAD
import Derived.Deep.CutRange
import Derived.Test.YtkjfdaleamonaaaGreatPackAC
import Derived.Test.YtkjfdaleamonaaaGreatPackAB
import Derived.Lib.Walk
import Derived.Lib.SliceRun
import Derived.Lib.SlicesCompact
import Derived.Deep.LoopGhost
import Derived.Deep.Draws
import Derived.Lib.OwnBridge
/- Contracts of apiaryref1: parent, Ok. -/
namespace Go.Proofs.YtkjfdaleamonaaaGreat
open Go.RowKit Go.Lib Wd

set_option maxRecDepth 100000 in
set_option maxHeartbeats 4000000 in
theorem parent_in (z : E2) (hz : Sm 1099511627776 z) (w : World) :
    Calls Tryz.prog 47 #[vE z] w fun e w' => e = .returned (.tuple #[vE (upE z), .int .i64 (digE z)]) ∧ Below w.heap.size w w' := by
  have hup := up_sm (by omega) hz
  have M1 := Lib.hid (rmul_in z (3, -1) (by unfold Sm at *; omega) (by unfold Sm; simp) (by unfold Sm mulE at *; simp only; omega))
  have R1 := Lib.hid (rround_in (mulE z (3, -1)) 7 (by omega) (by omega) (by unfold Sm mulE at *; simp only; omega))
  rw [round_up] at R1
  have M2 := Lib.hid (rmul_in (upE z) (2, 1) (by unfold Sm at *; omega) (by unfold Sm; simp) (by unfold Sm mulE at *; simp only; omega))
  have hleft := left_of z
  have hd7 := digE_lt z
  have HU := Lib.hid (fun k (hk : k < 6) => unit_left hk hd7)
  have hls := left_sm (digE z)
  obtain ⟨a, b⟩ := z
  simp only [vE] at *
  generalize upE (a, b) = p at *
  generalize mulE (a, b) (3, -1) = q at *
  generalize mulE p (2, 1) = m at *
  generalize leftE (digE (a, b)) = l at *
  generalize digE (a, b) = dg at *
  obtain ⟨p1, p2⟩ := p
  obtain ⟨q1, q2⟩ := q
  obtain ⟨m1, m2⟩ := m
  obtain ⟨l1, l2⟩ := l
  have hl1 : a - m1 = l1 := congrArg Prod.fst hleft
  have hl2 : b - m2 = l2 := congrArg Prod.snd hleft
  unfold Sm at hls
  simp only at hls
  obtain ⟨hls1, hls2, hls3, hls4⟩ := hls
  clear hup hz hleft
  simp only at *
  go_enter Tryz.func47, Tryz.ntmps47
  go_wp2_with fail
  refine (M1.out _).mono ?_
  rintro e w1 ⟨rfl, hb1⟩
  have hz1 := hb1.size
  simp at hz1
  have z0 : Two w1 w.heap.size (.int .i64 a) (.int .i64 b) := (Two.of_row (t := 30) (f := _) (by rw [Below.heap_alloc _ _ _ (by simp)]; exact heap_new _ _ _ rfl)).later (by simp; omega) hb1
  have u0 : Two2 w1 (w.heap.size + 1) (.int .i64 0) (.int .i64 0) := (Two2.of_row (t := 30) (heap_new _ _ _ (by simp))).later (by simp) hb1
  have hB1 : Below w.heap.size w w1 := ((Below.refl _ _).alloc (Nat.le_refl _) _).alloc (by simp) _ |>.trans (hb1.mono (by simp; omega))
  have U1 := Lib.hid (u0.alloc (by omega) (.cells #[.int .i64 q1, .int .i64 q2] 30))
  have Z1 := Lib.hid (z0.alloc (by omega) (.cells #[.int .i64 q1, .int .i64 q2] 30))
  have B2 := Lib.hid (hB1.alloc (by omega) (.cells #[.int .i64 q1, .int .i64 q2] 30))
  have hz2 := World.size_alloc w1 (.cells #[.int .i64 q1, .int .i64 q2] 30)
  clear u0 z0 hb1 hB1
  go_wp2_with fail
  refine (R1.out _).mono ?_
  rintro e w2 ⟨rfl, hb2⟩
  have hz3 := hb2.size
  have U2 := Lib.hid ((U1.out.later (by omega) hb2).alloc (by omega) (.cells #[.int .i64 p1, .int .i64 p2] 30))
  have Z2 := Lib.hid ((Z1.out.later (by omega) hb2).alloc (by omega) (.cells #[.int .i64 p1, .int .i64 p2] 30))
  have B3 := Lib.hid ((B2.out.trans (hb2.mono (by omega))).alloc (by omega) (.cells #[.int .i64 p1, .int .i64 p2] 30))
  have P2 : Hid (Two (w2.alloc (.cells #[.int .i64 p1, .int .i64 p2] 30)) w2.heap.size (.int .i64 p1) (.int .i64 p2)) := Two.of_row (t := 30) (f := _) (heap_new _ _ _ rfl)
  have hz4 := World.size_alloc w2 (.cells #[.int .i64 p1, .int .i64 p2] 30)
  clear U1 Z1 B2 hb2
  go_wp2_with fail
  refine (M2.out _).mono ?_
  rintro e w3 ⟨rfl, hb3⟩
  have hz5 := hb3.size
  have hal : Below w3.heap.size w3 (w3.alloc (.cells #[.int .i64 m1, .int .i64 m2] 30)) := (Below.refl _ _).alloc (Nat.le_refl _) _
  have hz6 := World.size_alloc w3 (.cells #[.int .i64 m1, .int .i64 m2] 30)
  have U3 := Lib.hid ((U2.out.later (by omega) hb3).later (by omega) hal)
  have Z3 := Lib.hid ((Z2.out.later (by omega) hb3).later (by omega) hal)
  have P3 := Lib.hid ((P2.out.later (by omega) hb3).later (by omega) hal)
  have B4 := Lib.hid ((B3.out.trans (hb3.mono (by omega))).trans (hal.mono (by omega)))
  obtain ⟨qb, hqb⟩ : ∃ qb, w2.heap.size = qb := ⟨_, rfl⟩
  have hM : Two (w3.alloc (.cells #[.int .i64 m1, .int .i64 m2] 30)) w3.heap.size (.int .i64 m1) (.int .i64 m2) := Two.of_row (t := 30) (f := _) (heap_new _ _ _ rfl)
  clear U2 Z2 P2 B3 hb3 hal
  go_upto_region 4 with (fail)
  generalize w3.alloc (.cells #[.int .i64 m1, .int .i64 m2] 30) = w4 at *
  obtain ⟨k0, k1⟩ := hM
  obtain ⟨k2, k3⟩ := Z3.out
  have hml : w3.heap.size < w4.heap.size := by omega
  have hzl : w.heap.size < w4.heap.size := by omega
  have hal2 : Below w4.heap.size w4 (w4.alloc (.cells #[.int .i64 l1, .int .i64 l2] 30)) := (Below.refl _ _).alloc (Nat.le_refl _) _
  have hz7 := World.size_alloc w4 (.cells #[.int .i64 l1, .int .i64 l2] 30)
  rw [hqb] at P3 hz4
  have U4 := Lib.hid (U3.out.later (by omega) hal2)
  have P4 := Lib.hid (P3.out.later (by omega) hal2)
  have B5 := Lib.hid (B4.out.trans (hal2.mono (by omega)))
  have L4 : Hid (Two (w4.alloc (.cells #[.int .i64 l1, .int .i64 l2] 30)) w4.heap.size (.int .i64 l1) (.int .i64 l2)) := Two.of_row (t := 30) (f := _) (heap_new _ _ _ rfl)
  have hqs : qb < w4.heap.size := by omega
  have hws : w.heap.size + 1 < w4.heap.size := by omega
  clear hal2 U3 P3 B4 Z3 hqb
  go_upto_region 5 with (fail)
  generalize w4.alloc (.cells #[.int .i64 l1, .int .i64 l2] 30) = w5 at *
  obtain ⟨lb, hlb⟩ : ∃ lb, w4.heap.size = lb := ⟨_, rfl⟩
  have hlb2 : w3.heap.size + 1 = lb := by omega
  rw [hlb] at L4 hz7 hqs hws
  rw [hlb2]
  clear hlb hlb2 k0 k1 k2 k3 hml hzl hz1 hz2 hz3 hz4 hz5 hz6 hl1 hl2 M1 M2 R1
  go_wp2
  go_loopw [11] (fun i wr => ∃ k : Nat, k ≤ 6 ∧ i = .int .i64 k ∧ (dg = 0 ∨ k < dg) ∧ Below w5.heap.size w5 wr) (fun i _ => 6 - (intOf i).toNat)
  case atStart => exact ⟨0, by omega, rfl, by omega, Below.refl _ _⟩
  case round =>
    obtain ⟨k, hk, rfl, hd0, hbw⟩ := hrel
    have hsz := hbw.size
    have HB := Lib.hid hbw
    have HFIN : Hid (∀ wx, Below w5.heap.size w5 wx → Two wx qb (.int .i64 p1) (.int .i64 p2) ∧ Two2 wx (w.heap.size + 1) (.int .i64 0) (.int .i64 0) ∧ Two wx lb (.int .i64 l1) (.int .i64 l2) ∧ Below w.heap.size w wx) := fun wx hx => ⟨P4.out.later (by omega) hx, U4.out.later (by omega) hx, L4.out.later (by omega) hx, B5.out.trans (hx.mono (by omega))⟩
    by_cases hk6 : k < 6
    · have U := Lib.hid (runit_in k hk6)
      have HQ := Lib.hid (HU.out k hk6)
      simp only [vE] at U
      generalize unitE k = u at *
      obtain ⟨u1, u2⟩ := u
      simp only at U HQ
      obtain ⟨b, hb⟩ : ∃ b, decide (dg = k + 1) = b := ⟨_, rfl⟩
      rw [hb] at HQ
      have HD : Hid (decide (dg = k + 1) = b) := hb
      have HK : Hid (dg = 0 ∨ k < dg) := hd0
      have q6 : decide ((k : Int) < 6) = true := decide_eq_true (by omega)
      clear hb hbw hd0 P4 U4 L4 B5
      go_upto_region 8 with (fail)
      refine wp_region_inw ([.inl (.int .i64 (k : Int)), .inl (.agg #[.int .i64 u1, .int .i64 u2]), .inl (.agg #[.int .i64 l1, .int .i64 l2]), .inl (.bool b)] : List Want) [] (by kernel_rfl) (by kernel_rfl) (by kernel_rfl) ?_
      refine inw_cons (fun wx hg hd => ?_) (fun v0 => ?_)
      · have hx := ((Below.refl wr.heap.size wr).drew).trans hg
        clear hd hg
        go_wp2
        exact ⟨_, rfl, Below.refl _ _, rfl⟩
      (try simp only [List.nil_append, Act.put, List.setIfInBounds_toArray, List.set_cons_zero, List.set_cons_succ])
      refine inw_cons (fun wx hg hd => ?_) (fun v1 => ?_)
      · have hx := ((Below.refl wr.heap.size wr).drew).trans hg
        (try (have ee : v0 = (.int .i64 (k : Int) : Value) := hd 0 (by simp) (by decide); subst ee))
        clear hd hg
        go_wp2_with fail
        refine (U.out _).mono ?_
        rintro e w' ⟨rfl, hb⟩
        go_wp2
        exact ⟨_, rfl, hb, rfl⟩
      (try simp only [List.cons_append, List.nil_append, Act.put, List.setIfInBounds_toArray, List.set_cons_zero, List.set_cons_succ])
      refine inw_cons (fun wx hg hd => ?_) (fun v2 => ?_)
      · have hx := ((Below.refl wr.heap.size wr).drew).trans hg
        clear hd hg
        obtain ⟨_, _, ⟨k1, k2⟩, _⟩ := HFIN.out _ (HB.out.trans (hx.mono hsz))
        go_wp2
        exact ⟨_, rfl, Below.refl _ _, rfl⟩
      (try simp only [List.cons_append, List.nil_append, Act.put, List.setIfInBounds_toArray, List.set_cons_zero, List.set_cons_succ])
      refine inw_cons (fun wx hg hd => ?_) (fun v3 => ?_)
      · have hx := ((Below.refl wr.heap.size wr).drew).trans hg
        (try (have ee : v1 = (.agg #[.int .i64 u1, .int .i64 u2] : Value) := hd 1 (by simp) (by decide); subst ee))
        (try (have ee : v2 = (.agg #[.int .i64 l1, .int .i64 l2] : Value) := hd 2 (by simp) (by decide); subst ee))
        clear hd hg
        go_wp2
        all_goals (refine ⟨_, rfl, Below.refl _ _, ?_⟩)
        all_goals (show Value.bool _ = Value.bool b)
        all_goals (rw [← HQ.out])
        all_goals (simp [*])
      (try simp only [List.cons_append, List.nil_append, Act.put, List.setIfInBounds_toArray, List.set_cons_zero, List.set_cons_succ])
      refine inw_done (fun wx hg hd => ?_)
      have hx := ((Below.refl wr.heap.size wr).drew).trans hg
      (have ee : v0 = (.int .i64 (k : Int) : Value) := hd 0 (by simp) (by kernel_rfl); subst ee)
      (have ee : v1 = (.agg #[.int .i64 u1, .int .i64 u2] : Value) := hd 1 (by simp) (by kernel_rfl); subst ee)
      (have ee : v2 = (.agg #[.int .i64 l1, .int .i64 l2] : Value) := hd 2 (by simp) (by kernel_rfl); subst ee)
      (have ee : v3 = (.bool b : Value) := hd 3 (by simp) (by kernel_rfl); subst ee)
      clear hd hg
      (try go_simp)
      have HX : Hid (Below w5.heap.size w5 wx) := HB.out.trans (hx.mono HB.out.size)
      obtain ⟨⟨t0, t1⟩, ⟨⟨s0, s1⟩, s2, s3⟩, -, hbx⟩ := HFIN.out wx HX.out
      have HBX := Lib.hid hbx
      have hqx : qb < wx.heap.size := by have := HX.out.size; omega
      clear hbx
      cases b
      · have hne : dg ≠ k + 1 := by simpa using HD.out
        clear HFIN
        go_wp2
        go_roundw
        case rel => exact ⟨k + 1, by omega, by go_num, by have := HK.out; omega, HX.out⟩
        case measure => simp [intOf]; omega
      · have hne : dg = k + 1 := by simpa using HD.out
        have HV : Hid ((dg : Int) = (k : Int) + 1) := by show _ = _; omega
        clear hne HK HD HFIN
        go_wp2
        exact bodyPost_ret (v := .tuple #[.agg #[.int .i64 p1, .int .i64 p2], .int .i64 ((k : Int) + 1)]) (by simp [results, Tryz.results47, go_sem, *]) rfl ⟨by rw [HV.out], (HBX.out.setCell (p := ⟨w.heap.size + 1, 0, none⟩) (by simp) _).setCell (p := ⟨w.heap.size + 1, 1, none⟩) (by simp) _⟩
    · have h0 : dg = 0 := by omega
      obtain rfl : k = 6 := by omega
      subst h0
      obtain ⟨⟨t0, t1⟩, ⟨⟨s0, s1⟩, s2, s3⟩, -, hbx⟩ := HFIN.out wr hbw
      have HBX := Lib.hid hbx
      have hqx : qb < wr.heap.size := by omega
      clear hbx hbw hk6 HFIN
      go_wp2
      exact bodyPost_ret (v := .tuple #[.agg #[.int .i64 p1, .int .i64 p2], .int .i64 0]) (by simp [results, Tryz.results47, go_sem, *]) rfl ⟨rfl, (HBX.out.setCell (p := ⟨w.heap.size + 1, 0, none⟩) (by simp) _).setCell (p := ⟨w.heap.size + 1, 1, none⟩) (by simp) _⟩
set_option maxRecDepth 100000 in
set_option maxHeartbeats 8000000 in
theorem rok_any (r : Int) (z : E2) (w : World) : Calls Tryz.prog 46 #[vC r z] w fun e w' => e = .returned (.bool (okB r z)) ∧ Below w.heap.size w w' := by
  obtain ⟨a, b⟩ := z
  have HNO : Hid (shapeB r (a, b) = false → okB r (a, b) = false) := fun h => by unfold okB; rw [h]; rfl
  have hsh : shapeB r (a, b) = true ↔ 0 ≤ r ∧ r ≤ 12 ∧ -1073741824 ≤ a ∧ a ≤ 1073741824 ∧ -1073741824 ≤ b ∧ b ≤ 1073741824 := shapeB_iff r (a, b)
  have HB0 : Hid (Below w.heap.size w (w.alloc (.cells #[.int .i64 r, .int .i64 a, .int .i64 b] 32))) := (Below.refl _ _).alloc (Nat.le_refl _) _
  simp only [vC]
  by_cases h0 : r < 0
  · have HV := Lib.hid (HNO.out (by rw [← Bool.not_eq_true, hsh]; omega))
    rw [HV.out]
    have p0 : decide (r < 0) = true := decide_eq_true h0
    clear hsh HNO h0
    go_enter Tryz.func46, Tryz.ntmps46
    go_wp2
    go_ret
    exact ⟨rfl, HB0.out⟩
  have p0 : decide (r < 0) = false := decide_eq_false h0
  by_cases h1 : 12 < r
  · have HV := Lib.hid (HNO.out (by rw [← Bool.not_eq_true, hsh]; omega))
    rw [HV.out]
    have p1 : decide (12 < r) = true := decide_eq_true h1
    clear hsh HNO h0 h1
    go_enter Tryz.func46, Tryz.ntmps46
    go_wp2
    go_ret
    exact ⟨rfl, HB0.out⟩
  have p1 : decide (12 < r) = false := decide_eq_false h1
  by_cases h2 : a < -1073741824
  · have HV := Lib.hid (HNO.out (by rw [← Bool.not_eq_true, hsh]; omega))
    rw [HV.out]
    have p2 : decide (a < -1073741824) = true := decide_eq_true h2
    clear hsh HNO h0 h1 h2
    go_enter Tryz.func46, Tryz.ntmps46
    go_wp2
    go_ret
    exact ⟨rfl, HB0.out⟩
  have p2 : decide (a < -1073741824) = false := decide_eq_false h2
  by_cases h3 : 1073741824 < a
  · have HV := Lib.hid (HNO.out (by rw [← Bool.not_eq_true, hsh]; omega))
    rw [HV.out]
    have p3 : decide (1073741824 < a) = true := decide_eq_true h3
    clear hsh HNO h0 h1 h2 h3
    go_enter Tryz.func46, Tryz.ntmps46
    go_wp2
    go_ret
    exact ⟨rfl, HB0.out⟩
  have p3 : decide (1073741824 < a) = false := decide_eq_false h3
  by_cases h4 : b < -1073741824
  · have HV := Lib.hid (HNO.out (by rw [← Bool.not_eq_true, hsh]; omega))
    rw [HV.out]
    have p4 : decide (b < -1073741824) = true := decide_eq_true h4
    clear hsh HNO h0 h1 h2 h3 h4
    go_enter Tryz.func46, Tryz.ntmps46
    go_wp2
    go_ret
    exact ⟨rfl, HB0.out⟩
  have p4 : decide (b < -1073741824) = false := decide_eq_false h4
  by_cases h5 : 1073741824 < b
  · have HV := Lib.hid (HNO.out (by rw [← Bool.not_eq_true, hsh]; omega))
    rw [HV.out]
    have p5 : decide (1073741824 < b) = true := decide_eq_true h5
    clear hsh HNO h0 h1 h2 h3 h4 h5
    go_enter Tryz.func46, Tryz.ntmps46
    go_wp2
    go_ret
    exact ⟨rfl, HB0.out⟩
  have p5 : decide (1073741824 < b) = false := decide_eq_false h5
  obtain ⟨R, rfl⟩ : ∃ R : Nat, r = R := ⟨r.toNat, by omega⟩
  have hR : R ≤ 12 := by omega
  have HOK : Hid (okB R (a, b) = baseB (upN R (a, b))) := by show _ = _; unfold okB; rw [hsh.2 ⟨by omega, by omega, by omega, by omega, by omega, by omega⟩]; rfl
  have HSM : Hid (Sm 1099511627776 (a, b)) := by show Sm _ _; unfold Sm; simp only; omega
  obtain ⟨bv, hbv⟩ : ∃ bv, baseB (upN R (a, b)) = bv := ⟨_, rfl⟩
  rw [HOK.out, hbv]
  have HBV0 := Lib.hid hbv
  clear hbv
  clear hsh HNO HOK h0 h1 h2 h3 h4 h5
  have hr := heap_new w (.cells #[.int .i64 R, .int .i64 a, .int .i64 b] 32) _ rfl
  have C0 : Hid ((w.alloc (.cells #[.int .i64 R, .int .i64 a, .int .i64 b] 32)).cell? ⟨w.heap.size, 0, none⟩ = some (.int .i64 R)) := cell_of_row _ _ 0 _ _ _ hr
  have hal : Below (w.alloc (.cells #[.int .i64 R, .int .i64 a, .int .i64 b] 32)).heap.size (w.alloc (.cells #[.int .i64 R, .int .i64 a, .int .i64 b] 32)) ((w.alloc (.cells #[.int .i64 R, .int .i64 a, .int .i64 b] 32)).alloc (.cells #[.int .i64 a, .int .i64 b] 30)) := (Below.refl _ _).alloc (Nat.le_refl _) _
  have k1 : ((w.alloc (.cells #[.int .i64 R, .int .i64 a, .int .i64 b] 32)).alloc (.cells #[.int .i64 a, .int .i64 b] 30)).heap.size = w.heap.size + 2 := by simp
  have C1 : Hid (((w.alloc (.cells #[.int .i64 R, .int .i64 a, .int .i64 b] 32)).alloc (.cells #[.int .i64 a, .int .i64 b] 30)).cell? ⟨w.heap.size, 0, none⟩ = some (.int .i64 R)) := (hal.cell (p := ⟨w.heap.size, 0, none⟩) (by simp)).trans C0.out
  have Z1 : Hid (Two2 ((w.alloc (.cells #[.int .i64 R, .int .i64 a, .int .i64 b] 32)).alloc (.cells #[.int .i64 a, .int .i64 b] 30)) (w.heap.size + 1) (.int .i64 a) (.int .i64 b)) := Two2.of_row (t := 30) (heap_new _ _ _ (by simp))
  have HB1 : Hid (Below w.heap.size w ((w.alloc (.cells #[.int .i64 R, .int .i64 a, .int .i64 b] 32)).alloc (.cells #[.int .i64 a, .int .i64 b] 30))) := HB0.out.trans (hal.mono (by simp))
  clear hal hr C0 HB0
  go_enter Tryz.func46, Tryz.ntmps46
  go_upto_region 4 with (fail)
  generalize (w.alloc (.cells #[.int .i64 R, .int .i64 a, .int .i64 b] 32)).alloc (.cells #[.int .i64 a, .int .i64 b] 30) = w2 at *
  obtain ⟨y, hy⟩ : ∃ y : E2, y = (a, b) := ⟨_, rfl⟩
  rw [← hy] at HSM
  have Z1 : Hid (Two2 w2 (w.heap.size + 1) (.int .i64 (upN 0 y).1) (.int .i64 (upN 0 y).2)) := by rw [hy]; exact Z1.out
  have HBV : Hid (baseB (upN R y) = bv) := by show _ = _; rw [hy]; exact HBV0.out
  clear hy HBV0
  go_wp2
  go_loopw [4] (fun i wr => ∃ j : Nat, j ≤ R ∧ i = .int .i64 j ∧ Hid (Two2 wr (w.heap.size + 1) (.int .i64 (upN j y).1) (.int .i64 (upN j y).2) ∧ Turn (fun q => q = w.heap.size + 1) w2 wr)) (fun i _ => R - (intOf i).toNat)
  case atStart => exact ⟨0, by omega, rfl, Z1.out, Turn.refl _ _⟩
  case round =>
    obtain ⟨j, hj, rfl, HI⟩ := hrel
    have c0 : wr.cell? ⟨w.heap.size, 0, none⟩ = some (.int .i64 R) := (HI.out.2.cell (p := ⟨w.heap.size, 0, none⟩) (by show w.heap.size < w2.heap.size; omega) (by show ¬ w.heap.size = w.heap.size + 1; omega)).trans C1.out
    have hsz := HI.out.2.2.2.2.1
    have hwl : w.heap.size < wr.heap.size := by omega
    have HBR : Hid (Below w.heap.size w wr) := HB1.out.trans (HI.out.2.below (by omega) fun q hq e => by omega)
    obtain ⟨⟨z0, z1⟩, z2, z3⟩ := HI.out.1
    have HT := Lib.hid HI.out.2
    by_cases hjR : j < R
    · have hpa := parent_in (upN j y) (upN_sm (by omega) HSM.out j)
      have hup := upN_up j y
      rw [← hup] at hpa
      simp only [vE] at hpa
      have HP := Lib.hid hpa
      clear hpa hup
      obtain ⟨x', hx'⟩ : ∃ x', upN (j + 1) y = x' := ⟨_, rfl⟩
      rw [hx'] at HP
      have HXE := Lib.hid hx'
      clear hx'
      have HZ := Lib.hid HI.out.1
      clear HI
      go_wp2_with fail
      refine (HP.out _).mono ?_
      rintro e w4 ⟨rfl, hb4⟩
      have h4 := HZ.out.later (by omega) hb4
      have hp := h4.put (.int .i64 x'.1) (.int .i64 x'.2)
      have HN : Hid (Two2 ((w4.setCell ⟨w.heap.size + 1, 0, none⟩ (.int .i64 x'.1)).setCell ⟨w.heap.size + 1, 1, none⟩ (.int .i64 x'.2)) (w.heap.size + 1) (.int .i64 x'.1) (.int .i64 x'.2) ∧ Turn (fun q => q = w.heap.size + 1) w2 ((w4.setCell ⟨w.heap.size + 1, 0, none⟩ (.int .i64 x'.1)).setCell ⟨w.heap.size + 1, 1, none⟩ (.int .i64 x'.2))) := ⟨hp.1, (HT.out.trans (Turn.of_below hb4) fun _ _ h => h).trans hp.2 fun _ _ h => h⟩
      obtain ⟨⟨y0, y1⟩, y2, y3⟩ := h4
      clear hp hb4 z0 z1 z2 z3 c0
      go_wp2
      go_roundw
      case rel => exact ⟨j + 1, by omega, by go_num, by rw [HXE.out]; exact HN.out⟩
      case measure => simp [intOf]; omega
    · obtain rfl : j = R := by omega
      have HBS : Hid (baseB (upN j y) = (decide (-512 ≤ (upN j y).1) && decide ((upN j y).1 < 512) && (decide (-512 ≤ (upN j y).2) && decide ((upN j y).2 < 512)))) := rfl
      generalize upN j y = x at *
      clear HI HT
      obtain ⟨x1, x2⟩ := x
      simp only at *
      by_cases g0 : -512 ≤ x1
      · have p0 : decide (-512 ≤ x1) = true := decide_eq_true g0
        by_cases g1 : x1 ≤ 511
        · have p1 : decide (x1 ≤ 511) = true := decide_eq_true g1
          by_cases g2 : -512 ≤ x2
          · have p2 : decide (-512 ≤ x2) = true := decide_eq_true g2
            have HV : Hid (baseB (x1, x2) = decide (x2 ≤ 511)) := by show _ = _; rw [HBS.out, p0, p2, decide_eq_true (show x1 < 512 by omega)]; simp; omega
            have HEV := Lib.hid (HBV.out.symm.trans HV.out)
            obtain ⟨bb, hbb⟩ : ∃ bb, decide (x2 ≤ 511) = bb := ⟨_, rfl⟩
            rw [hbb] at HEV
            clear HV HBS g0 g1 g2
            go_wp2
            go_ret
            exact ⟨by rw [HEV.out]; rfl, HBR.out⟩
          · have p2 : decide (-512 ≤ x2) = false := decide_eq_false g2
            have HV : Hid (baseB (x1, x2) = false) := by show _ = _; rw [HBS.out, p2]; simp
            have HEV := Lib.hid (HBV.out.symm.trans HV.out)
            clear HV HBS g0 g1 g2
            go_wp2
            go_ret
            exact ⟨by rw [HEV.out]; rfl, HBR.out⟩
        · have p1 : decide (x1 ≤ 511) = false := decide_eq_false g1
          have HV : Hid (baseB (x1, x2) = false) := by show _ = _; rw [HBS.out, decide_eq_false (show ¬ x1 < 512 by omega)]; simp
          have HEV := Lib.hid (HBV.out.symm.trans HV.out)
          clear HV HBS g0 g1
          go_wp2
          go_ret
          exact ⟨by rw [HEV.out]; rfl, HBR.out⟩
      · have p0 : decide (-512 ≤ x1) = false := decide_eq_false g0
        have HV : Hid (baseB (x1, x2) = false) := by show _ = _; rw [HBS.out, p0]; simp
        have HEV := Lib.hid (HBV.out.symm.trans HV.out)
        clear HV HBS g0
        go_wp2
        go_ret
        exact ⟨by rw [HEV.out]; rfl, HBR.out⟩
end Go.Proofs.YtkjfdaleamonaaaGreat
/- The contract of apiaryref1.Word. -/
namespace Go.Proofs.YtkjfdaleamonaaaGreat
open Go.RowKit Go.Lib Wd

theorem hd_app (f : Nat → Nat) (j m : Nat) : hd f (j + m) = hd f j * 8 ^ m + hd (fun k => f (j + k)) m := by
  induction m with
  | zero => simp [hd]
  | succ m ih =>
    show hd f (j + m) * 8 + f (j + m + 1) = _ + (hd (fun k => f (j + k)) m * 8 + f (j + (m + 1)))
    rw [ih, Nat.pow_succ, ← Nat.mul_assoc, Nat.add_mul, Nat.add_assoc, Nat.add_assoc]
theorem or_parts {A d m B : Nat} (hd : d < 8) (hB : B < 2 ^ (3 * m)) : (A * 8 + d) * 2 ^ (3 * m) + B = A * 2 ^ (3 * m + 3) ||| (d * 2 ^ (3 * m) ||| B) := by
  have hp : 0 < 2 ^ (3 * m) := Nat.pow_pos (by decide)
  have e1 : d * 2 ^ (3 * m) ||| B = d * 2 ^ (3 * m) + B := nat_join (3 * m) _ _ (Nat.mul_mod_left _ _) hB
  have h2 : d * 2 ^ (3 * m) + B < 2 ^ (3 * m + 3) := by
    rw [Nat.pow_add]
    have : d * 2 ^ (3 * m) ≤ 7 * 2 ^ (3 * m) := Nat.mul_le_mul_right _ (by omega)
    omega
  rw [e1, nat_join (3 * m + 3) _ _ (Nat.mul_mod_left _ _) h2, Nat.add_mul, Nat.pow_add, ← Nat.add_assoc, Nat.mul_assoc A 8, Nat.mul_comm 8]
theorem clear_digit {A m B : Nat} (hB : B < 2 ^ (3 * m)) (hA : (A * 8 + 7) * 2 ^ (3 * m) + B < 2 ^ 64) :
    ((A * 8 + 7) * 2 ^ (3 * m) + B) &&& (2 ^ 64 - (7 * 2 ^ (3 * m) + 1)) = A * 2 ^ (3 * m + 3) ||| B := by
  have hb : 7 * 2 ^ (3 * m) < 2 ^ 64 := by
    have : 7 * 2 ^ (3 * m) ≤ (A * 8 + 7) * 2 ^ (3 * m) := Nat.mul_le_mul_right _ (by omega)
    omega
  have hlt : ∀ i, 64 ≤ i → ((A * 8 + 7) * 2 ^ (3 * m) + B).testBit i = false := fun i hi => Nat.testBit_lt_two_pow (Nat.lt_of_lt_of_le hA (Nat.pow_le_pow_right (by decide) hi))
  rw [or_parts (d := 7) (by decide) hB] at hlt ⊢
  apply Nat.eq_of_testBit_eq
  intro i
  have hl := hlt i
  rw [Nat.testBit_and, Nat.testBit_two_pow_sub_succ hb]
  rw [Nat.testBit_or, Nat.testBit_or, Nat.testBit_mul_two_pow, Nat.testBit_mul_two_pow] at hl ⊢
  rw [Nat.testBit_or, Nat.testBit_mul_two_pow]
  by_cases h1 : 3 * m ≤ i
  · have hBi : B.testBit i = false := Nat.testBit_lt_two_pow (Nat.lt_of_lt_of_le hB (Nat.pow_le_pow_right (by decide) h1))
    rw [hBi] at hl ⊢
    by_cases h2 : 3 * m + 3 ≤ i
    · have h7 : (7 : Nat).testBit (i - 3 * m) = false := Nat.testBit_lt_two_pow (Nat.lt_of_lt_of_le (show 7 < 2 ^ 3 by decide) (Nat.pow_le_pow_right (by decide) (by omega)))
      rw [h7] at hl ⊢
      by_cases h64 : i < 64
      · simp [h64]
      · have := hl (by omega)
        simp [h64] at this ⊢
        simpa [h2] using this
    · have h7 : (7 : Nat).testBit (i - 3 * m) = true := by
        rcases (show i - 3 * m = 0 ∨ i - 3 * m = 1 ∨ i - 3 * m = 2 by omega) with e | e | e <;> rw [e] <;> decide
      rw [h7]
      simp [h1, h2]
  · have h2 : ¬ 3 * m + 3 ≤ i := by omega
    by_cases h64 : i < 64
    · simp [h1, h2, h64]
    · have := hl (by omega)
      simp [h1, h2, h64] at this ⊢
      exact this
/-- The digits set so far, from the last on. -/
def lowD (R : Nat) (z : E2) (j k : Nat) : Nat := if k ≤ j then 7 else dgt R z k
def lowV (R : Nat) (z : E2) (j : Nat) : Nat := hd (lowD R z j) 12
theorem lowD_lt (R : Nat) (z : E2) (j k : Nat) : lowD R z j k < 8 := by
  unfold lowD
  split
  · decide
  · exact dgt_lt R z k
theorem lowV_lt (R : Nat) (z : E2) (j : Nat) : lowV R z j < 68719476736 := hd12_lt (lowD_lt R z j)
theorem lowV_first {R : Nat} (z : E2) : lowV R z R = 68719476735 := by
  unfold lowV
  rw [hd_congr (g := fun _ => 7) (fun k _ _ => ?_)]
  · decide
  · unfold lowD dgt
    split
    · rfl
    · rfl
theorem lowV_last (R : Nat) (z : E2) : lowV R z 0 = hd (dgt R z) 12 := hd_congr fun k h _ => by unfold lowD; rw [if_neg (by omega)]
theorem lowV_step {R : Nat} {z : E2} {j : Nat} (hj : j < 12) : ∃ A B : Nat, B < 2 ^ (3 * (12 - (j + 1))) ∧ lowV R z (j + 1) = (A * 8 + 7) * 2 ^ (3 * (12 - (j + 1))) + B ∧ lowV R z j = (A * 8 + dgt R z (j + 1)) * 2 ^ (3 * (12 - (j + 1))) + B := by
  obtain ⟨m, hm⟩ : ∃ m, 12 - (j + 1) = m := ⟨_, rfl⟩
  have h12 : 12 = (j + 1) + m := by omega
  have e8 : ∀ m, (8 : Nat) ^ m = 2 ^ (3 * m) := fun m => by rw [Nat.pow_mul]
  rw [hm]
  refine ⟨hd (lowD R z (j + 1)) j, hd (fun k => lowD R z (j + 1) (j + 1 + k)) m, ?_, ?_, ?_⟩
  · rw [← e8]; exact hd_lt (fun k => lowD_lt R z _ _) m
  · unfold lowV
    rw [h12, hd_app, e8]
    show (hd (lowD R z (j + 1)) j * 8 + lowD R z (j + 1) (j + 1)) * _ + _ = _
    rw [show lowD R z (j + 1) (j + 1) = 7 by unfold lowD; rw [if_pos (Nat.le_refl _)]]
  · unfold lowV
    rw [h12, hd_app, e8]
    show (hd (lowD R z j) j * 8 + lowD R z j (j + 1)) * _ + _ = _
    rw [show lowD R z j (j + 1) = dgt R z (j + 1) by unfold lowD; rw [if_neg (by omega)]]
    rw [hd_congr (f := lowD R z j) (g := lowD R z (j + 1)) (n := j) (fun k h1 h2 => by unfold lowD; rw [if_pos h2, if_pos (by omega)])]
    rw [hd_congr (f := fun k => lowD R z j (j + 1 + k)) (g := fun k => lowD R z (j + 1) (j + 1 + k)) (n := m) (fun k h1 h2 => by show lowD R z j _ = lowD R z (j + 1) _; unfold lowD; rw [if_neg (by omega), if_neg (by omega)])]
theorem word_put {A d B j V1 V0 : Nat} (hj : j < 12) (hd : d < 8) (hB : B < 2 ^ (3 * (12 - (j + 1)))) (h1 : V1 = (A * 8 + 7) * 2 ^ (3 * (12 - (j + 1))) + B) (h0 : V0 = (A * 8 + d) * 2 ^ (3 * (12 - (j + 1))) + B) (hV : V1 < 68719476736) :
    bits .or .u64 (bits .andNot .u64 (V1 : Int) (IntKind.u64.wrap (7 * 2 ^ (36 - 3 * (j + 1))))) (IntKind.u64.wrap ((d : Int) * 2 ^ (36 - 3 * (j + 1)))) = ((V0 : Nat) : Int) := by
  obtain ⟨m, hm⟩ : ∃ m, 12 - (j + 1) = m := ⟨_, rfl⟩
  rw [show 36 - 3 * (j + 1) = 3 * m by omega]
  rw [hm] at hB h1 h0
  have hp : 2 ^ (3 * m) ≤ 2 ^ 33 := Nat.pow_le_pow_right (by decide) (by omega)
  have hp2 : (2 : Nat) ^ 33 = 8589934592 := by decide
  have e7 : (7 * 2 ^ (3 * m) : Int) = ((7 * 2 ^ (3 * m) : Nat) : Int) := by simp
  have ed : ((d : Int) * 2 ^ (3 * m)) = ((d * 2 ^ (3 * m) : Nat) : Int) := by simp
  have hdl : d * 2 ^ (3 * m) ≤ 7 * 2 ^ (3 * m) := Nat.mul_le_mul_right _ (by omega)
  have w7 : IntKind.u64.wrap ((7 * 2 ^ (3 * m) : Nat) : Int) = ((7 * 2 ^ (3 * m) : Nat) : Int) := by rw [IntKind.wrap_u64]; omega
  have wd : IntKind.u64.wrap ((d * 2 ^ (3 * m) : Nat) : Int) = ((d * 2 ^ (3 * m) : Nat) : Int) := by rw [IntKind.wrap_u64]; omega
  have hlt : A * 2 ^ (3 * m + 3) ||| B < 18446744073709551616 := by
    refine Nat.lt_of_le_of_lt ?_ (show V1 < 18446744073709551616 by omega)
    rw [h1, or_parts (by decide) hB, Nat.or_comm (7 * 2 ^ (3 * m)) B, ← Nat.or_assoc]
    exact Nat.left_le_or
  rw [e7, ed, w7, wd, u64_andNot_nat _ _ (by omega) (by omega)]
  rw [show 18446744073709551615 - 7 * 2 ^ (3 * m) = 2 ^ 64 - (7 * 2 ^ (3 * m) + 1) by rw [show (2 : Nat) ^ 64 = 18446744073709551616 by decide]; omega]
  rw [h1, clear_digit hB (by rw [← h1, show (2 : Nat) ^ 64 = 18446744073709551616 by decide]; omega), bits_or_u64_nat _ _ hlt (by omega)]
  rw [h0, or_parts hd hB, Nat.or_assoc, Nat.or_comm B]
theorem top_val2 {R V : Nat} {b : E2} (hR : R ≤ 12) (hb : baseB b = true) (hV : V < 68719476736) : bits .or .u64 (bits .or .u64 (bits .or .u64 (bits .or .u64 (V : Int) 1152921504606846976) ((R : Int) * 72057594037927936)) (IntKind.u64.wrap (IntKind.u64.wrap (wrap64 (b.1 + 512)) * 70368744177664))) (IntKind.u64.wrap (IntKind.u64.wrap (wrap64 (b.2 + 512)) * 68719476736)) = ((topN R b + V : Nat) : Int) := by
  obtain ⟨h1, h2, h3, h4⟩ := (baseB_iff b).1 hb
  obtain ⟨A, hA⟩ : ∃ A : Nat, b.1 + 512 = A := ⟨(b.1 + 512).toNat, by omega⟩
  obtain ⟨B, hB⟩ : ∃ A : Nat, b.2 + 512 = A := ⟨(b.2 + 512).toNat, by omega⟩
  have wA : IntKind.u64.wrap (wrap64 (b.1 + 512)) = (A : Int) := by rw [hA, show wrap64 (A : Int) = A by unfold wrap64; omega, IntKind.wrap_u64]; omega
  have wB : IntKind.u64.wrap (wrap64 (b.2 + 512)) = (B : Int) := by rw [hB, show wrap64 (B : Int) = B by unfold wrap64; omega, IntKind.wrap_u64]; omega
  rw [wA, wB]
  have e1 : IntKind.u64.wrap ((A : Int) * 70368744177664) = ((A * 70368744177664 : Nat) : Int) := by rw [IntKind.wrap_u64]; omega
  have e2 : IntKind.u64.wrap ((B : Int) * 68719476736) = ((B * 68719476736 : Nat) : Int) := by rw [IntKind.wrap_u64]; omega
  have e3 : ((R : Int) * 72057594037927936) = ((R * 72057594037927936 : Nat) : Int) := by omega
  rw [e1, e2, e3, show (1152921504606846976 : Int) = ((1152921504606846976 : Nat) : Int) by rfl]
  rw [bits_or_u64_nat _ _ (by omega) (by decide), Nat.or_comm V, nat_join 60 _ _ (by decide) (by omega)]
  have j1 : 1152921504606846976 + V ||| R * 72057594037927936 = 1152921504606846976 + R * 72057594037927936 + V := by
    rw [← nat_join 60 1152921504606846976 V (by decide) (by omega), Nat.or_assoc, Nat.or_comm V, nat_join 56 (R * 72057594037927936) V (by omega) (by omega), nat_join 60 _ _ (by decide) (by omega)]; omega
  rw [bits_or_u64_nat _ _ (by omega) (by omega), j1]
  have j2 : 1152921504606846976 + R * 72057594037927936 + V ||| A * 70368744177664 = 1152921504606846976 + R * 72057594037927936 + A * 70368744177664 + V := by
    rw [← nat_join 56 (1152921504606846976 + R * 72057594037927936) V (by omega) (by omega), Nat.or_assoc, Nat.or_comm V, nat_join 46 (A * 70368744177664) V (by omega) (by omega), nat_join 56 _ _ (by omega) (by omega)]; omega
  rw [bits_or_u64_nat _ _ (by omega) (by omega), j2]
  have j3 : 1152921504606846976 + R * 72057594037927936 + A * 70368744177664 + V ||| B * 68719476736 = 1152921504606846976 + R * 72057594037927936 + A * 70368744177664 + B * 68719476736 + V := by
    rw [← nat_join 46 (1152921504606846976 + R * 72057594037927936 + A * 70368744177664) V (by omega) (by omega), Nat.or_assoc, Nat.or_comm V, nat_join 36 (B * 68719476736) V (by omega) (by omega), nat_join 46 _ _ (by omega) (by omega)]; omega
  rw [bits_or_u64_nat _ _ (by omega) (by omega), j3]
  unfold topN
  omega
set_option maxRecDepth 100000 in
set_option maxHeartbeats 8000000 in
theorem word_any (r : Int) (z : E2) (w : World) : Calls Tryz.prog 18 #[vC r z] w fun e w' => e = .returned (.tuple #[.int .u64 (ofW r z : Nat), .int .i64 (ofE r z)]) ∧ Below w.heap.size w w' := by
  have HW := Lib.hid (rok_any r z)
  have HO : Hid (ofW r z = if okB r z = true then wordN r.toNat z else 0) := rfl
  have HE : Hid (ofE r z = if okB r z = true then 0 else 2) := rfl
  by_cases hok : okB r z = true
  · obtain ⟨R, rfl, hR⟩ := okB_nat hok
    have HBB := Lib.hid (okB_parts hok).2
    have HSM : Hid (Sm 1099511627776 z) := by
      have := (shapeB_iff _ _).1 ((okB_iff _ _).1 hok).1
      show Sm _ _; unfold Sm; omega
    simp only [hok, if_pos] at HO HE HW
    rw [HO.out, HE.out]
    have HSZ : Hid (wordN (R : Int).toNat z = topN R (upN R z) + lowV R z 0) := by show _ = _; rw [lowV_last]; rfl
    rw [HSZ.out]
    clear hok HO HE HSZ
    obtain ⟨res, hres⟩ : ∃ x, topN R (upN R z) + lowV R z 0 = x := ⟨_, rfl⟩
    rw [hres]
    have HRES := Lib.hid hres
    clear hres
    have HLF := Lib.hid (lowV_first (R := R) z)
    obtain ⟨a, b⟩ := z
    simp only [vC] at *
    go_enter Tryz.func18, Tryz.ntmps18
    go_wp2_with fail
    refine (HW.out _).mono ?_
    rintro e w1 ⟨rfl, hb⟩
    have hz1 := hb.size
    simp at hz1
    have hr := hb.block w.heap.size (by simp)
    rw [heap_new _ _ _ rfl] at hr
    obtain ⟨c0, c1, c2⟩ : w1.cell? ⟨w.heap.size, 0, none⟩ = some (.int .i64 R) ∧ w1.cell? ⟨w.heap.size, 1, none⟩ = some (.int .i64 a) ∧ w1.cell? ⟨w.heap.size, 2, none⟩ = some (.int .i64 b) := ⟨cell_of_row _ _ 0 _ _ _ hr, cell_of_row _ _ 1 _ _ _ hr, cell_of_row _ _ 2 _ _ _ hr⟩
    have hal : Below w1.heap.size w1 (w1.alloc (.cells #[.int .i64 a, .int .i64 b] 30)) := (Below.refl _ _).alloc (Nat.le_refl _) _
    have hB : Hid (Below w.heap.size w (w1.alloc (.cells #[.int .i64 a, .int .i64 b] 30))) := (((Below.refl _ _).alloc (Nat.le_refl _) _).trans (hb.mono (by simp))).trans (hal.mono (by omega))
    have C0 : Hid ((w1.alloc (.cells #[.int .i64 a, .int .i64 b] 30)).cell? ⟨w.heap.size, 0, none⟩ = some (.int .i64 R)) := (hal.cell (p := ⟨w.heap.size, 0, none⟩) (by show w.heap.size < w1.heap.size; omega)).trans c0
    have Z0 : Hid (Two2 (w1.alloc (.cells #[.int .i64 a, .int .i64 b] 30)) w1.heap.size (.int .i64 a) (.int .i64 b)) := Two2.of_row (t := 30) (heap_new _ _ _ rfl)
    have hsz := World.size_alloc w1 (.cells #[.int .i64 a, .int .i64 b] 30)
    clear hal hb HW
    go_upto_region 4 with (fail)
    generalize w1.alloc (.cells #[.int .i64 a, .int .i64 b] 30) = w2 at *
    obtain ⟨zb, hzb⟩ : ∃ zb, w1.heap.size = zb := ⟨_, rfl⟩
    rw [hzb] at Z0 hsz hz1 ⊢
    clear hzb c0 c1 c2 hr
    have c0 := C0.out
    obtain ⟨y, hy⟩ : ∃ y : E2, y = (a, b) := ⟨_, rfl⟩
    have Z0 : Hid (Two2 w2 zb (.int .i64 (upN (R - R) y).1) (.int .i64 (upN (R - R) y).2)) := by rw [Nat.sub_self, hy]; exact Z0.out
    rw [← hy] at HBB HSM HRES HLF
    have HL0 : Hid ((68719476735 : Int) = ((lowV R y R : Nat) : Int)) := by show _ = _; rw [HLF.out]; rfl
    clear hy
    go_upto_region 6 with (fail)
    go_loopw [5, 6] (fun v i wr => ∃ j : Nat, j ≤ R ∧ i = .int .i64 j ∧ v = .int .u64 (lowV R y j : Nat) ∧ Hid (Two2 wr zb (.int .i64 (upN (R - j) y).1) (.int .i64 (upN (R - j) y).2) ∧ Turn (fun q => q = zb) w2 wr)) (fun _ i _ => (intOf i).toNat)
    case atStart => exact ⟨R, by omega, rfl, by rw [HL0.out], Z0.out, Turn.refl _ _⟩
    case round =>
      obtain ⟨j', hj, rfl, rfl, HI⟩ := hrel
      have hturn := HI.out.2
      have hsz2 := hturn.2.2.2.1
      have HBR : Hid (Below w.heap.size w wr) := hB.out.trans (hturn.below (by omega) fun q hq e => by omega)
      have HTU := Lib.hid hturn
      have HZ := Lib.hid HI.out.1
      clear hturn HI c0
      by_cases hj0 : j' = 0
      · subst hj0
        have c0 : wr.cell? ⟨w.heap.size, 0, none⟩ = some (.int .i64 R) := (HTU.out.cell (p := ⟨w.heap.size, 0, none⟩) (by show w.heap.size < w2.heap.size; omega) (by show ¬ w.heap.size = zb; omega)).trans C0.out
        have HTV := Lib.hid (top_val2 hR HBB.out (lowV_lt R y 0))
        obtain ⟨⟨z0, z1⟩, z2, z3⟩ := HZ.out
        rw [Nat.sub_zero] at z0 z1
        have hwl : w.heap.size < wr.heap.size := by omega
        have hzl : zb < wr.heap.size := by omega
        generalize upN R y = x at *
        generalize lowV R y 0 = V at *
        clear HZ HTU
        go_wp2
        rw [HTV.out]
        go_ret2
        exact ⟨by rw [← HRES.out]; rfl, HBR.out⟩
      · obtain ⟨j, rfl⟩ : ∃ j, j' = j + 1 := ⟨j' - 1, by omega⟩
        have hpa := parent_in (upN (R - (j + 1)) y) (upN_sm (by omega) HSM.out _)
        have hup : upN (R - j) y = upE (upN (R - (j + 1)) y) := by rw [show R - j = (R - (j + 1)) + 1 by omega, upN_up]
        have hdg : dgt R y (j + 1) = digE (upN (R - (j + 1)) y) := by unfold dgt; rw [if_pos hj]
        rw [← hup, ← hdg] at hpa
        obtain ⟨x', hx'⟩ : ∃ x', upN (R - j) y = x' := ⟨_, rfl⟩
        rw [hx'] at hpa
        have HXE := Lib.hid hx'
        obtain ⟨A, B, hB1, hv1, hv2⟩ := lowV_step (R := R) (z := y) (j := j) (by omega)
        have hdl := dgt_lt R y (j + 1)
        have hlv := lowV_lt R y (j + 1)
        simp only [vE] at hpa
        have HP := Lib.hid hpa
        have HV1 := Lib.hid hv1
        have HV2 := Lib.hid hv2
        clear hv1 hv2
        generalize dgt R y (j + 1) = d at *
        obtain ⟨V1, hV1⟩ : ∃ V, lowV R y (j + 1) = V := ⟨_, rfl⟩
        obtain ⟨V0, hV0⟩ : ∃ V, lowV R y j = V := ⟨_, rfl⟩
        rw [hV1] at HV1 hlv ⊢
        rw [hV0] at HV2
        have HV0E := Lib.hid hV0
        clear hV1 hV0
        clear hpa hup hdg hx'
        obtain ⟨⟨z0, z1⟩, z2, z3⟩ := HZ.out
        have q0 : decide (0 < (j : Int) + 1) = true := decide_eq_true (by omega)
        go_wp2_with fail
        refine (HP.out _).mono ?_
        rintro e w3 ⟨rfl, hb3⟩
        have qs : decide (36 - 3 * ((j : Int) + 1) < 0) = false := decide_eq_false (by omega)
        go_upto_region 10 with (fail)
        go_quiet (fail)
        have HPUT := Lib.hid (word_put (show j < 12 by omega) hdl hB1 HV1.out HV2.out hlv)
        rw [HPUT.out]
        have hz3 := hb3.size
        have hal : Below w3.heap.size w3 (w3.alloc (.cells #[.int .i64 x'.1, .int .i64 x'.2] 30)) := (Below.refl _ _).alloc (Nat.le_refl _) _
        have k3 := World.size_alloc w3 (.cells #[.int .i64 x'.1, .int .i64 x'.2] 30)
        have hX : Two (w3.alloc (.cells #[.int .i64 x'.1, .int .i64 x'.2] 30)) w3.heap.size (.int .i64 x'.1) (.int .i64 x'.2) := Two.of_row (t := 30) (f := _) (heap_new _ _ _ rfl)
        have h4 := (HZ.out.later (by omega) hb3).later (by omega) hal
        have HT4 : Hid (Turn (fun q => q = zb) w2 (w3.alloc (.cells #[.int .i64 x'.1, .int .i64 x'.2] 30))) := (HTU.out.trans (Turn.of_below hb3) fun _ _ h => h).trans (Turn.of_below hal) fun _ _ h => h
        clear hal hb3 z0 z1 z2 z3 HZ HTU
        have hdn := below_dn (w3.alloc (.cells #[.int .i64 x'.1, .int .i64 x'.2] 30)) nq
        have h4 := h4.later (by omega) hdn
        have hX := hX.later (by omega) hdn
        have HT4 : Hid (Turn (fun q => q = zb) w2 ((w3.alloc (.cells #[.int .i64 x'.1, .int .i64 x'.2] 30)).drewN nq)) := HT4.out.trans (Turn.of_below hdn) fun _ _ h => h
        have k4 := hdn.size
        clear hdn
        generalize (w3.alloc (.cells #[.int .i64 x'.1, .int .i64 x'.2] 30)).drewN nq = w4 at *
        have hp := h4.put (.int .i64 x'.1) (.int .i64 x'.2)
        have HN : Hid (Two2 ((w4.setCell ⟨zb, 0, none⟩ (.int .i64 x'.1)).setCell ⟨zb, 1, none⟩ (.int .i64 x'.2)) zb (.int .i64 x'.1) (.int .i64 x'.2) ∧ Turn (fun q => q = zb) w2 ((w4.setCell ⟨zb, 0, none⟩ (.int .i64 x'.1)).setCell ⟨zb, 1, none⟩ (.int .i64 x'.2))) := ⟨hp.1, HT4.out.trans hp.2 fun _ _ h => h⟩
        obtain ⟨⟨z0, z1⟩, z2, z3⟩ := h4
        obtain ⟨x0, x1⟩ := hX
        have hxl : w3.heap.size < w4.heap.size := by omega
        have hzl : zb < w4.heap.size := by omega
        clear hp k3
        go_wp2
        go_roundw
        case rel => exact ⟨j, by omega, by go_num, by rw [HV0E.out], by rw [HXE.out]; exact HN.out⟩
        case measure => simp [intOf]
  · have hok0 : okB r z = false := by simpa using hok
    rw [hok0] at HW
    simp only [hok0, Bool.false_eq_true, if_false] at HO HE
    rw [HO.out, HE.out]
    clear hok hok0 HO HE
    simp only [vC] at *
    go_enter Tryz.func18, Tryz.ntmps18
    go_wp2_with fail
    refine (HW.out _).mono ?_
    rintro e w1 ⟨rfl, hb⟩
    have HB : Hid (Below w.heap.size w w1) := ((Below.refl _ _).alloc (Nat.le_refl _) _).trans (hb.mono (by simp))
    clear hb HW
    go_wp2
    go_ret2
    exact ⟨rfl, HB.out⟩
end Go.Proofs.YtkjfdaleamonaaaGreat
/- Contracts of apiaryref1: Cell, IsWord. -/
namespace Go.Proofs.YtkjfdaleamonaaaGreat
open Go.RowKit Go.Lib Wd

set_option maxRecDepth 100000 in
set_option maxHeartbeats 8000000 in
theorem rcell_any (w0 : Nat) (hw : w0 < 18446744073709551616) (w : World) :
    Calls Tryz.prog 16 #[.int .u64 w0] w fun e w' => e = .returned (.tuple #[vC (cvR w0) (cvZ w0), .int .i64 (cvE w0)]) ∧ Below w.heap.size w w' := by
  obtain ⟨v1, v2, v3⟩ := head_val w0 hw
  obtain ⟨R, hR⟩ : ∃ R, rW w0 = R := ⟨_, rfl⟩
  obtain ⟨A, hA⟩ : ∃ A, w0 / 70368744177664 % 1024 = A := ⟨_, rfl⟩
  obtain ⟨B, hB⟩ : ∃ A, w0 / 68719476736 % 1024 = A := ⟨_, rfl⟩
  have hA1 : A < 1024 := by omega
  have hB1 : B < 1024 := by omega
  have HBW : Hid (bW w0 = ((A : Int) - 512, (B : Int) - 512)) := by show _ = _; unfold bW; rw [hA, hB]
  have HIS : Hid (isW w0 = (decide (w0 / 1152921504606846976 = 1) && decide (R ≤ 12) && okD (dgW w0) R 12)) := by show _ = _; rw [← hR]; rfl
  have hr16 : R < 16 := by rw [← hR]; exact Nat.mod_lt _ (by decide)
  have HYES : Hid (isW w0 = true → cvR w0 = (R : Int) ∧ cvZ w0 = dn (dgW w0) ((A : Int) - 512, (B : Int) - 512) R ∧ cvE w0 = 0) := fun h => by
    unfold cvR cvZ cvE zW
    simp only [h, if_pos]
    rw [hR, HBW.out]
    exact ⟨rfl, rfl, trivial⟩
  have HNO : Hid (isW w0 = false → cvR w0 = 0 ∧ cvZ w0 = (0, 0) ∧ cvE w0 = 5) := fun h => by
    unfold cvR cvZ cvE
    simp only [h, Bool.false_eq_true, if_false]
    exact ⟨trivial, trivial, trivial⟩
  rw [hR] at v1
  rw [hA] at v2
  rw [hB] at v3
  clear hR hA hB
  have hbad : isW w0 = false → Hid (∀ w', Below w.heap.size w w' → ((Ending.returned (.tuple #[.agg #[.int .i64 0, .int .i64 0, .int .i64 0], .int .i64 5]) : Ending) = .returned (.tuple #[vC (cvR w0) (cvZ w0), .int .i64 (cvE w0)]) ∧ Below w.heap.size w w')) := fun h w' hb => by
    obtain ⟨e1, e2, e3⟩ := HNO.out h
    exact ⟨by rw [e1, e2, e3], hb⟩
  have hdig0 : ∀ k : Nat, k < 12 → bits .and .u64 ((w0 : Int) / 2 ^ (36 - 3 * (k + 1))) 7 = ((dgW w0 (k + 1) : Nat) : Int) := fun k hk => by
    have e : ((w0 : Int) / 2 ^ (36 - 3 * (k + 1))) = ((w0 / 8 ^ (12 - (k + 1)) : Nat) : Int) := by
      rw [show 36 - 3 * (k + 1) = 3 * (12 - (k + 1)) by omega, show (8 : Nat) ^ (12 - (k + 1)) = 2 ^ (3 * (12 - (k + 1))) by rw [Nat.pow_mul]]
      simp
    have := Nat.div_le_self w0 (8 ^ (12 - (k + 1)))
    rw [e, show (7 : Int) = ((7 : Nat) : Int) by rfl, bits_and_u64_nat _ _ (by omega) (by decide), nat_mask3]
    rfl
  have HDO := Lib.hid hdig0
  clear hdig0
  by_cases h0 : w0 / 1152921504606846976 = 1
  · have q1 : ((w0 : Int) / 1152921504606846976 != 1) = false := by simp; omega
    by_cases h12 : R ≤ 12
    · have q2 : decide (12 < (R : Int)) = false := decide_eq_false (by omega)
      go_enter Tryz.func16, Tryz.ntmps16
      go_wp2
      have T0 : Hid (Tri ((w.alloc (.cells #[.int .i64 0, .int .i64 0, .int .i64 0] 32)).alloc (.cells #[.int .i64 ((A : Int) - 512), .int .i64 ((B : Int) - 512)] 30)) w.heap.size 0 (0, 0)) := by
        show _ = _
        rw [Below.heap_alloc _ _ _ (by simp)]
        exact heap_new _ _ _ rfl
      have C0 : Hid (Two2 ((w.alloc (.cells #[.int .i64 0, .int .i64 0, .int .i64 0] 32)).alloc (.cells #[.int .i64 ((A : Int) - 512), .int .i64 ((B : Int) - 512)] 30)) (w.heap.size + 1) (.int .i64 ((A : Int) - 512)) (.int .i64 ((B : Int) - 512))) := Two2.of_row (t := 30) (heap_new _ _ _ (by simp))
      have HB0 : Hid (Below w.heap.size w ((w.alloc (.cells #[.int .i64 0, .int .i64 0, .int .i64 0] 32)).alloc (.cells #[.int .i64 ((A : Int) - 512), .int .i64 ((B : Int) - 512)] 30))) := ((Below.refl _ _).alloc (Nat.le_refl _) _).alloc (by simp) _
      have k2 : ((w.alloc (.cells #[.int .i64 0, .int .i64 0, .int .i64 0] 32)).alloc (.cells #[.int .i64 ((A : Int) - 512), .int .i64 ((B : Int) - 512)] 30)).heap.size = w.heap.size + 2 := by simp
      generalize (w.alloc (.cells #[.int .i64 0, .int .i64 0, .int .i64 0] 32)).alloc (.cells #[.int .i64 ((A : Int) - 512), .int .i64 ((B : Int) - 512)] 30) = w2 at *
      have HBB : Hid (baseB ((A : Int) - 512, (B : Int) - 512) = true) := by show _ = _; rw [baseB_iff]; simp only; omega
      have HOK : Hid (isW w0 = okD (dgW w0) R 12) := by show _ = _; rw [HIS.out, decide_eq_true h0, decide_eq_true h12]; rfl
      have HD8 := Lib.hid (dgW_lt w0)
      have C0 : Hid (Two2 w2 (w.heap.size + 1) (.int .i64 (((A : Int) - 512, (B : Int) - 512) : E2).1) (.int .i64 (((A : Int) - 512, (B : Int) - 512) : E2).2)) := C0.out
      generalize (((A : Int) - 512, (B : Int) - 512) : E2) = b at *
      clear v1 v2 v3 hA1 hB1 HBW HIS q1 q2 h0
      obtain ⟨D, hD⟩ : ∃ D, dgW w0 = D := ⟨_, rfl⟩
      rw [hD] at HYES HOK HD8
      simp only [hD] at HDO
      clear hD
      go_loopw [6] (fun i wr => ∃ k : Nat, k ≤ 12 ∧ i = .int .i64 (k + 1 : Nat) ∧ okD D R k = true ∧ Hid (Two2 wr (w.heap.size + 1) (.int .i64 (dn D b (min k R)).1) (.int .i64 (dn D b (min k R)).2) ∧ Turn (fun q => q = w.heap.size + 1) w2 wr)) (fun i _ => 13 - (intOf i).toNat)
      case atStart => exact ⟨0, by omega, rfl, rfl, by rw [Nat.zero_min]; exact C0.out, Turn.refl _ _⟩
      case round =>
        obtain ⟨k, hk, rfl, hok, HI⟩ := hrel
        have hTri := HI.out.1
        have hturn := HI.out.2
        have hsz := hturn.2.2.2.1
        have HT := Lib.hid (T0.out.turn hturn (by omega))
        have HBR : Hid (Below w.heap.size w wr) := HB0.out.trans (hturn.below (by omega) fun q hq e => by omega)
        have HTU := Lib.hid hturn
        have HTR := Lib.hid hTri
        clear hTri hturn HI
        by_cases hk12 : k < 12
        · have hd8 := HD8.out (k + 1)
          have hdv := HDO.out k hk12
          have HST : Hid (okD D R (k + 1) = (okD D R k && ((D (k + 1) == 7) == decide (R < k + 1)))) := rfl
          have HDN : Hid (dn D b (k + 1) = downE (dn D b k) (D (k + 1))) := rfl
          have q1 : decide (((k + 1 : Nat) : Int) ≤ 12) = true := decide_eq_true (by omega)
          have q1' : decide ((k : Int) + 1 ≤ 12) = true := decide_eq_true (by omega)
          have qs : decide (36 - 3 * ((k : Int) + 1) < 0) = false := decide_eq_false (by omega)
          obtain ⟨d, hd⟩ : ∃ d, D (k + 1) = d := ⟨_, rfl⟩
          rw [hd] at hd8 hdv HST HDN
          clear hd
          by_cases hd7 : d = 7
          · by_cases hkr : R < k + 1
            · have q2 : decide ((R : Int) < ((k + 1 : Nat) : Int)) = true := decide_eq_true (by omega)
              have q2' : decide ((R : Int) < (k : Int) + 1) = true := decide_eq_true (by omega)
              have HN : okD D R (k + 1) = true := by rw [HST.out, hok, hd7, decide_eq_true hkr]; rfl
              have HM : Hid (Two2 wr (w.heap.size + 1) (.int .i64 (dn D b (min (k + 1) R)).1) (.int .i64 (dn D b (min (k + 1) R)).2)) := by
                have := HTR.out
                rw [show min k R = min (k + 1) R by omega] at this
                exact this
              subst hd7
              go_wp2
              go_roundw
              case rel => exact ⟨k + 1, by omega, by go_num, HN, HM.out, HTU.out⟩
              case measure => simp [intOf]; omega
            · have q2 : decide ((R : Int) < ((k + 1 : Nat) : Int)) = false := decide_eq_false (by omega)
              have q2' : decide ((R : Int) < (k : Int) + 1) = false := decide_eq_false (by omega)
              have HF := hbad (by rw [HOK.out]; exact okD_stop (k := k + 1) (by rw [HST.out, hok, hd7, decide_eq_false hkr]; rfl) (by omega))
              subst hd7
              obtain ⟨t0, t1, t2, t3, t4, t5, t6⟩ := HT.out.cells
              go_wp2
              exact bodyPost_ret (v := .tuple #[.agg #[.int .i64 0, .int .i64 0, .int .i64 0], .int .i64 5]) (by simp [results, Tryz.results16, go_sem, *]) rfl (HF.out _ (((HBR.out.setCell (p := ⟨w.heap.size, 0, none⟩) (Nat.le_refl _) _).setCell (p := ⟨w.heap.size, 1, none⟩) (Nat.le_refl _) _).setCell (p := ⟨w.heap.size, 2, none⟩) (Nat.le_refl _) _))
          · have q3 : ((d : Int) == 7) = false := by simp; omega
            have q4 : ((d : Int) != 7) = true := by simp; omega
            by_cases hkr : R < k + 1
            · have q2 : decide ((R : Int) < ((k + 1 : Nat) : Int)) = true := decide_eq_true (by omega)
              have q2' : decide ((R : Int) < (k : Int) + 1) = true := decide_eq_true (by omega)
              have HF := hbad (by rw [HOK.out]; exact okD_stop (k := k + 1) (by rw [HST.out, hok, decide_eq_true hkr, beq_eq_false_iff_ne.2 hd7]; rfl) (by omega))
              obtain ⟨t0, t1, t2, t3, t4, t5, t6⟩ := HT.out.cells
              go_wp2
              exact bodyPost_ret (v := .tuple #[.agg #[.int .i64 0, .int .i64 0, .int .i64 0], .int .i64 5]) (by simp [results, Tryz.results16, go_sem, *]) rfl (HF.out _ (((HBR.out.setCell (p := ⟨w.heap.size, 0, none⟩) (Nat.le_refl _) _).setCell (p := ⟨w.heap.size, 1, none⟩) (Nat.le_refl _) _).setCell (p := ⟨w.heap.size, 2, none⟩) (Nat.le_refl _) _))
            · have q2 : decide ((R : Int) < ((k + 1 : Nat) : Int)) = false := decide_eq_false (by omega)
              have q2' : decide ((R : Int) < (k : Int) + 1) = false := decide_eq_false (by omega)
              have HN : okD D R (k + 1) = true := by rw [HST.out, hok, decide_eq_false hkr, beq_eq_false_iff_ne.2 hd7]; rfl
              have hmk : min k R = k := by omega
              have hmk2 : min (k + 1) R = k + 1 := by omega
              rw [hmk] at HTR
              have hdig : ∀ j, 0 < j → j ≤ k → D j < 7 := fun j h1 h2 => by
                have h3 := (okD_iff D R k).1 hok j h1 h2
                have := HD8.out j
                omega
              have hhx := (dn_hex HBB.out hdig (Nat.le_refl k)).mono (hexH_le hk)
              have HMU := Lib.hid (rmul_in (dn D b k) (2, 1) (hhx.sm.mono (by decide)) (by unfold Sm; simp) (by unfold Hex at hhx; unfold Sm mulE; simp only; omega))
              have hmb : Sm 8589934592 (mulE (dn D b k) (2, 1)) := by unfold Hex at hhx; unfold Sm mulE; simp only; omega
              obtain ⟨x, hx⟩ : ∃ x, dn D b k = x := ⟨_, rfl⟩
              rw [hx] at HMU HTR HDN hmb
              have HDE : Hid (dn D b (k + 1) = addE (mulE x (2, 1)) (leftE d)) := HDN.out
              generalize mulE x (2, 1) = m at *
              simp only [vE] at HMU
              obtain ⟨⟨c0, c1⟩, c2, c3⟩ := HTR.out
              unfold Sm at hmb
              obtain ⟨hm1, hm2, hm3, hm4⟩ := hmb
              clear hhx hdig hx hmk HDN HST hbad HNO HBB HD8
              go_wp2_with fail
              refine (HMU.out _).mono ?_
              rintro e w5 ⟨rfl, hb5⟩
              have hz5 := hb5.size
              have h5 := HTR.out.later (by omega) hb5
              have HP := Lib.hid (h5.put (.int .i64 m.1) (.int .i64 m.2))
              have HTU2 : Hid (Turn (fun q => q = w.heap.size + 1) w2 ((w5.setCell ⟨w.heap.size + 1, 0, none⟩ (.int .i64 m.1)).setCell ⟨w.heap.size + 1, 1, none⟩ (.int .i64 m.2))) := (HTU.out.trans (Turn.of_below hb5) fun _ _ h => h).trans HP.out.2 fun _ _ h => h
              have hz6 := HP.out.2.2.2.2.1
              obtain ⟨⟨e0, e1⟩, e2, e3⟩ := h5
              clear hb5 c0 c1 c2 c3 HTR HT HTU HMU HBR
              go_upto_region 15 with (fail)
              generalize ((w5.setCell ⟨w.heap.size + 1, 0, none⟩ (.int .i64 m.1)).setCell ⟨w.heap.size + 1, 1, none⟩ (.int .i64 m.2)) = w6 at *
              obtain ⟨⟨g0, g1⟩, g2, g3⟩ := HP.out.1
              clear e0 e1 e2 e3
              cases d with
              | zero =>
                have HDZ : Hid (dn D b (k + 1) = m) := by show _ = _; rw [HDE.out]; show (m.1 + 0, m.2 + 0) = m; simp
                have HFI : Hid (Two2 w6 (w.heap.size + 1) (.int .i64 (dn D b (min (k + 1) R)).1) (.int .i64 (dn D b (min (k + 1) R)).2) ∧ Turn (fun q => q = w.heap.size + 1) w2 w6) := ⟨by rw [hmk2, HDZ.out]; exact HP.out.1, HTU2.out⟩
                go_wp2
                go_roundw
                case rel => exact ⟨k + 1, by omega, by go_num, HN, HFI.out⟩
                case measure => simp [intOf]; omega
              | succ d =>
                have HDZ : Hid (dn D b (k + 1) = addE m (leftE (d + 1))) := HDE.out
                have HUN := Lib.hid (runit_in d (by omega))
                have hul := left_sm (d + 1)
                have hle : leftE (d + 1) = unitE d := rfl
                rw [hle] at HDZ hul
                simp only [vE] at HUN
                generalize unitE d = u at *
                unfold Sm at hul
                obtain ⟨hu1, hu2, hu3, hu4⟩ := hul
                have hws : w.heap.size + 1 < w6.heap.size := by omega
                clear hle
                go_wp2_with fail
                refine (HUN.out _).mono ?_
                rintro e w7 ⟨rfl, hb7⟩
                have hz7 := hb7.size
                have hal : Below w7.heap.size w7 (w7.alloc (.cells #[.int .i64 u.1, .int .i64 u.2] 30)) := (Below.refl _ _).alloc (Nat.le_refl _) _
                have k7 := World.size_alloc w7 (.cells #[.int .i64 u.1, .int .i64 u.2] 30)
                have h8 := (HP.out.1.later hws hb7).later (by omega) hal
                have hU8 : Two (w7.alloc (.cells #[.int .i64 u.1, .int .i64 u.2] 30)) w7.heap.size (.int .i64 u.1) (.int .i64 u.2) := Two.of_row (t := 30) (f := _) (heap_new _ _ _ rfl)
                have HT8 : Hid (Turn (fun q => q = w.heap.size + 1) w2 (w7.alloc (.cells #[.int .i64 u.1, .int .i64 u.2] 30))) := (HTU2.out.trans (Turn.of_below hb7) fun _ _ h => h).trans (Turn.of_below hal) fun _ _ h => h
                clear hal hb7 g0 g1 g2 g3
                go_upto_region 17 with (fail)
                generalize w7.alloc (.cells #[.int .i64 u.1, .int .i64 u.2] 30) = w8 at *
                have hp := h8.put (.int .i64 (m.1 + u.1)) (.int .i64 (m.2 + u.2))
                have HFI : Hid (Two2 ((w8.setCell ⟨w.heap.size + 1, 0, none⟩ (.int .i64 (m.1 + u.1))).setCell ⟨w.heap.size + 1, 1, none⟩ (.int .i64 (m.2 + u.2))) (w.heap.size + 1) (.int .i64 (dn D b (min (k + 1) R)).1) (.int .i64 (dn D b (min (k + 1) R)).2) ∧ Turn (fun q => q = w.heap.size + 1) w2 ((w8.setCell ⟨w.heap.size + 1, 0, none⟩ (.int .i64 (m.1 + u.1))).setCell ⟨w.heap.size + 1, 1, none⟩ (.int .i64 (m.2 + u.2)))) := ⟨by rw [hmk2, HDZ.out]; exact hp.1, HT8.out.trans hp.2 fun _ _ h => h⟩
                obtain ⟨⟨g0, g1⟩, g2, g3⟩ := h8
                obtain ⟨i0, i1⟩ := hU8
                have hl7 : w7.heap.size < w8.heap.size := by omega
                have hl8 : w.heap.size + 1 < w8.heap.size := by omega
                clear hp k7
                go_wp2
                go_roundw
                case rel => exact ⟨k + 1, by omega, by go_num, HN, HFI.out⟩
                case measure => simp [intOf]; omega
        · obtain rfl : k = 12 := by omega
          rw [Nat.min_eq_right h12] at HTR
          obtain ⟨y1, y2, y3⟩ := HYES.out (by rw [HOK.out]; exact hok)
          have HY : Hid (vC (cvR w0) (cvZ w0) = vC R (dn D b R) ∧ cvE w0 = 0) := ⟨by rw [y1, y2], y3⟩
          obtain ⟨⟨c0, c1⟩, c2, c3⟩ := HTR.out
          obtain ⟨t0, t1, t2, t3, t4, t5, t6⟩ := HT.out.cells
          generalize dn D b R = x at *
          clear y1 y2 y3 HTR HT HYES
          go_wp2
          exact bodyPost_ret (v := .tuple #[.agg #[.int .i64 R, .int .i64 x.1, .int .i64 x.2], .int .i64 0]) (by simp [results, Tryz.results16, go_sem, *]) rfl ⟨by rw [HY.out.1, HY.out.2], (((HBR.out.setCell (p := ⟨w.heap.size, 0, none⟩) (Nat.le_refl _) _).setCell (p := ⟨w.heap.size, 1, none⟩) (Nat.le_refl _) _).setCell (p := ⟨w.heap.size, 2, none⟩) (Nat.le_refl _) _)⟩
    · have HF := hbad (by rw [HIS.out, decide_eq_false h12]; simp)
      have q2 : decide (12 < (R : Int)) = true := decide_eq_true (by omega)
      clear h0
      go_enter Tryz.func16, Tryz.ntmps16
      go_wp2
      exact bodyPost_ret (v := .tuple #[.agg #[.int .i64 0, .int .i64 0, .int .i64 0], .int .i64 5]) (by simp [results, Tryz.results16, go_sem]) rfl (HF.out _ ((Below.refl _ _).alloc (Nat.le_refl _) _))
  · have HF := hbad (by rw [HIS.out, decide_eq_false h0]; rfl)
    have q1 : ((w0 : Int) / 1152921504606846976 != 1) = true := by simp; omega
    clear h0
    go_enter Tryz.func16, Tryz.ntmps16
    go_wp2
    exact bodyPost_ret (v := .tuple #[.agg #[.int .i64 0, .int .i64 0, .int .i64 0], .int .i64 5]) (by simp [results, Tryz.results16, go_sem]) rfl (HF.out _ ((Below.refl _ _).alloc (Nat.le_refl _) _))
end Go.Proofs.YtkjfdaleamonaaaGreat
/- Lists of cells in memory; the contract of apiaryref1.Children. -/
namespace Go.Proofs.YtkjfdaleamonaaaGreat
open Go.RowKit Go.Lib Wd

abbrev Cl := Int × E2
def cV (l : List Cl) : List Value := l.flatMap fun c => [.int .i64 c.1, .int .i64 c.2.1, .int .i64 c.2.2]
def cg (l : List Cl) (k : Nat) : Cl := l.getD k (0, (0, 0))
theorem cV_length (l : List Cl) : (cV l).length = l.length * 3 := by
  induction l with
  | nil => rfl
  | cons p l ih => simp only [cV, List.flatMap_cons, List.length_append, List.length_cons, List.length_nil] at *; omega
theorem cV_append (a b : List Cl) : cV (a ++ b) = cV a ++ cV b := by simp [cV]
theorem cV_one (c : Cl) : cV [c] = [.int .i64 c.1, .int .i64 c.2.1, .int .i64 c.2.2] := rfl
theorem cV_get : ∀ (l : List Cl) (k : Nat), k < l.length → (cV l)[k * 3]? = some (.int .i64 (cg l k).1) ∧ (cV l)[k * 3 + 1]? = some (.int .i64 (cg l k).2.1) ∧ (cV l)[k * 3 + 2]? = some (.int .i64 (cg l k).2.2)
  | [], k, h => by simp at h
  | p :: l, 0, _ => by simp [cV, cg]
  | p :: l, k + 1, h => by
    have ih := cV_get l k (by simpa using h)
    have e : cV (p :: l) = [.int .i64 p.1, .int .i64 p.2.1, .int .i64 p.2.2] ++ cV l := rfl
    have g : cg (p :: l) (k + 1) = cg l k := rfl
    rw [e, g, List.getElem?_append_right (by simp; omega), List.getElem?_append_right (by simp; omega), List.getElem?_append_right (by simp; omega)]
    simp only [List.length_cons, List.length_nil]
    rw [show (k + 1) * 3 - (0 + 1 + 1 + 1) = k * 3 by omega, show (k + 1) * 3 + 1 - (0 + 1 + 1 + 1) = k * 3 + 1 by omega, show (k + 1) * 3 + 2 - (0 + 1 + 1 + 1) = k * 3 + 2 by omega]
    exact ih
theorem cV_cell (l : List Cl) : ∀ u ∈ cV l, u.oneCell' = true := fun u hu => by
  simp only [cV, List.mem_flatMap] at hu
  obtain ⟨p, _, hp⟩ := hu
  simp at hp
  rcases hp with rfl | rfl | rfl <;> rfl
/-- In w a slice's address leads to cells. -/
def CAt (w : World) (ao : Option Addr) (l : List Cl) : Prop :=
  0 < l.length → ∃ b off, ao = some ⟨b, off, none⟩ ∧ b < w.heap.size ∧ ∀ k, k < l.length →
    w.cell? ⟨b, off + k * 3, none⟩ = some (.int .i64 (cg l k).1) ∧ w.cell? ⟨b, off + k * 3 + 1, none⟩ = some (.int .i64 (cg l k).2.1) ∧ w.cell? ⟨b, off + k * 3 + 2, none⟩ = some (.int .i64 (cg l k).2.2)
theorem CAt.below {w w' : World} {ao : Option Addr} {l : List Cl} (h : CAt w ao l) (hb : Below w.heap.size w w') : CAt w' ao l := fun h0 => by
  obtain ⟨b, off, e, hlt, hc⟩ := h h0
  refine ⟨b, off, e, Nat.lt_of_lt_of_le hlt hb.size, fun k hk => ?_⟩
  rw [hb.cell (p := ⟨b, _, none⟩) hlt, hb.cell (p := ⟨b, _, none⟩) hlt, hb.cell (p := ⟨b, _, none⟩) hlt]
  exact hc k hk
theorem cAt_own {w : World} {base n c : Nat} {ao : Option Addr} {l : List Cl} (hn : n = l.length) (h : w.ownsRow base 32 3 (.slice ao n c) n (cV l)) : CAt w ao l := fun h0 => by
  subst hn
  obtain ⟨ao', c', e, _, hh⟩ := own_form h
  cases e
  obtain ⟨g, rfl, _, hlt, hc⟩ := hh h0
  exact ⟨g, 0, rfl, hlt, fun i hi => by
    have := cV_get l i hi
    rw [Nat.zero_add]
    exact ⟨hc _ _ this.1, hc _ _ this.2.1, hc _ _ this.2.2⟩⟩
/-- What is told: cells in memory, and an error. -/
def ToldC (w : World) (L : List Cl) (E : Int) (e : Ending) (w' : World) : Prop := ∃ ao c, e = .returned (.tuple #[.slice ao L.length c, .int .i64 E]) ∧ CAt w' ao L ∧ Below w.heap.size w w'
theorem ToldC.nil {w w' : World} {E : Int} (h : Below w.heap.size w w') : ToldC w [] E (.returned (.tuple #[.slice none 0 0, .int .i64 E])) w' := ⟨Option.none, 0, rfl, fun h => by simp at h, h⟩
/-- The same, in a new block. -/
def ToldN (w : World) (L : List Cl) (E : Int) (e : Ending) (w' : World) : Prop := ∃ ao c, e = .returned (.tuple #[.slice ao L.length c, .int .i64 E]) ∧ CAt w' ao L ∧ Below w.heap.size w w' ∧ ∀ b o s, ao = some ⟨b, o, s⟩ → w.heap.size ≤ b ∧ b < w'.heap.size
theorem ToldN.nil {w w' : World} {E : Int} (h : Below w.heap.size w w') : ToldN w [] E (.returned (.tuple #[.slice none 0 0, .int .i64 E])) w' := ⟨Option.none, 0, rfl, fun h => by simp at h, h, fun _ _ _ h => by cases h⟩
/-- A cell's children. -/
def kidsL (r : Int) (z : E2) : List Cl := (List.range 7).map fun d => (r + 1, downE z d)
def kdE (r : Int) (z : E2) : Int := if okB r z = true then (if r = 12 then 1 else 0) else 2
def kdL (r : Int) (z : E2) : List Cl := if kdE r z = 0 then kidsL r z else []
theorem kidsL_take (r : Int) (z : E2) {k : Nat} (h : k < 7) : (kidsL r z).take (k + 1) = (kidsL r z).take k ++ [(r + 1, downE z k)] := by
  rw [List.take_add_one]
  congr 1
  unfold kidsL
  rw [List.getElem?_map, List.getElem?_range h]
  rfl
theorem kidsL_get (r : Int) (z : E2) {k : Nat} (h : k < 7) : cg (kidsL r z) k = (r + 1, downE z k) := by
  unfold cg kidsL
  rw [List.getD_eq_getElem?_getD, List.getElem?_map, List.getElem?_range h]
  rfl
theorem info_c : (Tryz.prog.info? 32).map (fun i => (i.zero, i.size, i.bytes)) = some (some (.agg #[.int .i64 0, .int .i64 0, .int .i64 0]), 3, 24) := by kernel_rfl
theorem ok_parts {r : Int} {z : E2} (h : okB r z = true) : 0 ≤ r ∧ r ≤ 12 ∧ Sm 1073741824 z := by
  have h1 := (shapeB_iff _ _).1 ((okB_iff _ _).1 h).1
  exact ⟨h1.1, h1.2.1, h1.2.2.1, h1.2.2.2.1, h1.2.2.2.2.1, h1.2.2.2.2.2⟩
set_option maxRecDepth 100000 in
set_option maxHeartbeats 4000000 in
theorem rkids_new (r : Int) (z : E2) (w : World) : Calls Tryz.prog 17 #[vC r z] w (ToldN w (kdL r z) (kdE r z)) := by
  obtain ⟨i1, hj, hy0, hy1, hy2⟩ := info_parts info_c
  have HOK := Lib.hid (rok_any r z)
  have HAL : Hid (Below w.heap.size w (w.alloc (.cells #[.int .i64 r, .int .i64 z.1, .int .i64 z.2] 32))) := (Below.refl _ _).alloc (Nat.le_refl _) _
  have HTR : Hid (Tri (w.alloc (.cells #[.int .i64 r, .int .i64 z.1, .int .i64 z.2] 32)) w.heap.size r z) := heap_new _ _ _ rfl
  have kA : (w.alloc (.cells #[.int .i64 r, .int .i64 z.1, .int .i64 z.2] 32)).heap.size = w.heap.size + 1 := by simp
  by_cases h : okB r z = true
  · obtain ⟨r0, r12, hsm⟩ := ok_parts h
    rw [h] at HOK
    by_cases hr : r = 12
    · subst hr
      have hE : kdE 12 z = 1 := by unfold kdE; rw [if_pos h, if_pos rfl]
      have hL : kdL 12 z = [] := by unfold kdL; rw [hE]; rfl
      rw [hE, hL]
      clear hE hL h hsm r0 r12
      simp only [vC] at *
      go_enter Tryz.func17, Tryz.ntmps17
      go_wp2_with fail
      refine (HOK.out _).mono ?_
      rintro e w1 ⟨rfl, hb1⟩
      obtain ⟨c0, c1, c2, c3, c4, c5, c6⟩ := (HTR.out.later hb1).cells
      have HB := Lib.hid (HAL.out.trans (hb1.mono (by omega)))
      clear hb1
      go_wp2
      go_ret2
      exact ToldN.nil HB.out
    · have hE : kdE r z = 0 := by unfold kdE; rw [if_pos h, if_neg hr]
      have hL : kdL r z = kidsL r z := by unfold kdL; rw [if_pos hE]
      have q1 : (r == 12) = false := by simp [hr]
      have hm : Sm 4294967296 (mulE z (2, 1)) := by unfold Sm mulE at *; simp only; omega
      have HMU := Lib.hid (rmul_in z (2, 1) (hsm.mono (by decide)) (by unfold Sm; simp) (hm.mono (by decide)))
      have HDN : Hid (∀ k, downE z (k + 1) = ((mulE z (2, 1)).1 + (unitE k).1, (mulE z (2, 1)).2 + (unitE k).2)) := fun k => rfl
      have HD0 : Hid (downE z 0 = mulE z (2, 1)) := by
        show addE (mulE z (2, 1)) (0, 0) = _
        unfold addE; simp
      rw [hE, hL]
      have HTK := Lib.hid (fun k (h : k < 7) => kidsL_take r z h)
      have HLN : Hid ((kidsL r z).length = 7) := by show _ = _; unfold kidsL; simp
      have HT1 : Hid ((kidsL r z).take 1 = [(r + 1, downE z 0)]) := rfl
      generalize kidsL r z = L at *
      generalize mulE z (2, 1) = m at *
      unfold Sm at hm
      obtain ⟨m1, m2, m3, m4⟩ := hm
      clear hE hL h hsm hr
      simp only [vC, vE] at *
      go_enter Tryz.func17, Tryz.ntmps17
      go_wp2_with fail
      refine (HOK.out _).mono ?_
      rintro e w1 ⟨rfl, hb1⟩
      have HTR1 := Lib.hid (HTR.out.later hb1)
      obtain ⟨c0, c1, c2, c3, c4, c5, c6⟩ := HTR1.out.cells
      have HB1 := Lib.hid (HAL.out.trans (hb1.mono (by omega)))
      have hz1 := hb1.size
      clear hb1 HTR HAL
      go_wp2_with fail
      refine (HMU.out _).mono ?_
      rintro e w2 ⟨rfl, hb2⟩
      have HTR2 := Lib.hid (HTR1.out.later hb2)
      have HB2 := Lib.hid (HB1.out.trans (hb2.mono (by omega)))
      have hz2 := hb2.size
      clear hb2 HTR1 HB1 c0 c1 c2 c3 c4 c5 c6
      have hal : Below w2.heap.size w2 (w2.alloc (.cells #[.int .i64 m.1, .int .i64 m.2] 30)) := (Below.refl _ _).alloc (Nat.le_refl _) _
      have M0 : Hid (Two (w2.alloc (.cells #[.int .i64 m.1, .int .i64 m.2] 30)) w2.heap.size (.int .i64 m.1) (.int .i64 m.2)) := Two.of_row (t := 30) (f := _) (heap_new _ _ _ rfl)
      have HTR3 := Lib.hid (HTR2.out.later hal)
      have HB3 := Lib.hid (HB2.out.trans (hal.mono (by omega)))
      have hz3 : w2.heap.size < (w2.alloc (.cells #[.int .i64 m.1, .int .i64 m.2] 30)).heap.size := by simp
      clear hal HTR2 HB2
      go_upto_region 6 with (fail)
      generalize w2.alloc (.cells #[.int .i64 m.1, .int .i64 m.2] 30) = w3 at *
      obtain ⟨c0, c1, c2, c3, c4, c5, c6⟩ := HTR3.out.cells
      obtain ⟨d0, d1⟩ := M0.out
      have q3 : IntKind.i64.wrap (r + 1) = r + 1 := wrap_in (by omega) (by omega)
      go_upto_region 7 with (fail)
      have HO0 : Hid ((w3.alloc (.cells #[.int .i64 (r + 1), .int .i64 m.1, .int .i64 m.2] 32)).ownsRow w3.heap.size 32 3 (.slice (some ⟨w3.heap.size, 0, none⟩) 1 1) 1 (cV (L.take 1))) := by rw [HT1.out, HD0.out]; exact World.ownsRow_lit (size := 3) (e := 32) w3 #[.int .i64 (r + 1), .int .i64 m.1, .int .i64 m.2] 1 (Nat.le_refl _) (by decide) rfl
      have HB4 : Hid (Below w3.heap.size w3 (w3.alloc (.cells #[.int .i64 (r + 1), .int .i64 m.1, .int .i64 m.2] 32))) := (Below.refl _ _).alloc (Nat.le_refl _) _
      generalize w3.alloc (.cells #[.int .i64 (r + 1), .int .i64 m.1, .int .i64 m.2] 32) = w4 at *
      clear c0 c1 c2 c3 c4 c5 d0 d1
      have hb4 := HB4.out.size
      go_wp2
      go_loopw [6, 7] (fun sl i wr => ∃ (k : Nat) (ao : Option Addr) (c : Nat), k ≤ 6 ∧ i = .int .i64 k ∧ sl = .slice ao (k + 1) c ∧ Hid (wr.ownsRow w3.heap.size 32 3 (.slice ao (k + 1) c) (k + 1) (cV (L.take (k + 1))) ∧ Below w3.heap.size w3 wr)) (fun _ i _ => 6 - (intOf i).toNat)
      case atStart => exact ⟨0, _, _, by omega, rfl, rfl, HO0.out, HB4.out⟩
      case round =>
        obtain ⟨k, ao, c, hk, rfl, rfl, HI⟩ := hrel
        by_cases hlt : k < 6
        · have q2 : decide ((k : Int) < 6) = true := decide_eq_true (by omega)
          have HUN := Lib.hid (runit_in k hlt)
          have hu := left_sm (k + 1)
          rw [show leftE (k + 1) = unitE k from rfl] at hu
          unfold Sm at hu
          obtain ⟨u1, u2, u3, u4⟩ := hu
          have HTK2 := Lib.hid (HTK.out (k + 1) (by omega))
          rw [HDN.out k] at HTK2
          simp only [vE] at HUN
          generalize unitE k = u at *
          have hsr := HI.out.2.size
          have HTX := Lib.hid (HTR3.out.later HI.out.2)
          have HMX := Lib.hid (M0.out.later (by omega) HI.out.2)
          have HOW := Lib.hid HI.out.1
          have HBW := Lib.hid (HB3.out.trans (HI.out.2.mono (by omega)))
          have HBX := Lib.hid HI.out.2
          clear HI
          go_wp2_with fail
          refine (HUN.out _).mono ?_
          rintro e w5 ⟨rfl, hb5⟩
          have hz5 := hb5.size
          have HTY := Lib.hid (HTX.out.later hb5)
          have HMY := Lib.hid (HMX.out.later (by omega) hb5)
          have HOY := Lib.hid (own_later HOW.out hb5)
          have HBY := Lib.hid (HBX.out.trans (hb5.mono (by omega)))
          clear hb5 HTX HMX HOW HBX HBW
          have hal : Below w5.heap.size w5 (w5.alloc (.cells #[.int .i64 u.1, .int .i64 u.2] 30)) := (Below.refl _ _).alloc (Nat.le_refl _) _
          have U0 : Hid (Two (w5.alloc (.cells #[.int .i64 u.1, .int .i64 u.2] 30)) w5.heap.size (.int .i64 u.1) (.int .i64 u.2)) := Two.of_row (t := 30) (f := _) (heap_new _ _ _ rfl)
          have HTZ := Lib.hid (HTY.out.later hal)
          have HMZ := Lib.hid (HMY.out.later (by omega) hal)
          have HOZ := Lib.hid (own_later HOY.out hal)
          have HBZ := Lib.hid (HBY.out.trans (hal.mono (by omega)))
          have hz6 : w5.heap.size < (w5.alloc (.cells #[.int .i64 u.1, .int .i64 u.2] 30)).heap.size := by simp
          clear hal HTY HMY HOY HBY
          go_upto_region 11 with (fail)
          generalize w5.alloc (.cells #[.int .i64 u.1, .int .i64 u.2] 30) = w6 at *
          obtain ⟨c0, c1, c2, c3, c4, c5, c6⟩ := HTZ.out.cells
          obtain ⟨d0, d1⟩ := HMZ.out
          obtain ⟨e0, e1⟩ := U0.out
          clear HTZ HMZ U0 c1 c2 c3 c4 c5
          have hown := HOZ.out
          clear HOZ
          go_wp2_with (at_builtin; refine wpList_append_own _ rfl (.tmp 36) (.tmp 52) 35 rfl w3.heap.size 32 i1 (.agg #[.int .i64 0, .int .i64 0, .int .i64 0]) 3 24 Tryz.underlying35 hj hy0 hy1 hy2 rfl (by decide) _ _ _ rfl (hown.alloc _) ⟨w6.heap.size, 0, none⟩ 1 1 [.int .i64 (r + 1), .int .i64 (m.1 + u.1), .int .i64 (m.2 + u.2)] rfl rfl (cells_new _ _ _ _ rfl) (by simp [Value.oneCell']) (by unfold maxLen; omega) (by omega) (by simp; omega) ?_; intro v' w7 hown1 hgrow _)
          have HB7 : Hid (Below w3.heap.size w3 w7) := below_append (HBZ.out.alloc (by omega) (.cells #[.int .i64 (r + 1), .int .i64 (m.1 + u.1), .int .i64 (m.2 + u.2)] 32)) (hown.alloc (.cells #[.int .i64 (r + 1), .int .i64 (m.1 + u.1), .int .i64 (m.2 + u.2)] 32)) (by simp; omega) hgrow
          obtain ⟨ao', c', rfl, _⟩ := own_form hown1
          have HO7 : Hid (w7.ownsRow w3.heap.size 32 3 (.slice ao' (k + 1 + 1) c') (k + 1 + 1) (cV (L.take (k + 1 + 1)))) := by rw [HTK2.out, cV_append]; exact hown1
          clear hown1 hgrow hown
          go_wp2
          go_roundw
          case rel => exact ⟨k + 1, ao', c', by omega, by go_num, rfl, HO7.out, HB7.out⟩
          case measure => simp [intOf]; omega
        · obtain rfl : k = 6 := by omega
          have HF : Hid (ToldN w L 0 (.returned (.tuple #[.slice ao 7 c, .int .i64 0])) wr) := by
            have h1 := HI.out.1
            rw [show L.take (6 + 1) = L from List.take_of_length_le (by rw [HLN.out]; exact Nat.le_refl _)] at h1
            exact ⟨ao, c, by rw [HLN.out], cAt_own (by rw [HLN.out]) h1, HB3.out.trans (HI.out.2.mono (by omega)), fun b o s e => ⟨by have := (own_lt h1 b o s e).1; omega, (own_lt h1 b o s e).2⟩⟩
          clear HI
          go_wp2
          go_ret2
          exact HF.out
  · have hE : kdE r z = 2 := by unfold kdE; rw [if_neg h]
    have hL : kdL r z = [] := by unfold kdL; rw [hE]; rfl
    rw [hE, hL]
    rw [Bool.eq_false_iff.2 h] at HOK
    clear hE hL h
    simp only [vC] at *
    go_enter Tryz.func17, Tryz.ntmps17
    go_wp2_with fail
    refine (HOK.out _).mono ?_
    rintro e w1 ⟨rfl, hb1⟩
    have HB := Lib.hid (HAL.out.trans (hb1.mono (by omega)))
    clear hb1
    go_wp2
    go_ret2
    exact ToldN.nil HB.out
theorem rkids_any (r : Int) (z : E2) (w : World) : Calls Tryz.prog 17 #[vC r z] w (ToldC w (kdL r z) (kdE r z)) :=
  (rkids_new r z w).mono fun _ _ ⟨ao, c, h1, h2, h3, _⟩ => ⟨ao, c, h1, h2, h3⟩
end Go.Proofs.YtkjfdaleamonaaaGreat
/- Plain laws: the cell of a point may be, and all within twelve steps of it. -/
namespace Go.Proofs.YtkjfdaleamonaaaGreat.Wd

def bE : Nat → E2
  | 0 => (1, 0)
  | k + 1 => mulE (bE k) (2, 1)
def conjE (z : E2) : E2 := (z.1 + z.2, -z.2)
theorem bE_tab : bE 0 = (1, 0) ∧ bE 1 = (2, 1) ∧ bE 2 = (3, 5) ∧ bE 3 = (1, 18) ∧ bE 4 = (-16, 55) ∧ bE 5 = (-87, 149) ∧ bE 6 = (-323, 360) ∧ bE 7 = (-1006, 757) ∧ bE 8 = (-2769, 1265) ∧ bE 9 = (-6803, 1026) ∧ bE 10 = (-14632, -3725) ∧ bE 11 = (-25539, -25807) ∧ bE 12 = (-25271, -102960) := by decide
theorem upto12 {m : Nat} (h : m ≤ 12) : m = 0 ∨ m = 1 ∨ m = 2 ∨ m = 3 ∨ m = 4 ∨ m = 5 ∨ m = 6 ∨ m = 7 ∨ m = 8 ∨ m = 9 ∨ m = 10 ∨ m = 11 ∨ m = 12 := by omega
def hN : Nat → Int
  | 0 => 1 | 1 => 3 | 2 => 8 | 3 => 19 | 4 => 55 | 5 => 149 | 6 => 360 | 7 => 1006 | 8 => 2769 | 9 => 6803 | 10 => 18357 | 11 => 51346 | _ => 128231
def rN : Nat → Int
  | 0 => 1560 | 1 => 3900 | 2 => 10140 | 3 => 28860 | 4 => 73320 | 5 => 184080 | 6 => 532740 | 7 => 1375140 | 8 => 3332940 | 9 => 9812400 | 10 => 25731420 | 11 => 60179340 | _ => 180328980
/-- A point, and how far a number of the lattice is from it. -/
def ptE (x y : Int) : E2 := (45 * x - 26 * y, 52 * y)
def errE (m : Nat) (z u : E2) : E2 := (2340 * (mulE (bE m) z).1 - u.1, 2340 * (mulE (bE m) z).2 - u.2)
def dN (m : Nat) : Int := 2340 * 7 ^ m
/-- The number of the cell of a point. -/
def nearE (x y : Int) (r : Nat) : E2 := roundE (mulE (ptE x y) (conjE (bE (12 - r)))) (dN (12 - r))
theorem round_rest {v : E2} {d : Int} (hd : 0 < d) : ∃ s t : Int, v.1 = d * (roundE v d).1 + s ∧ v.2 = d * (roundE v d).2 + t ∧ -d ≤ 2 * s + t ∧ 2 * s + t ≤ d ∧ -d ≤ s + 2 * t ∧ s + 2 * t ≤ d ∧ -d ≤ s - t ∧ s - t ≤ d := by
  have h1 := Int.mul_ediv_add_emod v.1 d
  have h2 := Int.mul_ediv_add_emod v.2 d
  have a1 := Int.emod_nonneg v.1 (show d ≠ 0 by omega)
  have a2 := Int.emod_lt_of_pos v.1 hd
  have b1 := Int.emod_nonneg v.2 (show d ≠ 0 by omega)
  have b2 := Int.emod_lt_of_pos v.2 hd
  have hc : ((cornerE (v.1 % d) (v.2 % d) d).1 = 0 ∨ (cornerE (v.1 % d) (v.2 % d) d).1 = 1) ∧ ((cornerE (v.1 % d) (v.2 % d) d).2 = 0 ∨ (cornerE (v.1 % d) (v.2 % d) d).2 = 1) := by
    unfold cornerE
    (repeat' split) <;> simp
  have hn := (near_first a1 a2 b1 b2 (cornerE (v.1 % d) (v.2 % d) d).1 (cornerE (v.1 % d) (v.2 % d) d).2 (by omega) (by omega) (by omega) (by omega)).2 rfl
  unfold roundE addE
  simp only
  generalize hk : cornerE (v.1 % d) (v.2 % d) d = c at *
  clear hk
  obtain ⟨i, k⟩ := c
  simp only at hc hn ⊢
  refine ⟨v.1 % d - i * d, v.2 % d - k * d, ?_, ?_, ?_⟩
  · rw [Int.mul_add, Int.mul_comm d i]; omega
  · rw [Int.mul_add, Int.mul_comm d k]; omega
  · unfold nearB at hn
    simp only [Bool.and_eq_true, decide_eq_true_eq] at hn
    omega
theorem err_start {m : Nat} (hm : m ≤ 12) (u : E2) : Hex (rN m) (errE m (roundE (mulE u (conjE (bE m))) (dN m)) u) := by
  obtain ⟨q0, q1, q2, q3, q4, q5, q6, q7, q8, q9, q10, q11, q12⟩ := bE_tab
  obtain ⟨s, t, h1, h2, h3⟩ := round_rest (v := mulE u (conjE (bE m))) (d := dN m) (by rcases upto12 hm with rfl | rfl | rfl | rfl | rfl | rfl | rfl | rfl | rfl | rfl | rfl | rfl | rfl <;> decide)
  generalize roundE (mulE u (conjE (bE m))) (dN m) = z at *
  obtain ⟨u1, u2⟩ := u
  obtain ⟨z1, z2⟩ := z
  rcases upto12 hm with rfl | rfl | rfl | rfl | rfl | rfl | rfl | rfl | rfl | rfl | rfl | rfl | rfl <;> simp only [Hex, errE, mulE, conjE, q0, q1, q2, q3, q4, q5, q6, q7, q8, q9, q10, q11, q12, rN] at h1 h2 ⊢ <;> simp only [dN, Int.reducePow, Int.reduceMul] at h1 h2 h3 <;> omega
theorem err_up {m : Nat} (hm : m < 12) {T : Int} {u z : E2} (h : Hex T (errE m z u)) : Hex (T + 2340 * hN m) (errE (m + 1) (upE z) u) := by
  obtain ⟨q0, q1, q2, q3, q4, q5, q6, q7, q8, q9, q10, q11, q12⟩ := bE_tab
  have hz := down_up z
  have hl := left_cases (digE_lt z)
  generalize upE z = q at *
  generalize digE z = d at *
  rw [downE_eq] at hz
  subst hz
  obtain ⟨u1, u2⟩ := u
  obtain ⟨z1, z2⟩ := q
  generalize leftE d = l at *
  obtain ⟨l1, l2⟩ := l
  simp only [Prod.mk.injEq] at hl
  have hl2 : -1 ≤ l1 ∧ l1 ≤ 1 ∧ -1 ≤ l2 ∧ l2 ≤ 1 ∧ -1 ≤ l1 + l2 ∧ l1 + l2 ≤ 1 := by omega
  clear hl
  rcases (show m = 0 ∨ m = 1 ∨ m = 2 ∨ m = 3 ∨ m = 4 ∨ m = 5 ∨ m = 6 ∨ m = 7 ∨ m = 8 ∨ m = 9 ∨ m = 10 ∨ m = 11 by omega) with rfl | rfl | rfl | rfl | rfl | rfl | rfl | rfl | rfl | rfl | rfl | rfl <;> simp only [Hex, errE, mulE, q0, q1, q2, q3, q4, q5, q6, q7, q8, q9, q10, q11, q12, hN, Nat.reduceAdd] at h ⊢ <;> omega
theorem err_by {m : Nat} (hm : m ≤ 12) {T h : Int} {u z e : E2} (hz : Hex T (errE m z u)) (he : Hex h e) : Hex (T + 2340 * (hN m * h)) (errE m (addE z e) u) := by
  obtain ⟨q0, q1, q2, q3, q4, q5, q6, q7, q8, q9, q10, q11, q12⟩ := bE_tab
  obtain ⟨u1, u2⟩ := u
  obtain ⟨z1, z2⟩ := z
  obtain ⟨e1, e2⟩ := e
  rcases upto12 hm with rfl | rfl | rfl | rfl | rfl | rfl | rfl | rfl | rfl | rfl | rfl | rfl | rfl <;> simp only [Hex, errE, mulE, addE, q0, q1, q2, q3, q4, q5, q6, q7, q8, q9, q10, q11, q12, hN] at hz he ⊢ <;> omega
def tN (m : Nat) : Nat → Int
  | 0 => rN m + 2340 * (hN m * 12)
  | k + 1 => tN m k + 2340 * hN (m + k)
theorem err_ups {m : Nat} {u z : E2} (h : Hex (tN m 0) (errE m z u)) {k : Nat} (hk : m + k ≤ 12) : Hex (tN m k) (errE (m + k) (upN k z) u) := by
  induction k with
  | zero => exact h
  | succ k ih => rw [upN_up]; exact err_up (by omega) (ih (by omega))
theorem base_in {b : E2} {x y : Int} (hx : 0 ≤ x ∧ x < 1073741824) (hy : 0 ≤ y ∧ y < 1073741824) (h : Hex 4000000000 (errE 12 b (ptE x y))) : baseB b = true := by
  obtain ⟨_, _, _, _, _, _, _, _, _, _, _, _, q12⟩ := bE_tab
  rw [baseB_iff]
  obtain ⟨b1, b2⟩ := b
  simp only [Hex, errE, mulE, ptE, q12] at h ⊢
  omega
theorem ok_of_base {r : Nat} {z : E2} (hr : r ≤ 12) (h : baseB (upN r z) = true) : okB r z = true := by
  have h1 := dn_of_up r z (Nat.le_refl r)
  rw [Nat.sub_self] at h1
  have h2 := dn_ok h hr (f := dgt r z) fun k _ hk => by unfold dgt; rw [if_pos hk]; exact digE_lt _
  rw [h1] at h2
  exact h2
theorem near_ok {x y : Int} (hx : 0 ≤ x ∧ x < 1073741824) (hy : 0 ≤ y ∧ y < 1073741824) {r : Nat} (hr : r ≤ 12) {e : E2} (he : Hex 12 e) : okB r (addE (nearE x y r) e) = true := by
  refine ok_of_base hr ?_
  have h1 := err_by (m := 12 - r) (by omega) (err_start (by omega) (ptE x y)) he
  have h2 := err_ups (m := 12 - r) h1 (k := r) (by omega)
  rw [show 12 - r + r = 12 by omega] at h2
  refine base_in hx hy (h2.mono ?_)
  rcases upto12 hr with rfl | rfl | rfl | rfl | rfl | rfl | rfl | rfl | rfl | rfl | rfl | rfl | rfl <;> decide
theorem near_ok0 {x y : Int} (hx : 0 ≤ x ∧ x < 1073741824) (hy : 0 ≤ y ∧ y < 1073741824) {r : Nat} (hr : r ≤ 12) : okB r (nearE x y r) = true := by
  have := near_ok hx hy hr (e := (0, 0)) (by unfold Hex; simp)
  unfold addE at this
  simpa using this
end Go.Proofs.YtkjfdaleamonaaaGreat.Wd
/- Words of cells that may be; children of cells that may be (for seats without package near). Plain, but for the names. -/
namespace Go.Proofs.YtkjfdaleamonaaaGreat
open Go.RowKit Go.Lib Wd

theorem ofW_ok {r : Nat} {z : E2} (h : okB r z = true) : ofW r z = wordN r z ∧ ofE r z = 0 ∧ ofW r z < 18446744073709551616 := by
  unfold ofW ofE
  rw [if_pos h, if_pos h]
  have := wordN_lt h
  exact ⟨rfl, rfl, by show wordN r z < _; omega⟩
theorem ofW_inj {r : Nat} {y z : E2} (hy : okB r y = true) (hz : okB r z = true) : ofW r y = ofW r z ↔ y = z := by
  constructor
  · intro h
    rw [(ofW_ok hy).1, (ofW_ok hz).1] at h
    exact (word_inj hy hz h).2
  · rintro rfl; rfl
theorem kid_ok {r : Nat} {z : E2} (h : okB r z = true) (hr : r + 1 ≤ 12) {d : Nat} (hd : d < 7) : okB (r + 1 : Nat) (downE z d) = true := by
  refine ok_of_base hr ?_
  have e : upN (r + 1) (downE z d) = upN r z := by
    show upN r (upE (downE z d)) = _
    rw [upE_down z hd]
  rw [e]
  exact (okB_parts h).2
theorem cv_ok {r : Nat} {z : E2} (h : okB r z = true) : cvR (ofW r z) = r ∧ cvZ (ofW r z) = z ∧ cvE (ofW r z) = 0 := by
  obtain ⟨a1, a2, a3⟩ := word_cell h
  rw [(ofW_ok h).1]
  unfold cvR cvZ cvE
  rw [if_pos a1, if_pos a1, if_pos a1, a2, a3]
  exact ⟨rfl, rfl, rfl⟩
theorem kd_ok {r : Nat} {z : E2} (h : okB r z = true) (hr : r + 1 ≤ 12) : kdE r z = 0 ∧ kdL r z = kidsL r z := by
  have hE : kdE r z = 0 := by unfold kdE; rw [if_pos h, if_neg (by omega)]
  exact ⟨hE, by unfold kdL; rw [if_pos hE]⟩
/-- A list of words, one more. -/
theorem take_w (V : List Int) {k : Nat} (h : k < V.length) : V.take (k + 1) = V.take k ++ [V.getD k 0] := by
  rw [List.take_add_one, List.getElem?_eq_getElem h, List.getD_eq_getElem?_getD, List.getElem?_eq_getElem h]
  rfl
theorem rem12 (r : Int) : (-12 < r.tmod 12 ∧ r.tmod 12 < 12) ∧ (r.tmod 12 + 12).tmod 12 = r % 12 := by
  have h : (-12 < r.tmod 12 ∧ r.tmod 12 < 12) ∧ (r.tmod 12 + 12) % 12 = r % 12 := by
    rcases Int.lt_or_le r 0 with h | h
    · have e : r.tmod 12 = -((-r) % 12) := by rw [← Int.tmod_eq_emod_of_nonneg (show 0 ≤ -r by omega), Int.neg_tmod, Int.neg_neg]
      omega
    · rw [Int.tmod_eq_emod_of_nonneg h]; omega
  refine ⟨h.1, ?_⟩
  rw [Int.tmod_eq_emod_of_nonneg (by omega)]
  exact h.2
theorem andNot_even (y : Int) : bits .andNot .i64 y 1 % 2 = 0 := by
  show IntKind.i64.wrap ((BitVec.ofInt 64 y &&& ~~~BitVec.ofInt 64 1).toNat : Int) % 2 = 0
  have h : (BitVec.ofInt 64 y &&& ~~~BitVec.ofInt 64 1).toNat % 2 = 0 := by
    rw [BitVec.toNat_and]
    have := Nat.and_mod_two_pow (a := (BitVec.ofInt 64 y).toNat) (b := (~~~BitVec.ofInt 64 1).toNat) (n := 1)
    rw [Nat.pow_one] at this
    rw [this, show (~~~BitVec.ofInt 64 1 : BitVec 64).toNat % 2 = 0 by decide, Nat.and_zero]
  rw [IntKind.wrap_i64]
  omega
end Go.Proofs.YtkjfdaleamonaaaGreat
/- Contracts of the library's slices at []uint64: Clone, Compact, Clip, Sort; lists of words in memory. -/
namespace Go.Proofs.YtkjfdaleamonaaaGreat
open Go.RowKit Go.Lib Go.Sort

theorem info_u : (Tryz.prog.info? 25).map (fun i => (i.zero, i.size, i.bytes)) = some (some (.int .u64 0), 1, 8) := by kernel_rfl
def uV (l : List Int) : List Value := l.map (Value.int .u64)
theorem uV_len (l : List Int) : (uV l).length = l.length := by simp [uV]
theorem uV_cell (l : List Int) : ∀ u ∈ uV l, u.oneCell' = true := fun u hu => by
  obtain ⟨x, _, rfl⟩ := List.mem_map.1 hu; rfl
theorem uV_get (l : List Int) (j : Nat) (h : j < l.length) : (uV l)[j]? = some (.int .u64 (l.getD j 0)) := by simp [uV, List.getD_eq_getElem?_getD, h]
/-- In w, below block B, a slice's address leads to words. -/
def WordsAt (w : World) (B : Nat) (ao : Option Addr) (l : List Int) : Prop :=
  0 < l.length → ∃ b off, ao = some ⟨b, off, none⟩ ∧ b < B ∧ ∀ i, i < l.length → w.cell? ⟨b, off + i, none⟩ = some (.int .u64 (l.getD i 0))
theorem WordsAt.below {w w' : World} {B : Nat} {ao : Option Addr} {l : List Int} (h : WordsAt w B ao l) {C : Nat} (hb : Below C w w') (hC : B ≤ C) : WordsAt w' B ao l := fun h0 => by
  obtain ⟨b, off, e, hlt, hc⟩ := h h0
  exact ⟨b, off, e, hlt, fun i hi => by rw [hb.cell (p := ⟨b, _, none⟩) (show b < C by omega)]; exact hc i hi⟩
theorem WordsAt.wider {w : World} {B C : Nat} {ao : Option Addr} {l : List Int} (h : WordsAt w B ao l) (hC : B ≤ C) : WordsAt w C ao l := fun h0 => by
  obtain ⟨b, off, e, hlt, hc⟩ := h h0
  exact ⟨b, off, e, by omega, hc⟩

set_option maxRecDepth 100000 in
set_option maxHeartbeats 400000 in
theorem uclone_any (b off c : Nat) (l : List Int) (w : World) (hl : l.length ≤ 1000000000) (hc : ∀ i, i < l.length → w.cell? ⟨b, off + i, none⟩ = some (.int .u64 (l.getD i 0))) :
    Calls Tryz.prog 70 #[.slice (some ⟨b, off, none⟩) l.length c] w fun e w' => ∃ v', e = .returned v' ∧ w'.ownsRow w.heap.size 25 1 v' l.length (uV l) ∧ Below w.heap.size w w' := by
  obtain ⟨i0, hi, hz0, hz1, hz2⟩ := info_parts info_u
  have q22 : ∀ (w : World) (a : Option Addr) (n c n' c' : Nat), (binOp .eql 22 (.slice a n c) (.slice none n' c')).run Tryz.prog w = .ok (.bool a.isNone) w := fun w a n c n' c' => Lib.run_eql_slice_nil w _ _ a n c n' c' Tryz.underlying22
  have A : Aside (∀ j u, (uV l)[j]? = some u → w.cell? ⟨b, off + j, none⟩ = some u) := fun j u hj => by
    have hjl : j < l.length := by have := (List.getElem?_eq_some_iff.1 hj).1; rwa [uV_len] at this
    rw [uV_get l j hjl] at hj
    cases hj
    exact hc j hjl
  clear hc
  go_enter Tryz.func70, Tryz.ntmps70
  go_wp2_with (at_builtin; refine wpList_append_own _ rfl _ _ 22 rfl w.heap.size 25 i0 (.int .u64 0) 1 8 Tryz.underlying22 hi hz0 hz1 hz2 rfl (by decide) _ _ _ rfl (World.ownsRow_made w #[] 0 (Nat.le_refl _) (Nat.zero_le _) (by simp)) ⟨b, off, none⟩ l.length c (uV l) rfl ?qc1 ?qc2 ?qc3 ?qc4 ?qc5 ?qc6 ?_)
  case qc1 => rw [uV_len, Nat.mul_one]
  case qc2 =>
    intro j u hj
    rw [Addr.add_lit]
    exact Lib.cell?_alloc_some _ (A.out j u hj)
  case qc3 => exact uV_cell l
  case qc4 => rw [Nat.zero_add]; unfold maxLen; omega
  case qc5 => rw [Nat.zero_add]; omega
  case qc6 => simp
  intro v' w1 hown hgrow hnil
  go_wp2
  go_ret
  exact ⟨v', rfl, by simpa using hown, ((Below.refl _ w).alloc (Nat.le_refl _) _).grown hgrow (by simp) (by intro k hk; simp [Value.ownBlock] at hk; omega)⟩

theorem store_world_u {w wr : World} {n blk off : Nat} {dk : Array Int} {i : Nat} (hi : i < dk.size) (hwr : wr = putRow encU (Sort.ahead w n) blk off dk) (x : Int) :
    (wr.setCell ⟨blk, off + i, none⟩ (encU x)).drew = putRow encU (Sort.ahead w (n + 1)) blk off (dk.setIfInBounds i x) := by
  subst hwr
  rw [putRow_set encU _ blk off dk i x hi, ← ahead_drew]
  rfl

set_option maxHeartbeats 4000000 in
set_option maxRecDepth 1000000 in
theorem ucompact_any (blk off cap : Nat) (d : Array Int) (w : World) (hH : Holds encU w blk off d) (hsz : d.size ≤ 9223372036854775807) (hcap : d.size ≤ cap) :
    Calls Tryz.prog 72 #[.slice (some ⟨blk, off, none⟩) d.size cap] w fun e w' => e = .returned (.slice (some ⟨blk, off, none⟩) (compactUpTo d d.size).length cap) ∧ ∃ q, w' = putRow encU (Sort.ahead w q) blk off (compactUpTo d d.size ++ List.replicate (d.size - (compactUpTo d d.size).length) 0).toArray := by
  have v23 : ∀ w, (zeroValue 25).run Tryz.prog w = .ok (.int .u64 0) w := fun _ => by kernel_rfl
  have same : ∀ q, (∀ j, j < d.size → keeps d j = true) → (compactUpTo d d.size).length = d.size ∧ w.drewN q = putRow encU (Sort.ahead w q) blk off (compactUpTo d d.size ++ List.replicate (d.size - (compactUpTo d d.size).length) 0).toArray := by
    intro q hall
    have e : compactUpTo d d.size = d.toList := by rw [compactUpTo_all d _ hall, range_map_get]
    rw [e]
    refine ⟨by simp, ?_⟩
    simp only [Array.length_toList, Nat.sub_self, List.replicate_zero, List.append_nil, Array.toArray_toList]
    exact (putRow_self encU (Sort.ahead w q) blk off d (holds_ahead encU w q blk off d hH)).symm
  have HS : Aside (∀ q, (∀ j, j < d.size → keeps d j = true) → (compactUpTo d d.size).length = d.size ∧ w.drewN q = putRow encU (Sort.ahead w q) blk off (compactUpTo d d.size ++ List.replicate (d.size - (compactUpTo d d.size).length) 0).toArray) := same
  clear same
  by_cases h2 : d.size < 2
  · have HH : Aside (Holds encU w blk off d) := hH
    clear hH
    go_enter Tryz.func72, Tryz.ntmps72
    go_wp2
    go_ret
    obtain ⟨e1, e2⟩ := HS.out 0 (fun j hj => keeps_lt_one d j (by omega))
    exact ⟨by rw [e1]; rfl, 0, e2⟩
  · go_enter Tryz.func72, Tryz.ntmps72
    go_wp2
    go_loopg [3] d.size (fun g s3 wr => ∃ k q : Nat, 1 ≤ k ∧ k ≤ d.size ∧ d.size - k ≤ g ∧ s3 = .int .i64 k ∧ wr = w.drewN q ∧ ∀ j, j < k → keeps d j = true)
    case atStart => exact ⟨1, 0, Nat.le_refl _, by omega, by omega, rfl, rfl, keeps_lt_one d⟩
    case round =>
      obtain ⟨k, q, hk1, hk, hg, rfl, rfl, hall⟩ := hrel
      by_cases hlt : k < d.size
      · obtain ⟨c1, f1⟩ := hH k hlt
        obtain ⟨c0, f0⟩ := hH (k - 1) (by omega)
        have A : Aside (∀ j, j < k → keeps d j = true) := hall
        have HH : Aside (Holds encU w blk off d) := hH
        clear hall hH
        generalize hx : d[k]! = x at c1
        generalize hy : d[k - 1]! = y at c0
        have B : Aside (d[k]! = x ∧ d[k - 1]! = y) := ⟨hx, hy⟩
        clear hx hy
        by_cases hdup : x = y
        · subst hdup
          go_wp2_with fail
          go_region
          go_wp2
          clear c0 c1 f0 f1
          go_loopg [3, 5] d.size (fun g s3 s5 wr => ∃ (kk k2 q2 : Nat) (dk : Array Int), s3 = .int .i64 kk ∧ s5 = .int .i64 k2 ∧ 1 ≤ k2 ∧ k + k2 ≤ d.size ∧ d.size - (k + k2) ≤ g ∧ wr = putRow encU (Sort.ahead w q2) blk off dk ∧ CompInv d (k + k2) kk dk)
          case atStart => exact ⟨k, 1, q + 1, d, rfl, rfl, Nat.le_refl _, by omega, by omega, (putRow_self encU (Sort.ahead w (q + 1)) blk off d (holds_ahead encU w (q + 1) blk off d HH.out)).symm, CompInv.start A.out (keeps_neg (by omega) (by rw [B.out.1, B.out.2]))⟩
          case round =>
            obtain ⟨kk, k2, q2, dk, rfl, rfl, h1, hle, hg2, hwr, hI⟩ := hrel
            have hkk := hI.lt
            have hds := hI.size
            have hHk : Holds encU wr blk off dk := by rw [hwr]; exact holds_putRow encU _ blk off d dk (holds_ahead encU w q2 blk off d HH.out) hds
            have W2 : Aside (wr = putRow encU (Sort.ahead w q2) blk off dk) := hwr
            have I2 : Aside (CompInv d (k + k2) kk dk) := hI
            clear hwr
            by_cases hlt2 : k + k2 < d.size
            · obtain ⟨cm, _⟩ := hHk (k + k2) (by omega)
              obtain ⟨cp, _⟩ := hHk (k + k2 - 1) (by omega)
              obtain ⟨ck, fk⟩ := hHk kk (by omega)
              rw [hI.high (k + k2) (by omega), show off + (k + k2) = off + k + k2 by omega] at cm
              rw [hI.high (k + k2 - 1) (by omega), show off + (k + k2 - 1) = off + k + (k2 - 1) by omega] at cp
              clear hHk hI
              generalize hu : d[k + k2]! = u at cm
              generalize hv : d[k + k2 - 1]! = v at cp
              generalize dk[kk]! = old at ck
              have C : Aside (d[k + k2]! = u ∧ d[k + k2 - 1]! = v) := ⟨hu, hv⟩
              clear hu hv
              by_cases huv : u = v
              · subst huv
                go_wp2_with fail
                go_region
                go_wp2
                go_roundg (d.size - (k + (k2 + 1)))
                case measure => omega
                case rel => exact ⟨kk, k2 + 1, q2 + 1, dk, rfl, by go_num, by omega, by omega, Nat.le_refl _, by rw [W2.out]; rfl, I2.out.skip (keeps_neg (by omega) (by rw [C.out.1, C.out.2]))⟩
              · go_wp2_with fail
                go_region
                go_wp2
                go_roundg (d.size - (k + (k2 + 1)))
                case measure => omega
                case rel => exact ⟨kk + 1, k2 + 1, q2 + 1, dk.setIfInBounds kk u, by go_num, by go_num, by omega, by omega, Nat.le_refl _, store_world_u (by omega) W2.out u, by have := I2.out.keep hlt2 (keeps_pos (by rw [C.out.1, C.out.2]; exact huv)); rwa [C.out.1] at this⟩
            · have hend : k + k2 = d.size := by omega
              have hcl : ∀ ty, (Builtin.clear_ #[22] ty #[.slice (some ⟨blk, off + kk, none⟩) (d.size - kk) (cap - kk)]).run Tryz.prog wr = .ok (.tuple #[]) (wr.setCells blk (off + kk) (List.replicate (d.size - kk) (encU 0))) :=
                fun ty => Lib.run_clear_slice wr _ _ ty _ Tryz.underlying22 v23 rfl rfl blk (off + kk) _ _ (by omega) (fun j hj => by rw [show off + kk + j = off + (kk + j) by omega, (hHk (kk + j) (by omega)).1]; rfl) (fun j hj => by rw [show off + kk + j = off + (kk + j) by omega]; exact (hHk (kk + j) (by omega)).2)
              clear hHk hI
              go_wp2
              go_ret
              have hI := I2.out
              rw [hend] at hI
              refine ⟨by rw [hI.len]; rfl, q2, ?_⟩
              rw [hI.len, ← hI.done 0, ← putRow_setCells encU _ blk off _ dk kk (by simp; omega), ← W2.out, List.map_replicate]
        · go_wp2_with fail
          go_region
          go_wp2
          go_roundg (d.size - (k + 1))
          case measure => omega
          case rel =>
            refine ⟨k + 1, q + 1, by omega, by omega, Nat.le_refl _, by go_num, rfl, fun j hj => ?_⟩
            by_cases e : j = k
            · subst e
              exact keeps_pos (by rw [B.out.1, B.out.2]; exact hdup)
            · exact A.out j (by omega)
      · have : k = d.size := by omega
        subst this
        have HH : Aside (Holds encU w blk off d) := hH
        clear hH
        go_wp2
        go_ret
        obtain ⟨e1, e2⟩ := HS.out q hall
        exact ⟨by rw [e1]; rfl, q, e2⟩

end Go.Proofs.YtkjfdaleamonaaaGreat
/- The contract of cells.Set: words, rising, each once. -/
namespace Go.Proofs.YtkjfdaleamonaaaGreat
open Go.RowKit Go.Lib Go.Sort

def srt (l : List Int) : List Int := l.mergeSort fun x y => decide (x ≤ y)
def setF (l : List Int) : List Int := compactUpTo (srt l).toArray (srt l).length
theorem srt_length (l : List Int) : (srt l).length = l.length := List.length_mergeSort l
theorem cut_length (d : Array Int) (m : Nat) : (compactUpTo d m).length ≤ m := by
  induction m with
  | zero => simp [compactUpTo]
  | succ m ih => rw [compactUpTo_succ, List.length_append]; split <;> simp <;> omega
theorem setF_nil : setF [] = [] := by simp [setF, srt, compactUpTo]

theorem below_growU {B : Nat} {w0 w : World} {os : Array Obj} (h : Below B w0 w) (hB : B ≤ w.heap.size) : Below B w0 (grow w os) :=
  ⟨h.os, h.tape, h.output, by have := h.size; simp [grow]; omega, fun k hk => by rw [← h.block k hk]; exact heap_grow_old w os (show k < w.heap.size by omega)⟩
theorem holds_own {w : World} {base n c : Nat} {ao : Option Addr} {l : List Int} (hn : 0 < n) (h : w.ownsRow base 25 1 (.slice ao n c) n (uV l)) :
    ∃ g, ao = some ⟨g, 0, none⟩ ∧ base ≤ g ∧ g < w.heap.size ∧ n ≤ c ∧ Holds encU w g 0 l.toArray := by
  obtain ⟨ao', c', e, hnc, hh⟩ := own_form h
  cases e
  obtain ⟨g, rfl, hb, hg, hc⟩ := hh hn
  refine ⟨g, rfl, hb, hg, hnc, fun j hj => ?_⟩
  have hj' : j < l.length := by simpa using hj
  refine ⟨?_, h.frozenAt _⟩
  rw [hc (0 + j) _ (by rw [Nat.zero_add]; exact uV_get l j hj')]
  congr 2
  simp [List.getD_eq_getElem?_getD, hj', getElem!_pos]
theorem words_of_holds {w : World} {g : Nat} {l : List Int} (hg : g < w.heap.size) (h : Holds encU w g 0 l.toArray) (k : Nat) (hk : k ≤ l.length) : WordsAt w w.heap.size (some ⟨g, 0, none⟩) (l.take k) := fun _ => by
  refine ⟨g, 0, rfl, hg, fun i hi => ?_⟩
  have hi' : i < k ∧ i < l.length := by simp at hi; omega
  rw [(h i (by simpa using hi'.2)).1]
  congr 2
  simp [List.getD_eq_getElem?_getD, hi'.1, hi'.2, getElem!_pos]

set_option maxRecDepth 100000 in
set_option maxHeartbeats 1000000 in
theorem uclip_any (ao : Option Addr) (n c : Nat) (w : World) (h : n ≤ c) : Calls Tryz.prog 71 #[.slice ao n c] w fun e w' => e = .returned (.slice ao n n) ∧ w = w' := by
  go_enter Tryz.func71, Tryz.ntmps71
  go_wp2
  go_ret
  exact ⟨rfl, rfl⟩

set_option maxRecDepth 100000 in
set_option maxHeartbeats 1000000 in
theorem uclone_none (ao : Option Addr) (c : Nat) (w : World) :
    Calls Tryz.prog 70 #[.slice ao 0 c] w fun e w' => ∃ ao' c', e = .returned (.slice ao' 0 c') ∧ Below w.heap.size w w' := by
  have q22 : ∀ (w : World) (a : Option Addr) (n c n' c' : Nat), (binOp .eql 22 (.slice a n c) (.slice none n' c')).run Tryz.prog w = .ok (.bool a.isNone) w := fun w a n c n' c' => Lib.run_eql_slice_nil w _ _ a n c n' c' Tryz.underlying22
  cases ao with
  | none =>
    go_enter Tryz.func70, Tryz.ntmps70
    go_wp2
    go_ret
    exact ⟨_, _, rfl, Below.refl _ _⟩
  | some a =>
    go_enter Tryz.func70, Tryz.ntmps70
    go_wp2
    go_ret
    exact ⟨_, _, rfl, (Below.refl _ _).alloc (Nat.le_refl _) _⟩
set_option maxRecDepth 100000 in
set_option maxHeartbeats 1000000 in
theorem ucompact_none (ao : Option Addr) (c : Nat) (w : World) : Calls Tryz.prog 72 #[.slice ao 0 c] w fun e w' => e = .returned (.slice ao 0 c) ∧ w = w' := by
  go_enter Tryz.func72, Tryz.ntmps72
  go_wp2
  go_ret
  exact ⟨rfl, rfl⟩

set_option maxRecDepth 100000 in
set_option maxHeartbeats 1000000 in
theorem uset_any (ao : Option Addr) (c : Nat) (l : List Int) (w : World) (B : Nat) (h : WordsAt w B ao l) (hn : l.length ≤ 1000000000) :
    Calls Tryz.prog 39 #[.slice ao l.length c] w fun e w' => ∃ ao' c', e = .returned (.slice ao' (setF l).length c') ∧ (ao' = none → c' = 0) ∧ WordsAt w' w'.heap.size ao' (setF l) ∧ Below w.heap.size w w' := by
  by_cases h0 : l.length = 0
  · obtain rfl : l = [] := List.eq_nil_of_length_eq_zero h0
    rw [setF_nil]
    simp only [List.length_nil]
    go_enter Tryz.func39, Tryz.ntmps39
    go_wp2_with fail
    refine (uclone_none ao c _).mono ?_
    rintro e w1 ⟨a1, c1, rfl, hb⟩
    go_wp2_with fail
    refine (u64_Sort_int_nil a1 c1 _).mono ?_
    rintro e w2 ⟨rfl, hw⟩
    rw [hw]
    clear hw
    go_wp2_with fail
    refine (ucompact_none a1 c1 _).mono ?_
    rintro e w2 ⟨rfl, rfl⟩
    go_wp2_with fail
    refine (uclip_any a1 0 c1 _ (Nat.zero_le _)).mono ?_
    rintro e w2 ⟨rfl, rfl⟩
    go_wp2
    go_ret
    exact ⟨_, _, rfl, fun _ => rfl, fun h => by simp at h, hb⟩
  · obtain ⟨b, off, rfl, hlt, hc⟩ := h (by omega)
    have HC := Lib.hid hc
    obtain ⟨n, hnn⟩ : ∃ n, l.length = n := ⟨_, rfl⟩
    have HCL := Lib.hid (uclone_any b off c l w hn hc)
    have HN := Lib.hid hnn
    rw [hnn] at hn h0 HCL ⊢
    clear hc hnn h
    go_enter Tryz.func39, Tryz.ntmps39
    go_wp2_with fail
    refine HCL.out.mono ?_
    rintro e w1 ⟨v, rfl, hown, hb1⟩
    obtain ⟨a1, c1, rfl, hnc, _⟩ := own_form hown
    obtain ⟨g, rfl, hg0, hg, _, hH⟩ := holds_own (by omega) hown
    have HO := Lib.hid hH
    have HS := Lib.hid (u64_slices_Sort_int g 0 c1 l w1 hH hg (by rw [HN.out]; omega))
    have HB1 := Lib.hid hb1
    rw [HN.out] at HS
    clear hown hb1 hH
    go_wp2_with fail
    refine HS.out.mono ?_
    rintro e w2 ⟨rfl, q, os, hw2⟩
    have hH2 : Holds encU w2 g 0 (srt l).toArray := by
      rw [hw2]
      refine holds_grow _ _ _ _ _ _ (by simpa [putRow, mapBlock, Sort.ahead] using hg) ?_
      exact holds_putRow _ _ _ _ l.toArray _ (holds_ahead _ _ _ _ _ _ HO.out) (by simp)
    have hb2 : Below w.heap.size w w2 := by
      rw [hw2]
      refine below_growU (below_putRow HB1.out hg0) ?_
      have := HB1.out.size
      simpa [putRow, mapBlock, Sort.ahead] using this
    have hg2 : g < w2.heap.size := by
      rw [hw2]
      have : g < (putRow (Value.int .u64) (Sort.ahead w1 q) g 0 (l.mergeSort fun x y => decide (x ≤ y)).toArray).heap.size := by simpa [putRow, mapBlock, Sort.ahead] using hg
      simp only [grow, Array.size_append]
      omega
    have hsl : (srt l).toArray.size = n := by simp [srt_length, HN.out]
    have HCO := Lib.hid (ucompact_any g 0 c1 (srt l).toArray w2 hH2 (by rw [hsl]; omega) (by rw [hsl]; omega))
    have HB2 := Lib.hid hb2
    have HO2 := Lib.hid hH2
    have HW := Lib.hid hg2
    rw [hsl] at HCO
    have HL : Hid (compactUpTo (srt l).toArray n = setF l) := by show _ = _; unfold setF; rw [srt_length, HN.out]
    rw [HL.out] at HCO
    clear hw2 hH2 hb2 hg2 HS
    go_wp2_with fail
    refine HCO.out.mono ?_
    rintro e w3 ⟨rfl, q3, hw3⟩
    have hle : (setF l).length ≤ n := by rw [← HL.out]; exact cut_length _ _
    have hH3 : Holds encU w3 g 0 (setF l ++ List.replicate (n - (setF l).length) 0).toArray := by
      rw [hw3]
      exact holds_putRow _ _ _ _ (srt l).toArray _ (holds_ahead _ _ _ _ _ _ HO2.out) (by rw [hsl]; simp; omega)
    have hb3 : Below w.heap.size w w3 := by rw [hw3]; exact below_putRow HB2.out hg0
    have hg3 : g < w3.heap.size := by rw [hw3]; simpa [putRow, mapBlock, Sort.ahead] using HW.out
    have HR : Hid (WordsAt w3 w3.heap.size (some ⟨g, 0, none⟩) (setF l)) := by
      have := words_of_holds hg3 hH3 (setF l).length (by simp)
      rwa [List.take_left] at this
    have HB3 := Lib.hid hb3
    have HCP := Lib.hid (uclip_any (some ⟨g, 0, none⟩) (setF l).length c1 w3 (by omega))
    clear hw3 hH3 hb3 hg3
    go_wp2_with fail
    refine HCP.out.mono ?_
    rintro e w4 ⟨rfl, rfl⟩
    go_wp2
    go_ret
    exact ⟨_, _, rfl, fun h => (by cases h), HR.out, HB3.out⟩
end Go.Proofs.YtkjfdaleamonaaaGreat
/- Contracts at []uint64 that only read: Index, Contains, BinarySearch, (set).in, (set).out, cells.Has; the reference's Has and Same. -/
namespace Go.Proofs.YtkjfdaleamonaaaGreat
open Go.RowKit Go.Lib Go.Sort

def hasF (l : List Int) (x : Int) : Bool := l.contains x
theorem hasF_yes {l : List Int} {x : Int} {j : Nat} (hj : j < l.length) (h : l.getD j 0 = x) : hasF l x = true := by
  unfold hasF
  rw [List.contains_iff_mem]
  rw [← h, List.getD_eq_getElem?_getD, List.getElem?_eq_getElem hj, Option.getD_some]
  exact List.getElem_mem _
theorem hasF_no {l : List Int} {x : Int} (h : ∀ j, j < l.length → l.getD j 0 ≠ x) : hasF l x = false := by
  unfold hasF
  rw [Bool.eq_false_iff, ne_eq, List.contains_iff_mem]
  intro hm
  obtain ⟨j, hj, e⟩ := List.getElem_of_mem hm
  exact h j hj (by rw [List.getD_eq_getElem?_getD, List.getElem?_eq_getElem hj, Option.getD_some, e])

set_option maxRecDepth 100000 in
set_option maxHeartbeats 1000000 in
theorem uindex_any (ao : Option Addr) (c : Nat) (l : List Int) (x : Int) (w : World) (B : Nat) (h : WordsAt w B ao l) (hn : l.length ≤ 1000000000) :
    Calls Tryz.prog 104 #[.slice ao l.length c, .int .u64 x] w fun e w' => ∃ r : Int, e = .returned (.int .i64 r) ∧ decide (0 ≤ r) = hasF l x ∧ w = w' := by
  obtain ⟨n, hnn⟩ : ∃ n, l.length = n := ⟨_, rfl⟩
  have HN := Lib.hid hnn
  have HW := Lib.hid h
  rw [hnn] at hn ⊢
  clear hnn h
  go_enter Tryz.func104, Tryz.ntmps104
  go_wp2
  go_loop [8] (fun i => ∃ k : Nat, k ≤ n ∧ i = .int .i64 k ∧ Hid (∀ j, j < k → l.getD j 0 ≠ x)) (fun i => n - (intOf i).toNat)
  case atStart => exact ⟨0, Nat.zero_le _, rfl, fun j hj => by omega⟩
  case round =>
    obtain ⟨k, hk, rfl, HA⟩ := hrel
    by_cases hlt : k < n
    · obtain ⟨b, off, rfl, hb, hc⟩ := HW.out (by rw [HN.out]; omega)
      have c0 := hc k (by rw [HN.out]; exact hlt)
      clear hc
      have HY : Hid (l.getD k 0 = x → hasF l x = true) := fun e => hasF_yes (by rw [HN.out]; exact hlt) e
      have HS : Hid (l.getD k 0 ≠ x → ∀ j, j < k + 1 → l.getD j 0 ≠ x) := fun e j hj => by
        by_cases ej : j = k
        · rw [ej]; exact e
        · exact HA.out j (by omega)
      generalize l.getD k 0 = y at c0 HY HS
      by_cases he : x = y
      · have hq : (x == y) = true := by simpa using he
        have HF : Hid (hasF l x = true) := HY.out he.symm
        clear he HY HS
        go_wp2
        go_ret
        exact ⟨_, rfl, by rw [HF.out]; simp, rfl⟩
      · have hq : (x == y) = false := by simpa using he
        have HS2 : Hid (∀ j, j < k + 1 → l.getD j 0 ≠ x) := HS.out (fun e => he e.symm)
        clear he HY HS
        go_wp2
        go_round
        case rel => exact ⟨k + 1, by omega, by go_num, HS2⟩
        case measure => simp [intOf]; omega
    · obtain rfl : k = n := by omega
      have HF : Hid (hasF l x = false) := hasF_no (fun j hj => HA.out j (by rw [HN.out] at hj; exact hj))
      clear HA
      go_wp2
      go_ret
      exact ⟨_, rfl, by rw [HF.out]; simp, rfl⟩
set_option maxHeartbeats 400000 in
theorem ucontains_any (ao : Option Addr) (c : Nat) (l : List Int) (x : Int) (w : World) (B : Nat) (h : WordsAt w B ao l) (hn : l.length ≤ 1000000000) :
    Calls Tryz.prog 75 #[.slice ao l.length c, .int .u64 x] w fun e w' => e = .returned (.bool (hasF l x)) ∧ w = w' := by
  have HI := Lib.hid (uindex_any ao c l x w B h hn)
  go_enter Tryz.func75, Tryz.ntmps75
  go_wp2_with fail
  refine HI.out.mono ?_
  rintro e w1 ⟨r, rfl, hr, rfl⟩
  have HR := Lib.hid hr
  clear hr
  go_wp2
  go_ret
  exact ⟨ret_bool HR.out, rfl⟩
set_option maxHeartbeats 400000 in
theorem uhas_any (ao : Option Addr) (c : Nat) (l : List Int) (x : Int) (w : World) (B : Nat) (h : WordsAt w B ao l) (hn : l.length ≤ 1000000000) :
    Calls Tryz.prog 41 #[.slice ao l.length c, .int .u64 x] w fun e w' => e = .returned (.bool (hasF l x)) ∧ w = w' := by
  have HI := Lib.hid (ucontains_any ao c l x w B h hn)
  go_enter Tryz.func41, Tryz.ntmps41
  go_wp2_with fail
  refine HI.out.mono ?_
  rintro e w1 ⟨rfl, rfl⟩
  go_wp2
  go_ret
  exact ⟨rfl, rfl⟩

/-- Words, rising (each once or not). -/
def Rising (l : List Int) : Prop := ∀ i j, i ≤ j → j < l.length → l.getD i 0 ≤ l.getD j 0
def Found (l : List Int) (x : Int) (w : World) (e : Ending) (w' : World) : Prop := ∃ p : Int, e = .returned (.tuple #[.int .i64 p, .bool (hasF l x)]) ∧ w = w'
set_option maxRecDepth 100000 in
set_option maxHeartbeats 2000000 in
theorem rhas_any (ao : Option Addr) (c : Nat) (l : List Int) (x : Int) (w : World) (B : Nat) (h : WordsAt w B ao l) (hn : l.length ≤ 1000000000) (hr : Rising l) :
    Calls Tryz.prog 33 #[.slice ao l.length c, .int .u64 x] w fun e w' => e = .returned (.bool (hasF l x)) ∧ w = w' := by
  obtain ⟨n, hnn⟩ : ∃ n, l.length = n := ⟨_, rfl⟩
  have HN := Lib.hid hnn
  have HW := Lib.hid h
  have HR := Lib.hid hr
  rw [hnn] at hn ⊢
  clear hnn h hr
  go_enter Tryz.func33, Tryz.ntmps33
  go_wp2
  go_loop [5, 6] (fun i j => ∃ lo hi : Nat, lo ≤ hi ∧ hi ≤ n ∧ i = .int .i64 lo ∧ j = .int .i64 hi ∧ Hid ((∀ k, k < lo → l.getD k 0 < x) ∧ ∀ k, hi ≤ k → k < n → x ≤ l.getD k 0)) (fun i j => (intOf j).toNat - (intOf i).toNat)
  case atStart => exact ⟨0, n, Nat.zero_le _, Nat.le_refl _, rfl, rfl, fun k hk => by omega, fun k h1 h2 => by omega⟩
  case round =>
    obtain ⟨lo, hi, h1, h2, rfl, rfl, HA⟩ := hrel
    by_cases hlt : lo < hi
    · obtain ⟨b, off, rfl, hb, hc⟩ := HW.out (by rw [HN.out]; omega)
      obtain ⟨m, hm⟩ : ∃ m, (lo + hi) / 2 = m := ⟨_, rfl⟩
      have hm1 : lo ≤ m := by omega
      have hm2 : m < hi := by omega
      have hmI : ((lo : Int) + (hi : Int)) / 2 = (m : Int) := by omega
      have c0 := hc m (by rw [HN.out]; omega)
      have HL1 : Hid (l.getD m 0 < x → ∀ k, k < m + 1 → l.getD k 0 < x) := fun e k hk => by
        have := HR.out k m (by omega) (by rw [HN.out]; omega)
        omega
      have HL2 : Hid (¬ l.getD m 0 < x → ∀ k, m ≤ k → k < n → x ≤ l.getD k 0) := fun e k h3 h4 => by
        have := HR.out m k h3 (by rw [HN.out]; exact h4)
        omega
      generalize l.getD m 0 = y at c0 HL1 HL2
      clear hc hm
      by_cases hyx : y < x
      · have HLL := Lib.hid (HL1.out hyx)
        clear HL1 HL2
        go_wp2
        go_round
        case rel => exact ⟨m + 1, hi, by omega, h2, by go_num, rfl, HLL.out, HA.out.2⟩
        case measure => simp [intOf]; omega
      · have HLL := Lib.hid (HL2.out hyx)
        clear HL1 HL2
        go_wp2
        go_round
        case rel => exact ⟨lo, m, by omega, by omega, rfl, by go_num, HA.out.1, HLL.out⟩
        case measure => simp [intOf]; omega
    · obtain rfl : lo = hi := by omega
      by_cases hln : lo < n
      · obtain ⟨b, off, rfl, hb, hc⟩ := HW.out (by rw [HN.out]; omega)
        have c0 := hc lo (by rw [HN.out]; exact hln)
        have HF : Hid ((l.getD lo 0 == x) = hasF l x) := by
          show _ = _
          by_cases e : l.getD lo 0 = x
          · rw [hasF_yes (by rw [HN.out]; exact hln) e]; simpa using e
          · rw [hasF_no fun j hj => by
              rw [HN.out] at hj
              by_cases hjl : j < lo
              · have := HA.out.1 j hjl; omega
              · have h3 := HA.out.2 lo (Nat.le_refl _) hln
                have h4 := HR.out lo j (by omega) (by rw [HN.out]; exact hj)
                omega]
            simpa using e
        generalize l.getD lo 0 = y at c0 HF
        clear hc
        have q0 : decide ((lo : Int) < (n : Int)) = true := by simp; omega
        go_wp2
        go_ret
        exact ⟨ret_bool HF.out, rfl⟩
      · obtain rfl : lo = n := by omega
        have HF : Hid (hasF l x = false) := hasF_no fun j hj => by
          rw [HN.out] at hj
          have := HA.out.1 j hj
          omega
        have q0 : decide ((lo : Int) < (lo : Int)) = false := by simp
        go_wp2
        go_ret
        exact ⟨ret_bool HF.out.symm, rfl⟩
end Go.Proofs.YtkjfdaleamonaaaGreat
/- The plain laws of sets of words: rising, each once; what is in them. No Go in sight. -/
namespace Go.Proofs.YtkjfdaleamonaaaGreat
open Go.RowKit Go.Lib Go.Sort

def Up (l : List Int) : Prop := l.Pairwise (· < ·)
theorem getD_mem {l : List Int} {j : Nat} (h : j < l.length) : l.getD j 0 ∈ l := by
  rw [List.getD_eq_getElem?_getD, List.getElem?_eq_getElem h, Option.getD_some]; exact List.getElem_mem h
theorem hasF_iff (l : List Int) (x : Int) : hasF l x = true ↔ x ∈ l := by unfold hasF; exact List.contains_iff_mem
theorem srt_mem (l : List Int) (x : Int) : x ∈ srt l ↔ x ∈ l := List.mem_mergeSort
theorem srt_sorted (l : List Int) : (srt l).Pairwise (· ≤ ·) := by
  have := List.pairwise_mergeSort (le := fun x y : Int => decide (x ≤ y)) (fun a b c h1 h2 => by simp at *; omega) (fun a b => by simp; omega) l
  exact this.imp fun h => by simpa using h
theorem cut_mem (d : Array Int) (x : Int) : ∀ m, m ≤ d.size → (x ∈ compactUpTo d m ↔ ∃ j, j < m ∧ d[j]! = x)
  | 0, _ => by simp [compactUpTo]
  | m + 1, h => by
    rw [compactUpTo_succ, List.mem_append, cut_mem d x m (by omega)]
    by_cases hk : 0 < m ∧ d[m]! = d[m - 1]!
    · rw [keeps_neg hk.1 hk.2]
      simp only [Bool.false_eq_true, if_false, List.not_mem_nil, or_false]
      constructor
      · rintro ⟨j, hj, e⟩; exact ⟨j, by omega, e⟩
      · rintro ⟨j, hj, e⟩
        by_cases ej : j = m
        · subst ej; exact ⟨j - 1, by omega, by rw [← hk.2]; exact e⟩
        · exact ⟨j, by omega, e⟩
    · have hkk : keeps d m = true := by
        by_cases h0 : m = 0
        · exact keeps_lt_one d m (by omega)
        · exact keeps_pos fun e => hk ⟨by omega, e⟩
      rw [hkk]
      simp only [if_true, List.mem_singleton]
      constructor
      · rintro (⟨j, hj, e⟩ | e)
        · exact ⟨j, by omega, e⟩
        · exact ⟨m, by omega, e.symm⟩
      · rintro ⟨j, hj, e⟩
        by_cases ej : j = m
        · subst ej; exact .inr e.symm
        · exact .inl ⟨j, by omega, e⟩
theorem cut_up (d : Array Int) (hs : ∀ i j, i ≤ j → j < d.size → d[i]! ≤ d[j]!) : ∀ m, m ≤ d.size → Up (compactUpTo d m)
  | 0, _ => by simp [compactUpTo, Up]
  | m + 1, h => by
    rw [compactUpTo_succ]
    have ih := cut_up d hs m (by omega)
    by_cases hk : 0 < m ∧ d[m]! = d[m - 1]!
    · rw [keeps_neg hk.1 hk.2]; simpa using ih
    · have hkk : keeps d m = true := by
        by_cases h0 : m = 0
        · exact keeps_lt_one d m (by omega)
        · exact keeps_pos fun e => hk ⟨by omega, e⟩
      rw [hkk]
      simp only [if_true]
      unfold Up at *
      rw [List.pairwise_append]
      refine ⟨ih, by simp, fun a ha b hb => ?_⟩
      obtain rfl : b = d[m]! := by simpa using hb
      obtain ⟨j, hj, e⟩ := (cut_mem d a m (by omega)).1 ha
      have h1 := hs j (m - 1) (by omega) (by omega)
      have h2 := hs (m - 1) m (by omega) (by omega)
      have h3 : d[m]! ≠ d[m - 1]! := fun e => hk ⟨by omega, e⟩
      omega
theorem arr_get (l : List Int) (j : Nat) (h : j < l.length) : l.toArray[j]! = l.getD j 0 := by simp [List.getD_eq_getElem?_getD, h, getElem!_pos]
theorem sorted_getD {l : List Int} (h : l.Pairwise (· ≤ ·)) : ∀ i j, i ≤ j → j < l.length → l.getD i 0 ≤ l.getD j 0 := fun i j hij hj => by
  rw [List.getD_eq_getElem?_getD, List.getD_eq_getElem?_getD, List.getElem?_eq_getElem hj, List.getElem?_eq_getElem (by omega), Option.getD_some, Option.getD_some]
  by_cases e : i = j
  · subst e; exact Int.le_refl _
  · exact List.pairwise_iff_getElem.1 h i j (by omega) hj (by omega)
theorem setF_up (l : List Int) : Up (setF l) := by
  unfold setF
  refine cut_up _ (fun i j hij hj => ?_) _ (by simp)
  have hj' : j < (srt l).length := by simpa using hj
  rw [arr_get _ i (by omega), arr_get _ j hj']
  exact sorted_getD (srt_sorted l) i j hij hj'
theorem setF_mem (l : List Int) (x : Int) : x ∈ setF l ↔ x ∈ l := by
  unfold setF
  rw [cut_mem _ _ _ (by simp), ← srt_mem l x]
  constructor
  · rintro ⟨j, hj, rfl⟩; rw [arr_get _ j hj]; exact getD_mem hj
  · intro h
    obtain ⟨j, hj, e⟩ := List.getElem_of_mem h
    exact ⟨j, hj, by rw [arr_get _ j hj, List.getD_eq_getElem?_getD, List.getElem?_eq_getElem hj, Option.getD_some, e]⟩
theorem Up.rising {l : List Int} (h : Up l) : Rising l := fun i j hij hj => sorted_getD (h.imp fun h => by omega) i j hij hj
/-- Rising words, each once, are one list if they are the same words. -/
theorem Up.ext : ∀ {l m : List Int}, Up l → Up m → (∀ x, x ∈ l ↔ x ∈ m) → l = m
  | [], [], _, _, _ => rfl
  | [], b :: m, _, _, h => absurd ((h b).2 (by simp)) (by simp)
  | a :: l, [], _, _, h => absurd ((h a).1 (by simp)) (by simp)
  | a :: l, b :: m, h1, h2, h => by
    unfold Up at *
    rw [List.pairwise_cons] at h1 h2
    have hab : a = b := by
      have p1 := (h a).1 (by simp)
      have p2 := (h b).2 (by simp)
      rcases List.mem_cons.1 p1 with e | p1
      · exact e
      · rcases List.mem_cons.1 p2 with e | p2
        · exact e.symm
        · have := h1.1 _ p2; have := h2.1 _ p1; omega
    subst hab
    congr 1
    refine Up.ext h1.2 h2.2 fun x => ⟨fun hx => ?_, fun hx => ?_⟩
    · rcases List.mem_cons.1 ((h x).1 (by simp [hx])) with e | p
      · have := h1.1 _ hx; omega
      · exact p
    · rcases List.mem_cons.1 ((h x).2 (by simp [hx])) with e | p
      · have := h2.1 _ hx; omega
      · exact p
theorem setF_length (l : List Int) : (setF l).length ≤ l.length := by
  unfold setF
  exact Nat.le_trans (cut_length _ _) (Nat.le_of_eq (srt_length l))
theorem filter_up {l : List Int} (h : Up l) (p : Int → Bool) : Up (l.filter p) := h.filter p
theorem setF_up_eq {l : List Int} (h : Up l) : setF l = l := (setF_up l).ext h fun x => setF_mem l x
end Go.Proofs.YtkjfdaleamonaaaGreat
/- Plain laws: a word's parent, its size; the first fault of a list; groups by parents; the words of children. -/
namespace Go.Proofs.YtkjfdaleamonaaaGreat
open Go.RowKit Go.Lib Wd

/-- A word's parent, and the error; a word's size. -/
def parW (w : Nat) : Nat := if isW w = true ∧ rW w ≠ 0 then ofW ((rW w : Int) - 1) (upE (zW w)) else 0
def parE (w : Nat) : Int := if isW w = true then (if rW w = 0 then 3 else 0) else 5
def resW (w : Nat) : Int := if isW w = true then (rW w : Int) else -1
/-- The first fault of a list. -/
def chkF (r : Int) : List Int → Int
  | [] => 0
  | w :: l => if isW w.toNat = true then (if (rW w.toNat : Int) = r then chkF r l else 8) else 5
/-- Words by their parents: one step, all. -/
structure Gs where
  out : List (List Int)
  last : Int
  has : Bool
def gStep (s : Gs) (w : Int) : Gs :=
  if parE w.toNat = 5 then s
  else if parE w.toNat = 0 ∧ s.has = true ∧ (parW w.toNat : Int) = s.last then ⟨s.out.dropLast ++ [(s.out.getLast?.getD []) ++ [w]], s.last, s.has⟩
  else ⟨s.out ++ [[w]], parW w.toNat, decide (parE w.toNat = 0)⟩
def gAll (l : List Int) : Gs := l.foldl gStep ⟨[], 0, false⟩
def grpF (l : List Int) : List (List Int) := (gAll (setF l)).out
theorem gAll_snoc (l : List Int) (w : Int) : gAll (l ++ [w]) = gStep (gAll l) w := by unfold gAll; rw [List.foldl_append]; rfl
theorem snoc_ind {α : Type} {P : List α → Prop} (h0 : P []) (h1 : ∀ l a, P l → P (l ++ [a])) : ∀ l, P l := by
  intro l
  have : ∀ r : List α, P r.reverse := by
    intro r
    induction r with
    | nil => exact h0
    | cons a r ih => rw [List.reverse_cons]; exact h1 _ _ ih
  have := this l.reverse
  rwa [List.reverse_reverse] at this
/-- Whatever has a parent told stands in a group. -/
theorem gAll_has (l : List Int) : (gAll l).has = true → (gAll l).out ≠ [] := by
  induction l using snoc_ind with
  | h0 => intro h; cases h
  | h1 l w ih =>
    rw [gAll_snoc]
    unfold gStep
    split
    · exact ih
    · split <;> (intro _; simp)
theorem up_ok {r : Nat} {z : E2} (h : okB (r + 1 : Nat) z = true) : okB r (upE z) = true := by
  obtain ⟨h1, h2⟩ := okB_parts h
  refine ok_of_base (by omega) ?_
  exact h2
theorem parW_lt (w : Nat) : parW w < 18446744073709551616 := by
  unfold parW
  split
  · next h =>
    unfold ofW
    split
    · next h2 =>
      obtain ⟨k, hk, hk2⟩ := okB_nat h2
      rw [hk] at h2
      have := (wordN_lt h2).1
      rw [hk, Int.toNat_natCast]
      omega
    · omega
  · omega
end Go.Proofs.YtkjfdaleamonaaaGreat
/- Contracts of cell.step, cell.Parent, ident.Parent, ident.Res. -/
namespace Go.Proofs.YtkjfdaleamonaaaGreat
open Go.RowKit Go.Lib Wd

/-- Two new blocks: a cell that is handed in, a cell that is to be told. -/
theorem two_new (w : World) (r : Int) (z : E2) :
    Hid (Tri ((w.alloc (.cells #[.int .i64 r, .int .i64 z.1, .int .i64 z.2] 32)).alloc (.cells #[.int .i64 0, .int .i64 0, .int .i64 0] 32)) w.heap.size r z) ∧ Hid (Tri ((w.alloc (.cells #[.int .i64 r, .int .i64 z.1, .int .i64 z.2] 32)).alloc (.cells #[.int .i64 0, .int .i64 0, .int .i64 0] 32)) (w.heap.size + 1) 0 (0, 0)) ∧ Hid (Below w.heap.size w ((w.alloc (.cells #[.int .i64 r, .int .i64 z.1, .int .i64 z.2] 32)).alloc (.cells #[.int .i64 0, .int .i64 0, .int .i64 0] 32))) := by
  refine ⟨?_, heap_new _ _ _ (by simp), ((Below.refl _ _).alloc (Nat.le_refl _) _).alloc (by simp) _⟩
  show _ = _
  rw [Below.heap_alloc _ _ _ (by simp)]
  exact heap_new _ _ _ rfl
theorem below3 {B : Nat} {w w1 : World} (h : Below B w w1) {g : Nat} (hg : B ≤ g) (a b c : Value) : Below B w (((w1.setCell ⟨g, 0, none⟩ a).setCell ⟨g, 1, none⟩ b).setCell ⟨g, 2, none⟩ c) :=
  ((h.setCell (p := ⟨g, 0, none⟩) hg _).setCell (p := ⟨g, 1, none⟩) hg _).setCell (p := ⟨g, 2, none⟩) hg _
set_option maxRecDepth 100000 in
set_option maxHeartbeats 4000000 in
theorem step_in (r : Int) (z : E2) (hz : Sm 1073741824 z) (hr : 0 ≤ r) (hr2 : r ≤ 12) (w : World) : Calls Tryz.prog 93 #[vC r z] w fun e w' => e = .returned (vC (r - 1) (upE z)) ∧ Below w.heap.size w w' := by
  have HS := Lib.hid (split_in z (hz.mono (by decide)))
  obtain ⟨T0, G0, B0⟩ := two_new w r z
  generalize upE z = p at *
  generalize leftE (digE z) = l at *
  simp only [vC, vE] at *
  clear hz
  go_enter Tryz.func93, Tryz.ntmps93
  go_upto_region 1 with (fail)
  generalize (w.alloc (.cells #[.int .i64 r, .int .i64 z.1, .int .i64 z.2] 32)).alloc (.cells #[.int .i64 0, .int .i64 0, .int .i64 0] 32) = w0 at *
  obtain ⟨t0, t1, t2, t3, t4, t5, t6⟩ := T0.out.cells
  go_wp2_with fail
  refine (HS.out _).mono ?_
  rintro e w1 ⟨rfl, hb1⟩
  have hal : Below w1.heap.size w1 ((w1.alloc (.cells #[.int .i64 p.1, .int .i64 p.2] 30)).alloc (.cells #[.int .i64 l.1, .int .i64 l.2] 30)) := ((Below.refl _ _).alloc (Nat.le_refl _) _).alloc (by simp) _
  have P0 : Two ((w1.alloc (.cells #[.int .i64 p.1, .int .i64 p.2] 30)).alloc (.cells #[.int .i64 l.1, .int .i64 l.2] 30)) w1.heap.size (.int .i64 p.1) (.int .i64 p.2) := Two.alloc (Two.of_row (t := 30) (f := _) (heap_new _ _ _ rfl)) (by simp) _
  have hb2 := hb1.trans (hal.mono hb1.size)
  have B1 := Lib.hid (B0.out.trans (hb2.mono B0.out.size))
  obtain ⟨p0, p1⟩ := P0
  have T1 := Lib.hid (T0.out.later hb2)
  have G1 := Lib.hid (G0.out.later hb2)
  clear hal hb1 hb2 t0 t1 t2 t3 t4 t5 t6 T0 G0 B0
  go_upto_region 2 with (fail)
  generalize (w1.alloc (.cells #[.int .i64 p.1, .int .i64 p.2] 30)).alloc (.cells #[.int .i64 l.1, .int .i64 l.2] 30) = w2 at *
  obtain ⟨t0, t1, t2, t3, t4, t5, t6⟩ := T1.out.cells
  obtain ⟨g0, g1, g2, g3, g4, g5, g6⟩ := G1.out.cells
  have q : IntKind.i64.wrap (r - 1) = r - 1 := wrap_in (by omega) (by omega)
  go_wp2
  exact bodyPost_ret (v := .agg #[.int .i64 (r - 1), .int .i64 p.1, .int .i64 p.2]) (by simp [results, Tryz.results93, go_sem, *]) rfl ⟨rfl, below3 B1.out (by omega) _ _ _⟩
/-- A cell's parent, as told. -/
def cpE (r : Int) (z : E2) : Int := if okB r z = true then (if r = 0 then 3 else 0) else 2
set_option maxRecDepth 100000 in
set_option maxHeartbeats 4000000 in
theorem cpar_any (r : Int) (z : E2) (w : World) : Calls Tryz.prog 61 #[vC r z] w fun e w' => e = .returned (.tuple #[vC (if cpE r z = 0 then r - 1 else 0) (if cpE r z = 0 then upE z else (0, 0)), .int .i64 (cpE r z)]) ∧ Below w.heap.size w w' := by
  have HOK := Lib.hid (ok_any r z)
  obtain ⟨T0, G0, B0⟩ := two_new w r z
  by_cases h : okB r z = true
  · obtain ⟨r0, r12, hsm⟩ := ok_parts h
    rw [h] at HOK
    by_cases hr : r = 0
    · have hE : cpE r z = 3 := by unfold cpE; rw [if_pos h, if_pos hr]
      rw [hE, if_neg (by decide), if_neg (by decide)]
      subst hr
      clear hE h hsm
      simp only [vC] at *
      go_enter Tryz.func61, Tryz.ntmps61
      go_upto_region 1 with (fail)
      generalize (w.alloc (.cells #[.int .i64 0, .int .i64 z.1, .int .i64 z.2] 32)).alloc (.cells #[.int .i64 0, .int .i64 0, .int .i64 0] 32) = w0 at *
      obtain ⟨t0, t1, t2, t3, t4, t5, t6⟩ := T0.out.cells
      go_wp2_with fail
      refine (HOK.out _).mono ?_
      rintro e w1 ⟨rfl, hb1⟩
      have B1 := Lib.hid (B0.out.trans (hb1.mono B0.out.size))
      have T1 := Lib.hid (T0.out.later hb1)
      have G1 := Lib.hid (G0.out.later hb1)
      clear hb1 t0 t1 t2 t3 t4 t5 t6 T0 G0 B0
      obtain ⟨t0, t1, t2, t3, t4, t5, t6⟩ := T1.out.cells
      obtain ⟨g0, g1, g2, g3, g4, g5, g6⟩ := G1.out.cells
      go_wp2
      exact bodyPost_ret (v := .tuple #[.agg #[.int .i64 0, .int .i64 0, .int .i64 0], .int .i64 3]) (by simp [results, Tryz.results61, go_sem, *]) rfl ⟨rfl, below3 B1.out (by omega) _ _ _⟩
    · have hE : cpE r z = 0 := by unfold cpE; rw [if_pos h, if_neg hr]
      rw [hE, if_pos rfl, if_pos rfl]
      have HST := Lib.hid (step_in r z hsm r0 r12)
      have q1 : (r == 0) = false := by simp [hr]
      generalize upE z = p at *
      clear hE h hsm hr
      simp only [vC] at *
      go_enter Tryz.func61, Tryz.ntmps61
      go_upto_region 1 with (fail)
      generalize (w.alloc (.cells #[.int .i64 r, .int .i64 z.1, .int .i64 z.2] 32)).alloc (.cells #[.int .i64 0, .int .i64 0, .int .i64 0] 32) = w0 at *
      obtain ⟨t0, t1, t2, t3, t4, t5, t6⟩ := T0.out.cells
      go_wp2_with fail
      refine (HOK.out _).mono ?_
      rintro e w1 ⟨rfl, hb1⟩
      have B1 := Lib.hid (B0.out.trans (hb1.mono B0.out.size))
      have T1 := Lib.hid (T0.out.later hb1)
      have G1 := Lib.hid (G0.out.later hb1)
      clear hb1 t0 t1 t2 t3 t4 t5 t6 T0 G0 B0
      obtain ⟨t0, t1, t2, t3, t4, t5, t6⟩ := T1.out.cells
      go_wp2_with fail
      refine (HST.out _).mono ?_
      rintro e w2 ⟨rfl, hb2⟩
      have B2 := Lib.hid (B1.out.trans (hb2.mono B1.out.size))
      obtain ⟨g0, g1, g2, g3, g4, g5, g6⟩ := (G1.out.later hb2).cells
      clear hb2 t0 t1 t2 t3 t4 t5 t6 T1 G1 B1
      go_wp2
      exact bodyPost_ret (v := .tuple #[.agg #[.int .i64 (r - 1), .int .i64 p.1, .int .i64 p.2], .int .i64 0]) (by simp [results, Tryz.results61, go_sem, *]) rfl ⟨rfl, below3 B2.out (by omega) _ _ _⟩
  · have hE : cpE r z = 2 := by unfold cpE; rw [if_neg h]
    rw [hE, if_neg (by decide), if_neg (by decide)]
    rw [Bool.eq_false_iff.2 h] at HOK
    clear hE h
    simp only [vC] at *
    go_enter Tryz.func61, Tryz.ntmps61
    go_upto_region 1 with (fail)
    generalize (w.alloc (.cells #[.int .i64 r, .int .i64 z.1, .int .i64 z.2] 32)).alloc (.cells #[.int .i64 0, .int .i64 0, .int .i64 0] 32) = w0 at *
    obtain ⟨t0, t1, t2, t3, t4, t5, t6⟩ := T0.out.cells
    go_wp2_with fail
    refine (HOK.out _).mono ?_
    rintro e w1 ⟨rfl, hb1⟩
    have B1 := Lib.hid (B0.out.trans (hb1.mono B0.out.size))
    have G1 := Lib.hid (G0.out.later hb1)
    clear hb1 t0 t1 t2 t3 t4 t5 t6 T0 G0 B0
    obtain ⟨g0, g1, g2, g3, g4, g5, g6⟩ := G1.out.cells
    go_wp2
    exact bodyPost_ret (v := .tuple #[.agg #[.int .i64 0, .int .i64 0, .int .i64 0], .int .i64 2]) (by simp [results, Tryz.results61, go_sem, *]) rfl ⟨rfl, below3 B1.out (by omega) _ _ _⟩
/-- What a word's cell and its parent are. -/
theorem par_cases (w0 : Nat) : (cvE w0 = 5 ∧ parE w0 = 5 ∧ parW w0 = 0) ∨ (cvE w0 = 0 ∧ cpE (cvR w0) (cvZ w0) = 3 ∧ parE w0 = 3 ∧ parW w0 = 0) ∨ (cvE w0 = 0 ∧ cpE (cvR w0) (cvZ w0) = 0 ∧ parE w0 = 0 ∧ ofW (cvR w0 - 1) (upE (cvZ w0)) = parW w0 ∧ ofE (cvR w0 - 1) (upE (cvZ w0)) = 0) := by
  unfold cvE cvR cvZ parE parW cpE
  by_cases h : isW w0 = true
  · right
    have ho := (cell_word h).1
    have hr := ((isW_iff w0).1 h).2.1
    rw [if_pos h, if_pos h, if_pos h, if_pos h, if_pos ho]
    by_cases h0 : rW w0 = 0
    · left
      rw [if_pos (by omega), if_pos h0, if_neg (by omega)]
      exact ⟨rfl, rfl, rfl, rfl⟩
    · right
      rw [if_neg (by omega), if_neg h0, if_pos ⟨h, h0⟩]
      refine ⟨rfl, rfl, rfl, rfl, ?_⟩
      obtain ⟨k, hk⟩ : ∃ k, rW w0 = k + 1 := ⟨rW w0 - 1, by omega⟩
      rw [hk] at ho ⊢
      rw [show ((k + 1 : Nat) : Int) - 1 = (k : Int) by omega]
      exact (ofW_ok (up_ok ho)).2.1
  · left
    rw [if_neg h, if_neg h, if_neg (fun h2 => h h2.1)]
    exact ⟨rfl, rfl, rfl⟩
set_option maxRecDepth 100000 in
set_option maxHeartbeats 4000000 in
theorem ipar_any (w0 : Nat) (hw : w0 < 18446744073709551616) (w : World) : Calls Tryz.prog 49 #[.int .u64 w0] w fun e w' => e = .returned (.tuple #[.int .u64 (parW w0 : Nat), .int .i64 (parE w0)]) ∧ Below w.heap.size w w' := by
  have HC := Lib.hid (cell_any w0 hw)
  have HP := Lib.hid (cpar_any (cvR w0) (cvZ w0))
  have HO := Lib.hid (of_any (cvR w0 - 1) (upE (cvZ w0)))
  rcases par_cases w0 with ⟨e1, e2, e3⟩ | ⟨e1, e2, e3, e4⟩ | ⟨e1, e2, e3, e4, e5⟩
  · rw [e2, e3]
    rw [e1] at HC
    generalize cvR w0 = r at *
    generalize cvZ w0 = z at *
    clear e1 e2 e3 HP HO
    simp only [vC] at *
    go_enter Tryz.func49, Tryz.ntmps49
    go_wp2_with fail
    refine (HC.out _).mono ?_
    rintro e w1 ⟨rfl, hb1⟩
    have B1 : Hid (Below w.heap.size w (w1.alloc (.cells #[.int .i64 r, .int .i64 z.1, .int .i64 z.2] 32))) := hb1.alloc hb1.size _
    clear hb1
    go_wp2
    go_ret2
    exact ⟨rfl, B1.out⟩
  · rw [e3, e4]
    rw [e1] at HC
    rw [e2, if_neg (by decide), if_neg (by decide)] at HP
    generalize cvR w0 = r at *
    generalize cvZ w0 = z at *
    clear e1 e2 e3 e4 HO
    simp only [vC] at *
    go_enter Tryz.func49, Tryz.ntmps49
    go_wp2_with fail
    refine (HC.out _).mono ?_
    rintro e w1 ⟨rfl, hb1⟩
    have B1 : Hid (Below w.heap.size w (w1.alloc (.cells #[.int .i64 r, .int .i64 z.1, .int .i64 z.2] 32))) := hb1.alloc hb1.size _
    have T1 : Hid (Tri (w1.alloc (.cells #[.int .i64 r, .int .i64 z.1, .int .i64 z.2] 32)) w1.heap.size r z) := heap_new _ _ _ rfl
    clear hb1
    go_upto_region 2 with (fail)
    generalize w1.alloc (.cells #[.int .i64 r, .int .i64 z.1, .int .i64 z.2] 32) = w2 at *
    obtain ⟨t0, t1, t2, t3, t4, t5, t6⟩ := T1.out.cells
    go_wp2_with fail
    refine (HP.out _).mono ?_
    rintro e w3 ⟨rfl, hb3⟩
    have B3 : Hid (Below w.heap.size w (w3.alloc (.cells #[.int .i64 0, .int .i64 0, .int .i64 0] 32))) := (B1.out.trans (hb3.mono B1.out.size)).alloc (Nat.le_trans B1.out.size hb3.size) _
    clear hb3 t0 t1 t2 t3 t4 t5 t6
    go_wp2
    go_ret2
    exact ⟨rfl, B3.out⟩
  · rw [e3]
    rw [e1] at HC
    rw [e2, if_pos rfl, if_pos rfl] at HP
    rw [e4, e5] at HO
    generalize parW w0 = v at *
    generalize cvR w0 = r at *
    generalize cvZ w0 = z at *
    generalize upE z = p at *
    clear e1 e2 e3 e4 e5
    simp only [vC] at *
    go_enter Tryz.func49, Tryz.ntmps49
    go_wp2_with fail
    refine (HC.out _).mono ?_
    rintro e w1 ⟨rfl, hb1⟩
    have B1 : Hid (Below w.heap.size w (w1.alloc (.cells #[.int .i64 r, .int .i64 z.1, .int .i64 z.2] 32))) := hb1.alloc hb1.size _
    have T1 : Hid (Tri (w1.alloc (.cells #[.int .i64 r, .int .i64 z.1, .int .i64 z.2] 32)) w1.heap.size r z) := heap_new _ _ _ rfl
    clear hb1
    go_upto_region 2 with (fail)
    generalize w1.alloc (.cells #[.int .i64 r, .int .i64 z.1, .int .i64 z.2] 32) = w2 at *
    obtain ⟨t0, t1, t2, t3, t4, t5, t6⟩ := T1.out.cells
    go_wp2_with fail
    refine (HP.out _).mono ?_
    rintro e w3 ⟨rfl, hb3⟩
    have B3 : Hid (Below w.heap.size w (w3.alloc (.cells #[.int .i64 (r - 1), .int .i64 p.1, .int .i64 p.2] 32))) := (B1.out.trans (hb3.mono B1.out.size)).alloc (Nat.le_trans B1.out.size hb3.size) _
    have T3 : Hid (Tri (w3.alloc (.cells #[.int .i64 (r - 1), .int .i64 p.1, .int .i64 p.2] 32)) w3.heap.size (r - 1) p) := heap_new _ _ _ rfl
    clear hb3 t0 t1 t2 t3 t4 t5 t6 T1 B1
    go_upto_region 5 with (fail)
    generalize w3.alloc (.cells #[.int .i64 (r - 1), .int .i64 p.1, .int .i64 p.2] 32) = w4 at *
    obtain ⟨t0, t1, t2, t3, t4, t5, t6⟩ := T3.out.cells
    go_wp2_with fail
    refine (HO.out _).mono ?_
    rintro e w5 ⟨rfl, hb5⟩
    have B5 := Lib.hid (B3.out.trans (hb5.mono B3.out.size))
    clear hb5
    go_wp2
    go_ret2
    exact ⟨rfl, B5.out⟩
set_option maxRecDepth 100000 in
set_option maxHeartbeats 4000000 in
theorem ires_any (w0 : Nat) (hw : w0 < 18446744073709551616) (w : World) : Calls Tryz.prog 48 #[.int .u64 w0] w fun e w' => e = .returned (.int .i64 (resW w0)) ∧ Below w.heap.size w w' := by
  have HC := Lib.hid (cell_any w0 hw)
  have HR : (cvE w0 = 0 ∧ resW w0 = cvR w0) ∨ (cvE w0 = 5 ∧ resW w0 = -1) := by
    unfold cvE resW cvR
    by_cases h : isW w0 = true
    · exact .inl ⟨by rw [if_pos h], by rw [if_pos h, if_pos h]⟩
    · exact .inr ⟨by rw [if_neg h], by rw [if_neg h]⟩
  rcases HR with ⟨e1, e2⟩ | ⟨e1, e2⟩
  all_goals
    rw [e2]
    rw [e1] at HC
    generalize cvR w0 = r at *
    generalize cvZ w0 = z at *
    clear e1 e2
    simp only [vC] at *
    go_enter Tryz.func48, Tryz.ntmps48
    go_wp2_with fail
    refine (HC.out _).mono ?_
    rintro e w1 ⟨rfl, hb1⟩
    have B1 : Hid (Below w.heap.size w (w1.alloc (.cells #[.int .i64 r, .int .i64 z.1, .int .i64 z.2] 32))) := hb1.alloc hb1.size _
    have T1 : Hid (Tri (w1.alloc (.cells #[.int .i64 r, .int .i64 z.1, .int .i64 z.2] 32)) w1.heap.size r z) := heap_new _ _ _ rfl
    clear hb1
    go_upto_region 2 with (fail)
    generalize w1.alloc (.cells #[.int .i64 r, .int .i64 z.1, .int .i64 z.2] 32) = w2 at *
    obtain ⟨t0, t1, t2, t3, t4, t5, t6⟩ := T1.out.cells
    go_wp2
    go_ret
    exact ⟨rfl, B1.out⟩
end Go.Proofs.YtkjfdaleamonaaaGreat
/- Contracts of apiaryref1: Parent, WordUp. -/
namespace Go.Proofs.YtkjfdaleamonaaaGreat
open Go.RowKit Go.Lib Wd

set_option maxRecDepth 100000 in
set_option maxHeartbeats 4000000 in
theorem rpar_any (r : Int) (z : E2) (w : World) : Calls Tryz.prog 43 #[vC r z] w fun e w' => e = .returned (.tuple #[vC (if cpE r z = 0 then r - 1 else 0) (if cpE r z = 0 then upE z else (0, 0)), .int .i64 (cpE r z)]) ∧ Below w.heap.size w w' := by
  have HOK := Lib.hid (rok_any r z)
  obtain ⟨T0, G0, B0⟩ := two_new w r z
  by_cases h : okB r z = true
  · obtain ⟨r0, r12, hsm⟩ := ok_parts h
    rw [h] at HOK
    by_cases hr : r = 0
    · have hE : cpE r z = 3 := by unfold cpE; rw [if_pos h, if_pos hr]
      rw [hE, if_neg (by decide), if_neg (by decide)]
      subst hr
      clear hE h hsm
      simp only [vC] at *
      go_enter Tryz.func43, Tryz.ntmps43
      go_upto_region 1 with (fail)
      generalize (w.alloc (.cells #[.int .i64 0, .int .i64 z.1, .int .i64 z.2] 32)).alloc (.cells #[.int .i64 0, .int .i64 0, .int .i64 0] 32) = w0 at *
      obtain ⟨t0, t1, t2, t3, t4, t5, t6⟩ := T0.out.cells
      go_wp2_with fail
      refine (HOK.out _).mono ?_
      rintro e w1 ⟨rfl, hb1⟩
      have B1 := Lib.hid (B0.out.trans (hb1.mono B0.out.size))
      have T1 := Lib.hid (T0.out.later hb1)
      have G1 := Lib.hid (G0.out.later hb1)
      clear hb1 t0 t1 t2 t3 t4 t5 t6 T0 G0 B0
      obtain ⟨t0, t1, t2, t3, t4, t5, t6⟩ := T1.out.cells
      obtain ⟨g0, g1, g2, g3, g4, g5, g6⟩ := G1.out.cells
      go_wp2
      exact bodyPost_ret (v := .tuple #[.agg #[.int .i64 0, .int .i64 0, .int .i64 0], .int .i64 3]) (by simp [results, Tryz.results43, go_sem, *]) rfl ⟨rfl, below3 B1.out (by omega) _ _ _⟩
    · have hE : cpE r z = 0 := by unfold cpE; rw [if_pos h, if_neg hr]
      rw [hE, if_pos rfl, if_pos rfl]
      have HST := Lib.hid (parent_in z (hsm.mono (by decide)))
      have q1 : (r == 0) = false := by simp [hr]
      have q2 : IntKind.i64.wrap (r - 1) = r - 1 := wrap_in (by omega) (by omega)
      generalize upE z = p at *
      generalize digE z = dg at *
      clear hE h hsm hr
      simp only [vC, vE] at *
      go_enter Tryz.func43, Tryz.ntmps43
      go_upto_region 1 with (fail)
      generalize (w.alloc (.cells #[.int .i64 r, .int .i64 z.1, .int .i64 z.2] 32)).alloc (.cells #[.int .i64 0, .int .i64 0, .int .i64 0] 32) = w0 at *
      obtain ⟨t0, t1, t2, t3, t4, t5, t6⟩ := T0.out.cells
      go_wp2_with fail
      refine (HOK.out _).mono ?_
      rintro e w1 ⟨rfl, hb1⟩
      have B1 := Lib.hid (B0.out.trans (hb1.mono B0.out.size))
      have T1 := Lib.hid (T0.out.later hb1)
      have G1 := Lib.hid (G0.out.later hb1)
      clear hb1 t0 t1 t2 t3 t4 t5 t6 T0 G0 B0
      obtain ⟨t0, t1, t2, t3, t4, t5, t6⟩ := T1.out.cells
      go_wp2_with fail
      refine (HST.out _).mono ?_
      rintro e w2 ⟨rfl, hb2⟩
      have hal : Below w2.heap.size w2 (w2.alloc (.cells #[.int .i64 p.1, .int .i64 p.2] 30)) := (Below.refl _ _).alloc (Nat.le_refl _) _
      have hb3 := hb2.trans (hal.mono hb2.size)
      have B2 := Lib.hid (B1.out.trans (hb3.mono B1.out.size))
      have P2 : Hid (Two (w2.alloc (.cells #[.int .i64 p.1, .int .i64 p.2] 30)) w2.heap.size (.int .i64 p.1) (.int .i64 p.2)) := Two.of_row (t := 30) (f := _) (heap_new _ _ _ rfl)
      have T2 := Lib.hid (T1.out.later hb3)
      have G2 := Lib.hid (G1.out.later hb3)
      clear hb2 hb3 hal t0 t1 t2 t3 t4 t5 t6 T1 G1 B1
      go_upto_region 6 with (fail)
      generalize w2.alloc (.cells #[.int .i64 p.1, .int .i64 p.2] 30) = w3 at *
      obtain ⟨p0, p1⟩ := P2.out
      obtain ⟨t0, t1, t2, t3, t4, t5, t6⟩ := T2.out.cells
      obtain ⟨g0, g1, g2, g3, g4, g5, g6⟩ := G2.out.cells
      go_wp2
      exact bodyPost_ret (v := .tuple #[.agg #[.int .i64 (r - 1), .int .i64 p.1, .int .i64 p.2], .int .i64 0]) (by simp [results, Tryz.results43, go_sem, *]) rfl ⟨rfl, below3 B2.out (by omega) _ _ _⟩
  · have hE : cpE r z = 2 := by unfold cpE; rw [if_neg h]
    rw [hE, if_neg (by decide), if_neg (by decide)]
    rw [Bool.eq_false_iff.2 h] at HOK
    clear hE h
    simp only [vC] at *
    go_enter Tryz.func43, Tryz.ntmps43
    go_upto_region 1 with (fail)
    generalize (w.alloc (.cells #[.int .i64 r, .int .i64 z.1, .int .i64 z.2] 32)).alloc (.cells #[.int .i64 0, .int .i64 0, .int .i64 0] 32) = w0 at *
    obtain ⟨t0, t1, t2, t3, t4, t5, t6⟩ := T0.out.cells
    go_wp2_with fail
    refine (HOK.out _).mono ?_
    rintro e w1 ⟨rfl, hb1⟩
    have B1 := Lib.hid (B0.out.trans (hb1.mono B0.out.size))
    have G1 := Lib.hid (G0.out.later hb1)
    clear hb1 t0 t1 t2 t3 t4 t5 t6 T0 G0 B0
    obtain ⟨g0, g1, g2, g3, g4, g5, g6⟩ := G1.out.cells
    go_wp2
    exact bodyPost_ret (v := .tuple #[.agg #[.int .i64 0, .int .i64 0, .int .i64 0], .int .i64 2]) (by simp [results, Tryz.results43, go_sem, *]) rfl ⟨rfl, below3 B1.out (by omega) _ _ _⟩
set_option maxRecDepth 100000 in
set_option maxHeartbeats 4000000 in
theorem wup_any (w0 : Nat) (hw : w0 < 18446744073709551616) (w : World) : Calls Tryz.prog 15 #[.int .u64 w0] w fun e w' => e = .returned (.tuple #[.int .u64 (parW w0 : Nat), .int .i64 (parE w0)]) ∧ Below w.heap.size w w' := by
  have HC := Lib.hid (rcell_any w0 hw)
  have HP := Lib.hid (rpar_any (cvR w0) (cvZ w0))
  have HO := Lib.hid (word_any (cvR w0 - 1) (upE (cvZ w0)))
  rcases par_cases w0 with ⟨e1, e2, e3⟩ | ⟨e1, e2, e3, e4⟩ | ⟨e1, e2, e3, e4, e5⟩
  · rw [e2, e3]
    rw [e1] at HC
    generalize cvR w0 = r at *
    generalize cvZ w0 = z at *
    clear e1 e2 e3 HP HO
    simp only [vC] at *
    go_enter Tryz.func15, Tryz.ntmps15
    go_wp2_with fail
    refine (HC.out _).mono ?_
    rintro e w1 ⟨rfl, hb1⟩
    have B1 : Hid (Below w.heap.size w (w1.alloc (.cells #[.int .i64 r, .int .i64 z.1, .int .i64 z.2] 32))) := hb1.alloc hb1.size _
    clear hb1
    go_wp2
    go_ret2
    exact ⟨rfl, B1.out⟩
  · rw [e3, e4]
    rw [e1] at HC
    rw [e2, if_neg (by decide), if_neg (by decide)] at HP
    generalize cvR w0 = r at *
    generalize cvZ w0 = z at *
    clear e1 e2 e3 e4 HO
    simp only [vC] at *
    go_enter Tryz.func15, Tryz.ntmps15
    go_wp2_with fail
    refine (HC.out _).mono ?_
    rintro e w1 ⟨rfl, hb1⟩
    have B1 : Hid (Below w.heap.size w (w1.alloc (.cells #[.int .i64 r, .int .i64 z.1, .int .i64 z.2] 32))) := hb1.alloc hb1.size _
    have T1 : Hid (Tri (w1.alloc (.cells #[.int .i64 r, .int .i64 z.1, .int .i64 z.2] 32)) w1.heap.size r z) := heap_new _ _ _ rfl
    clear hb1
    go_upto_region 2 with (fail)
    generalize w1.alloc (.cells #[.int .i64 r, .int .i64 z.1, .int .i64 z.2] 32) = w2 at *
    obtain ⟨t0, t1, t2, t3, t4, t5, t6⟩ := T1.out.cells
    go_wp2_with fail
    refine (HP.out _).mono ?_
    rintro e w3 ⟨rfl, hb3⟩
    have B3 : Hid (Below w.heap.size w (w3.alloc (.cells #[.int .i64 0, .int .i64 0, .int .i64 0] 32))) := (B1.out.trans (hb3.mono B1.out.size)).alloc (Nat.le_trans B1.out.size hb3.size) _
    clear hb3 t0 t1 t2 t3 t4 t5 t6
    go_wp2
    go_ret2
    exact ⟨rfl, B3.out⟩
  · rw [e3]
    rw [e1] at HC
    rw [e2, if_pos rfl, if_pos rfl] at HP
    rw [e4, e5] at HO
    generalize parW w0 = v at *
    generalize cvR w0 = r at *
    generalize cvZ w0 = z at *
    generalize upE z = p at *
    clear e1 e2 e3 e4 e5
    simp only [vC] at *
    go_enter Tryz.func15, Tryz.ntmps15
    go_wp2_with fail
    refine (HC.out _).mono ?_
    rintro e w1 ⟨rfl, hb1⟩
    have B1 : Hid (Below w.heap.size w (w1.alloc (.cells #[.int .i64 r, .int .i64 z.1, .int .i64 z.2] 32))) := hb1.alloc hb1.size _
    have T1 : Hid (Tri (w1.alloc (.cells #[.int .i64 r, .int .i64 z.1, .int .i64 z.2] 32)) w1.heap.size r z) := heap_new _ _ _ rfl
    clear hb1
    go_upto_region 2 with (fail)
    generalize w1.alloc (.cells #[.int .i64 r, .int .i64 z.1, .int .i64 z.2] 32) = w2 at *
    obtain ⟨t0, t1, t2, t3, t4, t5, t6⟩ := T1.out.cells
    go_wp2_with fail
    refine (HP.out _).mono ?_
    rintro e w3 ⟨rfl, hb3⟩
    have B3 : Hid (Below w.heap.size w (w3.alloc (.cells #[.int .i64 (r - 1), .int .i64 p.1, .int .i64 p.2] 32))) := (B1.out.trans (hb3.mono B1.out.size)).alloc (Nat.le_trans B1.out.size hb3.size) _
    have T3 : Hid (Tri (w3.alloc (.cells #[.int .i64 (r - 1), .int .i64 p.1, .int .i64 p.2] 32)) w3.heap.size (r - 1) p) := heap_new _ _ _ rfl
    clear hb3 t0 t1 t2 t3 t4 t5 t6 T1 B1
    go_upto_region 5 with (fail)
    generalize w3.alloc (.cells #[.int .i64 (r - 1), .int .i64 p.1, .int .i64 p.2] 32) = w4 at *
    obtain ⟨t0, t1, t2, t3, t4, t5, t6⟩ := T3.out.cells
    go_wp2_with fail
    refine (HO.out _).mono ?_
    rintro e w5 ⟨rfl, hb5⟩
    have B5 := Lib.hid (B3.out.trans (hb5.mono B3.out.size))
    clear hb5
    go_wp2
    go_ret2
    exact ⟨rfl, B5.out⟩
end Go.Proofs.YtkjfdaleamonaaaGreat
