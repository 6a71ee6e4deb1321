/- Contracts of apiaryref1: parent, Ok. -/
import Derived.Test.YtkjfdaleamonaaaNfB
import Derived.Test.YtkjfdaleamonaaaWdI
namespace Go.Proofs.Ytkjfdaleamonaaa
open Go.RowKit Go.Lib Wd

set_option maxRecDepth 100000 in
set_option maxHeartbeats 4000000 in
theorem parent_in (z : E2) (hz : Sm 1099511627776 z) (w : World) :
    Calls Try.prog 17 #[vE z] w fun e w' => e = .returned (.tuple #[vE (upE z), .int .i64 (digE z)]) ∧ Below w.heap.size w w' := by
  have hup := up_sm (by omega) hz
  have M1 := Lib.hid (rmul_in z (3, -1) (by unfold Sm at *; omega) (by unfold Sm; simp) (by unfold Sm mulE at *; simp only; omega))
  have R1 := Lib.hid (rround_in (mulE z (3, -1)) 7 (by omega) (by omega) (by unfold Sm mulE at *; simp only; omega))
  rw [round_up] at R1
  have M2 := Lib.hid (rmul_in (upE z) (2, 1) (by unfold Sm at *; omega) (by unfold Sm; simp) (by unfold Sm mulE at *; simp only; omega))
  have hleft := left_of z
  have hd7 := digE_lt z
  have HU := Lib.hid (fun k (hk : k < 6) => unit_left hk hd7)
  have hls := left_sm (digE z)
  obtain ⟨a, b⟩ := z
  simp only [vE] at *
  generalize upE (a, b) = p at *
  generalize mulE (a, b) (3, -1) = q at *
  generalize mulE p (2, 1) = m at *
  generalize leftE (digE (a, b)) = l at *
  generalize digE (a, b) = dg at *
  obtain ⟨p1, p2⟩ := p
  obtain ⟨q1, q2⟩ := q
  obtain ⟨m1, m2⟩ := m
  obtain ⟨l1, l2⟩ := l
  have hl1 : a - m1 = l1 := congrArg Prod.fst hleft
  have hl2 : b - m2 = l2 := congrArg Prod.snd hleft
  unfold Sm at hls
  simp only at hls
  obtain ⟨hls1, hls2, hls3, hls4⟩ := hls
  clear hup hz hleft
  simp only at *
  go_enter Try.func17, Try.ntmps17
  go_wp2_with fail
  refine (M1.out _).mono ?_
  rintro e w1 ⟨rfl, hb1⟩
  have hz1 := hb1.size
  simp at hz1
  have z0 : Two w1 w.heap.size (.int .i64 a) (.int .i64 b) := (Two.of_row (t := 27) (f := _) (by rw [Below.heap_alloc _ _ _ (by simp)]; exact heap_new _ _ _ rfl)).later (by simp; omega) hb1
  have u0 : Two2 w1 (w.heap.size + 1) (.int .i64 0) (.int .i64 0) := (Two2.of_row (t := 27) (heap_new _ _ _ (by simp))).later (by simp) hb1
  have hB1 : Below w.heap.size w w1 := ((Below.refl _ _).alloc (Nat.le_refl _) _).alloc (by simp) _ |>.trans (hb1.mono (by simp; omega))
  have U1 := Lib.hid (u0.alloc (by omega) (.cells #[.int .i64 q1, .int .i64 q2] 27))
  have Z1 := Lib.hid (z0.alloc (by omega) (.cells #[.int .i64 q1, .int .i64 q2] 27))
  have B2 := Lib.hid (hB1.alloc (by omega) (.cells #[.int .i64 q1, .int .i64 q2] 27))
  have hz2 := World.size_alloc w1 (.cells #[.int .i64 q1, .int .i64 q2] 27)
  clear u0 z0 hb1 hB1
  go_wp2_with fail
  refine (R1.out _).mono ?_
  rintro e w2 ⟨rfl, hb2⟩
  have hz3 := hb2.size
  have U2 := Lib.hid ((U1.out.later (by omega) hb2).alloc (by omega) (.cells #[.int .i64 p1, .int .i64 p2] 27))
  have Z2 := Lib.hid ((Z1.out.later (by omega) hb2).alloc (by omega) (.cells #[.int .i64 p1, .int .i64 p2] 27))
  have B3 := Lib.hid ((B2.out.trans (hb2.mono (by omega))).alloc (by omega) (.cells #[.int .i64 p1, .int .i64 p2] 27))
  have P2 : Hid (Two (w2.alloc (.cells #[.int .i64 p1, .int .i64 p2] 27)) w2.heap.size (.int .i64 p1) (.int .i64 p2)) := Two.of_row (t := 27) (f := _) (heap_new _ _ _ rfl)
  have hz4 := World.size_alloc w2 (.cells #[.int .i64 p1, .int .i64 p2] 27)
  clear U1 Z1 B2 hb2
  go_wp2_with fail
  refine (M2.out _).mono ?_
  rintro e w3 ⟨rfl, hb3⟩
  have hz5 := hb3.size
  have hal : Below w3.heap.size w3 (w3.alloc (.cells #[.int .i64 m1, .int .i64 m2] 27)) := (Below.refl _ _).alloc (Nat.le_refl _) _
  have hz6 := World.size_alloc w3 (.cells #[.int .i64 m1, .int .i64 m2] 27)
  have U3 := Lib.hid ((U2.out.later (by omega) hb3).later (by omega) hal)
  have Z3 := Lib.hid ((Z2.out.later (by omega) hb3).later (by omega) hal)
  have P3 := Lib.hid ((P2.out.later (by omega) hb3).later (by omega) hal)
  have B4 := Lib.hid ((B3.out.trans (hb3.mono (by omega))).trans (hal.mono (by omega)))
  obtain ⟨qb, hqb⟩ : ∃ qb, w2.heap.size = qb := ⟨_, rfl⟩
  have hM : Two (w3.alloc (.cells #[.int .i64 m1, .int .i64 m2] 27)) w3.heap.size (.int .i64 m1) (.int .i64 m2) := Two.of_row (t := 27) (f := _) (heap_new _ _ _ rfl)
  clear U2 Z2 P2 B3 hb3 hal
  go_upto_region 4 with (fail)
  generalize w3.alloc (.cells #[.int .i64 m1, .int .i64 m2] 27) = w4 at *
  obtain ⟨k0, k1⟩ := hM
  obtain ⟨k2, k3⟩ := Z3.out
  have hml : w3.heap.size < w4.heap.size := by omega
  have hzl : w.heap.size < w4.heap.size := by omega
  have hal2 : Below w4.heap.size w4 (w4.alloc (.cells #[.int .i64 l1, .int .i64 l2] 27)) := (Below.refl _ _).alloc (Nat.le_refl _) _
  have hz7 := World.size_alloc w4 (.cells #[.int .i64 l1, .int .i64 l2] 27)
  rw [hqb] at P3 hz4
  have U4 := Lib.hid (U3.out.later (by omega) hal2)
  have P4 := Lib.hid (P3.out.later (by omega) hal2)
  have B5 := Lib.hid (B4.out.trans (hal2.mono (by omega)))
  have L4 : Hid (Two (w4.alloc (.cells #[.int .i64 l1, .int .i64 l2] 27)) w4.heap.size (.int .i64 l1) (.int .i64 l2)) := Two.of_row (t := 27) (f := _) (heap_new _ _ _ rfl)
  have hqs : qb < w4.heap.size := by omega
  have hws : w.heap.size + 1 < w4.heap.size := by omega
  clear hal2 U3 P3 B4 Z3 hqb
  go_upto_region 5 with (fail)
  generalize w4.alloc (.cells #[.int .i64 l1, .int .i64 l2] 27) = w5 at *
  obtain ⟨lb, hlb⟩ : ∃ lb, w4.heap.size = lb := ⟨_, rfl⟩
  have hlb2 : w3.heap.size + 1 = lb := by omega
  rw [hlb] at L4 hz7 hqs hws
  rw [hlb2]
  clear hlb hlb2 k0 k1 k2 k3 hml hzl hz1 hz2 hz3 hz4 hz5 hz6 hl1 hl2 M1 M2 R1
  go_wp2
  go_loopw [11] (fun i wr => ∃ k : Nat, k ≤ 6 ∧ i = .int .i64 k ∧ (dg = 0 ∨ k < dg) ∧ Below w5.heap.size w5 wr) (fun i _ => 6 - (intOf i).toNat)
  case atStart => exact ⟨0, by omega, rfl, by omega, Below.refl _ _⟩
  case round =>
    obtain ⟨k, hk, rfl, hd0, hbw⟩ := hrel
    have hsz := hbw.size
    have HB := Lib.hid hbw
    have HFIN : Hid (∀ wx, Below w5.heap.size w5 wx → Two wx qb (.int .i64 p1) (.int .i64 p2) ∧ Two2 wx (w.heap.size + 1) (.int .i64 0) (.int .i64 0) ∧ Two wx lb (.int .i64 l1) (.int .i64 l2) ∧ Below w.heap.size w wx) := fun wx hx => ⟨P4.out.later (by omega) hx, U4.out.later (by omega) hx, L4.out.later (by omega) hx, B5.out.trans (hx.mono (by omega))⟩
    by_cases hk6 : k < 6
    · have U := Lib.hid (runit_in k hk6)
      have HQ := Lib.hid (HU.out k hk6)
      simp only [vE] at U
      generalize unitE k = u at *
      obtain ⟨u1, u2⟩ := u
      simp only at U HQ
      obtain ⟨b, hb⟩ : ∃ b, decide (dg = k + 1) = b := ⟨_, rfl⟩
      rw [hb] at HQ
      have HD : Hid (decide (dg = k + 1) = b) := hb
      have HK : Hid (dg = 0 ∨ k < dg) := hd0
      have q6 : decide ((k : Int) < 6) = true := decide_eq_true (by omega)
      clear hb hbw hd0 P4 U4 L4 B5
      go_upto_region 8 with (fail)
      refine wp_region_inw ([.inl (.int .i64 (k : Int)), .inl (.agg #[.int .i64 u1, .int .i64 u2]), .inl (.agg #[.int .i64 l1, .int .i64 l2]), .inl (.bool b)] : List Want) [] (by kernel_rfl) (by kernel_rfl) (by kernel_rfl) ?_
      refine inw_cons (fun wx hg hd => ?_) (fun v0 => ?_)
      · have hx := ((Below.refl wr.heap.size wr).drew).trans hg
        clear hd hg
        go_wp2
        exact ⟨_, rfl, Below.refl _ _, rfl⟩
      (try simp only [List.nil_append, Act.put, List.setIfInBounds_toArray, List.set_cons_zero, List.set_cons_succ])
      refine inw_cons (fun wx hg hd => ?_) (fun v1 => ?_)
      · have hx := ((Below.refl wr.heap.size wr).drew).trans hg
        (try (have ee : v0 = (.int .i64 (k : Int) : Value) := hd 0 (by simp) (by decide); subst ee))
        clear hd hg
        go_wp2_with fail
        refine (U.out _).mono ?_
        rintro e w' ⟨rfl, hb⟩
        go_wp2
        exact ⟨_, rfl, hb, rfl⟩
      (try simp only [List.cons_append, List.nil_append, Act.put, List.setIfInBounds_toArray, List.set_cons_zero, List.set_cons_succ])
      refine inw_cons (fun wx hg hd => ?_) (fun v2 => ?_)
      · have hx := ((Below.refl wr.heap.size wr).drew).trans hg
        clear hd hg
        obtain ⟨_, _, ⟨k1, k2⟩, _⟩ := HFIN.out _ (HB.out.trans (hx.mono hsz))
        go_wp2
        exact ⟨_, rfl, Below.refl _ _, rfl⟩
      (try simp only [List.cons_append, List.nil_append, Act.put, List.setIfInBounds_toArray, List.set_cons_zero, List.set_cons_succ])
      refine inw_cons (fun wx hg hd => ?_) (fun v3 => ?_)
      · have hx := ((Below.refl wr.heap.size wr).drew).trans hg
        (try (have ee : v1 = (.agg #[.int .i64 u1, .int .i64 u2] : Value) := hd 1 (by simp) (by decide); subst ee))
        (try (have ee : v2 = (.agg #[.int .i64 l1, .int .i64 l2] : Value) := hd 2 (by simp) (by decide); subst ee))
        clear hd hg
        go_wp2
        all_goals (refine ⟨_, rfl, Below.refl _ _, ?_⟩)
        all_goals (show Value.bool _ = Value.bool b)
        all_goals (rw [← HQ.out])
        all_goals (simp [*])
      (try simp only [List.cons_append, List.nil_append, Act.put, List.setIfInBounds_toArray, List.set_cons_zero, List.set_cons_succ])
      refine inw_done (fun wx hg hd => ?_)
      have hx := ((Below.refl wr.heap.size wr).drew).trans hg
      (have ee : v0 = (.int .i64 (k : Int) : Value) := hd 0 (by simp) (by kernel_rfl); subst ee)
      (have ee : v1 = (.agg #[.int .i64 u1, .int .i64 u2] : Value) := hd 1 (by simp) (by kernel_rfl); subst ee)
      (have ee : v2 = (.agg #[.int .i64 l1, .int .i64 l2] : Value) := hd 2 (by simp) (by kernel_rfl); subst ee)
      (have ee : v3 = (.bool b : Value) := hd 3 (by simp) (by kernel_rfl); subst ee)
      clear hd hg
      (try go_simp)
      have HX : Hid (Below w5.heap.size w5 wx) := HB.out.trans (hx.mono HB.out.size)
      obtain ⟨⟨t0, t1⟩, ⟨⟨s0, s1⟩, s2, s3⟩, -, hbx⟩ := HFIN.out wx HX.out
      have HBX := Lib.hid hbx
      have hqx : qb < wx.heap.size := by have := HX.out.size; omega
      clear hbx
      cases b
      · have hne : dg ≠ k + 1 := by simpa using HD.out
        clear HFIN
        go_wp2
        go_roundw
        case rel => exact ⟨k + 1, by omega, by go_num, by have := HK.out; omega, HX.out⟩
        case measure => simp [intOf]; omega
      · have hne : dg = k + 1 := by simpa using HD.out
        have HV : Hid ((dg : Int) = (k : Int) + 1) := by show _ = _; omega
        clear hne HK HD HFIN
        go_wp2
        exact bodyPost_ret (v := .tuple #[.agg #[.int .i64 p1, .int .i64 p2], .int .i64 ((k : Int) + 1)]) (by simp [results, Try.results17, go_sem, *]) rfl ⟨by rw [HV.out], (HBX.out.setCell (p := ⟨w.heap.size + 1, 0, none⟩) (by simp) _).setCell (p := ⟨w.heap.size + 1, 1, none⟩) (by simp) _⟩
    · have h0 : dg = 0 := by omega
      obtain rfl : k = 6 := by omega
      subst h0
      obtain ⟨⟨t0, t1⟩, ⟨⟨s0, s1⟩, s2, s3⟩, -, hbx⟩ := HFIN.out wr hbw
      have HBX := Lib.hid hbx
      have hqx : qb < wr.heap.size := by omega
      clear hbx hbw hk6 HFIN
      go_wp2
      exact bodyPost_ret (v := .tuple #[.agg #[.int .i64 p1, .int .i64 p2], .int .i64 0]) (by simp [results, Try.results17, go_sem, *]) rfl ⟨rfl, (HBX.out.setCell (p := ⟨w.heap.size + 1, 0, none⟩) (by simp) _).setCell (p := ⟨w.heap.size + 1, 1, none⟩) (by simp) _⟩
set_option maxRecDepth 100000 in
set_option maxHeartbeats 8000000 in
theorem rok_any (r : Int) (z : E2) (w : World) : Calls Try.prog 16 #[vC r z] w fun e w' => e = .returned (.bool (okB r z)) ∧ Below w.heap.size w w' := by
  obtain ⟨a, b⟩ := z
  have HNO : Hid (shapeB r (a, b) = false → okB r (a, b) = false) := fun h => by unfold okB; rw [h]; rfl
  have hsh : shapeB r (a, b) = true ↔ 0 ≤ r ∧ r ≤ 12 ∧ -1073741824 ≤ a ∧ a ≤ 1073741824 ∧ -1073741824 ≤ b ∧ b ≤ 1073741824 := shapeB_iff r (a, b)
  have HB0 : Hid (Below w.heap.size w (w.alloc (.cells #[.int .i64 r, .int .i64 a, .int .i64 b] 29))) := (Below.refl _ _).alloc (Nat.le_refl _) _
  simp only [vC]
  by_cases h0 : r < 0
  · have HV := Lib.hid (HNO.out (by rw [← Bool.not_eq_true, hsh]; omega))
    rw [HV.out]
    have p0 : decide (r < 0) = true := decide_eq_true h0
    clear hsh HNO h0
    go_enter Try.func16, Try.ntmps16
    go_wp2
    go_ret
    exact ⟨rfl, HB0.out⟩
  have p0 : decide (r < 0) = false := decide_eq_false h0
  by_cases h1 : 12 < r
  · have HV := Lib.hid (HNO.out (by rw [← Bool.not_eq_true, hsh]; omega))
    rw [HV.out]
    have p1 : decide (12 < r) = true := decide_eq_true h1
    clear hsh HNO h0 h1
    go_enter Try.func16, Try.ntmps16
    go_wp2
    go_ret
    exact ⟨rfl, HB0.out⟩
  have p1 : decide (12 < r) = false := decide_eq_false h1
  by_cases h2 : a < -1073741824
  · have HV := Lib.hid (HNO.out (by rw [← Bool.not_eq_true, hsh]; omega))
    rw [HV.out]
    have p2 : decide (a < -1073741824) = true := decide_eq_true h2
    clear hsh HNO h0 h1 h2
    go_enter Try.func16, Try.ntmps16
    go_wp2
    go_ret
    exact ⟨rfl, HB0.out⟩
  have p2 : decide (a < -1073741824) = false := decide_eq_false h2
  by_cases h3 : 1073741824 < a
  · have HV := Lib.hid (HNO.out (by rw [← Bool.not_eq_true, hsh]; omega))
    rw [HV.out]
    have p3 : decide (1073741824 < a) = true := decide_eq_true h3
    clear hsh HNO h0 h1 h2 h3
    go_enter Try.func16, Try.ntmps16
    go_wp2
    go_ret
    exact ⟨rfl, HB0.out⟩
  have p3 : decide (1073741824 < a) = false := decide_eq_false h3
  by_cases h4 : b < -1073741824
  · have HV := Lib.hid (HNO.out (by rw [← Bool.not_eq_true, hsh]; omega))
    rw [HV.out]
    have p4 : decide (b < -1073741824) = true := decide_eq_true h4
    clear hsh HNO h0 h1 h2 h3 h4
    go_enter Try.func16, Try.ntmps16
    go_wp2
    go_ret
    exact ⟨rfl, HB0.out⟩
  have p4 : decide (b < -1073741824) = false := decide_eq_false h4
  by_cases h5 : 1073741824 < b
  · have HV := Lib.hid (HNO.out (by rw [← Bool.not_eq_true, hsh]; omega))
    rw [HV.out]
    have p5 : decide (1073741824 < b) = true := decide_eq_true h5
    clear hsh HNO h0 h1 h2 h3 h4 h5
    go_enter Try.func16, Try.ntmps16
    go_wp2
    go_ret
    exact ⟨rfl, HB0.out⟩
  have p5 : decide (1073741824 < b) = false := decide_eq_false h5
  obtain ⟨R, rfl⟩ : ∃ R : Nat, r = R := ⟨r.toNat, by omega⟩
  have hR : R ≤ 12 := by omega
  have HOK : Hid (okB R (a, b) = baseB (upN R (a, b))) := by show _ = _; unfold okB; rw [hsh.2 ⟨by omega, by omega, by omega, by omega, by omega, by omega⟩]; rfl
  have HSM : Hid (Sm 1099511627776 (a, b)) := by show Sm _ _; unfold Sm; simp only; omega
  obtain ⟨bv, hbv⟩ : ∃ bv, baseB (upN R (a, b)) = bv := ⟨_, rfl⟩
  rw [HOK.out, hbv]
  have HBV0 := Lib.hid hbv
  clear hbv
  clear hsh HNO HOK h0 h1 h2 h3 h4 h5
  have hr := heap_new w (.cells #[.int .i64 R, .int .i64 a, .int .i64 b] 29) _ rfl
  have C0 : Hid ((w.alloc (.cells #[.int .i64 R, .int .i64 a, .int .i64 b] 29)).cell? ⟨w.heap.size, 0, none⟩ = some (.int .i64 R)) := cell_of_row _ _ 0 _ _ _ hr
  have hal : Below (w.alloc (.cells #[.int .i64 R, .int .i64 a, .int .i64 b] 29)).heap.size (w.alloc (.cells #[.int .i64 R, .int .i64 a, .int .i64 b] 29)) ((w.alloc (.cells #[.int .i64 R, .int .i64 a, .int .i64 b] 29)).alloc (.cells #[.int .i64 a, .int .i64 b] 27)) := (Below.refl _ _).alloc (Nat.le_refl _) _
  have k1 : ((w.alloc (.cells #[.int .i64 R, .int .i64 a, .int .i64 b] 29)).alloc (.cells #[.int .i64 a, .int .i64 b] 27)).heap.size = w.heap.size + 2 := by simp
  have C1 : Hid (((w.alloc (.cells #[.int .i64 R, .int .i64 a, .int .i64 b] 29)).alloc (.cells #[.int .i64 a, .int .i64 b] 27)).cell? ⟨w.heap.size, 0, none⟩ = some (.int .i64 R)) := (hal.cell (p := ⟨w.heap.size, 0, none⟩) (by simp)).trans C0.out
  have Z1 : Hid (Two2 ((w.alloc (.cells #[.int .i64 R, .int .i64 a, .int .i64 b] 29)).alloc (.cells #[.int .i64 a, .int .i64 b] 27)) (w.heap.size + 1) (.int .i64 a) (.int .i64 b)) := Two2.of_row (t := 27) (heap_new _ _ _ (by simp))
  have HB1 : Hid (Below w.heap.size w ((w.alloc (.cells #[.int .i64 R, .int .i64 a, .int .i64 b] 29)).alloc (.cells #[.int .i64 a, .int .i64 b] 27))) := HB0.out.trans (hal.mono (by simp))
  clear hal hr C0 HB0
  go_enter Try.func16, Try.ntmps16
  go_upto_region 4 with (fail)
  generalize (w.alloc (.cells #[.int .i64 R, .int .i64 a, .int .i64 b] 29)).alloc (.cells #[.int .i64 a, .int .i64 b] 27) = w2 at *
  obtain ⟨y, hy⟩ : ∃ y : E2, y = (a, b) := ⟨_, rfl⟩
  rw [← hy] at HSM
  have Z1 : Hid (Two2 w2 (w.heap.size + 1) (.int .i64 (upN 0 y).1) (.int .i64 (upN 0 y).2)) := by rw [hy]; exact Z1.out
  have HBV : Hid (baseB (upN R y) = bv) := by show _ = _; rw [hy]; exact HBV0.out
  clear hy HBV0
  go_wp2
  go_loopw [4] (fun i wr => ∃ j : Nat, j ≤ R ∧ i = .int .i64 j ∧ Hid (Two2 wr (w.heap.size + 1) (.int .i64 (upN j y).1) (.int .i64 (upN j y).2) ∧ Turn (fun q => q = w.heap.size + 1) w2 wr)) (fun i _ => R - (intOf i).toNat)
  case atStart => exact ⟨0, by omega, rfl, Z1.out, Turn.refl _ _⟩
  case round =>
    obtain ⟨j, hj, rfl, HI⟩ := hrel
    have c0 : wr.cell? ⟨w.heap.size, 0, none⟩ = some (.int .i64 R) := (HI.out.2.cell (p := ⟨w.heap.size, 0, none⟩) (by show w.heap.size < w2.heap.size; omega) (by show ¬ w.heap.size = w.heap.size + 1; omega)).trans C1.out
    have hsz := HI.out.2.2.2.2.1
    have hwl : w.heap.size < wr.heap.size := by omega
    have HBR : Hid (Below w.heap.size w wr) := HB1.out.trans (HI.out.2.below (by omega) fun q hq e => by omega)
    obtain ⟨⟨z0, z1⟩, z2, z3⟩ := HI.out.1
    have HT := Lib.hid HI.out.2
    by_cases hjR : j < R
    · have hpa := parent_in (upN j y) (upN_sm (by omega) HSM.out j)
      have hup := upN_up j y
      rw [← hup] at hpa
      simp only [vE] at hpa
      have HP := Lib.hid hpa
      clear hpa hup
      obtain ⟨x', hx'⟩ : ∃ x', upN (j + 1) y = x' := ⟨_, rfl⟩
      rw [hx'] at HP
      have HXE := Lib.hid hx'
      clear hx'
      have HZ := Lib.hid HI.out.1
      clear HI
      go_wp2_with fail
      refine (HP.out _).mono ?_
      rintro e w4 ⟨rfl, hb4⟩
      have h4 := HZ.out.later (by omega) hb4
      have hp := h4.put (.int .i64 x'.1) (.int .i64 x'.2)
      have HN : Hid (Two2 ((w4.setCell ⟨w.heap.size + 1, 0, none⟩ (.int .i64 x'.1)).setCell ⟨w.heap.size + 1, 1, none⟩ (.int .i64 x'.2)) (w.heap.size + 1) (.int .i64 x'.1) (.int .i64 x'.2) ∧ Turn (fun q => q = w.heap.size + 1) w2 ((w4.setCell ⟨w.heap.size + 1, 0, none⟩ (.int .i64 x'.1)).setCell ⟨w.heap.size + 1, 1, none⟩ (.int .i64 x'.2))) := ⟨hp.1, (HT.out.trans (Turn.of_below hb4) fun _ _ h => h).trans hp.2 fun _ _ h => h⟩
      obtain ⟨⟨y0, y1⟩, y2, y3⟩ := h4
      clear hp hb4 z0 z1 z2 z3 c0
      go_wp2
      go_roundw
      case rel => exact ⟨j + 1, by omega, by go_num, by rw [HXE.out]; exact HN.out⟩
      case measure => simp [intOf]; omega
    · obtain rfl : j = R := by omega
      have HBS : Hid (baseB (upN j y) = (decide (-512 ≤ (upN j y).1) && decide ((upN j y).1 < 512) && (decide (-512 ≤ (upN j y).2) && decide ((upN j y).2 < 512)))) := rfl
      generalize upN j y = x at *
      clear HI HT
      obtain ⟨x1, x2⟩ := x
      simp only at *
      by_cases g0 : -512 ≤ x1
      · have p0 : decide (-512 ≤ x1) = true := decide_eq_true g0
        by_cases g1 : x1 ≤ 511
        · have p1 : decide (x1 ≤ 511) = true := decide_eq_true g1
          by_cases g2 : -512 ≤ x2
          · have p2 : decide (-512 ≤ x2) = true := decide_eq_true g2
            have HV : Hid (baseB (x1, x2) = decide (x2 ≤ 511)) := by show _ = _; rw [HBS.out, p0, p2, decide_eq_true (show x1 < 512 by omega)]; simp; omega
            have HEV := Lib.hid (HBV.out.symm.trans HV.out)
            obtain ⟨bb, hbb⟩ : ∃ bb, decide (x2 ≤ 511) = bb := ⟨_, rfl⟩
            rw [hbb] at HEV
            clear HV HBS g0 g1 g2
            go_wp2
            go_ret
            exact ⟨by rw [HEV.out]; rfl, HBR.out⟩
          · have p2 : decide (-512 ≤ x2) = false := decide_eq_false g2
            have HV : Hid (baseB (x1, x2) = false) := by show _ = _; rw [HBS.out, p2]; simp
            have HEV := Lib.hid (HBV.out.symm.trans HV.out)
            clear HV HBS g0 g1 g2
            go_wp2
            go_ret
            exact ⟨by rw [HEV.out]; rfl, HBR.out⟩
        · have p1 : decide (x1 ≤ 511) = false := decide_eq_false g1
          have HV : Hid (baseB (x1, x2) = false) := by show _ = _; rw [HBS.out, decide_eq_false (show ¬ x1 < 512 by omega)]; simp
          have HEV := Lib.hid (HBV.out.symm.trans HV.out)
          clear HV HBS g0 g1
          go_wp2
          go_ret
          exact ⟨by rw [HEV.out]; rfl, HBR.out⟩
      · have p0 : decide (-512 ≤ x1) = false := decide_eq_false g0
        have HV : Hid (baseB (x1, x2) = false) := by show _ = _; rw [HBS.out, p0]; simp
        have HEV := Lib.hid (HBV.out.symm.trans HV.out)
        clear HV HBS g0
        go_wp2
        go_ret
        exact ⟨by rw [HEV.out]; rfl, HBR.out⟩
end Go.Proofs.Ytkjfdaleamonaaa
