/- Contracts of package cell: split, digit. -/
import Derived.Test.YtkjfdaleamonaaaWdE
namespace Go.Proofs.Ytkjfdaleamonaaa
open Go.RowKit Go.Lib Wd

theorem mul_e (y z : E2) (hy : Sm 1152921504606846976 y) (hz : Sm 1152921504606846976 z) (h : Sm 4611686018427387904 (mulE y z)) (w : World) :
    Calls Try.prog 63 #[vE y, vE z] w fun e w' => e = .returned (.tuple #[vE (mulE y z), .bool true]) ∧ Below w.heap.size w w' := by
  obtain ⟨a, b⟩ := y
  obtain ⟨c, d⟩ := z
  exact mul_in a b c d ⟨hy.1, hy.2.1⟩ ⟨hy.2.2.1, hy.2.2.2⟩ ⟨hz.1, hz.2.1⟩ ⟨hz.2.2.1, hz.2.2.2⟩ ⟨h.1, h.2.1⟩ ⟨h.2.2.1, h.2.2.2⟩ w
theorem Two.alloc {w : World} {b : Nat} {u v : Value} (h : Two w b u v) (hb : b < w.heap.size) (o : Obj) : Two (w.alloc o) b u v := h.later hb ((Below.refl _ _).alloc (Nat.le_refl _) o)
theorem Two2.alloc {w : World} {b : Nat} {u v : Value} (h : Two2 w b u v) (hb : b < w.heap.size) (o : Obj) : Two2 (w.alloc o) b u v := h.later hb ((Below.refl _ _).alloc (Nat.le_refl _) o)
theorem Two2.turn {S : Nat → Prop} {w w' : World} {b : Nat} {u v : Value} (h : Two2 w b u v) (ht : Turn S w w') (hb : b < w.heap.size) (hs : ¬ S b) : Two2 w' b u v := by
  have e : w'.heap[b]? = w.heap[b]? := ht.2.2.2.2 b hb hs
  exact ⟨⟨(World.cell?_of_block e).trans h.1.1, (World.cell?_of_block e).trans h.1.2⟩, by rw [World.frozen?, e]; exact h.2.1, by rw [World.frozen?, e]; exact h.2.2⟩
theorem Two.turn {S : Nat → Prop} {w w' : World} {b : Nat} {u v : Value} (h : Two w b u v) (ht : Turn S w w') (hb : b < w.heap.size) (hs : ¬ S b) : Two w' b u v := by
  have e : w'.heap[b]? = w.heap[b]? := ht.2.2.2.2 b hb hs
  exact ⟨(World.cell?_of_block e).trans h.1, (World.cell?_of_block e).trans h.2⟩
theorem left_of (z : E2) : subE z (mulE (upE z) (2, 1)) = leftE (digE z) := by
  have h := down_up z
  unfold downE addE at h
  unfold subE
  generalize mulE (upE z) (2, 1) = m at *
  generalize leftE (digE z) = l at *
  rw [← h]
  ext <;> simp only <;> omega
theorem left_sm (d : Nat) : Sm 1 (leftE d) := by
  match d with
  | 0 => unfold Sm; decide
  | k + 1 =>
    show Sm 1 (unitE k)
    unfold unitE
    split <;> (unfold Sm; decide)
theorem up_sm {h : Int} (hh : 2 ≤ h) {z : E2} (hz : Sm h z) : Sm h (upE z) := by
  have h1 := left_sm (digE z)
  unfold upE
  generalize leftE (digE z) = l at *
  unfold Sm at *
  simp only
  omega
set_option maxRecDepth 100000 in
set_option maxHeartbeats 4000000 in
theorem split_in (z : E2) (hz : Sm 1099511627776 z) (w : World) :
    Calls Try.prog 89 #[vE z] w fun e w' => e = .returned (.tuple #[vE (upE z), vE (leftE (digE z))]) ∧ Below w.heap.size w w' := by
  have hup := up_sm (by omega) hz
  have C := Lib.hid (conj_in (2, 1) (by unfold Sm; simp))
  have M1 := Lib.hid (mul_e z (3, -1) (by unfold Sm at *; omega) (by unfold Sm; simp) (by unfold Sm mulE at *; simp only; omega))
  have R1 := Lib.hid (round_in (mulE z (3, -1)) 7 (by omega) (by omega) (by unfold Sm mulE at *; simp only; omega))
  rw [round_up] at R1
  have M2 := Lib.hid (mul_e (upE z) (2, 1) (by unfold Sm at *; omega) (by unfold Sm; simp) (by unfold Sm mulE at *; simp only; omega))
  have S1 := Lib.hid (sub_in z (mulE (upE z) (2, 1)) (by unfold Sm at *; omega) (by unfold Sm mulE at *; simp only; omega))
  rw [left_of] at S1
  clear hup hz
  obtain ⟨a, b⟩ := z
  simp only [vE] at *
  generalize upE (a, b) = p at *
  generalize mulE (a, b) (3, -1) = q at *
  generalize mulE p (2, 1) = m at *
  generalize leftE (digE (a, b)) = l at *
  obtain ⟨p1, p2⟩ := p
  obtain ⟨q1, q2⟩ := q
  obtain ⟨m1, m2⟩ := m
  obtain ⟨l1, l2⟩ := l
  simp only at *
  go_enter Try.func89, Try.ntmps89
  go_wp2_with fail
  refine (C.out _).mono ?_
  rintro e w1 ⟨rfl, hb1⟩
  have hz1 := hb1.size
  simp at hz1
  have z0 : Two w1 w.heap.size (.int .i64 a) (.int .i64 b) := (Two.of_row (t := 27) (f := _) (by rw [Below.heap_alloc _ _ _ (by simp; omega), Below.heap_alloc _ _ _ (by simp)]; exact heap_new _ _ _ rfl)).later (by simp; omega) hb1
  have u0 : Two2 w1 (w.heap.size + 1) (.int .i64 0) (.int .i64 0) := (Two2.of_row (t := 27) (by rw [Below.heap_alloc _ _ _ (by simp)]; exact heap_new _ _ _ (by simp))).later (by simp) hb1
  have v0 : Two2 w1 (w.heap.size + 2) (.int .i64 0) (.int .i64 0) := (Two2.of_row (t := 27) (heap_new _ _ _ (by simp))).later (by simp) hb1
  have hB1 : Below w.heap.size w w1 := (((Below.refl _ _).alloc (Nat.le_refl _) _).alloc (by simp) _).alloc (by simp; omega) _ |>.trans (hb1.mono (by simp; omega))
  have z1 := z0.alloc (by omega) (.cells #[.int .i64 3, .int .i64 (-1)] 27)
  have u1 := u0.alloc (by omega) (.cells #[.int .i64 3, .int .i64 (-1)] 27)
  have v1 := v0.alloc (by omega) (.cells #[.int .i64 3, .int .i64 (-1)] 27)
  have hB2 := hB1.alloc (by omega) (.cells #[.int .i64 3, .int .i64 (-1)] 27)
  have hz2 := World.size_alloc w1 (.cells #[.int .i64 3, .int .i64 (-1)] 27)
  have U1 := Lib.hid u1
  have V1 := Lib.hid v1
  have Z1 := Lib.hid z1
  have B2 := Lib.hid hB2
  obtain ⟨k0, k1⟩ := z1
  clear u0 v0 z0 hb1 hB1 u1 v1 hB2
  go_wp2_with fail
  refine (M1.out _).mono ?_
  rintro e w2 ⟨rfl, hb2⟩
  have hz3 := hb2.size
  have U2 := Lib.hid (U1.out.later (by omega) hb2)
  have V2 := Lib.hid (V1.out.later (by omega) hb2)
  have Z2 := Lib.hid (Z1.out.later (by omega) hb2)
  have B3 := Lib.hid (B2.out.trans (hb2.mono (by omega)))
  have B4 := Lib.hid (B3.out.alloc (by omega) (.cells #[.int .i64 q1, .int .i64 q2] 27))
  have U3 := Lib.hid (U2.out.alloc (by omega) (.cells #[.int .i64 q1, .int .i64 q2] 27))
  have V3 := Lib.hid (V2.out.alloc (by omega) (.cells #[.int .i64 q1, .int .i64 q2] 27))
  have Z3 := Lib.hid (Z2.out.alloc (by omega) (.cells #[.int .i64 q1, .int .i64 q2] 27))
  have hz4 := World.size_alloc w2 (.cells #[.int .i64 q1, .int .i64 q2] 27)
  clear U1 V1 Z1 B2 U2 V2 Z2 B3 hb2 k0 k1
  go_wp2_with fail
  refine (R1.out _).mono ?_
  rintro e w3 ⟨rfl, hb3⟩
  have hz5 := hb3.size
  have U4 := Lib.hid (U3.out.later (by omega) hb3)
  have V4 := Lib.hid (V3.out.later (by omega) hb3)
  have Z4 := Lib.hid (Z3.out.later (by omega) hb3)
  have B5 := Lib.hid (B4.out.trans (hb3.mono (by omega)))
  have P := Lib.hid (U4.out.put (.int .i64 p1) (.int .i64 p2))
  have V5 := Lib.hid (V4.out.turn P.out.2 (by omega) (by omega))
  have Z5 := Lib.hid (Z4.out.turn P.out.2 (by omega) (by omega))
  have B6 : Hid (Below w.heap.size w ((w3.setCell ⟨w.heap.size + 1, 0, none⟩ (.int .i64 p1)).setCell ⟨w.heap.size + 1, 1, none⟩ (.int .i64 p2))) := B5.out.trans (P.out.2.below (by omega) fun k hk e => by omega)
  obtain ⟨⟨k0, k1⟩, k2, k3⟩ := U4.out
  have hz6 := P.out.2.2.2.2.1
  clear U3 V3 Z3 B4 hb3 V4 Z4 B5 U4
  go_upto_region 4 with (fail)
  generalize (w3.setCell ⟨w.heap.size + 1, 0, none⟩ (.int .i64 p1)).setCell ⟨w.heap.size + 1, 1, none⟩ (.int .i64 p2) = w4 at *
  obtain ⟨⟨i0, i1⟩, i2, i3⟩ := P.out.1
  have U5 := Lib.hid P.out.1
  clear P k0 k1 k2 k3
  go_wp2_with fail
  refine (M2.out _).mono ?_
  rintro e w5 ⟨rfl, hb5⟩
  have hz7 := hb5.size
  have U6 := Lib.hid ((U5.out.later (by omega) hb5).alloc (by omega) (.cells #[.int .i64 m1, .int .i64 m2] 27))
  have V6 := Lib.hid ((V5.out.later (by omega) hb5).alloc (by omega) (.cells #[.int .i64 m1, .int .i64 m2] 27))
  have Z6 := Lib.hid ((Z5.out.later (by omega) hb5).alloc (by omega) (.cells #[.int .i64 m1, .int .i64 m2] 27))
  have B7 := Lib.hid ((B6.out.trans (hb5.mono (by omega))).alloc (by omega) (.cells #[.int .i64 m1, .int .i64 m2] 27))
  have hz8 := World.size_alloc w5 (.cells #[.int .i64 m1, .int .i64 m2] 27)
  obtain ⟨j0, j1⟩ := Z6.out
  clear U5 V5 Z5 B6 hb5 i0 i1 i2 i3
  go_wp2_with fail
  refine (S1.out _).mono ?_
  rintro e w6 ⟨rfl, hb6⟩
  have hz9 := hb6.size
  have U7 := Lib.hid (U6.out.later (by omega) hb6)
  have V7 := Lib.hid (V6.out.later (by omega) hb6)
  have B8 := Lib.hid (B7.out.trans (hb6.mono (by omega)))
  have Q := Lib.hid (V7.out.put (.int .i64 l1) (.int .i64 l2))
  have U8 := Lib.hid (U7.out.turn Q.out.2 (by omega) (by omega))
  have B9 : Hid (Below w.heap.size w ((w6.setCell ⟨w.heap.size + 2, 0, none⟩ (.int .i64 l1)).setCell ⟨w.heap.size + 2, 1, none⟩ (.int .i64 l2))) := B8.out.trans (Q.out.2.below (by omega) fun k hk e => by omega)
  obtain ⟨⟨n0, n1⟩, n2, n3⟩ := V7.out
  have hz10 := Q.out.2.2.2.2.1
  clear U6 V6 Z6 B7 hb6 j0 j1 U7 V7 B8
  go_upto_region 6 with (fail)
  generalize (w6.setCell ⟨w.heap.size + 1 + 1, 0, none⟩ (.int .i64 l1)).setCell ⟨w.heap.size + 1 + 1, 1, none⟩ (.int .i64 l2) = w7 at *
  obtain ⟨⟨o0, o1⟩, o2, o3⟩ := U8.out
  obtain ⟨⟨y0, y1⟩, y2, y3⟩ : Two2 w7 (w.heap.size + 1 + 1) (.int .i64 l1) (.int .i64 l2) := Q.out.1
  have ho : w.heap.size + 1 < w7.heap.size := by omega
  have hy : w.heap.size + 1 + 1 < w7.heap.size := by omega
  clear n0 n1 n2 n3 Q U8
  go_region
  go_wp2
  exact bodyPost_ret (v := .tuple #[.agg #[.int .i64 p1, .int .i64 p2], .agg #[.int .i64 l1, .int .i64 l2]]) (by simp [results, Try.results89, go_sem, *]) rfl ⟨rfl, ((((B9.out.setCell (p := ⟨w.heap.size + 1, 0, none⟩) (by simp) _).setCell (p := ⟨w.heap.size + 1, 1, none⟩) (by simp) _).setCell (p := ⟨w.heap.size + 1 + 1, 0, none⟩) (by simp; omega) _).setCell (p := ⟨w.heap.size + 1 + 1, 1, none⟩) (by simp; omega) _).drew⟩
theorem unit_left {k d : Nat} (hk : k < 6) (hd : d < 7) : (((unitE k).1 == (leftE d).1) && ((unitE k).2 == (leftE d).2)) = decide (d = k + 1) := by
  rcases (show k = 0 ∨ k = 1 ∨ k = 2 ∨ k = 3 ∨ k = 4 ∨ k = 5 by omega) with rfl | rfl | rfl | rfl | rfl | rfl <;> rcases (show d = 0 ∨ d = 1 ∨ d = 2 ∨ d = 3 ∨ d = 4 ∨ d = 5 ∨ d = 6 by omega) with rfl | rfl | rfl | rfl | rfl | rfl | rfl <;> decide
set_option maxHeartbeats 1000000 in
theorem digit_in (d : Nat) (hd : d < 7) (w : World) :
    Calls Try.prog 91 #[vE (leftE d)] w fun e w' => e = .returned (.int .i64 d) ∧ Below w.heap.size w w' := by
  have HU := Lib.hid (fun k (hk : k < 6) => unit_left hk hd)
  generalize leftE d = l at *
  obtain ⟨l1, l2⟩ := l
  simp only [vE] at *
  go_enter Try.func91, Try.ntmps91
  have z0 : Hid (Two (w.alloc (.cells #[.int .i64 l1, .int .i64 l2] 27)) w.heap.size (.int .i64 l1) (.int .i64 l2)) := Two.of_row (t := 27) (f := _) (heap_new _ _ _ rfl)
  have hB : Hid (Below w.heap.size w (w.alloc (.cells #[.int .i64 l1, .int .i64 l2] 27))) := (Below.refl _ _).alloc (Nat.le_refl _) _
  have hz := World.size_alloc w (.cells #[.int .i64 l1, .int .i64 l2] 27)
  go_upto_region 1 with (fail)
  generalize w.alloc (.cells #[.int .i64 l1, .int .i64 l2] 27) = w1 at *
  go_wp2
  go_loopw [4] (fun i wr => ∃ k : Nat, k ≤ 6 ∧ i = .int .i64 k ∧ (d = 0 ∨ k < d) ∧ Below w1.heap.size w1 wr) (fun i _ => 6 - (intOf i).toNat)
  case atStart => exact ⟨0, by omega, rfl, by omega, Below.refl _ _⟩
  case round =>
    obtain ⟨k, hk, rfl, hd0, hbw⟩ := hrel
    have hsz := hbw.size
    by_cases hk6 : k < 6
    · have U := Lib.hid (unit_in k hk6)
      have HQ := Lib.hid (HU.out k hk6)
      have HZ : Hid (∀ wx, Below wr.heap.size wr wx → Two wx w.heap.size (.int .i64 l1) (.int .i64 l2)) := fun wx hx => z0.out.later (by omega) (hbw.trans (hx.mono hsz))
      have HB := Lib.hid hbw
      simp only [vE] at U
      generalize unitE k = u at *
      obtain ⟨u1, u2⟩ := u
      simp only at U HQ
      obtain ⟨b, hb⟩ : ∃ b, decide (d = k + 1) = b := ⟨_, rfl⟩
      rw [hb] at HQ
      have HD : Hid (decide (d = k + 1) = b) := hb
      have HK : Hid (d = 0 ∨ k < d) := hd0
      have q6 : decide ((k : Int) < 6) = true := by simp; omega
      clear hb hbw hd0
      go_upto_region 4 with (fail)
      refine wp_region_inw ([.inl (.int .i64 (k : Int)), .inl (.agg #[.int .i64 u1, .int .i64 u2]), .inl (.agg #[.int .i64 l1, .int .i64 l2]), .inl (.bool b)] : List Want) [] (by kernel_rfl) (by kernel_rfl) (by kernel_rfl) ?_
      refine inw_cons (fun wx hg hd => ?_) (fun v0 => ?_)
      · have hx := ((Below.refl wr.heap.size wr).drew).trans hg
        clear hd hg
        go_wp2
        exact ⟨_, rfl, Below.refl _ _, rfl⟩
      (try simp only [List.nil_append, Act.put, List.setIfInBounds_toArray, List.set_cons_zero, List.set_cons_succ])
      refine inw_cons (fun wx hg hd => ?_) (fun v1 => ?_)
      · have hx := ((Below.refl wr.heap.size wr).drew).trans hg
        (try (have ee : v0 = (.int .i64 (k : Int) : Value) := hd 0 (by simp) (by decide); subst ee))
        clear hd hg
        go_wp2_with fail
        refine (U.out _).mono ?_
        rintro e w' ⟨rfl, hb⟩
        go_wp2
        exact ⟨_, rfl, hb, rfl⟩
      (try simp only [List.cons_append, List.nil_append, Act.put, List.setIfInBounds_toArray, List.set_cons_zero, List.set_cons_succ])
      refine inw_cons (fun wx hg hd => ?_) (fun v2 => ?_)
      · have hx := ((Below.refl wr.heap.size wr).drew).trans hg
        clear hd hg
        obtain ⟨k1, k2⟩ := HZ.out _ hx
        go_wp2
        exact ⟨_, rfl, Below.refl _ _, rfl⟩
      (try simp only [List.cons_append, List.nil_append, Act.put, List.setIfInBounds_toArray, List.set_cons_zero, List.set_cons_succ])
      refine inw_cons (fun wx hg hd => ?_) (fun v3 => ?_)
      · have hx := ((Below.refl wr.heap.size wr).drew).trans hg
        (try (have ee : v1 = (.agg #[.int .i64 u1, .int .i64 u2] : Value) := hd 1 (by simp) (by decide); subst ee))
        (try (have ee : v2 = (.agg #[.int .i64 l1, .int .i64 l2] : Value) := hd 2 (by simp) (by decide); subst ee))
        clear hd hg
        go_wp2
        all_goals (refine ⟨_, rfl, Below.refl _ _, ?_⟩)
        all_goals (show Value.bool _ = Value.bool b)
        all_goals (rw [← HQ.out])
        all_goals (simp [*])
      (try simp only [List.cons_append, List.nil_append, Act.put, List.setIfInBounds_toArray, List.set_cons_zero, List.set_cons_succ])
      refine inw_done (fun wx hg hd => ?_)
      have hx := ((Below.refl wr.heap.size wr).drew).trans hg
      (have ee : v0 = (.int .i64 (k : Int) : Value) := hd 0 (by simp) (by kernel_rfl); subst ee)
      (have ee : v1 = (.agg #[.int .i64 u1, .int .i64 u2] : Value) := hd 1 (by simp) (by kernel_rfl); subst ee)
      (have ee : v2 = (.agg #[.int .i64 l1, .int .i64 l2] : Value) := hd 2 (by simp) (by kernel_rfl); subst ee)
      (have ee : v3 = (.bool b : Value) := hd 3 (by simp) (by kernel_rfl); subst ee)
      clear hd hg
      (try go_simp)
      have HX : Hid (Below w1.heap.size w1 wx) := HB.out.trans (hx.mono HB.out.size)
      have HF : Hid (Below w.heap.size w wx) := hB.out.trans (HX.out.mono hB.out.size)
      cases b
      · have hne : d ≠ k + 1 := by simpa using HD.out
        go_wp2
        go_roundw
        case rel => exact ⟨k + 1, by omega, by go_num, by have := HK.out; omega, HX.out⟩
        case measure => simp [intOf]; omega
      · have hne : d = k + 1 := by simpa using HD.out
        have HV : Hid ((d : Int) = (k : Int) + 1) := by show _ = _; omega
        clear hne HK HD
        go_wp2
        go_ret
        exact ⟨by rw [HV.out]; rfl, HF.out⟩
    · have h0 : d = 0 := by omega
      obtain rfl : k = 6 := by omega
      subst h0
      have HF : Hid (Below w.heap.size w wr) := hB.out.trans (hbw.mono hB.out.size)
      clear hbw hk6
      go_wp2
      go_ret
      exact ⟨rfl, HF.out⟩
end Go.Proofs.Ytkjfdaleamonaaa
