/- The law NearLines: its walk. Lines of cells are those that the document says; each is a neighbour of the one ahead. -/
import Derived.Test.YticbkdignmlfiaaNfU
import Derived.Test.YticbkdignmlfiaaNfV
import Derived.Test.YticbkdignmlfiaaNfQ
import Derived.BigQuiet
import Derived.Test.YticbkdignmlfiaaLex6
namespace Go.Proofs.Yticbkdignmlfiaa.nearLines
open Go.RowKit Go.Lib Wd

def wDist : SP := ⟨fun v _ => ∃ d : Int, v = .tuple #[.int .i64 d, .int .i64 0] ∧ 1 ≤ d, fun _ _ _ _ h => h⟩
def wNum : SP := ⟨fun v _ => ∃ d : Int, v = .int .i64 d ∧ 1 ≤ d, fun _ _ _ _ h => h⟩
theorem word_lt (r : Int) (z : E2) : ofW r z < 18446744073709551616 := by
  unfold ofW
  split
  · next h =>
    obtain ⟨k, rfl, hk⟩ := okB_nat h
    have := (wordN_lt h).1
    rw [Int.toNat_natCast]
    omega
  · omega
theorem line_len (a b : Nat) : (lnL a b).length ≤ 20000 := by
  unfold lnL
  split
  · next h =>
    split
    · simp
    · refine Nat.le_trans (tellL_length _ _) ?_
      rw [path_len]
      unfold lnE at h
      split at h
      · split at h
        · omega
        · omega
      · omega
  · simp
/-- A line's words, side by side: unlike cells. -/
theorem line_beside {R : Nat} {z y : E2} (hz : okB R z = true) (hy : okB R y = true) (h : stepsN (subE y z) ≤ 10000) :
    ∀ j, j + 1 < (lnL (ofW R z) (ofW R y)).length → ∃ p q, okB R p = true ∧ okB R q = true ∧ (lnL (ofW R z) (ofW R y)).getD j 0 = (ofW R p : Int) ∧ (lnL (ofW R z) (ofW R y)).getD (j + 1) 0 = (ofW R q : Int) ∧ p ≠ q := by
  obtain ⟨d1, d2⟩ := ds_ok hz hy
  rw [steps_sym] at d2
  have hE : lnE (ofW R z) (ofW R y) = 0 := by unfold lnE; rw [if_pos d1, if_neg (by omega)]
  obtain ⟨c1, c2, -⟩ := cv_ok hz
  obtain ⟨c3, c4, -⟩ := cv_ok hy
  have h0 := steps_nonneg (subE y z)
  obtain ⟨K, hK⟩ : ∃ K : Nat, stepsN (subE y z) = K := ⟨(stepsN (subE y z)).toNat, by omega⟩
  intro j hj
  by_cases hk0 : K = 0
  · have hL : lnL (ofW R z) (ofW R y) = [(ofW R z : Int)] := by unfold lnL; rw [if_pos hE, if_pos (by omega)]
    rw [hL] at hj
    simp at hj
  · have hp : (0 : Int) < K := by omega
    have hL : lnL (ofW R z) (ofW R y) = ((pathL z y K).filter fun p => okB R p).map fun p => (ofW R p : Int) := by
      have e : lnL (ofW R z) (ofW R y) = tellL R (pathL z y K) := by unfold lnL; rw [if_pos hE, if_neg (by omega), c1, c2, c4, d2, hK, Int.toNat_natCast]
      rw [e]
      unfold tellL
      refine List.map_congr_left fun y hy => ?_
      rw [(ofW_ok (List.mem_filter.1 hy).2).1, Int.toNat_natCast]
    have hnd : (pathL z y K).Nodup := by
      unfold pathL
      refine List.pairwise_map.2 ((List.nodup_range (n := K + 1)).imp fun {a b} hab e => hab ?_)
      have := line_inj hp hK (show (0 : Int) ≤ a by omega) (show (0 : Int) ≤ b by omega) e
      omega
    have hnf := hnd.filter fun p => okB R p
    rw [hL] at hj ⊢
    have hok : ∀ p ∈ (pathL z y K).filter fun p => okB R p, okB R p = true := fun p hp => (List.mem_filter.1 hp).2
    generalize (pathL z y K).filter (fun p => okB R p) = F at *
    rw [List.length_map] at hj
    have g : ∀ k, k < F.length → F.getD k (0, 0) ∈ F := fun k hk => by
      rw [List.getD_eq_getElem?_getD, List.getElem?_eq_getElem hk]; exact List.getElem_mem hk
    refine ⟨F.getD j (0, 0), F.getD (j + 1) (0, 0), hok _ (g _ (by omega)), hok _ (g _ (by omega)), getD_map (by omega), getD_map (by omega), ?_⟩
    have := List.pairwise_iff_getElem.1 hnf j (j + 1) (by omega) hj (by omega)
    rw [List.getD_eq_getElem?_getD, List.getD_eq_getElem?_getD, List.getElem?_eq_getElem (by omega), List.getElem?_eq_getElem hj]
    exact this
set_option maxRecDepth 100000 in
set_option maxHeartbeats 8000000 in
theorem core (w : World) (a0 a1 a2 a3 a4 a5 : Int) : Calls Try.prog 11 #[.int .i64 a0, .int .i64 a1, .int .i64 a2, .int .i64 a3, .int .i64 a4, .int .i64 a5] w fun e w' => e = .returned (.bool true) ∧ Below w.heap.size w w' := by
  have HLW := Lib.hid (lword_any a0 a1 a2)
  have HL2 := Lib.hid (lword_any a3 a4 a5)
  obtain ⟨R, hR, hR12⟩ : ∃ R : Nat, a2 % 13 = R ∧ R ≤ 12 := ⟨(a2 % 13).toNat, by omega, by omega⟩
  rw [hR, Int.toNat_natCast] at HLW
  have hok := some_ok a0 a1 hR12
  have hO2 := word_lt (a5 % 13) (someE a3 a4 (a5 % 13).toNat)
  generalize someE a0 a1 R = z at *
  generalize ofW (a5 % 13) (someE a3 a4 (a5 % 13).toNat) = O2 at *
  obtain ⟨b1, b2, b3⟩ := ofW_ok hok
  obtain ⟨c1, c2, c3⟩ := cv_ok hok
  have HCE := Lib.hid (rcell_any (ofW R z) b3)
  rw [c1, c2, c3] at HCE
  have HW1 := Lib.hid (word_any R z)
  rw [b2] at HW1
  have hsm := (ok_parts hok).2.2
  have ta : -100 < a3.tmod 100 ∧ a3.tmod 100 < 100 := ⟨by have := Int.lt_tmod_of_pos a3 (show (0 : Int) < 100 by omega); omega, Int.tmod_lt_of_pos a3 (by omega)⟩
  have tb : -100 < a4.tmod 100 ∧ a4.tmod 100 < 100 := ⟨by have := Int.lt_tmod_of_pos a4 (show (0 : Int) < 100 by omega); omega, Int.tmod_lt_of_pos a4 (by omega)⟩
  obtain ⟨s, hs⟩ : ∃ s, a3.tmod 100 = s := ⟨_, rfl⟩
  obtain ⟨t, ht⟩ : ∃ t, a4.tmod 100 = t := ⟨_, rfl⟩
  rw [hs] at ta
  rw [ht] at tb
  obtain ⟨s1, s2⟩ := ta
  obtain ⟨t1, t2⟩ := tb
  have HW2 := Lib.hid (word_any R (z.1 + s, z.2 + t))
  unfold Sm at hsm
  obtain ⟨z1, z2, z3, z4⟩ := hsm
  -- the other end: its word, and what its line tells
  obtain ⟨O, E, v, hE, hO, HLN⟩ : ∃ (O : Nat) (E : Int) (v : Nat), (ofW R (z.1 + s, z.2 + t) = v ∧ ofE R (z.1 + s, z.2 + t) = E) ∧ ((E = 0 ∧ O = v) ∨ (E = 2 ∧ O = O2)) ∧ Hid (O < 18446744073709551616 ∧ (E = 0 → ∀ j, j + 1 < (lnL (ofW R z) O).length → ∃ d : Int, 1 ≤ d ∧ ∀ w, Calls Try.prog 22 #[.int .u64 ((lnL (ofW R z) O).getD j 0), .int .u64 ((lnL (ofW R z) O).getD (j + 1) 0)] w fun e w' => e = .returned (.tuple #[.int .i64 d, .int .i64 0]) ∧ Below w.heap.size w w')) := by
    by_cases h : okB R (z.1 + s, z.2 + t) = true
    · obtain ⟨f1, f2, f3⟩ := ofW_ok h
      refine ⟨_, 0, _, ⟨rfl, f2⟩, .inl ⟨rfl, rfl⟩, f3, fun _ j hj => ?_⟩
      obtain ⟨p, q, hp, hq, g1, g2, g3⟩ := line_beside hok h (by rw [← steps_hex]; unfold Hex subE; simp only; omega) j hj
      rw [g1, g2]
      refine ⟨stepsN (subE p q), ?_, fun w => by
        have := dist_any _ _ (ofW_ok hp).2.2 (ofW_ok hq).2.2 w
        rw [(ds_ok hp hq).1, (ds_ok hp hq).2] at this
        exact this⟩
      have h1 := steps_nonneg (subE p q)
      have h2 : stepsN (subE p q) ≠ 0 := fun e => g3 ((steps_zero _ _).1 e)
      omega
    · exact ⟨O2, 2, _, ⟨rfl, by unfold ofE; rw [if_neg h]⟩, .inr ⟨rfl, rfl⟩, hO2, fun e => by omega⟩
  rw [hE.1, hE.2] at HW2
  have HA := Lib.hid (line_any (ofW R z) O b3 HLN.out.1)
  have HB := Lib.hid (rline_any (ofW R z) O b3 HLN.out.1)
  have hlen := line_len (ofW R z) O
  have HDI := Lib.hid HLN.out.2
  generalize lnL (ofW R z) O = L at *
  generalize lnE (ofW R z) O = EL at *
  generalize ofW R z = W at *
  obtain ⟨n, hn⟩ : ∃ n, L.length = n := ⟨_, rfl⟩
  have HN := Lib.hid hn
  rw [hn] at hlen HDI
  clear hR b1 b2 c1 c2 c3 hE hok HLN hn hO2
  have HAW := Lib.hid awake_any
  simp only [vC] at *
  go_enter Try.func11, Try.ntmps11
  go_wp2_with fail
  refine (HLW.out _).mono ?_
  rintro e w1 ⟨rfl, hb1⟩
  have B1 := Lib.hid hb1
  clear hb1
  go_wp2_with fail
  refine (HCE.out _).mono ?_
  rintro e w2 ⟨rfl, hb2⟩
  have B2 := Lib.hid (B1.out.trans (hb2.mono B1.out.size))
  clear hb2 B1
  have B3 : Hid (Below w.heap.size w (w2.alloc (.cells #[.int .i64 R, .int .i64 z.1, .int .i64 z.2] 29))) := B2.out.alloc B2.out.size _
  have C3 : Hid (Tri (w2.alloc (.cells #[.int .i64 R, .int .i64 z.1, .int .i64 z.2] 29)) w2.heap.size R z) := heap_new _ _ _ rfl
  clear B2
  go_upto_region 2 with (fail)
  generalize w2.alloc (.cells #[.int .i64 R, .int .i64 z.1, .int .i64 z.2] 29) = w3 at *
  obtain ⟨k0, k1, k2, k3, k4, k5, k6⟩ := C3.out.cells
  go_wp2_with fail
  refine (HW1.out _).mono ?_
  rintro e w4 ⟨rfl, hb4⟩
  have B4 := Lib.hid (B3.out.trans (hb4.mono B3.out.size))
  have C4 := Lib.hid (C3.out.later hb4)
  clear hb4 B3 C3 k0 k1 k2 k3 k4 k5 k6
  obtain ⟨k0, k1, k2, k3, k4, k5, k6⟩ := C4.out.cells
  have B5 : Hid (Below w.heap.size w (w4.alloc (.cells #[.int .i64 R, .int .i64 (z.1 + s), .int .i64 (z.2 + t)] 29))) := B4.out.alloc B4.out.size _
  have C5 : Hid (Tri (w4.alloc (.cells #[.int .i64 R, .int .i64 (z.1 + s), .int .i64 (z.2 + t)] 29)) w4.heap.size R (z.1 + s, z.2 + t)) := heap_new _ _ _ rfl
  go_upto_region 4 with (fail)
  clear k0 k1 k2 k3 k4 k5 k6 B4 C4
  generalize w4.alloc (.cells #[.int .i64 R, .int .i64 (z.1 + s), .int .i64 (z.2 + t)] 29) = w5 at *
  obtain ⟨k0, k1, k2, k3, k4, k5, k6⟩ := C5.out.cells
  simp only at k0 k1 k2
  go_wp2_with fail
  refine (HW2.out _).mono ?_
  rintro e w6 ⟨rfl, hb6⟩
  have B6 := Lib.hid (B5.out.trans (hb6.mono B5.out.size))
  clear hb6 B5 C5 k0 k1 k2 k3 k4 k5 k6
  rcases hO with ⟨rfl, rfl⟩ | ⟨rfl, rfl⟩
  · go_wp2_with fail
    refine (HA.out _).mono ?_
    rintro e wa ⟨ao, c, rfl, ha, hba⟩
    have BA := Lib.hid (B6.out.trans (hba.mono B6.out.size))
    have TA := Lib.hid ha
    rw [HN.out]
    clear ha hba B6
    go_wp2_with fail
    refine (HB.out _).mono ?_
    rintro e wb ⟨bo, d, rfl, hb, hbb⟩
    have BB := Lib.hid (BA.out.trans (hbb.mono BA.out.size))
    have TA2 := Lib.hid (TA.out.below hbb (Nat.le_refl _))
    have TB := Lib.hid hb
    have hab := hbb.size
    rw [HN.out]
    clear hb hbb BA TA HA HB
    go_wp2
    go_loopw [24] (fun i wr => ∃ k : Nat, k ≤ n ∧ i = .int .i64 k ∧ Hid (Below wb.heap.size wb wr ∧ True)) (fun i _ => n - (intOf i).toNat)
    case atStart => exact ⟨0, by omega, rfl, Below.refl _ _, trivial⟩
    case round =>
      obtain ⟨i, hi, rfl, hbi, -⟩ := hrel
      have HBI := Lib.hid hbi
      clear hbi
      by_cases hlt : i < n
      · obtain ⟨g, off, rfl, hg, hc⟩ := (TA2.out.below HBI.out hab) (by rw [HN.out]; omega)
        obtain ⟨g2, off2, rfl, hg2, hc2⟩ := (TB.out.below HBI.out (Nat.le_refl _)) (by rw [HN.out]; omega)
        have hgs : g < wr.heap.size := Nat.lt_of_lt_of_le (Nat.lt_of_lt_of_le hg hab) HBI.out.size
        have hgs2 : g2 < wr.heap.size := Nat.lt_of_lt_of_le hg2 HBI.out.size
        have x0 := hc i (by rw [HN.out]; exact hlt)
        have y0 := hc2 i (by rw [HN.out]; exact hlt)
        by_cases hi0 : i = 0
        · have q0 : decide (0 < (i : Int)) = false := decide_eq_false (by omega)
          have q0n : decide (0 < i) = false := decide_eq_false (by omega)
          generalize L.getD i 0 = x at *
          clear hc hc2 hi0
          have q7 : (x != x) = false := by simp
          have HCQ : Hid (∀ wx, Below wr.heap.size wr wx → wx.cell? ⟨g, off + i, none⟩ = some (.int .u64 x) ∧ wx.cell? ⟨g2, off2 + i, none⟩ = some (.int .u64 x)) := fun wx hx => ⟨(hx.cell (p := ⟨g, _, none⟩) hgs).trans x0, (hx.cell (p := ⟨g2, _, none⟩) hgs2).trans y0⟩
          go_upto_region 14 with (fail)
          clear x0 y0
          refine wp_region_inv (fun w w' => Below w.heap.size w w') (fun qi_ qv_ _ => qv_ = ([.slice (some ⟨g, off, none⟩) n c, .int .i64 i, .pointer (some ⟨g, off + i, none⟩), .int .u64 x, .slice (some ⟨g2, off2, none⟩) n d, .int .i64 i, .pointer (some ⟨g2, off2 + i, none⟩), .int .u64 x, .bool false] : List Value).getD qi_ undef) (by kernel_rfl) (by kernel_rfl) (fun _ => Below.refl _ _) (fun _ _ _ h1 h2 => below_later h1 h1.size h2) (fun _ _ _ _ _ _ h => h) ?_
          refine inv_cons (fun wx hg hd => ?_) (fun v0 => ?_)
          · have hx := ((Below.refl wr.heap.size wr).drew).trans hg
            clear hd hg
            go_wp2
            exact ⟨_, rfl, Below.refl _ _, rfl⟩
          (try simp only [List.nil_append, Act.put, List.setIfInBounds_toArray, List.set_cons_zero, List.set_cons_succ])
          refine inv_cons (fun wx hg hd => ?_) (fun v1 => ?_)
          · have hx := ((Below.refl wr.heap.size wr).drew).trans hg
            clear hd hg
            go_wp2
            exact ⟨_, rfl, Below.refl _ _, rfl⟩
          (try simp only [List.cons_append, List.nil_append, Act.put, List.setIfInBounds_toArray, List.set_cons_zero, List.set_cons_succ])
          refine inv_cons (fun wx hg hd => ?_) (fun v2 => ?_)
          · have hx := ((Below.refl wr.heap.size wr).drew).trans hg
            (try (have ee : v0 = (.slice (some ⟨g, off, none⟩) n c : Value) := hd 0 (by simp) (by decide); subst ee))
            (try (have ee : v1 = (.int .i64 i : Value) := hd 1 (by simp) (by decide); subst ee))
            clear hd hg
            go_wp2
            exact ⟨_, rfl, Below.refl _ _, rfl⟩
          (try simp only [List.cons_append, List.nil_append, Act.put, List.setIfInBounds_toArray, List.set_cons_zero, List.set_cons_succ])
          refine inv_cons (fun wx hg hd => ?_) (fun v3 => ?_)
          · have hx := ((Below.refl wr.heap.size wr).drew).trans hg
            (try (have ee : v2 = (.pointer (some ⟨g, off + i, none⟩) : Value) := hd 2 (by simp) (by decide); subst ee))
            clear hd hg
            obtain ⟨k1, k2⟩ := HCQ.out _ hx
            go_wp2
            exact ⟨_, rfl, Below.refl _ _, rfl⟩
          (try simp only [List.cons_append, List.nil_append, Act.put, List.setIfInBounds_toArray, List.set_cons_zero, List.set_cons_succ])
          refine inv_cons (fun wx hg hd => ?_) (fun v4 => ?_)
          · have hx := ((Below.refl wr.heap.size wr).drew).trans hg
            clear hd hg
            go_wp2
            exact ⟨_, rfl, Below.refl _ _, rfl⟩
          (try simp only [List.cons_append, List.nil_append, Act.put, List.setIfInBounds_toArray, List.set_cons_zero, List.set_cons_succ])
          refine inv_cons (fun wx hg hd => ?_) (fun v5 => ?_)
          · have hx := ((Below.refl wr.heap.size wr).drew).trans hg
            clear hd hg
            go_wp2
            exact ⟨_, rfl, Below.refl _ _, rfl⟩
          (try simp only [List.cons_append, List.nil_append, Act.put, List.setIfInBounds_toArray, List.set_cons_zero, List.set_cons_succ])
          refine inv_cons (fun wx hg hd => ?_) (fun v6 => ?_)
          · have hx := ((Below.refl wr.heap.size wr).drew).trans hg
            (try (have ee : v4 = (.slice (some ⟨g2, off2, none⟩) n d : Value) := hd 4 (by simp) (by decide); subst ee))
            (try (have ee : v5 = (.int .i64 i : Value) := hd 5 (by simp) (by decide); subst ee))
            clear hd hg
            go_wp2
            exact ⟨_, rfl, Below.refl _ _, rfl⟩
          (try simp only [List.cons_append, List.nil_append, Act.put, List.setIfInBounds_toArray, List.set_cons_zero, List.set_cons_succ])
          refine inv_cons (fun wx hg hd => ?_) (fun v7 => ?_)
          · have hx := ((Below.refl wr.heap.size wr).drew).trans hg
            (try (have ee : v6 = (.pointer (some ⟨g2, off2 + i, none⟩) : Value) := hd 6 (by simp) (by decide); subst ee))
            clear hd hg
            obtain ⟨k1, k2⟩ := HCQ.out _ hx
            go_wp2
            exact ⟨_, rfl, Below.refl _ _, rfl⟩
          (try simp only [List.cons_append, List.nil_append, Act.put, List.setIfInBounds_toArray, List.set_cons_zero, List.set_cons_succ])
          refine inv_cons (fun wx hg hd => ?_) (fun v8 => ?_)
          · have hx := ((Below.refl wr.heap.size wr).drew).trans hg
            (try (have ee : v3 = (.int .u64 x : Value) := hd 3 (by simp) (by decide); subst ee))
            (try (have ee : v7 = (.int .u64 x : Value) := hd 7 (by simp) (by decide); subst ee))
            clear hd hg
            go_wp2
            exact ⟨_, rfl, Below.refl _ _, rfl⟩
          (try simp only [List.cons_append, List.nil_append, Act.put, List.setIfInBounds_toArray, List.set_cons_zero, List.set_cons_succ])
          refine inv_done (fun wx hg hd => ?_)
          have hx := ((Below.refl wr.heap.size wr).drew).trans hg
          (have ee : v0 = (.slice (some ⟨g, off, none⟩) n c : Value) := hd 0 (by simp); subst ee)
          (have ee : v1 = (.int .i64 i : Value) := hd 1 (by simp); subst ee)
          (have ee : v2 = (.pointer (some ⟨g, off + i, none⟩) : Value) := hd 2 (by simp); subst ee)
          (have ee : v3 = (.int .u64 x : Value) := hd 3 (by simp); subst ee)
          (have ee : v4 = (.slice (some ⟨g2, off2, none⟩) n d : Value) := hd 4 (by simp); subst ee)
          (have ee : v5 = (.int .i64 i : Value) := hd 5 (by simp); subst ee)
          (have ee : v6 = (.pointer (some ⟨g2, off2 + i, none⟩) : Value) := hd 6 (by simp); subst ee)
          (have ee : v7 = (.int .u64 x : Value) := hd 7 (by simp); subst ee)
          (have ee : v8 = (.bool false : Value) := hd 8 (by simp); subst ee)
          clear hd hg
          (try go_simp)
          have HB8 := Lib.hid (HBI.out.trans (hx.mono HBI.out.size))
          clear hx HCQ
          go_wp2
          go_roundw
          case rel => exact ⟨i + 1, by omega, by go_num, HB8.out, trivial⟩
          case measure => simp [intOf]; omega
        · obtain ⟨j, rfl⟩ : ∃ j, i = j + 1 := ⟨i - 1, by omega⟩
          have q0 : decide (0 < ((j + 1 : Nat) : Int)) = true := decide_eq_true (by omega)
          have q0' : decide (0 < (j : Int) + 1) = true := decide_eq_true (by omega)
          have q1 : decide (1 < (n : Int)) = true := decide_eq_true (by omega)
          have q1n : decide (1 < n) = true := decide_eq_true (by omega)
          have q0n : decide (0 < j + 1) = true := decide_eq_true (by omega)
          have z0 := hc j (by rw [HN.out]; omega)
          obtain ⟨dd, hd1, hdj⟩ := HDI.out (by first | rfl | trivial) j hlt
          have HDJ := Lib.hid hdj
          clear hdj
          generalize L.getD j 0 = xa at *
          generalize L.getD (j + 1) 0 = x at *
          have HCX : Hid (∀ wx, Below wr.heap.size wr wx → wx.cell? ⟨g, off + j, none⟩ = some (.int .u64 xa) ∧ wx.cell? ⟨g, off + (j + 1), none⟩ = some (.int .u64 x)) := fun wx hx => ⟨(hx.cell (p := ⟨g, _, none⟩) hgs).trans z0, (hx.cell (p := ⟨g, _, none⟩) hgs).trans x0⟩
          clear hc hc2 z0
          have q7 : (x != x) = false := by simp
          have HCQ : Hid (∀ wx, Below wr.heap.size wr wx → wx.cell? ⟨g, off + (j + 1), none⟩ = some (.int .u64 x) ∧ wx.cell? ⟨g2, off2 + (j + 1), none⟩ = some (.int .u64 x)) := fun wx hx => ⟨(hx.cell (p := ⟨g, _, none⟩) hgs).trans x0, (hx.cell (p := ⟨g2, _, none⟩) hgs2).trans y0⟩
          go_upto_region 14 with (fail)
          clear x0 y0
          refine wp_region_inv (fun w w' => Below w.heap.size w w') (fun qi_ qv_ _ => qv_ = ([.slice (some ⟨g, off, none⟩) n c, .int .i64 ((j + 1 : Nat) : Int), .pointer (some ⟨g, off + (j + 1), none⟩), .int .u64 x, .slice (some ⟨g2, off2, none⟩) n d, .int .i64 ((j + 1 : Nat) : Int), .pointer (some ⟨g2, off2 + (j + 1), none⟩), .int .u64 x, .bool false] : List Value).getD qi_ undef) (by kernel_rfl) (by kernel_rfl) (fun _ => Below.refl _ _) (fun _ _ _ h1 h2 => below_later h1 h1.size h2) (fun _ _ _ _ _ _ h => h) ?_
          refine inv_cons (fun wx hg hd => ?_) (fun v0 => ?_)
          · have hx := ((Below.refl wr.heap.size wr).drew).trans hg
            clear hd hg
            go_wp2
            exact ⟨_, rfl, Below.refl _ _, rfl⟩
          (try simp only [List.nil_append, Act.put, List.setIfInBounds_toArray, List.set_cons_zero, List.set_cons_succ])
          refine inv_cons (fun wx hg hd => ?_) (fun v1 => ?_)
          · have hx := ((Below.refl wr.heap.size wr).drew).trans hg
            clear hd hg
            go_wp2
            exact ⟨_, rfl, Below.refl _ _, rfl⟩
          (try simp only [List.cons_append, List.nil_append, Act.put, List.setIfInBounds_toArray, List.set_cons_zero, List.set_cons_succ])
          refine inv_cons (fun wx hg hd => ?_) (fun v2 => ?_)
          · have hx := ((Below.refl wr.heap.size wr).drew).trans hg
            (try (have ee : v0 = (.slice (some ⟨g, off, none⟩) n c : Value) := hd 0 (by simp) (by decide); subst ee))
            (try (have ee : v1 = (.int .i64 ((j + 1 : Nat) : Int) : Value) := hd 1 (by simp) (by decide); subst ee))
            clear hd hg
            go_wp2
            exact ⟨_, rfl, Below.refl _ _, rfl⟩
          (try simp only [List.cons_append, List.nil_append, Act.put, List.setIfInBounds_toArray, List.set_cons_zero, List.set_cons_succ])
          refine inv_cons (fun wx hg hd => ?_) (fun v3 => ?_)
          · have hx := ((Below.refl wr.heap.size wr).drew).trans hg
            (try (have ee : v2 = (.pointer (some ⟨g, off + (j + 1), none⟩) : Value) := hd 2 (by simp) (by decide); subst ee))
            clear hd hg
            obtain ⟨k1, k2⟩ := HCQ.out _ hx
            go_wp2
            exact ⟨_, rfl, Below.refl _ _, rfl⟩
          (try simp only [List.cons_append, List.nil_append, Act.put, List.setIfInBounds_toArray, List.set_cons_zero, List.set_cons_succ])
          refine inv_cons (fun wx hg hd => ?_) (fun v4 => ?_)
          · have hx := ((Below.refl wr.heap.size wr).drew).trans hg
            clear hd hg
            go_wp2
            exact ⟨_, rfl, Below.refl _ _, rfl⟩
          (try simp only [List.cons_append, List.nil_append, Act.put, List.setIfInBounds_toArray, List.set_cons_zero, List.set_cons_succ])
          refine inv_cons (fun wx hg hd => ?_) (fun v5 => ?_)
          · have hx := ((Below.refl wr.heap.size wr).drew).trans hg
            clear hd hg
            go_wp2
            exact ⟨_, rfl, Below.refl _ _, rfl⟩
          (try simp only [List.cons_append, List.nil_append, Act.put, List.setIfInBounds_toArray, List.set_cons_zero, List.set_cons_succ])
          refine inv_cons (fun wx hg hd => ?_) (fun v6 => ?_)
          · have hx := ((Below.refl wr.heap.size wr).drew).trans hg
            (try (have ee : v4 = (.slice (some ⟨g2, off2, none⟩) n d : Value) := hd 4 (by simp) (by decide); subst ee))
            (try (have ee : v5 = (.int .i64 ((j + 1 : Nat) : Int) : Value) := hd 5 (by simp) (by decide); subst ee))
            clear hd hg
            go_wp2
            exact ⟨_, rfl, Below.refl _ _, rfl⟩
          (try simp only [List.cons_append, List.nil_append, Act.put, List.setIfInBounds_toArray, List.set_cons_zero, List.set_cons_succ])
          refine inv_cons (fun wx hg hd => ?_) (fun v7 => ?_)
          · have hx := ((Below.refl wr.heap.size wr).drew).trans hg
            (try (have ee : v6 = (.pointer (some ⟨g2, off2 + (j + 1), none⟩) : Value) := hd 6 (by simp) (by decide); subst ee))
            clear hd hg
            obtain ⟨k1, k2⟩ := HCQ.out _ hx
            go_wp2
            exact ⟨_, rfl, Below.refl _ _, rfl⟩
          (try simp only [List.cons_append, List.nil_append, Act.put, List.setIfInBounds_toArray, List.set_cons_zero, List.set_cons_succ])
          refine inv_cons (fun wx hg hd => ?_) (fun v8 => ?_)
          · have hx := ((Below.refl wr.heap.size wr).drew).trans hg
            (try (have ee : v3 = (.int .u64 x : Value) := hd 3 (by simp) (by decide); subst ee))
            (try (have ee : v7 = (.int .u64 x : Value) := hd 7 (by simp) (by decide); subst ee))
            clear hd hg
            go_wp2
            exact ⟨_, rfl, Below.refl _ _, rfl⟩
          (try simp only [List.cons_append, List.nil_append, Act.put, List.setIfInBounds_toArray, List.set_cons_zero, List.set_cons_succ])
          refine inv_done (fun wx hg hd => ?_)
          have hx := ((Below.refl wr.heap.size wr).drew).trans hg
          (have ee : v0 = (.slice (some ⟨g, off, none⟩) n c : Value) := hd 0 (by simp); subst ee)
          (have ee : v1 = (.int .i64 ((j + 1 : Nat) : Int) : Value) := hd 1 (by simp); subst ee)
          (have ee : v2 = (.pointer (some ⟨g, off + (j + 1), none⟩) : Value) := hd 2 (by simp); subst ee)
          (have ee : v3 = (.int .u64 x : Value) := hd 3 (by simp); subst ee)
          (have ee : v4 = (.slice (some ⟨g2, off2, none⟩) n d : Value) := hd 4 (by simp); subst ee)
          (have ee : v5 = (.int .i64 ((j + 1 : Nat) : Int) : Value) := hd 5 (by simp); subst ee)
          (have ee : v6 = (.pointer (some ⟨g2, off2 + (j + 1), none⟩) : Value) := hd 6 (by simp); subst ee)
          (have ee : v7 = (.int .u64 x : Value) := hd 7 (by simp); subst ee)
          (have ee : v8 = (.bool false : Value) := hd 8 (by simp); subst ee)
          clear hd hg
          (try go_simp)
          have HDR := Lib.hid hx
          generalize wx = wd at *
          have hgd : g < wd.heap.size := Nat.lt_of_lt_of_le hgs HDR.out.size
          clear HCQ
          obtain ⟨r1, r2⟩ := HCX.out _ HDR.out
          go_upto_region 17 with (fail)
          clear r1 r2
          refine wp_region_inv (fun w w' => Below w.heap.size w w') (fun qi_ qv_ _ => qv_ = ([.slice (some ⟨g, off, none⟩) n c, .int .i64 ((j + 1 : Nat) : Int), .int .i64 (j : Int), .pointer (some ⟨g, off + j, none⟩), .int .u64 xa, .slice (some ⟨g, off, none⟩) n c, .int .i64 ((j + 1 : Nat) : Int), .pointer (some ⟨g, off + (j + 1), none⟩), .int .u64 x, .tuple #[.int .i64 dd, .int .i64 0], .tuple #[.int .i64 dd, .int .i64 0], .int .i64 dd, .int .i64 0, .int .i64 dd, .int .i64 0] : List Value).getD qi_ undef) (by kernel_rfl) (by kernel_rfl) (fun _ => Below.refl _ _) (fun _ _ _ h1 h2 => below_later h1 h1.size h2) (fun _ _ _ _ _ _ h => h) ?_
          refine inv_cons (fun wx hg hd => ?_) (fun v0 => ?_)
          · have hx := ((Below.refl wd.heap.size wd).drew).trans hg
            clear hd hg
            go_wp2
            exact ⟨_, rfl, Below.refl _ _, rfl⟩
          (try simp only [List.nil_append, Act.put, List.setIfInBounds_toArray, List.set_cons_zero, List.set_cons_succ])
          refine inv_cons (fun wx hg hd => ?_) (fun v1 => ?_)
          · have hx := ((Below.refl wd.heap.size wd).drew).trans hg
            clear hd hg
            go_wp2
            exact ⟨_, rfl, Below.refl _ _, rfl⟩
          (try simp only [List.cons_append, List.nil_append, Act.put, List.setIfInBounds_toArray, List.set_cons_zero, List.set_cons_succ])
          refine inv_cons (fun wx hg hd => ?_) (fun v2 => ?_)
          · have hx := ((Below.refl wd.heap.size wd).drew).trans hg
            (try (have ee : v1 = (.int .i64 ((j + 1 : Nat) : Int) : Value) := hd 1 (by simp) (by decide); subst ee))
            clear hd hg
            go_wp2
            exact ⟨_, rfl, Below.refl _ _, by go_num⟩
          (try simp only [List.cons_append, List.nil_append, Act.put, List.setIfInBounds_toArray, List.set_cons_zero, List.set_cons_succ])
          refine inv_cons (fun wx hg hd => ?_) (fun v3 => ?_)
          · have hx := ((Below.refl wd.heap.size wd).drew).trans hg
            (try (have ee : v0 = (.slice (some ⟨g, off, none⟩) n c : Value) := hd 0 (by simp) (by decide); subst ee))
            (try (have ee : v2 = (.int .i64 (j : Int) : Value) := hd 2 (by simp) (by decide); subst ee))
            clear hd hg
            go_wp2
            exact ⟨_, rfl, Below.refl _ _, rfl⟩
          (try simp only [List.cons_append, List.nil_append, Act.put, List.setIfInBounds_toArray, List.set_cons_zero, List.set_cons_succ])
          refine inv_cons (fun wx hg hd => ?_) (fun v4 => ?_)
          · have hx := ((Below.refl wd.heap.size wd).drew).trans hg
            (try (have ee : v3 = (.pointer (some ⟨g, off + j, none⟩) : Value) := hd 3 (by simp) (by decide); subst ee))
            clear hd hg
            obtain ⟨k1, k2⟩ := HCX.out _ (HDR.out.trans (hx.mono HDR.out.size))
            go_wp2
            exact ⟨_, rfl, Below.refl _ _, rfl⟩
          (try simp only [List.cons_append, List.nil_append, Act.put, List.setIfInBounds_toArray, List.set_cons_zero, List.set_cons_succ])
          refine inv_cons (fun wx hg hd => ?_) (fun v5 => ?_)
          · have hx := ((Below.refl wd.heap.size wd).drew).trans hg
            clear hd hg
            go_wp2
            exact ⟨_, rfl, Below.refl _ _, rfl⟩
          (try simp only [List.cons_append, List.nil_append, Act.put, List.setIfInBounds_toArray, List.set_cons_zero, List.set_cons_succ])
          refine inv_cons (fun wx hg hd => ?_) (fun v6 => ?_)
          · have hx := ((Below.refl wd.heap.size wd).drew).trans hg
            clear hd hg
            go_wp2
            exact ⟨_, rfl, Below.refl _ _, rfl⟩
          (try simp only [List.cons_append, List.nil_append, Act.put, List.setIfInBounds_toArray, List.set_cons_zero, List.set_cons_succ])
          refine inv_cons (fun wx hg hd => ?_) (fun v7 => ?_)
          · have hx := ((Below.refl wd.heap.size wd).drew).trans hg
            (try (have ee : v5 = (.slice (some ⟨g, off, none⟩) n c : Value) := hd 5 (by simp) (by decide); subst ee))
            (try (have ee : v6 = (.int .i64 ((j + 1 : Nat) : Int) : Value) := hd 6 (by simp) (by decide); subst ee))
            clear hd hg
            go_wp2
            exact ⟨_, rfl, Below.refl _ _, rfl⟩
          (try simp only [List.cons_append, List.nil_append, Act.put, List.setIfInBounds_toArray, List.set_cons_zero, List.set_cons_succ])
          refine inv_cons (fun wx hg hd => ?_) (fun v8 => ?_)
          · have hx := ((Below.refl wd.heap.size wd).drew).trans hg
            (try (have ee : v7 = (.pointer (some ⟨g, off + (j + 1), none⟩) : Value) := hd 7 (by simp) (by decide); subst ee))
            clear hd hg
            obtain ⟨k1, k2⟩ := HCX.out _ (HDR.out.trans (hx.mono HDR.out.size))
            go_wp2
            exact ⟨_, rfl, Below.refl _ _, rfl⟩
          (try simp only [List.cons_append, List.nil_append, Act.put, List.setIfInBounds_toArray, List.set_cons_zero, List.set_cons_succ])
          refine inv_cons (fun wx hg hd => ?_) (fun v9 => ?_)
          · have hx := ((Below.refl wd.heap.size wd).drew).trans hg
            (try (have ee : v4 = (.int .u64 xa : Value) := hd 4 (by simp) (by decide); subst ee))
            (try (have ee : v8 = (.int .u64 x : Value) := hd 8 (by simp) (by decide); subst ee))
            clear hd hg
            go_wp2_with fail
            refine (HDJ.out _).mono ?_
            rintro e w' ⟨rfl, hb⟩
            go_wp2
            exact ⟨_, rfl, hb, rfl⟩
          (try simp only [List.cons_append, List.nil_append, Act.put, List.setIfInBounds_toArray, List.set_cons_zero, List.set_cons_succ])
          refine inv_cons (fun wx hg hd => ?_) (fun v10 => ?_)
          · have hx := ((Below.refl wd.heap.size wd).drew).trans hg
            (try (have ee : v9 = (.tuple #[.int .i64 dd, .int .i64 0] : Value) := hd 9 (by simp) (by decide); subst ee))
            clear hd hg
            go_wp2
            exact ⟨_, rfl, Below.refl _ _, rfl⟩
          (try simp only [List.cons_append, List.nil_append, Act.put, List.setIfInBounds_toArray, List.set_cons_zero, List.set_cons_succ])
          refine inv_cons (fun wx hg hd => ?_) (fun v11 => ?_)
          · have hx := ((Below.refl wd.heap.size wd).drew).trans hg
            (try (have ee : v10 = (.tuple #[.int .i64 dd, .int .i64 0] : Value) := hd 10 (by simp) (by decide); subst ee))
            clear hd hg
            go_wp2
            exact ⟨_, rfl, Below.refl _ _, rfl⟩
          (try simp only [List.cons_append, List.nil_append, Act.put, List.setIfInBounds_toArray, List.set_cons_zero, List.set_cons_succ])
          refine inv_cons (fun wx hg hd => ?_) (fun v12 => ?_)
          · have hx := ((Below.refl wd.heap.size wd).drew).trans hg
            (try (have ee : v10 = (.tuple #[.int .i64 dd, .int .i64 0] : Value) := hd 10 (by simp) (by decide); subst ee))
            clear hd hg
            go_wp2
            exact ⟨_, rfl, Below.refl _ _, rfl⟩
          (try simp only [List.cons_append, List.nil_append, Act.put, List.setIfInBounds_toArray, List.set_cons_zero, List.set_cons_succ])
          refine inv_cons (fun wx hg hd => ?_) (fun v13 => ?_)
          · have hx := ((Below.refl wd.heap.size wd).drew).trans hg
            (try (have ee : v11 = (.int .i64 dd : Value) := hd 11 (by simp) (by decide); subst ee))
            clear hd hg
            go_wp2
            exact ⟨_, rfl, Below.refl _ _, rfl⟩
          (try simp only [List.cons_append, List.nil_append, Act.put, List.setIfInBounds_toArray, List.set_cons_zero, List.set_cons_succ])
          refine inv_cons (fun wx hg hd => ?_) (fun v14 => ?_)
          · have hx := ((Below.refl wd.heap.size wd).drew).trans hg
            (try (have ee : v12 = (.int .i64 0 : Value) := hd 12 (by simp) (by decide); subst ee))
            clear hd hg
            go_wp2
            exact ⟨_, rfl, Below.refl _ _, rfl⟩
          (try simp only [List.cons_append, List.nil_append, Act.put, List.setIfInBounds_toArray, List.set_cons_zero, List.set_cons_succ])
          refine inv_done (fun wx hg hd => ?_)
          have hx := ((Below.refl wd.heap.size wd).drew).trans hg
          (have ee : v0 = (.slice (some ⟨g, off, none⟩) n c : Value) := hd 0 (by simp); subst ee)
          (have ee : v1 = (.int .i64 ((j + 1 : Nat) : Int) : Value) := hd 1 (by simp); subst ee)
          (have ee : v2 = (.int .i64 (j : Int) : Value) := hd 2 (by simp); subst ee)
          (have ee : v3 = (.pointer (some ⟨g, off + j, none⟩) : Value) := hd 3 (by simp); subst ee)
          (have ee : v4 = (.int .u64 xa : Value) := hd 4 (by simp); subst ee)
          (have ee : v5 = (.slice (some ⟨g, off, none⟩) n c : Value) := hd 5 (by simp); subst ee)
          (have ee : v6 = (.int .i64 ((j + 1 : Nat) : Int) : Value) := hd 6 (by simp); subst ee)
          (have ee : v7 = (.pointer (some ⟨g, off + (j + 1), none⟩) : Value) := hd 7 (by simp); subst ee)
          (have ee : v8 = (.int .u64 x : Value) := hd 8 (by simp); subst ee)
          (have ee : v9 = (.tuple #[.int .i64 dd, .int .i64 0] : Value) := hd 9 (by simp); subst ee)
          (have ee : v10 = (.tuple #[.int .i64 dd, .int .i64 0] : Value) := hd 10 (by simp); subst ee)
          (have ee : v11 = (.int .i64 dd : Value) := hd 11 (by simp); subst ee)
          (have ee : v12 = (.int .i64 0 : Value) := hd 12 (by simp); subst ee)
          (have ee : v13 = (.int .i64 dd : Value) := hd 13 (by simp); subst ee)
          (have ee : v14 = (.int .i64 0 : Value) := hd 14 (by simp); subst ee)
          clear hd hg
          (try go_simp)
          have q2 : decide (dd < 1) = false := decide_eq_false (by omega)
          have HB8 := Lib.hid (HBI.out.trans ((HDR.out.trans (hx.mono HDR.out.size)).mono HBI.out.size))
          clear hx HCX
          go_wp2
          go_roundw
          case rel => exact ⟨j + 1 + 1, by omega, by go_num, HB8.out, trivial⟩
          case measure => simp [intOf]; omega
      · have hni : n ≤ i := by omega
        have HB3 := Lib.hid (BB.out.trans (HBI.out.mono BB.out.size))
        go_wp2_with fail
        refine (HAW.out _).mono ?_
        rintro e w5 ⟨rfl, hb5⟩
        have HF := Lib.hid (HB3.out.trans (hb5.mono HB3.out.size))
        clear hb5
        go_wp2
        go_ret
        exact ⟨rfl, HF.out⟩
  · go_wp2_with fail
    refine (HL2.out _).mono ?_
    rintro e w7 ⟨rfl, hb7⟩
    have B7 := Lib.hid (B6.out.trans (hb7.mono B6.out.size))
    clear hb7 B6
    have B6 := Lib.hid B7.out
    clear B7
    go_wp2_with fail
    refine (HA.out _).mono ?_
    rintro e wa ⟨ao, c, rfl, ha, hba⟩
    have BA := Lib.hid (B6.out.trans (hba.mono B6.out.size))
    have TA := Lib.hid ha
    rw [HN.out]
    clear ha hba B6
    go_wp2_with fail
    refine (HB.out _).mono ?_
    rintro e wb ⟨bo, d, rfl, hb, hbb⟩
    have BB := Lib.hid (BA.out.trans (hbb.mono BA.out.size))
    have TA2 := Lib.hid (TA.out.below hbb (Nat.le_refl _))
    have TB := Lib.hid hb
    have hab := hbb.size
    rw [HN.out]
    clear hb hbb BA TA HA HB
    go_wp2
    go_loopw [24] (fun i wr => ∃ k : Nat, k ≤ n ∧ i = .int .i64 k ∧ Hid (Below wb.heap.size wb wr ∧ True)) (fun i _ => n - (intOf i).toNat)
    case atStart => exact ⟨0, by omega, rfl, Below.refl _ _, trivial⟩
    case round =>
      obtain ⟨i, hi, rfl, hbi, -⟩ := hrel
      have HBI := Lib.hid hbi
      clear hbi
      by_cases hlt : i < n
      · obtain ⟨g, off, rfl, hg, hc⟩ := (TA2.out.below HBI.out hab) (by rw [HN.out]; omega)
        obtain ⟨g2, off2, rfl, hg2, hc2⟩ := (TB.out.below HBI.out (Nat.le_refl _)) (by rw [HN.out]; omega)
        have hgs : g < wr.heap.size := Nat.lt_of_lt_of_le (Nat.lt_of_lt_of_le hg hab) HBI.out.size
        have hgs2 : g2 < wr.heap.size := Nat.lt_of_lt_of_le hg2 HBI.out.size
        have x0 := hc i (by rw [HN.out]; exact hlt)
        have y0 := hc2 i (by rw [HN.out]; exact hlt)
        generalize L.getD i 0 = x at *
        clear hc hc2
        have q7 : (x != x) = false := by simp
        have HCQ : Hid (∀ wx, Below wr.heap.size wr wx → wx.cell? ⟨g, off + i, none⟩ = some (.int .u64 x) ∧ wx.cell? ⟨g2, off2 + i, none⟩ = some (.int .u64 x)) := fun wx hx => ⟨(hx.cell (p := ⟨g, _, none⟩) hgs).trans x0, (hx.cell (p := ⟨g2, _, none⟩) hgs2).trans y0⟩
        go_upto_region 14 with (fail)
        clear x0 y0
        refine wp_region_inv (fun w w' => Below w.heap.size w w') (fun qi_ qv_ _ => qv_ = ([.slice (some ⟨g, off, none⟩) n c, .int .i64 i, .pointer (some ⟨g, off + i, none⟩), .int .u64 x, .slice (some ⟨g2, off2, none⟩) n d, .int .i64 i, .pointer (some ⟨g2, off2 + i, none⟩), .int .u64 x, .bool false] : List Value).getD qi_ undef) (by kernel_rfl) (by kernel_rfl) (fun _ => Below.refl _ _) (fun _ _ _ h1 h2 => below_later h1 h1.size h2) (fun _ _ _ _ _ _ h => h) ?_
        refine inv_cons (fun wx hg hd => ?_) (fun v0 => ?_)
        · have hx := ((Below.refl wr.heap.size wr).drew).trans hg
          clear hd hg
          go_wp2
          exact ⟨_, rfl, Below.refl _ _, rfl⟩
        (try simp only [List.nil_append, Act.put, List.setIfInBounds_toArray, List.set_cons_zero, List.set_cons_succ])
        refine inv_cons (fun wx hg hd => ?_) (fun v1 => ?_)
        · have hx := ((Below.refl wr.heap.size wr).drew).trans hg
          clear hd hg
          go_wp2
          exact ⟨_, rfl, Below.refl _ _, rfl⟩
        (try simp only [List.cons_append, List.nil_append, Act.put, List.setIfInBounds_toArray, List.set_cons_zero, List.set_cons_succ])
        refine inv_cons (fun wx hg hd => ?_) (fun v2 => ?_)
        · have hx := ((Below.refl wr.heap.size wr).drew).trans hg
          (try (have ee : v0 = (.slice (some ⟨g, off, none⟩) n c : Value) := hd 0 (by simp) (by decide); subst ee))
          (try (have ee : v1 = (.int .i64 i : Value) := hd 1 (by simp) (by decide); subst ee))
          clear hd hg
          go_wp2
          exact ⟨_, rfl, Below.refl _ _, rfl⟩
        (try simp only [List.cons_append, List.nil_append, Act.put, List.setIfInBounds_toArray, List.set_cons_zero, List.set_cons_succ])
        refine inv_cons (fun wx hg hd => ?_) (fun v3 => ?_)
        · have hx := ((Below.refl wr.heap.size wr).drew).trans hg
          (try (have ee : v2 = (.pointer (some ⟨g, off + i, none⟩) : Value) := hd 2 (by simp) (by decide); subst ee))
          clear hd hg
          obtain ⟨k1, k2⟩ := HCQ.out _ hx
          go_wp2
          exact ⟨_, rfl, Below.refl _ _, rfl⟩
        (try simp only [List.cons_append, List.nil_append, Act.put, List.setIfInBounds_toArray, List.set_cons_zero, List.set_cons_succ])
        refine inv_cons (fun wx hg hd => ?_) (fun v4 => ?_)
        · have hx := ((Below.refl wr.heap.size wr).drew).trans hg
          clear hd hg
          go_wp2
          exact ⟨_, rfl, Below.refl _ _, rfl⟩
        (try simp only [List.cons_append, List.nil_append, Act.put, List.setIfInBounds_toArray, List.set_cons_zero, List.set_cons_succ])
        refine inv_cons (fun wx hg hd => ?_) (fun v5 => ?_)
        · have hx := ((Below.refl wr.heap.size wr).drew).trans hg
          clear hd hg
          go_wp2
          exact ⟨_, rfl, Below.refl _ _, rfl⟩
        (try simp only [List.cons_append, List.nil_append, Act.put, List.setIfInBounds_toArray, List.set_cons_zero, List.set_cons_succ])
        refine inv_cons (fun wx hg hd => ?_) (fun v6 => ?_)
        · have hx := ((Below.refl wr.heap.size wr).drew).trans hg
          (try (have ee : v4 = (.slice (some ⟨g2, off2, none⟩) n d : Value) := hd 4 (by simp) (by decide); subst ee))
          (try (have ee : v5 = (.int .i64 i : Value) := hd 5 (by simp) (by decide); subst ee))
          clear hd hg
          go_wp2
          exact ⟨_, rfl, Below.refl _ _, rfl⟩
        (try simp only [List.cons_append, List.nil_append, Act.put, List.setIfInBounds_toArray, List.set_cons_zero, List.set_cons_succ])
        refine inv_cons (fun wx hg hd => ?_) (fun v7 => ?_)
        · have hx := ((Below.refl wr.heap.size wr).drew).trans hg
          (try (have ee : v6 = (.pointer (some ⟨g2, off2 + i, none⟩) : Value) := hd 6 (by simp) (by decide); subst ee))
          clear hd hg
          obtain ⟨k1, k2⟩ := HCQ.out _ hx
          go_wp2
          exact ⟨_, rfl, Below.refl _ _, rfl⟩
        (try simp only [List.cons_append, List.nil_append, Act.put, List.setIfInBounds_toArray, List.set_cons_zero, List.set_cons_succ])
        refine inv_cons (fun wx hg hd => ?_) (fun v8 => ?_)
        · have hx := ((Below.refl wr.heap.size wr).drew).trans hg
          (try (have ee : v3 = (.int .u64 x : Value) := hd 3 (by simp) (by decide); subst ee))
          (try (have ee : v7 = (.int .u64 x : Value) := hd 7 (by simp) (by decide); subst ee))
          clear hd hg
          go_wp2
          exact ⟨_, rfl, Below.refl _ _, rfl⟩
        (try simp only [List.cons_append, List.nil_append, Act.put, List.setIfInBounds_toArray, List.set_cons_zero, List.set_cons_succ])
        refine inv_done (fun wx hg hd => ?_)
        have hx := ((Below.refl wr.heap.size wr).drew).trans hg
        (have ee : v0 = (.slice (some ⟨g, off, none⟩) n c : Value) := hd 0 (by simp); subst ee)
        (have ee : v1 = (.int .i64 i : Value) := hd 1 (by simp); subst ee)
        (have ee : v2 = (.pointer (some ⟨g, off + i, none⟩) : Value) := hd 2 (by simp); subst ee)
        (have ee : v3 = (.int .u64 x : Value) := hd 3 (by simp); subst ee)
        (have ee : v4 = (.slice (some ⟨g2, off2, none⟩) n d : Value) := hd 4 (by simp); subst ee)
        (have ee : v5 = (.int .i64 i : Value) := hd 5 (by simp); subst ee)
        (have ee : v6 = (.pointer (some ⟨g2, off2 + i, none⟩) : Value) := hd 6 (by simp); subst ee)
        (have ee : v7 = (.int .u64 x : Value) := hd 7 (by simp); subst ee)
        (have ee : v8 = (.bool false : Value) := hd 8 (by simp); subst ee)
        clear hd hg
        (try go_simp)
        have HB8 := Lib.hid (HBI.out.trans (hx.mono HBI.out.size))
        clear hx HCQ
        go_wp2
        go_roundw
        case rel => exact ⟨i + 1, by omega, by go_num, HB8.out, trivial⟩
        case measure => simp [intOf]; omega
      · have hni : n ≤ i := by omega
        have HB3 := Lib.hid (BB.out.trans (HBI.out.mono BB.out.size))
        go_wp2_with fail
        refine (HAW.out _).mono ?_
        rintro e w5 ⟨rfl, hb5⟩
        have HF := Lib.hid (HB3.out.trans (hb5.mono HB3.out.size))
        clear hb5
        go_wp2
        go_ret
        exact ⟨rfl, HF.out⟩
theorem walk {w : World} (a0 : Int) (_w0 : (Lit.int .i64 a0).wf = true) (a1 : Int) (_w1 : (Lit.int .i64 a1).wf = true) (a2 : Int) (_w2 : (Lit.int .i64 a2).wf = true) (a3 : Int) (_w3 : (Lit.int .i64 a3).wf = true) (a4 : Int) (_w4 : (Lit.int .i64 a4).wf = true) (a5 : Int) (_w5 : (Lit.int .i64 a5).wf = true) :
    Calls Try.prog 11 #[.int .i64 a0, .int .i64 a1, .int .i64 a2, .int .i64 a3, .int .i64 a4, .int .i64 a5] w fun e w' => e = .returned (.bool true) ∧ Below w.heap.size w w' := core w a0 a1 a2 a3 a4 a5
end Go.Proofs.Yticbkdignmlfiaa.nearLines
