/- The contract of near.walker's ring. -/
import Derived.Test.YticbkdignmlfiaaNrA
namespace Go.Proofs.Yticbkdignmlfiaa
open Go.RowKit Go.Lib Wd

/-- So many steps one way. -/
def ptP (c u : E2) (j : Nat) : E2 := (c.1 + j * u.1, c.2 + j * u.2)
def lineP (c u : E2) (k : Nat) : List E2 := (List.range k).map fun j => ptP c u j
def corn (z : E2) (k : Nat) : Nat → E2
  | 0 => ptP z (unitE 4) k
  | s + 1 => ptP (corn z k s) (unitE s) k
def sidesP (z : E2) (k : Nat) : Nat → List E2
  | 0 => []
  | s + 1 => sidesP z k s ++ lineP (corn z k s) (unitE s) k
/-- The numbers so many steps away, in the walker's order. -/
def ringL (z : E2) (k : Nat) : List E2 := if k = 0 then [z] else sidesP z k 6
theorem ptP_zero (c u : E2) : ptP c u 0 = c := by unfold ptP; simp
theorem ptP_succ (c u : E2) (j : Nat) : addE (ptP c u j) u = ptP c u (j + 1) := by
  unfold ptP addE
  simp only [Int.natCast_add, Int.natCast_one, Int.add_mul, Int.one_mul, Int.add_assoc]
theorem lineP_succ (c u : E2) (j : Nat) : lineP c u (j + 1) = lineP c u j ++ [ptP c u j] := by
  unfold lineP; rw [List.range_succ, List.map_append]; rfl
theorem ptP_sm {h : Int} {c : E2} (hc : Sm h c) (k : Nat) (j : Nat) : Sm (h + j) (ptP c (unitE k) j) := by
  have hu : unitE k = (1, 0) ∨ unitE k = (0, 1) ∨ unitE k = (-1, 1) ∨ unitE k = (-1, 0) ∨ unitE k = (0, -1) ∨ unitE k = (1, -1) := by
    unfold unitE; split <;> simp
  unfold ptP
  unfold Sm at *
  rcases hu with e | e | e | e | e | e <;> rw [e] <;> simp only <;> omega
theorem corn_sm {h : Int} {z : E2} (hz : Sm h z) (k s : Nat) : Sm (h + (s + 1) * k) (corn z k s) := by
  induction s with
  | zero => exact (ptP_sm hz 4 k).mono (by simp)
  | succ s ih =>
    refine (ptP_sm ih s k).mono ?_
    simp only [Int.natCast_add, Int.natCast_one, Int.add_mul, Int.one_mul]
    omega
theorem lineP_length (c u : E2) (k : Nat) : (lineP c u k).length = k := by unfold lineP; simp
theorem sidesP_length (z : E2) (k s : Nat) : (sidesP z k s).length = s * k := by
  induction s with
  | zero => simp [sidesP]
  | succ s ih => show (sidesP z k s ++ _).length = _; rw [List.length_append, ih, lineP_length, Nat.succ_mul]
theorem tellL_length (r : Int) (L : List E2) : (tellL r L).length ≤ L.length := by unfold tellL; rw [List.length_map]; exact List.length_filter_le _ _
set_option maxRecDepth 100000 in
set_option maxHeartbeats 8000000 in
theorem ring_any (g : Nat) (r : Int) (z : E2) (k : Nat) (v : Value) (l : List Int) (w : World) (h : Wkr w g r z v l) (hz : Sm 2147483648 z) (hk : k ≤ 10000) (hl : l.length ≤ 50000000) :
    Calls Try.prog 45 #[.pointer (some ⟨g, 0, none⟩), .int .i64 k] w (Walked w g r z v (l ++ tellL r (ringL z k))) := by
  obtain ⟨c0, c1, c2, c3, f1, f2, f3, hgl⟩ := h.cells
  have hal : Below w.heap.size w (w.alloc (.cells #[.int .i64 z.1, .int .i64 z.2] 23)) := (Below.refl _ _).alloc (Nat.le_refl _) _
  have ksz := World.size_alloc w (.cells #[.int .i64 z.1, .int .i64 z.2] 23)
  have HW2 := Lib.hid (h.later hal)
  have HM2 : Hid (Two (w.alloc (.cells #[.int .i64 z.1, .int .i64 z.2] 23)) w.heap.size (.int .i64 z.1) (.int .i64 z.2)) := Two.of_row (t := 23) (f := _) (heap_new _ _ _ rfl)
  have HF2 : Hid (Fr g v v w (w.alloc (.cells #[.int .i64 z.1, .int .i64 z.2] 23))) := Fr.of_below hal
  have HVM : Hid (¬ v.ownBlock = some w.heap.size) := fun e => by have := (h.2.lt _ e).2; omega
  clear hal h
  by_cases hk0 : k = 0
  · subst hk0
    have HRL : Hid (ringL z 0 = [z]) := rfl
    rw [HRL.out]
    have HT := Lib.hid (tell_any g r z v l _ HW2.out (by omega))
    go_enter Try.func45, Try.ntmps45
    go_wp2_with fail
    refine HT.out.mono ?_
    rintro e w3 ⟨rfl, v', hw3, hf3⟩
    have HP : Hid (Walked w g r z v (l ++ tellL r [z]) (.returned (.tuple #[])) w3) := ⟨rfl, v', hw3, HF2.out.trans hf3⟩
    clear hw3 hf3
    go_wp2
    go_end0
    exact HP.out
  · have hkpos : 0 < k := by omega
    have qk : ((k : Int) == 0) = false := by simp; omega
    have HRL : Hid (ringL z k = sidesP z k 6) := by show _ = _; unfold ringL; rw [if_neg hk0]
    rw [HRL.out]
    have HSM := Lib.hid hz
    clear hz hk0
    go_enter Try.func45, Try.ntmps45
    go_upto_region 1 with (fail)
    generalize w.alloc (.cells #[.int .i64 z.1, .int .i64 z.2] 23) = w2 at *
    obtain ⟨m, hm⟩ : ∃ m, w.heap.size = m := ⟨_, rfl⟩
    rw [hm] at HM2 HVM hgl ksz ⊢
    clear hm c0 c1 c2 c3 f1 f2 f3
    go_wp2
    go_loopw [18] (fun i wr => ∃ j : Nat, j ≤ k ∧ i = .int .i64 j ∧ Hid (∃ v', Wkr wr g r (ptP z (unitE 4) j) v' l ∧ Fr g v v' w2 wr)) (fun i _ => k - (intOf i).toNat)
    case atStart => exact ⟨0, by omega, rfl, v, by rw [ptP_zero]; exact HW2.out, Fr.refl _ _ _⟩
    case round =>
      obtain ⟨j, hj, rfl, HI⟩ := hrel
      by_cases hjk : j < k
      · obtain ⟨v', hwk, hfr⟩ := HI.out
        have hs := step_any g r (ptP z (unitE 4) j) 4 v' l wr hwk (by decide) ((ptP_sm HSM.out 4 j).mono (by omega))
        rw [ptP_succ] at hs
        have HST : Hid (Calls Try.prog 70 #[.pointer (some ⟨g, 0, none⟩), .int .i64 4] wr (Walked wr g r (ptP z (unitE 4) (j + 1)) v' l)) := hs
        have HFR := Lib.hid hfr
        clear hwk hfr hs HI
        go_wp2_with fail
        refine HST.out.mono ?_
        rintro e w4 ⟨rfl, v'', hw4, hf4⟩
        have HN : Hid (∃ v'', Wkr w4 g r (ptP z (unitE 4) (j + 1)) v'' l ∧ Fr g v v'' w2 w4) := ⟨v'', hw4, HFR.out.trans hf4⟩
        clear hw4 hf4
        go_wp2
        go_roundw
        case rel => exact ⟨j + 1, by omega, by go_num, HN.out⟩
        case measure => simp [intOf]; omega
      · obtain rfl : j = k := by omega
        have HI2 : Hid (∃ v', Wkr wr g r (corn z j 0) v' (l ++ tellL r (sidesP z j 0)) ∧ Fr g v v' w2 wr) := by
          have := HI.out
          rw [show l ++ tellL r (sidesP z j 0) = l by simp [sidesP, tellL]]
          exact this
        clear HI hjk hj
        go_wp2
        have HVN : Hid (¬ v.ownBlock = some m) := HVM.out
        clear HW2 HVM
        go_loopw [23] (fun i wr => ∃ s : Nat, s ≤ 6 ∧ i = .int .i64 s ∧ Hid (∃ v', Wkr wr g r (corn z j s) v' (l ++ tellL r (sidesP z j s)) ∧ Fr g v v' w2 wr)) (fun i _ => 6 - (intOf i).toNat)
        case atStart => exact ⟨0, by omega, rfl, HI2.out⟩
        case round =>
          obtain ⟨s, hs6, rfl, HJ⟩ := hrel
          clear HI2
          by_cases hs : s < 6
          · have HC0 : Hid (∃ v', Wkr wr g r (ptP (corn z j s) (unitE s) 0) v' (l ++ tellL r (sidesP z j s ++ lineP (corn z j s) (unitE s) 0)) ∧ Fr g v v' w2 wr) := by
              have := HJ.out
              rw [ptP_zero, show lineP (corn z j s) (unitE s) 0 = [] from rfl, List.append_nil]
              exact this
            have HCM := Lib.hid (corn_sm HSM.out j s)
            have HC1 : Hid (∀ wr, (∃ v', Wkr wr g r (ptP (corn z j s) (unitE s) j) v' (l ++ tellL r (sidesP z j s ++ lineP (corn z j s) (unitE s) j)) ∧ Fr g v v' w2 wr) → ∃ v', Wkr wr g r (corn z j (s + 1)) v' (l ++ tellL r (sidesP z j (s + 1))) ∧ Fr g v v' w2 wr) := fun wr h => h
            have HSL := Lib.hid (sidesP_length z j s)
            have hsj : s * j ≤ 6 * 10000 := Nat.mul_le_mul hs6 hk
            have hsj2 : ((s : Int) + 1) * (j : Int) ≤ 7 * 10000 := by
              have h1 : (s + 1) * j ≤ 7 * 10000 := Nat.mul_le_mul (by omega) hk
              have h2 : (((s + 1) * j : Nat) : Int) ≤ 70000 := by omega
              simpa using h2
            generalize corn z j s = c at *
            generalize sidesP z j s = SL at *
            obtain ⟨wo, hwo⟩ : ∃ wo : World, wo = wr := ⟨_, rfl⟩
            rw [← hwo] at HC0 ⊢
            clear HJ hwo
            have q6 : decide ((s : Int) < 6) = true := decide_eq_true (by omega)
            go_wp2
            go_loopw [27] (fun i wr => ∃ i' : Nat, i' ≤ j ∧ i = .int .i64 i' ∧ Hid (∃ v', Wkr wr g r (ptP c (unitE s) i') v' (l ++ tellL r (SL ++ lineP c (unitE s) i')) ∧ Fr g v v' w2 wr)) (fun i _ => j - (intOf i).toNat)
            case atStart => exact ⟨0, by omega, rfl, HC0.out⟩
            case round =>
              obtain ⟨i', hi', rfl, HK⟩ := hrel
              by_cases hij : i' < j
              · obtain ⟨v', hwk, hfr⟩ := HK.out
                have hlen : (l ++ tellL r (SL ++ lineP c (unitE s) i')).length ≤ 100000000 := by
                  have h1 := tellL_length r (SL ++ lineP c (unitE s) i')
                  have h2 := HSL.out
                  rw [List.length_append, lineP_length] at h1
                  rw [List.length_append]
                  omega
                have HTE := Lib.hid (tell_any g r (ptP c (unitE s) i') v' (l ++ tellL r (SL ++ lineP c (unitE s) i')) wr hwk hlen)
                have HAPP : Hid ((l ++ tellL r (SL ++ lineP c (unitE s) i')) ++ tellL r [ptP c (unitE s) i'] = l ++ tellL r (SL ++ lineP c (unitE s) (i' + 1))) := by
                  show _ = _
                  rw [lineP_succ, ← List.append_assoc, tellL_app r (SL ++ _) [_], List.append_assoc]
                rw [HAPP.out] at HTE
                have hpm : Sm 1099511627776 (ptP c (unitE s) i') := (ptP_sm HCM.out s i').mono (by omega)
                have HSTP := Lib.hid (fun v4 w4 (h4 : Wkr w4 g r (ptP c (unitE s) i') v4 (l ++ tellL r (SL ++ lineP c (unitE s) (i' + 1)))) => step_any g r (ptP c (unitE s) i') s v4 (l ++ tellL r (SL ++ lineP c (unitE s) (i' + 1))) w4 h4 hs hpm)
                simp only [ptP_succ] at HSTP
                have HFR := Lib.hid hfr
                clear hwk hfr hlen hpm HK
                go_wp2_with fail
                refine HTE.out.mono ?_
                rintro e w4 ⟨rfl, v4, hw4, hf4⟩
                have HS4 := Lib.hid (HSTP.out v4 w4 hw4)
                have HF4 := Lib.hid (HFR.out.trans hf4)
                clear hw4 hf4
                go_wp2_with fail
                refine HS4.out.mono ?_
                rintro e w5 ⟨rfl, v5, hw5, hf5⟩
                have HN : Hid (∃ v', Wkr w5 g r (ptP c (unitE s) (i' + 1)) v' (l ++ tellL r (SL ++ lineP c (unitE s) (i' + 1))) ∧ Fr g v v' w2 w5) := ⟨v5, hw5, HF4.out.trans hf5⟩
                clear hw5 hf5
                go_wp2
                go_roundw
                case rel => first | exact ⟨i' + 1, by omega, by go_num, HN.out⟩ | ((repeat apply Exists.intro); exact ⟨⟨i' + 1, by omega, by go_num, HN.out⟩, rfl⟩)
                case measure => simp [intOf]; omega
              · obtain rfl : i' = j := by omega
                have HN := Lib.hid (HC1.out wr HK.out)
                clear HK HC1
                go_wp2
                go_roundw
                case rel => exact ⟨s + 1, by omega, by go_num, HN.out⟩
                case measure => simp [intOf]; omega
          · obtain rfl : s = 6 := by omega
            obtain ⟨v', hwk, hfr⟩ := HJ.out
            have hm2 := HM2.out.turn hfr.1 (by omega) (fun e => e.elim (fun e => by omega) HVN.out)
            obtain ⟨m0, m1⟩ := hm2
            have hmv := hwk.move z
            have HP : Hid (Walked w g r z v (l ++ tellL r (sidesP z j 6)) (.returned (.tuple #[])) ((wr.setCell ⟨g, 1, none⟩ (.int .i64 z.1)).setCell ⟨g, 2, none⟩ (.int .i64 z.2))) := ⟨rfl, v', hmv.1, (HF2.out.trans hfr).trans (Fr.of_turn hmv.2)⟩
            obtain ⟨c0, c1, c2, c3, f1, f2, f3, hgr⟩ := hwk.cells
            clear hwk hfr hmv HJ
            go_wp2
            go_end0
            exact HP.out
end Go.Proofs.Yticbkdignmlfiaa
