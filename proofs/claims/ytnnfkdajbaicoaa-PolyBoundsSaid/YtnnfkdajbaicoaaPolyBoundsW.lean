/- The walk of the law PolyBounds. -/
import Derived.Test.YtnnfkdajbaicoaaPolyH
namespace Go.Proofs.Ytnnfkdajbaicoaa.polyBounds
open Go.RowKit

def tri : List Pt := [(0, 0), (1, 0), (0, 1)]
def zeros (n : Nat) : List Pt := List.replicate n (0, 0)
theorem check_tri (n : Nat) (h1 : 17 ≤ n) (h2 : n ≤ 24) : checkF (List.replicate n tri) = if 20 < n then 7 else 0 := by
  rcases (show n = 17 ∨ n = 18 ∨ n = 19 ∨ n = 20 ∨ n = 21 ∨ n = 22 ∨ n = 23 ∨ n = 24 by omega) with rfl | rfl | rfl | rfl | rfl | rfl | rfl | rfl <;> kernel_rfl
theorem check_zeros (n : Nat) (h1 : 497 ≤ n) (h2 : n ≤ 504) : checkF [zeros n] = if 500 < n then 7 else 0 := by
  rcases (show n = 497 ∨ n = 498 ∨ n = 499 ∨ n = 500 ∨ n = 501 ∨ n = 502 ∨ n = 503 ∨ n = 504 by omega) with rfl | rfl | rfl | rfl | rfl | rfl | rfl | rfl <;> kernel_rfl
theorem check_far (c : Int) (h1 : -3 ≤ c) (h2 : c ≤ 4) : checkF [[(0, 0), (1, 1), (1073741823 + c, 0)]] = if 0 < c then 4 else 0 := by
  rcases (show c = -3 ∨ c = -2 ∨ c = -1 ∨ c = 0 ∨ c = 1 ∨ c = 2 ∨ c = 3 ∨ c = 4 by omega) with rfl | rfl | rfl | rfl | rfl | rfl | rfl | rfl <;> kernel_rfl
theorem check_short : checkF [zeros 2] = 1 := by kernel_rfl
theorem area_short : area2F (zeros 2) = 0 := by kernel_rfl
theorem ringV_zeros (n : Nat) : (madeCells #[.int .i64 0, .int .i64 0] (n * 2)).toList = ringV (zeros n) := by
  have e1 : (madeCells #[.int .i64 0, .int .i64 0] (n * 2)).toList = List.replicate (n * 2) (.int .i64 0) := by
    refine List.ext_getElem? fun i => ?_
    unfold madeCells
    by_cases h : i < n * 2
    · have h2 : i % 2 = 0 ∨ i % 2 = 1 := by omega
      rcases h2 with h2 | h2 <;> simp [h, h2]
    · simp [h]
  rw [e1]
  clear e1
  unfold ringV zeros
  induction n with
  | zero => rfl
  | succ n ih =>
    rw [show (n + 1) * 2 = n * 2 + 1 + 1 from by omega, List.replicate_succ, List.replicate_succ, ih, List.replicate_succ, List.flatMap_cons]
    · rfl

set_option maxHeartbeats 4000000 in
theorem walk {w : World} (a0 : Int) (_w0 : (Lit.int .i64 a0).wf = true) (a1 : Int) (_w1 : (Lit.int .i64 a1).wf = true) (a2 : Int) (_w2 : (Lit.int .i64 a2).wf = true) :
    Calls Try.prog 4 #[.int .i64 a0, .int .i64 a1, .int .i64 a2] w fun e w' => e = .returned (.bool true) ∧ Below w.heap.size w w' := by
  obtain ⟨i1, hj, hy0, hy1, hy2⟩ := info_parts info_pt
  obtain ⟨i0, hi, hz0, hz1, hz2⟩ := info_parts info_ring
  obtain ⟨n, hn1, hn2, hn3⟩ : ∃ n : Nat, a0 % 8 + 17 = n ∧ 17 ≤ n ∧ n ≤ 24 := ⟨(a0 % 8 + 17).toNat, by omega, by omega, by omega⟩
  obtain ⟨m, hm1, hm2, hm3⟩ : ∃ m : Nat, 495 + (a1 % 8 + 2) = m ∧ 497 ≤ m ∧ m ≤ 504 := ⟨(495 + (a1 % 8 + 2)).toNat, by omega, by omega, by omega⟩
  obtain ⟨c, hc1, hc2, hc3⟩ : ∃ c : Int, a2 % 8 - 3 = c ∧ -3 ≤ c ∧ c ≤ 4 := ⟨_, rfl, by omega, by omega⟩
  have en : bits BinOp.and IntKind.i64 a0 7 = (n : Int) - 17 := by rw [i64_and_mask a0 3 (by omega) 7 rfl]; omega
  have ek : bits BinOp.and IntKind.i64 a1 7 = (m : Int) - 497 := by rw [i64_and_mask a1 3 (by omega) 7 rfl]; omega
  have ec : bits BinOp.and IntKind.i64 a2 7 = c + 3 := by rw [i64_and_mask a2 3 (by omega) 7 rfl]; omega
  have ct := check_tri n hn2 hn3
  have cz := check_zeros m hm2 hm3
  have cf := check_far c hc2 hc3
  clear hn1 hm1 hc1
  go_enter Try.func4, Try.ntmps4
  go_wp2
  go_loopw [7, 8] (fun v i wr => ∃ (k : Nat) (vs : List Value), k ≤ n ∧ i = .int .i64 k ∧ wr.ownsRow w.heap.size 26 1 v k vs ∧ Hid (OwnRings wr w.heap.size vs (List.replicate k tri)) ∧ Below w.heap.size w wr) (fun _ i _ => n - (intOf i).toNat)
  case atStart => exact ⟨0, [], Nat.zero_le _, rfl, World.ownsRow_nil _ _ _ _, trivial, Below.refl _ _⟩
  case round =>
    obtain ⟨k, vs, hk, rfl, hown, HO, hnx⟩ := hrel
    have hsz := hnx.size
    by_cases hlt : k < n
    · obtain ⟨vo, vc, rfl, _, _⟩ := own_form hown
      go_wp2_with (first | (at_builtin; refine wpList_append_own _ rfl (.tmp 31) (.tmp 36) 23 rfl w.heap.size 26 i0 (.slice none 0 0) 1 24 Try.underlying23 hi hz0 hz1 hz2 rfl (by decide) _ _ _ rfl ((hown.alloc _).alloc _) ⟨wr.heap.size + 1, 0, none⟩ 1 1 [.slice (some ⟨wr.heap.size, 0, none⟩) 3 3] rfl rfl (cells_new _ _ _ _ (by simp)) (by simp [Value.oneCell']) (by unfold maxLen; omega) (by omega) (by simp; omega) ?_; intro v' w1 hown1 hgrow _))
      go_roundw
      case rel =>
        refine ⟨k + 1, vs ++ [.slice (some ⟨wr.heap.size, 0, none⟩) 3 3], by omega, by go_num, hown1, ?_, below_append ((hnx.alloc hsz _).alloc (by simp; omega) _) ((hown.alloc _).alloc _) (by simp; omega) hgrow⟩
        have hb2 := ((Below.refl wr.heap.size wr).alloc (Nat.le_refl _) (.cells (ringV tri).toArray 27)).alloc (by simp) (.cells #[.slice (some ⟨wr.heap.size, 0, none⟩) 3 3] 26)
        show OwnRings _ _ _ _
        rw [replicate_snoc]
        refine OwnRings.grown ((hown.alloc _).alloc _) hgrow (OwnRings.snoc ?_ (OwnRings.below hb2 (Nat.le_refl _) HO.out))
        refine own_lit (n := 3) (size := 2) ?_ hsz rfl (by decide)
        rw [Below.heap_alloc _ _ _ (by simp)]
        exact heap_new wr _ _ rfl
      case measure => simp [intOf] <;> omega
    · obtain rfl : k = n := by omega
      obtain ⟨vo, vc, rfl, _, _⟩ := own_form hown
      have hrs := rings_of_own hown HO.out (by simp)
      have HC0 : Hid (Calls Try.prog 14 #[.slice vo k vc] wr fun e w' => e = .returned (.int .i64 (checkF (List.replicate k tri))) ∧ Below wr.heap.size wr w') := by
        have := check_any vo vc (List.replicate k tri) wr wr.heap.size (Nat.le_refl _) hrs (by simp; omega) (by have := totTo_bound 3 (List.replicate k tri) (List.replicate k tri).length (by intro l hl; rw [(List.mem_replicate.1 hl).2]; exact Nat.le_refl _); simp at this ⊢; omega)
        rw [List.length_replicate] at this
        exact this
      clear hrs hown HO
      by_cases q1 : 20 < k
      all_goals by_cases q2 : 500 < m
      all_goals by_cases q3 : 0 < c
      all_goals
        simp only [q1, q2, q3, if_true, if_false] at ct cz cf
        have cs := check_short
        have cz2 := area_short
        have hm2 : ∀ w : World, (Instr.makeSlice 26 (.int .i64 2) (.int .i64 2)).run Try.prog w = .ok (.slice (some ⟨w.heap.size, 0, none⟩) 2 2) (w.alloc (.cells #[.int .i64 0, .int .i64 0, .int .i64 0, .int .i64 0] 27)) := fun _ => by kernel_rfl
        have t1 : True := trivial
        have t2 : True := trivial
        have t3 : True := trivial
        have t4 : True := trivial
        have t5 : True := trivial
        have t6 : True := trivial
        have t7 : True := trivial
        have HCZ := Lib.hid cz
        have HCF := Lib.hid cf
        have HCS := Lib.hid cs
        have HAS := Lib.hid cz2
        clear cz cf cs cz2
        go_wp2_with (first
          | (go_at_call 14; have _t := t1; (with_reducible refine HC0.out.mono ?_); rintro e w1 ⟨rfl, hb1⟩; clear t1)
          | (at_make; have _t := t2; refine wpList_make_full _ rfl (.tmp 43) (.tmp 43) 26 rfl 0 27 i1 (.agg #[.int .i64 0, .int .i64 0]) 2 Try.underlying26 hj hy0 hy1 .i64 .i64 _ _ m rfl rfl (by omega) (by omega) (by rw [hy2]; omega) (by unfold maxLen; omega) (by omega) ?_; intro w2 hmk hgk; have hr2 := ring_at_own (l := zeros m) (by simp [zeros]) ((ringV_zeros m) ▸ hmk); have hb2 := below_grown0 hgk; clear t2 hmk hgk)
          | (go_at_call 14; have _t := t3; refine (check_one _ _ _ _ (zeros m) (by simp [zeros]) (by omega) _ rfl hr2 _ HCZ.out).mono ?_; rintro e w3 ⟨rfl, hb3⟩; clear t3 hr2)
          | (go_at_call 14; have _t := t4; refine (check_one _ 3 _ _ [(0, 0), (1, 1), (1073741823 + c, 0)] rfl (by omega) _ (by simp) (ringAt_new' _ [(0, 0), (1, 1), (1073741823 + c, 0)] _) _ HCF.out).mono ?_; rintro e w4 ⟨rfl, hb4⟩; have hb4' := below_alloc hb4; clear t4 hb4)
          | (go_at_call 14; have _t := t5; refine (check_one _ 2 _ _ (zeros 2) rfl (by omega) _ (by simp) (ringAt_new' _ (zeros 2) _) _ HCS.out).mono ?_; rintro e w5 ⟨rfl, hb5⟩; have hb5' := below_alloc hb5; clear t5 hb5)
          | (go_at_call 15; have _t := t6; refine (area_one _ 2 _ (zeros 2) rfl (by omega) _ (ringAt_new' _ (zeros 2) _) _ HAS.out).mono ?_; rintro e w6 ⟨rfl, hb6⟩; have hb6' := below_alloc hb6; clear t6 hb6)
          | (go_at_call 11; refine (awake_any _).mono ?_; rintro e w7 ⟨rfl, hb7⟩))
        go_ret
        have g1 := below_later hnx hsz hb1
        have g2 := below_later g1 g1.size hb2
        have g3 := below_later g2 g2.size hb3
        have g4 := below_later g3 g3.size hb4'
        have g5 := below_later g4 g4.size hb5'
        have g6 := below_later g5 g5.size hb6'
        exact ⟨rfl, below_later g6 g6.size hb7⟩
end Go.Proofs.Ytnnfkdajbaicoaa.polyBounds
