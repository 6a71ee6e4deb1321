/- The contract of eisen.Round, and of package cell: split, digit. -/
import Derived.Test.YtkjfdaleamonaaaWdD
import Derived.WalkSmall
namespace Go.Proofs.Ytkjfdaleamonaaa
open Go.RowKit Go.Lib Wd

theorem floor_in (a d : Int) (hd : 0 < d) (hd2 : d ≤ 4611686018427387903) (h1 : -4611686018427387904 ≤ a) (h2 : a ≤ 4611686018427387903) (w : World) :
    Calls Try.prog 100 #[.int .i64 a, .int .i64 d] w fun e w' => e = .returned (.tuple #[.int .i64 (a / d), .int .i64 (a % d), .bool true]) ∧ Below w.heap.size w w' :=
  (floor_any a d hd hd2 h1 h2 w).mono fun _ _ ⟨he, n, hn⟩ => ⟨he, by rw [hn]; exact below_drewN (Below.refl _ _) n⟩
theorem Two2.put {w : World} {g : Nat} {u v : Value} (h : Two2 w g u v) (x y : Value) : Two2 ((w.setCell ⟨g, 0, none⟩ x).setCell ⟨g, 1, none⟩ y) g x y ∧ Turn (fun q => q = g) w ((w.setCell ⟨g, 0, none⟩ x).setCell ⟨g, 1, none⟩ y) := by
  obtain ⟨⟨h0, h1⟩, f0, f1⟩ := h
  refine ⟨⟨⟨?_, ?_⟩, by simpa using f0, by simpa using f1⟩, ((Turn.refl (fun q => q = g) w).setCell (a := ⟨g, 0, none⟩) rfl _).setCell (a := ⟨g, 1, none⟩) rfl _⟩
  · exact (World.cell?_setCell_other _ _ _ _ (fun e => by cases e)).trans (World.cell?_setCell_same _ _ _ h0)
  · exact World.cell?_setCell_same _ _ _ (u := v) ((World.cell?_setCell_other w ⟨g, 0, none⟩ ⟨g, 1, none⟩ _ (fun e => by cases e)).trans h1)
/-- The best so far. -/
def bst1 (s t d : Int) : Int × E2 := if d - (s + 2 * t) < 0 then (d - (s + 2 * t), (0, 1)) else (0, (0, 0))
def bst2 (s t d : Int) : Int × E2 := if d - (2 * s + t) < (bst1 s t d).1 then (d - (2 * s + t), (1, 0)) else bst1 s t d
def bst3 (s t d : Int) : Int × E2 := if 3 * d - (2 * s + t) - (s + 2 * t) < (bst2 s t d).1 then (3 * d - (2 * s + t) - (s + 2 * t), (1, 1)) else bst2 s t d
def bstE (s t d : Int) : Nat → Int × E2
  | 0 => (0, (0, 0))
  | 1 => bst1 s t d
  | 2 => bst2 s t d
  | _ => bst3 s t d
theorem bst_best (s t d : Int) : (bstE s t d 3).2 = bestE s t d := rfl
theorem bst_in {s t d : Int} (hs : 0 ≤ s) (hs1 : s < d) (ht : 0 ≤ t) (ht1 : t < d) (k : Nat) : -(3 * d) ≤ (bstE s t d k).1 ∧ (bstE s t d k).1 ≤ 0 ∧ 0 ≤ (bstE s t d k).2.1 ∧ (bstE s t d k).2.1 ≤ 1 ∧ 0 ≤ (bstE s t d k).2.2 ∧ (bstE s t d k).2.2 ≤ 1 := by
  have h0 : ∀ p : Int × E2, p = (0, (0, 0)) → -(3 * d) ≤ p.1 ∧ p.1 ≤ 0 ∧ 0 ≤ p.2.1 ∧ p.2.1 ≤ 1 ∧ 0 ≤ p.2.2 ∧ p.2.2 ≤ 1 := fun p e => by subst e; simp only; omega
  have h1 : -(3 * d) ≤ (bstE s t d 1).1 ∧ (bstE s t d 1).1 ≤ 0 ∧ 0 ≤ (bstE s t d 1).2.1 ∧ (bstE s t d 1).2.1 ≤ 1 ∧ 0 ≤ (bstE s t d 1).2.2 ∧ (bstE s t d 1).2.2 ≤ 1 := by
    rw [show bstE s t d 1 = bst1 s t d from rfl]; unfold bst1; split <;> simp only <;> omega
  have h2 : -(3 * d) ≤ (bstE s t d 2).1 ∧ (bstE s t d 2).1 ≤ 0 ∧ 0 ≤ (bstE s t d 2).2.1 ∧ (bstE s t d 2).2.1 ≤ 1 ∧ 0 ≤ (bstE s t d 2).2.2 ∧ (bstE s t d 2).2.2 ≤ 1 := by
    rw [show bstE s t d 2 = if d - (2 * s + t) < (bstE s t d 1).1 then (d - (2 * s + t), (1, 0)) else bstE s t d 1 from rfl]
    split
    · simp only; omega
    · exact h1
  match k with
  | 0 => exact h0 _ rfl
  | 1 => exact h1
  | 2 => exact h2
  | k + 3 =>
    rw [show bstE s t d (k + 3) = if 3 * d - (2 * s + t) - (s + 2 * t) < (bstE s t d 2).1 then (3 * d - (2 * s + t) - (s + 2 * t), (1, 1)) else bstE s t d 2 from rfl]
    split
    · simp only; omega
    · exact h2
set_option maxRecDepth 100000 in
set_option maxHeartbeats 4000000 in
theorem round_in (u : E2) (d : Int) (hd : 1 ≤ d) (hd2 : d ≤ 1125899906842624) (hu : Sm 1152921504606846976 u) (w : World) :
    Calls Try.prog 96 #[vE u, .int .i64 d] w fun e w' => e = .returned (.tuple #[vE (roundE u d), .bool true]) ∧ Below w.heap.size w w' := by
  obtain ⟨a, b⟩ := u
  unfold Sm at hu
  simp only at hu
  obtain ⟨hu1, hu2, hu3, hu4⟩ := hu
  have W1 : Hid (∀ w, Calls Try.prog 98 #[.int .i64 a, .int .i64 1152921504606846976] w fun e w' => e = .returned (.bool true) ∧ w' = w) := fun w => by
    have := within_any a 1152921504606846976 (by omega) (by omega) w
    rw [show (decide (-1152921504606846976 ≤ a) && decide (a ≤ 1152921504606846976)) = true by simp; omega] at this
    exact this
  have W2 : Hid (∀ w, Calls Try.prog 98 #[.int .i64 b, .int .i64 1152921504606846976] w fun e w' => e = .returned (.bool true) ∧ w' = w) := fun w => by
    have := within_any b 1152921504606846976 (by omega) (by omega) w
    rw [show (decide (-1152921504606846976 ≤ b) && decide (b ≤ 1152921504606846976)) = true by simp; omega] at this
    exact this
  have F1 := Lib.hid (floor_in a d (by omega) (by omega) (by omega) (by omega))
  have F2 := Lib.hid (floor_in b d (by omega) (by omega) (by omega) (by omega))
  have HR : Hid (roundE (a, b) d = (a / d + (bstE (a % d) (b % d) d 3).2.1, b / d + (bstE (a % d) (b % d) d 3).2.2)) := by
    show _ = _
    unfold roundE addE
    rw [bst_best, best_corner (Int.emod_nonneg _ (by omega)) (Int.emod_lt_of_pos _ (by omega)) (Int.emod_nonneg _ (by omega)) (Int.emod_lt_of_pos _ (by omega))]
  have hs0 := Int.emod_nonneg a (show d ≠ 0 by omega)
  have hs1 := Int.emod_lt_of_pos a (show 0 < d by omega)
  have ht0 := Int.emod_nonneg b (show d ≠ 0 by omega)
  have ht1 := Int.emod_lt_of_pos b (show 0 < d by omega)
  have hq1 : -1154047404513689600 ≤ a / d ∧ a / d ≤ 1152921504606846976 := by
    have h1 := Int.mul_ediv_add_emod a d
    constructor
    · rcases Int.lt_or_le (a / d) 0 with h | h
      · have := Int.mul_le_mul_of_nonpos_right (show (1 : Int) ≤ d by omega) (show a / d ≤ 0 by omega)
        omega
      · omega
    · rcases Int.lt_or_le (a / d) 0 with h | h
      · omega
      · have := Int.mul_le_mul_of_nonneg_right (show (1 : Int) ≤ d by omega) h
        omega
  have hq2 : -1154047404513689600 ≤ b / d ∧ b / d ≤ 1152921504606846976 := by
    have h1 := Int.mul_ediv_add_emod b d
    constructor
    · rcases Int.lt_or_le (b / d) 0 with h | h
      · have := Int.mul_le_mul_of_nonpos_right (show (1 : Int) ≤ d by omega) (show b / d ≤ 0 by omega)
        omega
      · omega
    · rcases Int.lt_or_le (b / d) 0 with h | h
      · omega
      · have := Int.mul_le_mul_of_nonneg_right (show (1 : Int) ≤ d by omega) h
        omega
  obtain ⟨hq1a, hq1b⟩ := hq1
  obtain ⟨hq2a, hq2b⟩ := hq2
  show Calls Try.prog 96 #[.agg #[.int .i64 a, .int .i64 b], .int .i64 d] w _
  generalize roundE (a, b) d = z at *
  generalize a / d = qa at *
  generalize b / d = qb at *
  generalize a % d = s at *
  generalize b % d = t at *
  have q0 : decide (d < 1) = false := by simp; omega
  have q1 : decide (1125899906842624 < d) = false := by simp; omega
  go_enter Try.func96, Try.ntmps96
  go_wp2_with fail
  refine (W1.out _).mono ?_
  rintro e w1 ⟨rfl, rfl⟩
  go_wp2_with fail
  refine (W2.out _).mono ?_
  rintro e w1 ⟨rfl, rfl⟩
  go_wp2_with fail
  refine (F1.out _).mono ?_
  rintro e w1 ⟨rfl, hb1⟩
  have h2 : Two w1 w.heap.size (.int .i64 a) (.int .i64 b) := (Two.of_row (t := 27) (f := _) (by rw [Below.heap_alloc _ _ _ (by simp)]; exact heap_new _ _ _ rfl)).later (by simp; omega) hb1
  have h5 : Two2 w1 (w.heap.size + 1) (.int .i64 0) (.int .i64 0) := (Two2.of_row (t := 27) (heap_new _ _ _ (by simp))).later (by simp) hb1
  have hz := hb1.size
  simp at hz
  have hq : Hid (Below w.heap.size w w1) := ((Below.refl _ _).alloc (Nat.le_refl _) _).alloc (by simp) _ |>.trans (hb1.mono (by simp; omega))
  obtain ⟨c0, c1⟩ := h2
  have H5 := Lib.hid h5
  clear hb1 h5
  go_wp2_with fail
  refine (F2.out _).mono ?_
  rintro e w2 ⟨rfl, hb2⟩
  have h5 := H5.out.later (by omega) hb2
  have hq2 := Lib.hid (hq.out.trans (hb2.mono hq.out.size))
  have hz2 := hb2.size
  have hz1 := hq2.out.size
  have hgz : w.heap.size + 1 < w2.heap.size := by omega
  have HA : Hid (Two2 (w2.alloc (.cells #[.int .i64 0, .int .i64 0] 27)) w2.heap.size (.int .i64 0) (.int .i64 0)) := Two2.of_row (t := 27) (heap_new _ _ _ rfl)
  have H5 := Lib.hid (h5.later (by omega) ((Below.refl _ _).alloc (Nat.le_refl _) (.cells #[.int .i64 0, .int .i64 0] 27)))
  have HB := Lib.hid (hq2.out.alloc (by omega) (.cells #[.int .i64 0, .int .i64 0] 27))
  clear hq hq2 h5 c0 c1 hz F1 F2 W1 W2
  go_upto_region 6 with (fail)
  generalize hw3 : w2.alloc (.cells #[.int .i64 0, .int .i64 0] 27) = w3 at *
  obtain ⟨g, hg⟩ : ∃ g, w2.heap.size = g := ⟨_, rfl⟩
  rw [hg] at HA ⊢
  have hgw : g < w3.heap.size := by rw [← hw3, World.size_alloc]; omega
  have hgr : w.heap.size + 1 < g := by rw [← hg]; exact hgz
  clear hw3 hg hz1 hz2 hgz
  have hL := heap_new w3 (.cells #[.int .i64 0, .int .i64 1, .int .i64 1, .int .i64 0, .int .i64 1, .int .i64 1] 27) _ rfl
  have hA4 := HA.out.later hgw ((Below.refl _ _).alloc (Nat.le_refl _) (.cells #[.int .i64 0, .int .i64 1, .int .i64 1, .int .i64 0, .int .i64 1, .int .i64 1] 27))
  have h54 := H5.out.later (by omega) ((Below.refl _ _).alloc (Nat.le_refl _) (.cells #[.int .i64 0, .int .i64 1, .int .i64 1, .int .i64 0, .int .i64 1, .int .i64 1] 27))
  have hB4 := HB.out.alloc (by omega) (.cells #[.int .i64 0, .int .i64 1, .int .i64 1, .int .i64 0, .int .i64 1, .int .i64 1] 27)
  have hs4 := World.size_alloc w3 (.cells #[.int .i64 0, .int .i64 1, .int .i64 1, .int .i64 0, .int .i64 1, .int .i64 1] 27)
  go_wp2
  generalize w3.alloc (.cells #[.int .i64 0, .int .i64 1, .int .i64 1, .int .i64 0, .int .i64 1, .int .i64 1] 27) = w4 at *
  obtain ⟨l, hl⟩ : ∃ l, w3.heap.size = l := ⟨_, rfl⟩
  rw [hl] at hL hs4 hgw ⊢
  have HK : Hid (∀ wr, Turn (fun q => q = g) w4 wr → (wr.cell? ⟨l, 0, none⟩ = some (.int .i64 0) ∧ wr.cell? ⟨l, 1, none⟩ = some (.int .i64 1) ∧ wr.cell? ⟨l, 2, none⟩ = some (.int .i64 1) ∧ wr.cell? ⟨l, 3, none⟩ = some (.int .i64 0) ∧ wr.cell? ⟨l, 4, none⟩ = some (.int .i64 1) ∧ wr.cell? ⟨l, 5, none⟩ = some (.int .i64 1)) ∧ (Two2 wr (w.heap.size + 1) (.int .i64 0) (.int .i64 0)) ∧ Below w.heap.size w wr ∧ g < wr.heap.size ∧ l < wr.heap.size) := fun wr ht => by
    have hh : wr.heap[l]? = _ := (ht.2.2.2.2 l (by omega) (by omega)).trans hL
    have e1 : wr.heap[w.heap.size + 1]? = w4.heap[w.heap.size + 1]? := ht.2.2.2.2 _ (by omega) (by omega)
    have := ht.2.2.2.1
    refine ⟨⟨cell_of_row _ _ 0 _ _ _ hh, cell_of_row _ _ 1 _ _ _ hh, cell_of_row _ _ 2 _ _ _ hh, cell_of_row _ _ 3 _ _ _ hh, cell_of_row _ _ 4 _ _ _ hh, cell_of_row _ _ 5 _ _ _ hh⟩, ?_, hB4.trans (ht.below hB4.size fun q hq e => by omega), by omega, by omega⟩
    exact ⟨⟨(World.cell?_of_block e1).trans h54.1.1, (World.cell?_of_block e1).trans h54.1.2⟩, by rw [World.frozen?, e1]; exact h54.2.1, by rw [World.frozen?, e1]; exact h54.2.2⟩
  have HBN := Lib.hid (fun k => bst_in hs0 hs1 ht0 ht1 k)
  have HB1 : Hid (bstE s t d 1 = if d - (s + 2 * t) < 0 then (d - (s + 2 * t), (0, 1)) else (0, (0, 0))) := rfl
  have HB2 : Hid (bstE s t d 2 = if d - (2 * s + t) < (bstE s t d 1).1 then (d - (2 * s + t), (1, 0)) else bstE s t d 1) := rfl
  have HB3 : Hid (bstE s t d 3 = if 3 * d - (2 * s + t) - (s + 2 * t) < (bstE s t d 2).1 then (3 * d - (2 * s + t) - (s + 2 * t), (1, 1)) else bstE s t d 2) := rfl
  have HA4 : Hid (Two2 w4 g (.int .i64 (bstE s t d 0).2.1) (.int .i64 (bstE s t d 0).2.2)) := hA4
  clear hL hA4 h54 hB4 hs4 hl H5 HA HB
  go_loopw [12, 59] (fun b i wr => ∃ k : Nat, k ≤ 3 ∧ i = .int .i64 k ∧ b = .int .i64 (bstE s t d k).1 ∧ Hid (Two2 wr g (.int .i64 (bstE s t d k).2.1) (.int .i64 (bstE s t d k).2.2) ∧ Turn (fun q => q = g) w4 wr)) (fun _ i _ => 3 - (intOf i).toNat)
  case atStart => exact ⟨0, by omega, rfl, rfl, HA4.out, Turn.refl _ _⟩
  case round =>
    obtain ⟨k, hk, rfl, rfl, HI⟩ := hrel
    have hbn := HBN.out k
    obtain ⟨⟨⟨g0, g1⟩, gf0, gf1⟩, hturn⟩ := HI.out
    obtain ⟨⟨l0, l1, l2, l3, l4, l5⟩, ⟨⟨r0, r1⟩, rf0, rf1⟩, hbw, hgs, hls⟩ := HK.out _ hturn
    have HT := Lib.hid hturn
    have HW := Lib.hid hbw
    clear hturn hbw
    rcases (show k = 0 ∨ k = 1 ∨ k = 2 ∨ k = 3 by omega) with rfl | rfl | rfl | rfl
    · have HN : Hid (bstE s t d 1 = if d - (s + 2 * t) < (bstE s t d 0).1 then (d - (s + 2 * t), (0, 1)) else bstE s t d 0) := by
        show _ = _
        rw [HB1.out]; rfl
      have hall : Below wr.heap.size wr (wr.alloc (.cells #[.int .i64 0, .int .i64 1] 27)) := (Below.refl _ _).alloc (Nat.le_refl _) _
      have HG2 := Lib.hid (HI.out.1.later hgs hall)
      have HT2 : Hid (Turn (fun q => q = g) w4 (wr.alloc (.cells #[.int .i64 0, .int .i64 1] 27))) := HT.out.trans (Turn.of_below hall) fun _ _ h => h
      have hp := HI.out.1.put (.int .i64 0) (.int .i64 1)
      have hpa : Below ((wr.setCell ⟨g, 0, none⟩ (.int .i64 0)).setCell ⟨g, 1, none⟩ (.int .i64 1)).heap.size ((wr.setCell ⟨g, 0, none⟩ (.int .i64 0)).setCell ⟨g, 1, none⟩ (.int .i64 1)) (((wr.setCell ⟨g, 0, none⟩ (.int .i64 0)).setCell ⟨g, 1, none⟩ (.int .i64 1)).alloc (.cells #[.int .i64 0, .int .i64 1] 27)) := (Below.refl _ _).alloc (Nat.le_refl _) _
      have HP : Hid (Two2 (((wr.setCell ⟨g, 0, none⟩ (.int .i64 0)).setCell ⟨g, 1, none⟩ (.int .i64 1)).alloc (.cells #[.int .i64 0, .int .i64 1] 27)).drew g (.int .i64 0) (.int .i64 1) ∧ Turn (fun q => q = g) w4 (((wr.setCell ⟨g, 0, none⟩ (.int .i64 0)).setCell ⟨g, 1, none⟩ (.int .i64 1)).alloc (.cells #[.int .i64 0, .int .i64 1] 27)).drew) := ⟨hp.1.later (Nat.lt_of_lt_of_le hgs hp.2.2.2.2.1) hpa.drew, ((HT.out.trans hp.2 fun _ _ h => h).trans (Turn.of_below hpa) fun _ _ h => h).drew⟩
      clear hp hpa
      have hgs2 : g < wr.heap.size + 1 := by omega
      obtain ⟨⟨G0, G1⟩, G2, G3⟩ := HG2.out
      clear hall
      by_cases hlt : d - (s + 2 * t) < (bstE s t d 0).1
      · have HB : Hid (bstE s t d 1 = (d - (s + 2 * t), (0, 1))) := by show _ = _; rw [HN.out, if_pos hlt]
        clear HN HB1 HB2 HB3
        generalize (bstE s t d 0) = p at *
        obtain ⟨p1, p2, p3⟩ := p
        simp only at *
        go_wp2
        go_region
        all_goals
          go_wp2
          go_roundw
          case rel => exact ⟨1, by omega, by go_num, by rw [HB.out], by rw [HB.out]; exact HP.out.1, HP.out.2⟩
          case measure => simp [intOf]
      · have HB : Hid (bstE s t d 1 = bstE s t d 0) := by show _ = _; rw [HN.out, if_neg hlt]
        have hle : (bstE s t d 0).1 ≤ d - (s + 2 * t) := by omega
        have q2 : decide (d - (s + 2 * t) < (bstE s t d 0).1) = false := by simp; omega
        clear HN HB1 HB2 HB3 hlt hle
        generalize (bstE s t d 0) = p at *
        obtain ⟨p1, p2, p3⟩ := p
        simp only at *
        go_wp2
        go_roundw
        case rel => exact ⟨1, by omega, by go_num, by rw [HB.out], by rw [HB.out]; exact HG2.out, HT2.out⟩
        case measure => simp [intOf]
    · have HN : Hid (bstE s t d 2 = if d - (2 * s + t) < (bstE s t d 1).1 then (d - (2 * s + t), (1, 0)) else bstE s t d 1) := by
        show _ = _
        exact HB2.out
      have hall : Below wr.heap.size wr (wr.alloc (.cells #[.int .i64 1, .int .i64 0] 27)) := (Below.refl _ _).alloc (Nat.le_refl _) _
      have HG2 := Lib.hid (HI.out.1.later hgs hall)
      have HT2 : Hid (Turn (fun q => q = g) w4 (wr.alloc (.cells #[.int .i64 1, .int .i64 0] 27))) := HT.out.trans (Turn.of_below hall) fun _ _ h => h
      have hp := HI.out.1.put (.int .i64 1) (.int .i64 0)
      have hpa : Below ((wr.setCell ⟨g, 0, none⟩ (.int .i64 1)).setCell ⟨g, 1, none⟩ (.int .i64 0)).heap.size ((wr.setCell ⟨g, 0, none⟩ (.int .i64 1)).setCell ⟨g, 1, none⟩ (.int .i64 0)) (((wr.setCell ⟨g, 0, none⟩ (.int .i64 1)).setCell ⟨g, 1, none⟩ (.int .i64 0)).alloc (.cells #[.int .i64 1, .int .i64 0] 27)) := (Below.refl _ _).alloc (Nat.le_refl _) _
      have HP : Hid (Two2 (((wr.setCell ⟨g, 0, none⟩ (.int .i64 1)).setCell ⟨g, 1, none⟩ (.int .i64 0)).alloc (.cells #[.int .i64 1, .int .i64 0] 27)).drew g (.int .i64 1) (.int .i64 0) ∧ Turn (fun q => q = g) w4 (((wr.setCell ⟨g, 0, none⟩ (.int .i64 1)).setCell ⟨g, 1, none⟩ (.int .i64 0)).alloc (.cells #[.int .i64 1, .int .i64 0] 27)).drew) := ⟨hp.1.later (Nat.lt_of_lt_of_le hgs hp.2.2.2.2.1) hpa.drew, ((HT.out.trans hp.2 fun _ _ h => h).trans (Turn.of_below hpa) fun _ _ h => h).drew⟩
      clear hp hpa
      have hgs2 : g < wr.heap.size + 1 := by omega
      obtain ⟨⟨G0, G1⟩, G2, G3⟩ := HG2.out
      clear hall
      by_cases hlt : d - (2 * s + t) < (bstE s t d 1).1
      · have HB : Hid (bstE s t d 2 = (d - (2 * s + t), (1, 0))) := by show _ = _; rw [HN.out, if_pos hlt]
        clear HN HB1 HB2 HB3
        generalize (bstE s t d 1) = p at *
        obtain ⟨p1, p2, p3⟩ := p
        simp only at *
        go_wp2
        go_region
        all_goals
          go_wp2
          go_roundw
          case rel => exact ⟨2, by omega, by go_num, by rw [HB.out], by rw [HB.out]; exact HP.out.1, HP.out.2⟩
          case measure => simp [intOf]
      · have HB : Hid (bstE s t d 2 = bstE s t d 1) := by show _ = _; rw [HN.out, if_neg hlt]
        have hle : (bstE s t d 1).1 ≤ d - (2 * s + t) := by omega
        have q2 : decide (d - (2 * s + t) < (bstE s t d 1).1) = false := by simp; omega
        clear HN HB1 HB2 HB3 hlt hle
        generalize (bstE s t d 1) = p at *
        obtain ⟨p1, p2, p3⟩ := p
        simp only at *
        go_wp2
        go_roundw
        case rel => exact ⟨2, by omega, by go_num, by rw [HB.out], by rw [HB.out]; exact HG2.out, HT2.out⟩
        case measure => simp [intOf]
    · have HN : Hid (bstE s t d 3 = if d * 3 - (2 * s + t) - (s + 2 * t) < (bstE s t d 2).1 then (d * 3 - (2 * s + t) - (s + 2 * t), (1, 1)) else bstE s t d 2) := by
        show _ = _
        rw [HB3.out, Int.mul_comm 3 d]
      have hall : Below wr.heap.size wr (wr.alloc (.cells #[.int .i64 1, .int .i64 1] 27)) := (Below.refl _ _).alloc (Nat.le_refl _) _
      have HG2 := Lib.hid (HI.out.1.later hgs hall)
      have HT2 : Hid (Turn (fun q => q = g) w4 (wr.alloc (.cells #[.int .i64 1, .int .i64 1] 27))) := HT.out.trans (Turn.of_below hall) fun _ _ h => h
      have hp := HI.out.1.put (.int .i64 1) (.int .i64 1)
      have hpa : Below ((wr.setCell ⟨g, 0, none⟩ (.int .i64 1)).setCell ⟨g, 1, none⟩ (.int .i64 1)).heap.size ((wr.setCell ⟨g, 0, none⟩ (.int .i64 1)).setCell ⟨g, 1, none⟩ (.int .i64 1)) (((wr.setCell ⟨g, 0, none⟩ (.int .i64 1)).setCell ⟨g, 1, none⟩ (.int .i64 1)).alloc (.cells #[.int .i64 1, .int .i64 1] 27)) := (Below.refl _ _).alloc (Nat.le_refl _) _
      have HP : Hid (Two2 (((wr.setCell ⟨g, 0, none⟩ (.int .i64 1)).setCell ⟨g, 1, none⟩ (.int .i64 1)).alloc (.cells #[.int .i64 1, .int .i64 1] 27)).drew g (.int .i64 1) (.int .i64 1) ∧ Turn (fun q => q = g) w4 (((wr.setCell ⟨g, 0, none⟩ (.int .i64 1)).setCell ⟨g, 1, none⟩ (.int .i64 1)).alloc (.cells #[.int .i64 1, .int .i64 1] 27)).drew) := ⟨hp.1.later (Nat.lt_of_lt_of_le hgs hp.2.2.2.2.1) hpa.drew, ((HT.out.trans hp.2 fun _ _ h => h).trans (Turn.of_below hpa) fun _ _ h => h).drew⟩
      clear hp hpa
      have hgs2 : g < wr.heap.size + 1 := by omega
      obtain ⟨⟨G0, G1⟩, G2, G3⟩ := HG2.out
      clear hall
      by_cases hlt : d * 3 - (2 * s + t) - (s + 2 * t) < (bstE s t d 2).1
      · have HB : Hid (bstE s t d 3 = (d * 3 - (2 * s + t) - (s + 2 * t), (1, 1))) := by show _ = _; rw [HN.out, if_pos hlt]
        clear HN HB1 HB2 HB3
        generalize (bstE s t d 2) = p at *
        obtain ⟨p1, p2, p3⟩ := p
        simp only at *
        go_wp2
        go_region
        all_goals
          go_wp2
          go_roundw
          case rel => exact ⟨3, by omega, by go_num, by rw [HB.out], by rw [HB.out]; exact HP.out.1, HP.out.2⟩
          case measure => simp [intOf]
      · have HB : Hid (bstE s t d 3 = bstE s t d 2) := by show _ = _; rw [HN.out, if_neg hlt]
        have hle : (bstE s t d 2).1 ≤ d * 3 - (2 * s + t) - (s + 2 * t) := by omega
        have q2 : decide (d * 3 - (2 * s + t) - (s + 2 * t) < (bstE s t d 2).1) = false := by simp; omega
        clear HN HB1 HB2 HB3 hlt hle
        generalize (bstE s t d 2) = p at *
        obtain ⟨p1, p2, p3⟩ := p
        simp only at *
        go_wp2
        go_roundw
        case rel => exact ⟨3, by omega, by go_num, by rw [HB.out], by rw [HB.out]; exact HG2.out, HT2.out⟩
        case measure => simp [intOf]
    · have hb2 := hbn
      have HZ : Hid (z = (qa + (bstE s t d 3).2.1, qb + (bstE s t d 3).2.2)) := HR.out
      generalize bstE s t d 3 = p at *
      obtain ⟨p1, p2, p3⟩ := p
      simp only at *
      go_wp2
      exact bodyPost_ret (v := .tuple #[.agg #[.int .i64 (qa + p2), .int .i64 (qb + p3)], .bool true]) (by simp [results, Try.results96, go_sem, *]) rfl ⟨by rw [HZ.out], (HW.out.setCell (p := ⟨w.heap.size + 1, 0, none⟩) (by simp) _).setCell (p := ⟨w.heap.size + 1, 1, none⟩) (by simp) _⟩
end Go.Proofs.Ytkjfdaleamonaaa
