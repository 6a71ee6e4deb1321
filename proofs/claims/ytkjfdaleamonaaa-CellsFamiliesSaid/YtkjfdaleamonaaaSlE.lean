/- Contracts of cells.Union, apiaryref1.Same, apiarylaw7.awake. -/
import Derived.Test.YtkjfdaleamonaaaSlD
namespace Go.Proofs.Ytkjfdaleamonaaa
open Go.RowKit Go.Lib Go.Sort

set_option maxRecDepth 100000 in
theorem ugrow_zero (w : World) : Calls Try.prog 70 #[.slice none 0 0, .int .i64 0] w fun e w' => e = .returned (.slice none 0 0) ∧ w = w' := by
  go_enter Try.func70, Try.ntmps70
  go_wp2
  go_ret
  exact ⟨rfl, rfl⟩
set_option maxRecDepth 100000 in
set_option maxHeartbeats 1000000 in
theorem uconcat_zero (g0 : Nat) (ao bo : Option Addr) (c d : Nat) (w : World) (h0 : w.cell? ⟨g0, 0, none⟩ = some (.slice ao 0 c)) (h1 : w.cell? ⟨g0, 1, none⟩ = some (.slice bo 0 d)) (za : ao = none → c = 0) (zb : bo = none → d = 0) :
    Calls Try.prog 41 #[.slice (some ⟨g0, 0, none⟩) 2 2] w (Joined w []) := by
  have hJ : Hid (Joined w [] (.returned (.slice none 0 0)) w) := ⟨none, 0, rfl, fun h => by simp at h, Below.refl _ _, fun _ => rfl⟩
  go_enter Try.func41, Try.ntmps41
  go_wp2
  go_loop [3, 11] (fun s i => ∃ k : Nat, k ≤ 2 ∧ i = .int .i64 k ∧ s = .int .i64 0) (fun _ i => 2 - (intOf i).toNat)
  case atStart => exact ⟨0, by omega, rfl, rfl⟩
  case round =>
    obtain ⟨k, hk, rfl, rfl⟩ := hrel
    rcases (show k = 0 ∨ k = 1 ∨ k = 2 by omega) with rfl | rfl | rfl
    · go_wp2
      go_round
      case rel => exact ⟨1, by omega, by go_num, rfl⟩
      case measure => simp [intOf]
    · go_wp2
      go_round
      case rel => exact ⟨2, by omega, by go_num, rfl⟩
      case measure => simp [intOf]
    · go_wp2_with fail
      refine (ugrow_zero _).mono ?_
      rintro e w1 ⟨rfl, rfl⟩
      go_wp2
      go_loop [6, 27] (fun v i => ∃ k : Nat, k ≤ 2 ∧ i = .int .i64 k ∧ v = .slice none 0 0) (fun _ i => 2 - (intOf i).toNat)
      case atStart => exact ⟨0, by omega, rfl, rfl⟩
      case round =>
        obtain ⟨k, hk, rfl, rfl⟩ := hrel
        rcases (show k = 0 ∨ k = 1 ∨ k = 2 by omega) with rfl | rfl | rfl
        · cases ao with
          | none =>
            obtain rfl := za rfl
            go_wp2
            go_round
            case rel => exact ⟨1, by omega, by go_num, rfl⟩
            case measure => simp [intOf]
          | some ad =>
            go_wp2
            go_round
            case rel => exact ⟨1, by omega, by go_num, rfl⟩
            case measure => simp [intOf]
        · cases bo with
          | none =>
            obtain rfl := zb rfl
            go_wp2
            go_round
            case rel => exact ⟨2, by omega, by go_num, rfl⟩
            case measure => simp [intOf]
          | some ad =>
            go_wp2
            go_round
            case rel => exact ⟨2, by omega, by go_num, rfl⟩
            case measure => simp [intOf]
        · go_wp2
          go_ret
          exact hJ.out

/-- What two lists have together. -/
def unionL (a b : List Int) : List Int := if 20000 < a.length ∨ 20000 < b.length then [] else toldF (setF (a ++ b))
def unionE (a b : List Int) : Int := if 20000 < a.length ∨ 20000 < b.length then 7 else toldE (setF (a ++ b))
def Union (w : World) (a b : List Int) (e : Ending) (w' : World) : Prop :=
  ∃ ao c, e = .returned (.tuple #[.slice ao (unionL a b).length c, .int .i64 (unionE a b)]) ∧ WordsAt w' w'.heap.size ao (unionL a b) ∧ Below w.heap.size w w' ∧ (ao = none → c = 0)
set_option maxRecDepth 100000 in
set_option maxHeartbeats 2000000 in
theorem same_any (ao bo : Option Addr) (c d : Nat) (a b : List Int) (w : World) (B C : Nat) (ha : WordsAt w B ao a) (hb : WordsAt w C bo b) (hna : a.length ≤ 1000000000) :
    Calls Try.prog 26 #[.slice ao a.length c, .slice bo b.length d] w fun e w' => e = .returned (.bool (decide (a = b))) ∧ Below w.heap.size w w' := by
  obtain ⟨r, hr⟩ : ∃ r : Bool, decide (a = b) = r := ⟨_, rfl⟩
  rw [hr]
  by_cases hl : a.length = b.length
  · obtain ⟨n, hn⟩ : ∃ n, a.length = n := ⟨_, rfl⟩
    rw [← hl, hn]
    rw [hn] at hna
    have HA := Lib.hid ha
    have HB := Lib.hid hb
    have HN := Lib.hid hn
    have HL : Hid (b.length = n) := by show _ = _; rw [← hl, hn]
    have HR := Lib.hid hr
    have q0 : ((n : Int) != (n : Int)) = false := by simp
    clear ha hb hl hn hr
    go_enter Try.func26, Try.ntmps26
    go_wp2
    go_loopw [5] (fun i wr => ∃ k : Nat, k ≤ n ∧ i = .int .i64 k ∧ Hid (∀ j, j < k → a.getD j 0 = b.getD j 0) ∧ Below w.heap.size w wr ∧ Hid (∀ x, wr.cell? x = w.cell? x)) (fun i _ => n - (intOf i).toNat)
    case atStart => exact ⟨0, Nat.zero_le _, rfl, fun j hj => by omega, Below.refl _ _, fun x => rfl⟩
    case round =>
      obtain ⟨k, hk, rfl, HE, hnx, HCA⟩ := hrel
      by_cases hlt : k < n
      · obtain ⟨g, off, rfl, hg, hc⟩ := HA.out (by rw [HN.out]; omega)
        obtain ⟨g2, off2, rfl, hg2, hc2⟩ := HB.out (by rw [HL.out]; omega)
        have c0 := (HCA.out _).trans (hc k (by rw [HN.out]; exact hlt))
        have c1 := (HCA.out _).trans (hc2 k (by rw [HL.out]; exact hlt))
        have hg' := World.block_lt_of_cell? wr _ c0
        have hg2' := World.block_lt_of_cell? wr _ c1
        have HNO : Hid (a.getD k 0 ≠ b.getD k 0 → r = false) := fun h => by rw [← HR.out]; simp; intro e; exact h (by rw [e])
        have HYES : Hid (a.getD k 0 = b.getD k 0 → ∀ j, j < k + 1 → a.getD j 0 = b.getD j 0) := fun h j hj => by
          by_cases e : j = k
          · rw [e]; exact h
          · exact HE.out j (by omega)
        generalize a.getD k 0 = x at c0 HNO HYES
        generalize b.getD k 0 = y at c1 HNO HYES
        clear hc hc2
        dsimp only at hg' hg2'
        by_cases hxy : x = y
        · have hq : (x != y) = false := by simpa using hxy
          have HY := Lib.hid (HYES.out hxy)
          clear hxy HNO HYES
          go_wp2
          go_quiet (fail)
          go_wp2
          go_roundw
          case rel => exact ⟨k + 1, by omega, by go_num, HY.out, below_drewN hnx _, fun x => HCA.out x⟩
          case measure => simp [intOf]; omega
        · have hq : (x != y) = true := by simpa using hxy
          have HY := Lib.hid (HNO.out hxy)
          clear hxy HNO HYES
          go_wp2
          go_quiet (fail)
          go_wp2
          go_ret
          exact ⟨ret_bool HY.out.symm, below_drewN hnx _⟩
      · obtain rfl : k = n := by omega
        have HT : Hid (r = true) := by
          show _ = _
          rw [← HR.out]
          simp only [decide_eq_true_eq]
          refine List.ext_getElem (by rw [HN.out, HL.out]) fun i h1 h2 => ?_
          have := HE.out i (by rw [HN.out] at h1; exact h1)
          rwa [List.getD_eq_getElem?_getD, List.getD_eq_getElem?_getD, List.getElem?_eq_getElem h1, List.getElem?_eq_getElem h2, Option.getD_some, Option.getD_some] at this
        go_wp2
        go_ret
        exact ⟨ret_bool HT.out.symm, hnx⟩
  · have HF : Hid (r = false) := by show _ = _; rw [← hr]; simp; intro e; exact hl (by rw [e])
    have q0 : ((a.length : Int) != (b.length : Int)) = true := by simp; omega
    clear hr ha hb
    go_enter Try.func26, Try.ntmps26
    go_wp2
    go_ret
    exact ⟨ret_bool HF.out.symm, Below.refl _ _⟩

theorem Told.of {w : World} {l : List Int} {e : Ending} {w' : World} (h : Told w l e w') : ∃ ao c, e = .returned (.tuple #[.slice ao (toldF l).length c, .int .i64 (toldE l)]) ∧ WordsAt w' w'.heap.size ao (toldF l) ∧ Below w.heap.size w w' ∧ (ao = none → c = 0) := h
set_option maxRecDepth 100000 in
set_option maxHeartbeats 2000000 in
theorem union_any (ao bo : Option Addr) (c d : Nat) (a b : List Int) (w : World) (ha : WordsAt w w.heap.size ao a) (hb : WordsAt w w.heap.size bo b) (za : ao = none → a.length = 0 ∧ c = 0) (zb : bo = none → b.length = 0 ∧ d = 0) (hna : a.length ≤ 1000000000) (hnb : b.length ≤ 1000000000) :
    Calls Try.prog 25 #[.slice ao a.length c, .slice bo b.length d] w (Union w a b) := by
  by_cases hbig : 20000 < a.length ∨ 20000 < b.length
  · have HT : Hid (Union w a b (.returned (.tuple #[.slice none 0 0, .int .i64 7])) w) :=
      ⟨none, 0, by unfold unionL unionE; rw [if_pos hbig, if_pos hbig]; rfl, by unfold unionL; rw [if_pos hbig]; exact fun h => by simp at h, Below.refl _ _, fun _ => rfl⟩
    by_cases h1 : 20000 < a.length
    · have q1 : decide (20000 < (a.length : Int)) = true := by simp; omega
      clear hbig
      go_enter Try.func25, Try.ntmps25
      go_wp2_with fail
      go_ret2
      exact HT.out
    · have q1 : decide (20000 < (a.length : Int)) = false := by simp; omega
      have q2 : decide (20000 < (b.length : Int)) = true := by simp; omega
      clear hbig
      go_enter Try.func25, Try.ntmps25
      go_wp2_with fail
      go_ret2
      exact HT.out
  · have q1 : decide (20000 < (a.length : Int)) = false := by simp; omega
    have q2 : decide (20000 < (b.length : Int)) = false := by simp; omega
    have HL : Hid (unionL a b = toldF (setF (a ++ b)) ∧ unionE a b = toldE (setF (a ++ b))) := ⟨by unfold unionL; rw [if_neg hbig], by unfold unionE; rw [if_neg hbig]⟩
    have HCON : Hid (Calls Try.prog 41 #[.slice (some ⟨w.heap.size, 0, none⟩) 2 2] (w.alloc (.cells #[.slice ao a.length c, .slice bo b.length d] 23)) (Joined (w.alloc (.cells #[.slice ao a.length c, .slice bo b.length d] 23)) (a ++ b))) := by
      have hb0 : Below w.heap.size w (w.alloc (.cells #[.slice ao a.length c, .slice bo b.length d] 23)) := (Below.refl _ _).alloc (Nat.le_refl _) _
      have h0 : (w.alloc (.cells #[.slice ao a.length c, .slice bo b.length d] 23)).cell? ⟨w.heap.size, 0, none⟩ = some (.slice ao a.length c) := by rw [cell_of_row _ _ _ _ _ _ (heap_new _ _ _ rfl)]; rfl
      have h1 : (w.alloc (.cells #[.slice ao a.length c, .slice bo b.length d] 23)).cell? ⟨w.heap.size, 1, none⟩ = some (.slice bo b.length d) := by rw [cell_of_row _ _ _ _ _ _ (heap_new _ _ _ rfl)]; rfl
      by_cases hp : 0 < a.length + b.length
      · exact uconcat_any w.heap.size ao bo c d a b _ (by simp) h0 h1 ((ha.below hb0 (Nat.le_refl _)).wider hb0.size) ((hb.below hb0 (Nat.le_refl _)).wider hb0.size) za zb (by omega) (by omega) hp
      · obtain rfl : a = [] := List.eq_nil_of_length_eq_zero (by omega)
        obtain rfl : b = [] := List.eq_nil_of_length_eq_zero (by omega)
        exact uconcat_zero w.heap.size ao bo c d _ h0 h1 (fun e => (za e).2) (fun e => (zb e).2)
    have hlab : (a ++ b).length ≤ 40000 := by rw [List.length_append]; omega
    clear hbig ha hb za zb hna hnb
    obtain ⟨l, hl⟩ : ∃ l, a ++ b = l := ⟨_, rfl⟩
    rw [hl] at HCON HL hlab
    obtain ⟨na, hna⟩ : ∃ n, a.length = n := ⟨_, rfl⟩
    obtain ⟨nb, hnb⟩ : ∃ n, b.length = n := ⟨_, rfl⟩
    rw [hna] at HCON q1 ⊢
    rw [hnb] at HCON q2 ⊢
    clear hna hnb hl
    go_enter Try.func25, Try.ntmps25
    go_wp2_with fail
    refine HCON.out.mono ?_
    rintro e w1 ⟨lo, lc, rfl, hwl, hb1, -⟩
    have HB1 : Hid (Below w.heap.size w w1) := below_alloc hb1
    have HS := Lib.hid (uset_any lo lc l w1 _ hwl (by omega))
    clear hb1 hwl
    go_wp2_with fail
    refine HS.out.mono ?_
    rintro e w2 ⟨so, sc, rfl, hzs, hws, hb2⟩
    have HB2 := Lib.hid (below_later HB1.out HB1.out.size hb2)
    have HTD := Lib.hid (told_any so sc (setF l) w2 hws (by have := setF_length l; omega) hzs)
    clear hb2 hws hzs
    go_wp2_with fail
    refine HTD.out.mono ?_
    rintro e w3 ht
    obtain ⟨ro, rc, rfl, hwr, hb3, hz3⟩ := ht.of
    have HP : Hid (Union w a b (.returned (.tuple #[.slice ro (toldF (setF l)).length rc, .int .i64 (toldE (setF l))])) w3) := ⟨ro, rc, by rw [HL.out.1, HL.out.2], by rw [HL.out.1]; exact hwr, below_later HB2.out HB2.out.size hb3, hz3⟩
    clear ht hwr hb3 hz3
    go_wp2
    go_ret2
    exact HP.out
end Go.Proofs.Ytkjfdaleamonaaa
