/- Contracts of package hull: two points held against each other, by x, then y. -/
import Derived.Test.YtcoffankmmjehaaHullA
import Derived.BigQuiet
import Derived.Deep.QuietTactic
import Derived.Deep.RegionWith
import Derived.Deep.Cut
import Derived.Sort.Grow
import Derived.Laws.EntriesVeiled
namespace Go.Proofs.Ytcoffankmmjehaa
open Go.RowKit Go.Lib Hull

theorem nan_any (a : Int) (w : World) : Calls Try.prog 58 #[.int .i64 a] w fun e w' => e = .returned (.bool false) ∧ w' = w := by
  go_enter Try.func58, Try.ntmps58
  go_wp2
  go_ret
  exact ⟨ret_bool (by simp), rfl⟩
/-- Two numbers, the one against the other. -/
def nC (a b : Int) : Int := if a < b then -1 else if b < a then 1 else 0
set_option maxHeartbeats 1000000 in
theorem cc_any (a b : Int) (w : World) : Calls Try.prog 50 #[.int .i64 a, .int .i64 b] w fun e w' => e = .returned (.int .i64 (nC a b)) ∧ w' = w := by
  have HN := Lib.hid nan_any
  obtain ⟨r, hr⟩ : ∃ r, nC a b = r := ⟨_, rfl⟩
  have HR : Hid (r = nC a b) := hr.symm
  rw [hr]; clear hr
  rcases (show a < b ∨ (¬ a < b ∧ b < a) ∨ (¬ a < b ∧ ¬ b < a) by omega) with h | ⟨h0, h⟩ | ⟨h0, h⟩
  case' inl => have q1 : decide (a < b) = true := decide_eq_true h
  case' inr.inl => have q1 : decide (a < b) = false := decide_eq_false h0
  case' inr.inl => have q2 : decide (b < a) = true := decide_eq_true h
  case' inr.inr => have q1 : decide (a < b) = false := decide_eq_false h0
  case' inr.inr => have q2 : decide (b < a) = false := decide_eq_false h
  case inl =>
    have HF : Hid (r = -1) := by show _ = _; rw [HR.out]; unfold nC; rw [if_pos h]
    clear h
    go_enter Try.func50, Try.ntmps50
    go_wp2_with fail
    refine (HN.out _ _).mono ?_
    rintro e w' ⟨rfl, rfl⟩
    go_wp2_with fail
    refine (HN.out _ _).mono ?_
    rintro e w'' ⟨rfl, rfl⟩
    go_wp2
    go_ret
    exact ⟨ret_int HF.out.symm, rfl⟩
  case inr.inl =>
    have HF : Hid (r = 1) := by show _ = _; rw [HR.out]; unfold nC; rw [if_neg h0, if_pos h]
    clear h h0
    go_enter Try.func50, Try.ntmps50
    go_wp2_with fail
    refine (HN.out _ _).mono ?_
    rintro e w' ⟨rfl, rfl⟩
    go_wp2_with fail
    refine (HN.out _ _).mono ?_
    rintro e w'' ⟨rfl, rfl⟩
    go_wp2
    go_ret
    exact ⟨ret_int HF.out.symm, rfl⟩
  case inr.inr =>
    have HF : Hid (r = 0) := by show _ = _; rw [HR.out]; unfold nC; rw [if_neg h0, if_neg h]
    clear h h0
    go_enter Try.func50, Try.ntmps50
    go_wp2_with fail
    refine (HN.out _ _).mono ?_
    rintro e w' ⟨rfl, rfl⟩
    go_wp2_with fail
    refine (HN.out _ _).mono ?_
    rintro e w'' ⟨rfl, rfl⟩
    go_wp2
    go_ret
    exact ⟨ret_int HF.out.symm, rfl⟩
/-- Two points, the one against the other. -/
def cfP (p q : Pt) : Int := if nC p.1 q.1 = 0 then nC p.2 q.2 else nC p.1 q.1
set_option maxHeartbeats 2000000 in
theorem comp_any (a b : Nat) (p q : Pt) (w : World) (a0 : w.cell? ⟨a, 0, none⟩ = some (.int .i64 p.1)) (a1 : w.cell? ⟨a, 1, none⟩ = some (.int .i64 p.2)) (b0 : w.cell? ⟨b, 0, none⟩ = some (.int .i64 q.1)) (b1 : w.cell? ⟨b, 1, none⟩ = some (.int .i64 q.2)) :
    Calls Try.prog 36 #[.slice (some ⟨a, 0, none⟩) 2 2, .slice (some ⟨b, 0, none⟩) 2 2] w fun e w' => e = .returned (.int .i64 (cfP p q)) ∧ w' = w := by
  have HC := Lib.hid cc_any
  have HF : Hid (cfP p q = if nC p.1 q.1 = 0 then nC p.2 q.2 else nC p.1 q.1) := rfl
  obtain ⟨x, y⟩ := p
  obtain ⟨u, v⟩ := q
  simp only at a0 a1 b0 b1 HF
  generalize cfP (x, y) (u, v) = r at HF ⊢
  obtain ⟨m, hm⟩ : ∃ m, nC x u = m := ⟨_, rfl⟩
  obtain ⟨n, hn⟩ : ∃ n, nC y v = n := ⟨_, rfl⟩
  have HM : Hid (∀ w, Calls Try.prog 50 #[.int .i64 x, .int .i64 u] w fun e w' => e = .returned (.int .i64 m) ∧ w' = w) := by rw [← hm]; exact cc_any x u
  have HN : Hid (∀ w, Calls Try.prog 50 #[.int .i64 y, .int .i64 v] w fun e w' => e = .returned (.int .i64 n) ∧ w' = w) := by rw [← hn]; exact cc_any y v
  rw [hm, hn] at HF
  clear hm hn HC
  go_enter Try.func36, Try.ntmps36
  go_wp2
  go_loopw [11] (fun i wr => wr = w ∧ (i = .int .i64 0 ∨ (i = .int .i64 1 ∧ m = 0) ∨ (i = .int .i64 2 ∧ m = 0 ∧ n = 0))) (fun i _ => 2 - (RowKit.intOf i).toNat)
  case atStart => exact ⟨rfl, .inl rfl⟩
  case round =>
    obtain ⟨rfl, hrel⟩ := hrel
    rcases hrel with rfl | ⟨rfl, h⟩ | ⟨rfl, h, h'⟩
    · go_wp2_with fail
      refine (HM.out _).mono ?_
      rintro e w' ⟨rfl, rfl⟩
      by_cases hm : m = 0
      · have q1 : (!decide (m = 0)) = false := by simp [hm]
        go_wp2
        go_roundw
        case rel => exact ⟨trivial, .inr (.inl ⟨by go_num, hm⟩)⟩
        case measure => simp [RowKit.intOf]
      · have HF2 : Hid (r = m) := by show _ = _; rw [HF.out, if_neg hm]
        go_wp2
        go_ret
        exact ⟨ret_int HF2.out.symm, rfl⟩
    · go_wp2_with fail
      refine (HN.out _).mono ?_
      rintro e w' ⟨rfl, rfl⟩
      by_cases hn : n = 0
      · go_wp2
        go_roundw
        case rel => exact ⟨trivial, .inr (.inr ⟨by go_num, h, hn⟩)⟩
        case measure => simp [RowKit.intOf]
      · have HF2 : Hid (r = n) := by show _ = _; rw [HF.out, if_pos h]
        go_wp2
        go_ret
        exact ⟨ret_int HF2.out.symm, rfl⟩
    · have HF2 : Hid (r = 0) := by show _ = _; rw [HF.out, if_pos h, h']
      go_wp2
      go_ret
      exact ⟨ret_int HF2.out.symm, rfl⟩
set_option maxHeartbeats 1000000 in
theorem against_any (p q : Pt) (w : World) :
    Calls Try.prog 23 #[.agg #[.int .i64 p.1, .int .i64 p.2], .agg #[.int .i64 q.1, .int .i64 q.2]] w fun e w' => e = .returned (.int .i64 (cfP p q)) ∧ ∃ n os, w' = Go.Sort.grow (w.drewN n) os := by
  have HC := Lib.hid (comp_any w.heap.size (w.heap.size + 1) p q)
  obtain ⟨x, y⟩ := p
  obtain ⟨u, v⟩ := q
  generalize cfP (x, y) (u, v) = r at HC ⊢
  have H0 : Hid (((w.alloc (.cells #[.int .i64 x, .int .i64 y] 41)).alloc (.cells #[.int .i64 u, .int .i64 v] 41)) = Go.Sort.grow w #[.cells #[.int .i64 x, .int .i64 y] 41, .cells #[.int .i64 u, .int .i64 v] 41]) := by show _ = _; rw [Go.Sort.alloc_eq_grow, Go.Sort.alloc_eq_grow, Go.Sort.grow_grow]; rfl
  have hs0 : ((w.alloc (.cells #[.int .i64 x, .int .i64 y] 41)).alloc (.cells #[.int .i64 u, .int .i64 v] 41)).heap.size = w.heap.size + 2 := by rw [World.size_alloc, World.size_alloc]
  have hx0 : ((w.alloc (.cells #[.int .i64 x, .int .i64 y] 41)).alloc (.cells #[.int .i64 u, .int .i64 v] 41)).heap[w.heap.size]? = some (.cells #[.int .i64 x, .int .i64 y] 41 (0, 0)) := (Below.heap_alloc _ _ _ (by rw [World.size_alloc]; omega)).trans (heap_new _ _ _ rfl)
  have hy0 : ((w.alloc (.cells #[.int .i64 x, .int .i64 y] 41)).alloc (.cells #[.int .i64 u, .int .i64 v] 41)).heap[w.heap.size + 1]? = some (.cells #[.int .i64 u, .int .i64 v] 41 (0, 0)) := heap_new _ _ _ (by rw [World.size_alloc])
  have x0 : ((w.alloc (.cells #[.int .i64 x, .int .i64 y] 41)).alloc (.cells #[.int .i64 u, .int .i64 v] 41)).cell? ⟨w.heap.size, 0, none⟩ = some (.int .i64 x) := cell_of_row _ _ 0 _ _ _ hx0
  have x1 : ((w.alloc (.cells #[.int .i64 x, .int .i64 y] 41)).alloc (.cells #[.int .i64 u, .int .i64 v] 41)).cell? ⟨w.heap.size, 1, none⟩ = some (.int .i64 y) := cell_of_row _ _ 1 _ _ _ hx0
  have y0 : ((w.alloc (.cells #[.int .i64 x, .int .i64 y] 41)).alloc (.cells #[.int .i64 u, .int .i64 v] 41)).cell? ⟨w.heap.size + 1, 0, none⟩ = some (.int .i64 u) := cell_of_row _ _ 0 _ _ _ hy0
  have y1 : ((w.alloc (.cells #[.int .i64 x, .int .i64 y] 41)).alloc (.cells #[.int .i64 u, .int .i64 v] 41)).cell? ⟨w.heap.size + 1, 1, none⟩ = some (.int .i64 v) := cell_of_row _ _ 1 _ _ _ hy0
  clear hx0 hy0
  go_enter Try.func23, Try.ntmps23
  go_wp2_with fail
  generalize ((w.alloc (.cells #[.int .i64 x, .int .i64 y] 41)).alloc (.cells #[.int .i64 u, .int .i64 v] 41)) = wa at *
  generalize w.heap.size = e0 at *
  go_quiet (exact Calls.quiet_of_same (HC.out _ x0 x1 y0 y1))
  go_wp2
  go_ret
  exact ⟨rfl, nq, _, by rw [H0.out]; rfl⟩
end Go.Proofs.Ytcoffankmmjehaa
