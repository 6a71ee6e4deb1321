/- Lines of cells that may be: plain. -/
import Derived.Test.YticbkdignmlfiaaNfP
import Derived.Test.YticbkdignmlfiaaNfR
namespace Go.Proofs.Yticbkdignmlfiaa
open Go.RowKit Go.Lib Wd

theorem tell_map {r : Nat} {L : List E2} (h : ∀ y ∈ L, okB r y = true) : tellL r L = L.map fun y => (ofW r y : Int) := by
  unfold tellL
  rw [List.filter_eq_self.2 h]
  refine List.map_congr_left fun y hy => ?_
  rw [(ofW_ok (h y hy)).1, Int.toNat_natCast]
theorem getD_map {L : List E2} {f : E2 → Int} {k : Nat} (h : k < L.length) : (L.map f).getD k 0 = f (L.getD k (0, 0)) := by
  rw [List.getD_eq_getElem?_getD, List.getD_eq_getElem?_getD, List.getElem?_map, List.getElem?_eq_getElem h]
  rfl
theorem path_get (x y : E2) (n : Nat) {k : Nat} (h : k < n + 1) : (pathL x y n).getD k (0, 0) = lineE x y n k := by
  unfold pathL
  rw [List.getD_eq_getElem?_getD, List.getElem?_map, List.getElem?_range h]
  rfl
/-- A line between cells, all of whose numbers may be cells. -/
theorem line_ok {R K : Nat} {z y : E2} (hz : okB R z = true) (hy : okB R y = true) (hs : stepsN (subE y z) = K) (hK : K ≤ 10000) (hall : ∀ p, stepsN (subE p z) ≤ K → okB R p = true) :
    lnE (ofW R z) (ofW R y) = 0 ∧ (lnL (ofW R z) (ofW R y)).length = K + 1 ∧ (lnL (ofW R z) (ofW R y)).getD 0 0 = (ofW R z : Int) ∧ (lnL (ofW R z) (ofW R y)).getD K 0 = (ofW R y : Int) ∧
    ∀ j, j < K → ∃ p q, okB R p = true ∧ okB R q = true ∧ (lnL (ofW R z) (ofW R y)).getD j 0 = (ofW R p : Int) ∧ (lnL (ofW R z) (ofW R y)).getD (j + 1) 0 = (ofW R q : Int) ∧ stepsN (subE q p) = 1 := by
  obtain ⟨d1, d2⟩ := ds_ok hz hy
  rw [steps_sym, hs] at d2
  have hE : lnE (ofW R z) (ofW R y) = 0 := by unfold lnE; rw [if_pos d1, if_neg (by omega)]
  obtain ⟨c1, c2, -⟩ := cv_ok hz
  obtain ⟨c3, c4, -⟩ := cv_ok hy
  by_cases h0 : K = 0
  · subst h0
    have e : y = z := (steps_zero _ _).1 hs
    subst e
    have hL : lnL (ofW R y) (ofW R y) = [(ofW R y : Int)] := by unfold lnL; rw [if_pos hE, if_pos (by omega)]
    rw [hL]
    exact ⟨hE, rfl, rfl, rfl, fun j hj => by omega⟩
  · have hp : (0 : Int) < K := by omega
    have hL : lnL (ofW R z) (ofW R y) = tellL R (pathL z y K) := by unfold lnL; rw [if_pos hE, if_neg (by omega), c1, c2, c4, d2, Int.toNat_natCast]
    have hmem : ∀ p ∈ pathL z y K, okB R p = true := fun p hp2 => by
      unfold pathL at hp2
      obtain ⟨i, hi, rfl⟩ := List.mem_map.1 hp2
      have := (line_both hp hs (i : Int) (by omega)).1
      exact hall _ (by rw [this]; have := List.mem_range.1 hi; omega)
    rw [hL, tell_map hmem]
    have hg : ∀ k, k < K + 1 → ((pathL z y K).map fun y => (ofW R y : Int)).getD k 0 = (ofW R (lineE z y K k) : Int) := fun k hk => by
      rw [getD_map (by rw [path_len]; exact hk), path_get _ _ _ hk]
    obtain ⟨e1, e2⟩ := line_end hp hs
    refine ⟨hE, by rw [List.length_map, path_len], by rw [hg 0 (by omega)]; show (ofW R (lineE z y K ((0 : Nat) : Int)) : Int) = _; rw [Int.ofNat_zero, e1], by rw [hg K (by omega), e2], fun j hj => ?_⟩
    refine ⟨lineE z y K j, lineE z y K (j + 1 : Nat), ?_, ?_, hg j (by omega), hg (j + 1) (by omega), ?_⟩
    · exact hall _ (by rw [(line_both hp hs (j : Int) (by omega)).1]; omega)
    · exact hall _ (by rw [(line_both hp hs ((j + 1 : Nat) : Int) (by omega)).1]; omega)
    · exact (line_both hp hs (j : Int) (by omega)).2
end Go.Proofs.Yticbkdignmlfiaa
