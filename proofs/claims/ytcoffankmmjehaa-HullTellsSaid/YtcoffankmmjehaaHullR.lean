/- Plain laws: the hull as a function; area, convex, held. -/
import Derived.Test.YtcoffankmmjehaaHullG
namespace Go.Proofs.Ytcoffankmmjehaa.Hull
open Go.Lib Go.RowKit
def leB (a b : Pt) : Bool := !ltB b a
theorem ltB_irrefl (a : Pt) : ltB a a = false := by unfold ltB; simp
theorem ltB_tri (a b : Pt) (h1 : ltB a b = false) (h2 : ltB b a = false) : a = b := by
  obtain ⟨a1, a2⟩ := a
  obtain ⟨b1, b2⟩ := b
  unfold ltB at *
  simp at *
  omega
/-- The points in order, each once. -/
def orderF (l : List Pt) : List Pt := compactUpTo (l.mergeSort leB).toArray (l.mergeSort leB).length
theorem orderF_spec (l : List Pt) : Asc 1 (orderF l) ∧ ∀ p, p ∈ orderF l ↔ p ∈ l := by
  refine sorted_compact (List.mergeSort_perm l leB) fun i j hij hj => ?_
  have h := List.pairwise_mergeSort (le := leB) (fun a b c h1 h2 => ?_) (fun a b => ?_) l
  · rw [List.pairwise_iff_getElem] at h
    have h1 : (!ltB (l.mergeSort leB)[j] (l.mergeSort leB)[i]) = true := h i j (by omega) hj hij
    have e : ∀ k (hk : k < (l.mergeSort leB).length), pg (l.mergeSort leB) k = (l.mergeSort leB)[k] := fun k hk => by
      unfold pg; rw [List.getD_eq_getElem?_getD, List.getElem?_eq_getElem hk, Option.getD_some]
    rw [e j hj, e i (by omega)]
    simpa using h1
  · unfold leB ltB at *; simp at *; omega
  · unfold leB ltB; simp; omega
def sidesF (l : List Pt) : List Pt := ring (chainF (orderF l)) (chainF (orderF l).reverse)
/-- The hull of some points, as package hull tells it. -/
def hullF (l : List Pt) : List Pt := if okB l = true ∧ 0 < l.length ∧ 3 ≤ (sidesF l).length then sidesF l else []
theorem hullF_is (l : List Pt) : HullIs l (hullF l) := by
  unfold hullF
  by_cases h1 : okB l = true
  · by_cases h2 : 0 < l.length
    · refine hull_ring h1 (orderF_spec l).1 (orderF_spec l).2 h2 _ ?_
      show _ = if 3 ≤ (sidesF l).length then sidesF l else []
      by_cases h3 : 3 ≤ (sidesF l).length
      · rw [if_pos ⟨h1, h2, h3⟩, if_pos h3]
      · rw [if_neg (fun h => h3 h.2.2), if_neg h3]
    · rw [if_neg (fun h => h2 h.2.1)]
      exact .inl ⟨.inr (List.eq_nil_of_length_eq_zero (by omega)), rfl⟩
  · rw [if_neg (fun h => h1 h.1)]
    exact .inl ⟨.inl (by simpa using h1), rfl⟩
theorem HullIs.eq {l H : List Pt} (h : HullIs l H) : H = hullF l := h.unique (hullF_is l) rfl fun _ => Iff.rfl
/-- What a hull that is not empty goes by. -/
theorem hullF_both {l : List Pt} (h : hullF l ≠ []) : okB l = true ∧ ∃ L U, Both (fun p => p ∈ l) L U ∧ hullF l = ring L U ∧ 3 ≤ (ring L U).length := by
  rcases hullF_is l with ⟨_, h1⟩ | ⟨h1, L, U, h2, h3⟩
  · exact absurd h1 h
  · refine ⟨h1, L, U, h2, ?_⟩
    by_cases h4 : 3 ≤ (ring L U).length
    · rw [if_pos h4] at h3; exact ⟨h3, h4⟩
    · rw [if_neg h4] at h3; exact absurd h3 h
/-- Every list of points that may be has its two sides. -/
theorem both_of {l : List Pt} (h : 0 < l.length) : ∃ L U, Both (fun p => p ∈ l) L U := ⟨_, _, (chain_both (orderF_spec l).1 (asc_ne (orderF_spec l).2 h)).of_iff fun p => ((orderF_spec l).2 p).symm⟩
theorem hullF_of {l L U : List Pt} (hok : okB l = true) (h : Both (fun p => p ∈ l) L U) : hullF l = if 3 ≤ (ring L U).length then ring L U else [] := by
  have : HullIs l (if 3 ≤ (ring L U).length then ring L U else []) := .inr ⟨hok, L, U, h, rfl⟩
  exact this.eq.symm
def convexF (l : List Pt) : Bool := decide (0 < l.length ∧ hullF l = l)
theorem convexF_ok {l : List Pt} (h : convexF l = true) : okB l = true := by
  have := of_decide_eq_true h
  exact (hullF_both (fun e => by rw [e] at this; rw [← this.2] at this; simp at this)).1
def leftF (l : List Pt) (p : Pt) (k : Nat) : Bool := decide (∀ i, i < k → 0 ≤ turn (pg l i) (nx l i) p)
theorem leftF_succ (l : List Pt) (p : Pt) (k : Nat) : leftF l p (k + 1) = (leftF l p k && decide (0 ≤ turn (pg l k) (nx l k) p)) := by
  unfold leftF
  rw [Bool.eq_iff_iff]
  simp only [Bool.and_eq_true, decide_eq_true_eq]
  constructor
  · exact fun h => ⟨fun i hi => h i (by omega), h k (by omega)⟩
  · rintro ⟨h1, h2⟩ i hi
    rcases Nat.lt_or_ge i k with h3 | h3
    · exact h1 i h3
    · obtain rfl : i = k := by omega
      exact h2
def holdsF (l : List Pt) (p : Pt) : Bool := convexF l && okB [p] && leftF l p l.length
theorem leftF_false {l : List Pt} {p : Pt} {k n : Nat} (h : turn (pg l k) (nx l k) p < 0) (hk : k < n) : leftF l p n = false := by
  unfold leftF
  rw [decide_eq_false_iff_not]
  intro h1
  have := h1 k hk
  omega
theorem wrap_congr {x y : Int} (h : (x - y) % 18446744073709551616 = 0) : wrap64 x = wrap64 y := by
  unfold wrap64; omega
theorem wrap_mod (z : Int) : (wrap64 z - z) % 18446744073709551616 = 0 := by
  unfold wrap64; omega
theorem wrap_add (a b : Int) : wrap64 (wrap64 a + b) = wrap64 (a + b) := wrap_congr (by have := wrap_mod a; omega)
theorem wrap_sub3 (a b c : Int) : wrap64 (wrap64 (wrap64 a + b) - c) = wrap64 (a + (b - c)) := wrap_congr (by have := wrap_mod a; have := wrap_mod (wrap64 a + b); omega)
def areaTo (l : List Pt) (k : Nat) : Int := ((List.range k).map fun i => cr (pg l i) (nx l i)).sum
theorem areaTo_succ (l : List Pt) (k : Nat) : areaTo l (k + 1) = areaTo l k + cr (pg l k) (nx l k) := sum_range _ _
theorem areaTo_all (l : List Pt) : areaTo l l.length = area l := rfl
end Go.Proofs.Ytcoffankmmjehaa.Hull
