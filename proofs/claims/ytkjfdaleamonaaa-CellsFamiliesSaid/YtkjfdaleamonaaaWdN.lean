/- Plain laws: the cell of a point may be, and all within twelve steps of it. -/
import Derived.Test.YtkjfdaleamonaaaWdW
namespace Go.Proofs.Ytkjfdaleamonaaa.Wd

def bE : Nat → E2
  | 0 => (1, 0)
  | k + 1 => mulE (bE k) (2, 1)
def conjE (z : E2) : E2 := (z.1 + z.2, -z.2)
theorem bE_tab : bE 0 = (1, 0) ∧ bE 1 = (2, 1) ∧ bE 2 = (3, 5) ∧ bE 3 = (1, 18) ∧ bE 4 = (-16, 55) ∧ bE 5 = (-87, 149) ∧ bE 6 = (-323, 360) ∧ bE 7 = (-1006, 757) ∧ bE 8 = (-2769, 1265) ∧ bE 9 = (-6803, 1026) ∧ bE 10 = (-14632, -3725) ∧ bE 11 = (-25539, -25807) ∧ bE 12 = (-25271, -102960) := by decide
theorem upto12 {m : Nat} (h : m ≤ 12) : m = 0 ∨ m = 1 ∨ m = 2 ∨ m = 3 ∨ m = 4 ∨ m = 5 ∨ m = 6 ∨ m = 7 ∨ m = 8 ∨ m = 9 ∨ m = 10 ∨ m = 11 ∨ m = 12 := by omega
def hN : Nat → Int
  | 0 => 1 | 1 => 3 | 2 => 8 | 3 => 19 | 4 => 55 | 5 => 149 | 6 => 360 | 7 => 1006 | 8 => 2769 | 9 => 6803 | 10 => 18357 | 11 => 51346 | _ => 128231
def rN : Nat → Int
  | 0 => 1560 | 1 => 3900 | 2 => 10140 | 3 => 28860 | 4 => 73320 | 5 => 184080 | 6 => 532740 | 7 => 1375140 | 8 => 3332940 | 9 => 9812400 | 10 => 25731420 | 11 => 60179340 | _ => 180328980
/-- A point, and how far a number of the lattice is from it. -/
def ptE (x y : Int) : E2 := (45 * x - 26 * y, 52 * y)
def errE (m : Nat) (z u : E2) : E2 := (2340 * (mulE (bE m) z).1 - u.1, 2340 * (mulE (bE m) z).2 - u.2)
def dN (m : Nat) : Int := 2340 * 7 ^ m
/-- The number of the cell of a point. -/
def nearE (x y : Int) (r : Nat) : E2 := roundE (mulE (ptE x y) (conjE (bE (12 - r)))) (dN (12 - r))
theorem round_rest {v : E2} {d : Int} (hd : 0 < d) : ∃ s t : Int, v.1 = d * (roundE v d).1 + s ∧ v.2 = d * (roundE v d).2 + t ∧ -d ≤ 2 * s + t ∧ 2 * s + t ≤ d ∧ -d ≤ s + 2 * t ∧ s + 2 * t ≤ d ∧ -d ≤ s - t ∧ s - t ≤ d := by
  have h1 := Int.mul_ediv_add_emod v.1 d
  have h2 := Int.mul_ediv_add_emod v.2 d
  have a1 := Int.emod_nonneg v.1 (show d ≠ 0 by omega)
  have a2 := Int.emod_lt_of_pos v.1 hd
  have b1 := Int.emod_nonneg v.2 (show d ≠ 0 by omega)
  have b2 := Int.emod_lt_of_pos v.2 hd
  have hc : ((cornerE (v.1 % d) (v.2 % d) d).1 = 0 ∨ (cornerE (v.1 % d) (v.2 % d) d).1 = 1) ∧ ((cornerE (v.1 % d) (v.2 % d) d).2 = 0 ∨ (cornerE (v.1 % d) (v.2 % d) d).2 = 1) := by
    unfold cornerE
    (repeat' split) <;> simp
  have hn := (near_first a1 a2 b1 b2 (cornerE (v.1 % d) (v.2 % d) d).1 (cornerE (v.1 % d) (v.2 % d) d).2 (by omega) (by omega) (by omega) (by omega)).2 rfl
  unfold roundE addE
  simp only
  generalize hk : cornerE (v.1 % d) (v.2 % d) d = c at *
  clear hk
  obtain ⟨i, k⟩ := c
  simp only at hc hn ⊢
  refine ⟨v.1 % d - i * d, v.2 % d - k * d, ?_, ?_, ?_⟩
  · rw [Int.mul_add, Int.mul_comm d i]; omega
  · rw [Int.mul_add, Int.mul_comm d k]; omega
  · unfold nearB at hn
    simp only [Bool.and_eq_true, decide_eq_true_eq] at hn
    omega
theorem err_start {m : Nat} (hm : m ≤ 12) (u : E2) : Hex (rN m) (errE m (roundE (mulE u (conjE (bE m))) (dN m)) u) := by
  obtain ⟨q0, q1, q2, q3, q4, q5, q6, q7, q8, q9, q10, q11, q12⟩ := bE_tab
  obtain ⟨s, t, h1, h2, h3⟩ := round_rest (v := mulE u (conjE (bE m))) (d := dN m) (by rcases upto12 hm with rfl | rfl | rfl | rfl | rfl | rfl | rfl | rfl | rfl | rfl | rfl | rfl | rfl <;> decide)
  generalize roundE (mulE u (conjE (bE m))) (dN m) = z at *
  obtain ⟨u1, u2⟩ := u
  obtain ⟨z1, z2⟩ := z
  rcases upto12 hm with rfl | rfl | rfl | rfl | rfl | rfl | rfl | rfl | rfl | rfl | rfl | rfl | rfl <;> simp only [Hex, errE, mulE, conjE, q0, q1, q2, q3, q4, q5, q6, q7, q8, q9, q10, q11, q12, rN] at h1 h2 ⊢ <;> simp only [dN, Int.reducePow, Int.reduceMul] at h1 h2 h3 <;> omega
theorem err_up {m : Nat} (hm : m < 12) {T : Int} {u z : E2} (h : Hex T (errE m z u)) : Hex (T + 2340 * hN m) (errE (m + 1) (upE z) u) := by
  obtain ⟨q0, q1, q2, q3, q4, q5, q6, q7, q8, q9, q10, q11, q12⟩ := bE_tab
  have hz := down_up z
  have hl := left_cases (digE_lt z)
  generalize upE z = q at *
  generalize digE z = d at *
  rw [downE_eq] at hz
  subst hz
  obtain ⟨u1, u2⟩ := u
  obtain ⟨z1, z2⟩ := q
  generalize leftE d = l at *
  obtain ⟨l1, l2⟩ := l
  simp only [Prod.mk.injEq] at hl
  have hl2 : -1 ≤ l1 ∧ l1 ≤ 1 ∧ -1 ≤ l2 ∧ l2 ≤ 1 ∧ -1 ≤ l1 + l2 ∧ l1 + l2 ≤ 1 := by omega
  clear hl
  rcases (show m = 0 ∨ m = 1 ∨ m = 2 ∨ m = 3 ∨ m = 4 ∨ m = 5 ∨ m = 6 ∨ m = 7 ∨ m = 8 ∨ m = 9 ∨ m = 10 ∨ m = 11 by omega) with rfl | rfl | rfl | rfl | rfl | rfl | rfl | rfl | rfl | rfl | rfl | rfl <;> simp only [Hex, errE, mulE, q0, q1, q2, q3, q4, q5, q6, q7, q8, q9, q10, q11, q12, hN, Nat.reduceAdd] at h ⊢ <;> omega
theorem err_by {m : Nat} (hm : m ≤ 12) {T h : Int} {u z e : E2} (hz : Hex T (errE m z u)) (he : Hex h e) : Hex (T + 2340 * (hN m * h)) (errE m (addE z e) u) := by
  obtain ⟨q0, q1, q2, q3, q4, q5, q6, q7, q8, q9, q10, q11, q12⟩ := bE_tab
  obtain ⟨u1, u2⟩ := u
  obtain ⟨z1, z2⟩ := z
  obtain ⟨e1, e2⟩ := e
  rcases upto12 hm with rfl | rfl | rfl | rfl | rfl | rfl | rfl | rfl | rfl | rfl | rfl | rfl | rfl <;> simp only [Hex, errE, mulE, addE, q0, q1, q2, q3, q4, q5, q6, q7, q8, q9, q10, q11, q12, hN] at hz he ⊢ <;> omega
def tN (m : Nat) : Nat → Int
  | 0 => rN m + 2340 * (hN m * 12)
  | k + 1 => tN m k + 2340 * hN (m + k)
theorem err_ups {m : Nat} {u z : E2} (h : Hex (tN m 0) (errE m z u)) {k : Nat} (hk : m + k ≤ 12) : Hex (tN m k) (errE (m + k) (upN k z) u) := by
  induction k with
  | zero => exact h
  | succ k ih => rw [upN_up]; exact err_up (by omega) (ih (by omega))
theorem base_in {b : E2} {x y : Int} (hx : 0 ≤ x ∧ x < 1073741824) (hy : 0 ≤ y ∧ y < 1073741824) (h : Hex 4000000000 (errE 12 b (ptE x y))) : baseB b = true := by
  obtain ⟨_, _, _, _, _, _, _, _, _, _, _, _, q12⟩ := bE_tab
  rw [baseB_iff]
  obtain ⟨b1, b2⟩ := b
  simp only [Hex, errE, mulE, ptE, q12] at h ⊢
  omega
theorem ok_of_base {r : Nat} {z : E2} (hr : r ≤ 12) (h : baseB (upN r z) = true) : okB r z = true := by
  have h1 := dn_of_up r z (Nat.le_refl r)
  rw [Nat.sub_self] at h1
  have h2 := dn_ok h hr (f := dgt r z) fun k _ hk => by unfold dgt; rw [if_pos hk]; exact digE_lt _
  rw [h1] at h2
  exact h2
theorem near_ok {x y : Int} (hx : 0 ≤ x ∧ x < 1073741824) (hy : 0 ≤ y ∧ y < 1073741824) {r : Nat} (hr : r ≤ 12) {e : E2} (he : Hex 12 e) : okB r (addE (nearE x y r) e) = true := by
  refine ok_of_base hr ?_
  have h1 := err_by (m := 12 - r) (by omega) (err_start (by omega) (ptE x y)) he
  have h2 := err_ups (m := 12 - r) h1 (k := r) (by omega)
  rw [show 12 - r + r = 12 by omega] at h2
  refine base_in hx hy (h2.mono ?_)
  rcases upto12 hr with rfl | rfl | rfl | rfl | rfl | rfl | rfl | rfl | rfl | rfl | rfl | rfl | rfl <;> decide
theorem near_ok0 {x y : Int} (hx : 0 ≤ x ∧ x < 1073741824) (hy : 0 ≤ y ∧ y < 1073741824) {r : Nat} (hr : r ≤ 12) : okB r (nearE x y r) = true := by
  have := near_ok hx hy hr (e := (0, 0)) (by unfold Hex; simp)
  unfold addE at this
  simpa using this
end Go.Proofs.Ytkjfdaleamonaaa.Wd
