/- Plain laws: how many steps are between two numbers; the numbers of a line. -/
import Derived.Test.YticbkdignmlfiaaWdN
namespace Go.Proofs.Yticbkdignmlfiaa.Wd

/-- How far a number is from nought: the greatest of three. -/
def stepsN (z : E2) : Int := max (max (z.1.natAbs : Int) (z.2.natAbs : Int)) ((z.1 + z.2).natAbs : Int)
theorem steps_hex (z : E2) (k : Int) : Hex k z ↔ stepsN z ≤ k := by unfold Hex stepsN; omega
theorem steps_nonneg (z : E2) : 0 ≤ stepsN z := by unfold stepsN; omega
theorem steps_zero (x y : E2) : stepsN (subE x y) = 0 ↔ x = y := by
  obtain ⟨a, b⟩ := x
  obtain ⟨c, d⟩ := y
  unfold stepsN subE
  simp only [Prod.mk.injEq]
  omega
theorem steps_sym (x y : E2) : stepsN (subE x y) = stepsN (subE y x) := by unfold stepsN subE; simp only; omega
theorem steps_tri (x y z : E2) : stepsN (subE x z) ≤ stepsN (subE x y) + stepsN (subE y z) := by
  rw [← steps_hex]
  have h1 := (steps_hex (subE x y) _).2 (Int.le_refl _)
  have h2 := (steps_hex (subE y z) _).2 (Int.le_refl _)
  generalize stepsN (subE x y) = A at *
  generalize stepsN (subE y z) = B at *
  obtain ⟨x1, x2⟩ := x
  obtain ⟨y1, y2⟩ := y
  obtain ⟨z1, z2⟩ := z
  unfold Hex subE at *
  simp only at *
  omega
theorem hex_ring (z : E2) (k : Nat) : (Hex k z ∧ ¬ Hex ((k : Int) - 1) z) ↔ stepsN z = k := by
  rw [steps_hex, steps_hex]; omega
/-- The distance of two words' cells, and its error. -/
def dsE (a b : Nat) : Int := if isW a = true then (if isW b = true then (if rW a = rW b then 0 else 8) else 5) else 5
def dsN (a b : Nat) : Int := if dsE a b = 0 then stepsN (subE (zW a) (zW b)) else 0
/-- A line's numbers. -/
def lineE (x y : E2) (n i : Int) : E2 := roundE ((n - i) * x.1 + i * y.1, (n - i) * x.2 + i * y.2) n
def pathL (x y : E2) (n : Nat) : List E2 := (List.range (n + 1)).map fun (i : Nat) => lineE x y n i

theorem nd_pos {n k : Int} (hn : 0 < n) (h : 1 ≤ k) : n ≤ n * k := by
  have := Int.mul_le_mul_of_nonneg_left h (show 0 ≤ n by omega)
  omega
theorem nd_neg {n k : Int} (hn : 0 < n) (h : k ≤ -1) : n * k ≤ -n := by
  have := Int.mul_le_mul_of_nonneg_left h (show 0 ≤ n by omega)
  omega
theorem nd_zero {n k : Int} (hn : 0 < n) (h1 : -n < n * k) (h2 : n * k < n) : k = 0 := by
  rcases (show 1 ≤ k ∨ k ≤ -1 ∨ k = 0 by omega) with h | h | h
  · have := nd_pos hn h; omega
  · have := nd_neg hn h; omega
  · exact h
/-- One direction along which a line goes a whole step each. -/
theorem line_core {n e i D1 D2 s t : Int} (hn : 0 < n) (h1 : n * i = n * D1 + s) (h2 : i * e = n * D2 + t) (he : -n ≤ e) (he2 : e ≤ 0) (hi : 0 ≤ i)
    (k1 : -n ≤ 2 * s + t) (k2 : 2 * s + t ≤ n) (k3 : -n ≤ s + 2 * t) (k4 : s + 2 * t ≤ n) (k5 : -n ≤ s - t) (k6 : s - t ≤ n) :
    D1 = i ∧ -i ≤ D2 ∧ D2 ≤ 0 ∧ s = 0 := by
  have hz : i - D1 = 0 := nd_zero hn (by rw [Int.mul_sub]; omega) (by rw [Int.mul_sub]; omega)
  obtain rfl : D1 = i := by omega
  have hs : s = 0 := by omega
  subst hs
  have e1 : D1 * e ≤ 0 := Int.mul_nonpos_of_nonneg_of_nonpos hi he2
  have e2 : D1 * (-n) ≤ D1 * e := Int.mul_le_mul_of_nonneg_left he hi
  rw [Int.mul_neg, Int.mul_comm D1 n] at e2
  refine ⟨rfl, ?_, ?_, rfl⟩
  · rcases Int.lt_or_le D2 (-D1) with h | h
    · have := nd_neg hn (show D2 + D1 ≤ -1 by omega)
      rw [Int.mul_add] at this
      omega
    · exact h
  · rcases Int.lt_or_le 0 D2 with h | h
    · have := nd_pos hn (show 1 ≤ D2 by omega)
      omega
    · exact h
theorem line_next {n e i D2 t E2 u : Int} (hn : 0 < n) (h2 : i * e = n * D2 + t) (h3 : (i + 1) * e = n * E2 + u) (he : -n ≤ e) (he2 : e ≤ 0)
    (k3 : -n ≤ 2 * t) (k4 : 2 * t ≤ n) (j3 : -n ≤ 2 * u) (j4 : 2 * u ≤ n) : E2 - D2 = 0 ∨ E2 - D2 = -1 := by
  rw [Int.add_mul, Int.one_mul] at h3
  have hd : n * (E2 - D2) = e + t - u := by rw [Int.mul_sub]; omega
  rcases (show 1 ≤ E2 - D2 ∨ E2 - D2 ≤ -2 ∨ E2 - D2 = 0 ∨ E2 - D2 = -1 by omega) with h | h | h
  · have := nd_pos hn h
    obtain rfl : e = 0 := by omega
    rw [Int.mul_zero] at h2 h3
    have a1 := nd_zero hn (k := D2) (by omega) (by omega)
    subst a1
    omega
  · have := nd_neg hn (show E2 - D2 + 1 ≤ -1 by omega)
    rw [Int.mul_add, Int.mul_one] at this
    obtain rfl : e = -n := by omega
    have q : n * (D2 + i) = -t := by rw [Int.mul_add, Int.mul_comm n i]; rw [Int.mul_neg] at h2; omega
    have a1 := nd_zero hn (k := D2 + i) (by omega) (by omega)
    rw [a1, Int.mul_zero] at q
    omega
  · exact h
/-- What is known of a number of a line. -/
theorem line_at {x y : E2} {n : Int} (hn : 0 < n) (i : Int) : ∃ s t : Int, i * (y.1 - x.1) = n * ((lineE x y n i).1 - x.1) + s ∧ i * (y.2 - x.2) = n * ((lineE x y n i).2 - x.2) + t ∧ -n ≤ 2 * s + t ∧ 2 * s + t ≤ n ∧ -n ≤ s + 2 * t ∧ s + 2 * t ≤ n ∧ -n ≤ s - t ∧ s - t ≤ n := by
  obtain ⟨s, t, h1, h2, h3⟩ := round_rest (v := ((n - i) * x.1 + i * y.1, (n - i) * x.2 + i * y.2)) hn
  refine ⟨s, t, ?_, ?_, h3⟩
  · show i * (y.1 - x.1) = n * ((roundE _ n).1 - x.1) + s
    simp only [Int.mul_sub, Int.sub_mul] at h1 ⊢
    omega
  · show i * (y.2 - x.2) = n * ((roundE _ n).2 - x.2) + t
    simp only [Int.mul_sub, Int.sub_mul] at h2 ⊢
    omega
set_option maxHeartbeats 2000000 in
theorem line_both {x y : E2} {n : Int} (hn : 0 < n) (hd : stepsN (subE y x) = n) (i : Int) (hi : 0 ≤ i) : stepsN (subE (lineE x y n i) x) = i ∧ stepsN (subE (lineE x y n (i + 1)) (lineE x y n i)) = 1 := by
  obtain ⟨s, t, a1, a2, a3, a4, a5, a6, a7, a8⟩ := line_at (x := x) (y := y) hn i
  obtain ⟨u, v, b1, b2, b3, b4, b5, b6, b7, b8⟩ := line_at (x := x) (y := y) hn (i + 1)
  generalize lineE x y n i = p at *
  generalize lineE x y n (i + 1) = q at *
  obtain ⟨x1, x2⟩ := x
  obtain ⟨y1, y2⟩ := y
  obtain ⟨p1, p2⟩ := p
  obtain ⟨q1, q2⟩ := q
  unfold stepsN subE at *
  simp only at *
  obtain ⟨e, he⟩ : ∃ e, y1 - x1 = e := ⟨_, rfl⟩
  obtain ⟨f, hf⟩ : ∃ f, y2 - x2 = f := ⟨_, rfl⟩
  obtain ⟨P, hP⟩ : ∃ e, p1 - x1 = e := ⟨_, rfl⟩
  obtain ⟨Q, hQ⟩ : ∃ e, p2 - x2 = e := ⟨_, rfl⟩
  obtain ⟨R, hR⟩ : ∃ e, q1 - x1 = e := ⟨_, rfl⟩
  obtain ⟨S, hS⟩ : ∃ e, q2 - x2 = e := ⟨_, rfl⟩
  rw [he, hf] at hd
  rw [he, hP] at a1
  rw [hf, hQ] at a2
  rw [he, hR] at b1
  rw [hf, hS] at b2
  rw [hP, hQ]
  rw [show q1 - p1 = R - P by omega, show q2 - p2 = S - Q by omega]
  clear he hf hP hQ hR hS
  have C : (e = n ∧ -n ≤ f ∧ f ≤ 0) ∨ (e = -n ∧ 0 ≤ f ∧ f ≤ n) ∨ (f = n ∧ -n ≤ e ∧ e ≤ 0) ∨ (f = -n ∧ 0 ≤ e ∧ e ≤ n) ∨ (e + f = n ∧ 0 ≤ f ∧ f ≤ n) ∨ (e + f = -n ∧ -n ≤ f ∧ f ≤ 0) := by omega
  rcases C with ⟨h, h1, h2⟩ | ⟨h, h1, h2⟩ | ⟨h, h1, h2⟩ | ⟨h, h1, h2⟩ | ⟨h, h1, h2⟩ | ⟨h, h1, h2⟩
  · subst h
    rw [Int.mul_comm] at a1 b1
    obtain ⟨c1, c2, c3, c4⟩ := line_core hn a1 a2 h1 h2 hi a3 a4 a5 a6 a7 a8
    obtain ⟨d1, d2, d3, d4⟩ := line_core hn b1 b2 h1 h2 (by omega) b3 b4 b5 b6 b7 b8
    have := line_next hn a2 b2 h1 h2 (by omega) (by omega) (by omega) (by omega)
    omega
  · obtain ⟨c1, c2, c3, c4⟩ := line_core (e := -f) (i := i) (D1 := -P) (D2 := -Q) (s := -s) (t := -t) hn (by rw [h, Int.mul_neg, Int.mul_comm] at a1; rw [Int.mul_neg]; omega) (by rw [Int.mul_neg, Int.mul_neg]; omega) (by omega) (by omega) hi (by omega) (by omega) (by omega) (by omega) (by omega) (by omega)
    obtain ⟨d1, d2, d3, d4⟩ := line_core (e := -f) (i := i + 1) (D1 := -R) (D2 := -S) (s := -u) (t := -v) hn (by rw [h, Int.mul_neg, Int.mul_comm] at b1; rw [Int.mul_neg]; omega) (by rw [Int.mul_neg, Int.mul_neg]; omega) (by omega) (by omega) (by omega) (by omega) (by omega) (by omega) (by omega) (by omega) (by omega)
    have := line_next (e := -f) (i := i) (D2 := -Q) (E2 := -S) (t := -t) (u := -v) hn (by rw [Int.mul_neg, Int.mul_neg]; omega) (by rw [Int.mul_neg, Int.mul_neg]; omega) (by omega) (by omega) (by omega) (by omega) (by omega) (by omega)
    omega
  · subst h
    rw [Int.mul_comm] at a2 b2
    obtain ⟨c1, c2, c3, c4⟩ := line_core hn a2 a1 h1 h2 hi (by omega) (by omega) (by omega) (by omega) (by omega) (by omega)
    obtain ⟨d1, d2, d3, d4⟩ := line_core hn b2 b1 h1 h2 (by omega) (by omega) (by omega) (by omega) (by omega) (by omega) (by omega)
    have := line_next hn a1 b1 h1 h2 (by omega) (by omega) (by omega) (by omega)
    omega
  · obtain ⟨c1, c2, c3, c4⟩ := line_core (e := -e) (i := i) (D1 := -Q) (D2 := -P) (s := -t) (t := -s) hn (by rw [h, Int.mul_neg, Int.mul_comm] at a2; rw [Int.mul_neg]; omega) (by rw [Int.mul_neg, Int.mul_neg]; omega) (by omega) (by omega) hi (by omega) (by omega) (by omega) (by omega) (by omega) (by omega)
    obtain ⟨d1, d2, d3, d4⟩ := line_core (e := -e) (i := i + 1) (D1 := -S) (D2 := -R) (s := -v) (t := -u) hn (by rw [h, Int.mul_neg, Int.mul_comm] at b2; rw [Int.mul_neg]; omega) (by rw [Int.mul_neg, Int.mul_neg]; omega) (by omega) (by omega) (by omega) (by omega) (by omega) (by omega) (by omega) (by omega) (by omega)
    have := line_next (e := -e) (i := i) (D2 := -P) (E2 := -R) (t := -s) (u := -u) hn (by rw [Int.mul_neg, Int.mul_neg]; omega) (by rw [Int.mul_neg, Int.mul_neg]; omega) (by omega) (by omega) (by omega) (by omega) (by omega) (by omega)
    omega
  · have g1 : n * i = n * (P + Q) + (s + t) := by
      have : i * (e + f) = n * (P + Q) + (s + t) := by rw [Int.mul_add, Int.mul_add]; omega
      rw [h, Int.mul_comm] at this; exact this
    have g2 : n * (i + 1) = n * (R + S) + (u + v) := by
      have : (i + 1) * (e + f) = n * (R + S) + (u + v) := by rw [Int.mul_add (i + 1), Int.mul_add n]; omega
      rw [h, Int.mul_comm] at this; exact this
    obtain ⟨c1, c2, c3, c4⟩ := line_core (e := -f) (i := i) (D1 := P + Q) (D2 := -Q) (s := s + t) (t := -t) hn g1 (by rw [Int.mul_neg, Int.mul_neg]; omega) (by omega) (by omega) hi (by omega) (by omega) (by omega) (by omega) (by omega) (by omega)
    obtain ⟨d1, d2, d3, d4⟩ := line_core (e := -f) (i := i + 1) (D1 := R + S) (D2 := -S) (s := u + v) (t := -v) hn g2 (by rw [Int.mul_neg, Int.mul_neg]; omega) (by omega) (by omega) (by omega) (by omega) (by omega) (by omega) (by omega) (by omega) (by omega)
    have := line_next (e := -f) (i := i) (D2 := -Q) (E2 := -S) (t := -t) (u := -v) hn (by rw [Int.mul_neg, Int.mul_neg]; omega) (by rw [Int.mul_neg, Int.mul_neg]; omega) (by omega) (by omega) (by omega) (by omega) (by omega) (by omega)
    omega
  · have g1 : n * i = n * (-(P + Q)) + (-(s + t)) := by
      have : i * (e + f) = n * (P + Q) + (s + t) := by rw [Int.mul_add, Int.mul_add]; omega
      rw [h, Int.mul_neg, Int.mul_comm] at this
      rw [Int.mul_neg]; omega
    have g2 : n * (i + 1) = n * (-(R + S)) + (-(u + v)) := by
      have : (i + 1) * (e + f) = n * (R + S) + (u + v) := by rw [Int.mul_add (i + 1), Int.mul_add n]; omega
      rw [h, Int.mul_neg, Int.mul_comm] at this
      rw [Int.mul_neg]; omega
    obtain ⟨c1, c2, c3, c4⟩ := line_core (e := f) (i := i) (D1 := -(P + Q)) (D2 := Q) (s := -(s + t)) (t := t) hn g1 a2 (by omega) (by omega) hi (by omega) (by omega) (by omega) (by omega) (by omega) (by omega)
    obtain ⟨d1, d2, d3, d4⟩ := line_core (e := f) (i := i + 1) (D1 := -(R + S)) (D2 := S) (s := -(u + v)) (t := v) hn g2 b2 (by omega) (by omega) (by omega) (by omega) (by omega) (by omega) (by omega) (by omega) (by omega)
    have := line_next (e := f) (i := i) (D2 := Q) (E2 := S) (t := t) (u := v) hn a2 b2 (by omega) (by omega) (by omega) (by omega) (by omega) (by omega)
    omega
theorem line_end {x y : E2} {n : Int} (hn : 0 < n) (hd : stepsN (subE y x) = n) : lineE x y n 0 = x ∧ lineE x y n n = y := by
  have h0 := (line_both hn hd 0 (Int.le_refl _)).1
  refine ⟨(steps_zero _ _).1 h0, ?_⟩
  obtain ⟨s, t, a1, a2, a3, a4, a5, a6, a7, a8⟩ := line_at (x := x) (y := y) hn n
  generalize lineE x y n n = p at *
  have e1 : (p.1 - x.1) - (y.1 - x.1) = 0 := nd_zero hn (by rw [Int.mul_sub]; omega) (by rw [Int.mul_sub]; omega)
  have e2 : (p.2 - x.2) - (y.2 - x.2) = 0 := nd_zero hn (by rw [Int.mul_sub]; omega) (by rw [Int.mul_sub]; omega)
  exact Prod.ext (by omega) (by omega)
theorem line_inj {x y : E2} {n : Int} (hn : 0 < n) (hd : stepsN (subE y x) = n) {i j : Int} (hi : 0 ≤ i) (hj : 0 ≤ j) (h : lineE x y n i = lineE x y n j) : i = j := by
  have h1 := (line_both hn hd i hi).1
  have h2 := (line_both hn hd j hj).1
  rw [h] at h1
  omega
end Go.Proofs.Yticbkdignmlfiaa.Wd
