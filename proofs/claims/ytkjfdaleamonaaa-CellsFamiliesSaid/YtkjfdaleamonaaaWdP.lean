/- Plain laws: numbers of the lattice, the nearest to a fraction, parents and what is left. -/
import Derived.Test.YtkjfdaleamonaaaKit2
namespace Go.Proofs.Ytkjfdaleamonaaa
abbrev E2 := Int × Int
end Go.Proofs.Ytkjfdaleamonaaa
namespace Go.Proofs.Ytkjfdaleamonaaa.Wd
def mulE (x y : E2) : E2 := (x.1 * y.1 - x.2 * y.2, x.1 * y.2 + x.2 * y.1 + x.2 * y.2)
def addE (x y : E2) : E2 := (x.1 + y.1, x.2 + y.2)
def subE (x y : E2) : E2 := (x.1 - y.1, x.2 - y.2)
/-- The six that are nearest to nought. -/
def unitE : Nat → E2
  | 0 => (1, 0)
  | 1 => (0, 1)
  | 2 => (-1, 1)
  | 3 => (-1, 0)
  | 4 => (0, -1)
  | _ => (1, -1)
/-- What is left, by its number: nought, or a unit. -/
def leftE : Nat → E2
  | 0 => (0, 0)
  | k + 1 => unitE k
/-- Which corner of a cell of the lattice is nearest to (s, t), of [0, d): the first of those. -/
def cornerE (s t d : Int) : E2 :=
  if 2 * s + t ≤ d ∧ s + 2 * t ≤ d then (0, 0)
  else if s + 2 * t ≥ d ∧ s ≤ t ∧ 2 * s + t ≤ 2 * d then (0, 1)
  else if 2 * s + t ≥ d ∧ s + 2 * t ≤ 2 * d ∧ t ≤ s then (1, 0)
  else (1, 1)
/-- The nearest to a fraction. -/
def roundE (u : E2) (d : Int) : E2 := addE (u.1 / d, u.2 / d) (cornerE (u.1 % d) (u.2 % d) d)
/-- As the program finds it: the first of the least. -/
def bestE (s t d : Int) : E2 :=
  let f1 := d - (s + 2 * t)
  let f2 := d - (2 * s + t)
  let f3 := 3 * d - (2 * s + t) - (s + 2 * t)
  let b1 : Int × E2 := if f1 < 0 then (f1, (0, 1)) else (0, (0, 0))
  let b2 : Int × E2 := if f2 < b1.1 then (f2, (1, 0)) else b1
  let b3 : Int × E2 := if f3 < b2.1 then (f3, (1, 1)) else b2
  b3.2
theorem best_corner {s t d : Int} (_hs : 0 ≤ s) (_hs1 : s < d) (ht : 0 ≤ t) (_ht1 : t < d) : bestE s t d = cornerE s t d := by
  unfold bestE cornerE
  simp only
  by_cases h1 : d - (s + 2 * t) < 0
  · rw [if_pos h1]
    by_cases h2 : d - (2 * s + t) < d - (s + 2 * t)
    · rw [if_pos h2]
      by_cases h3 : 3 * d - (2 * s + t) - (s + 2 * t) < d - (2 * s + t)
      · rw [if_pos h3]
        rw [if_neg (by omega), if_neg (by omega), if_neg (by omega)]
      · rw [if_neg h3]
        rw [if_neg (by omega), if_neg (by omega), if_pos (by omega)]
    · rw [if_neg h2]
      by_cases h3 : 3 * d - (2 * s + t) - (s + 2 * t) < d - (s + 2 * t)
      · rw [if_pos h3]
        rw [if_neg (by omega), if_neg (by omega), if_neg (by omega)]
      · rw [if_neg h3]
        rw [if_neg (by omega), if_pos (by omega)]
  · rw [if_neg h1]
    by_cases h2 : d - (2 * s + t) < 0
    · rw [if_pos h2]
      by_cases h3 : 3 * d - (2 * s + t) - (s + 2 * t) < d - (2 * s + t)
      · rw [if_pos h3]
        rw [if_neg (by omega), if_neg (by omega), if_neg (by omega)]
      · rw [if_neg h3]
        rw [if_neg (by omega), if_neg (by omega), if_pos (by omega)]
    · rw [if_neg h2]
      by_cases h3 : 3 * d - (2 * s + t) - (s + 2 * t) < 0
      · omega
      · rw [if_neg h3]
        rw [if_pos (by omega)]
/-- As the document finds it: the first of those that are as near as any. -/
def nearB (s t d : Int) : Bool := decide (-d ≤ 2 * s + t) && decide (2 * s + t ≤ d) && decide (-d ≤ s + 2 * t) && decide (s + 2 * t ≤ d) && decide (-d ≤ s - t) && decide (s - t ≤ d)
theorem near_first {s t d : Int} (hs : 0 ≤ s) (hs1 : s < d) (ht : 0 ≤ t) (ht1 : t < d) (i k : Int) (hi : -1 ≤ i) (hi2 : i ≤ 2) (hk : -1 ≤ k) (hk2 : k ≤ 2) :
    ((i < (cornerE s t d).1 ∨ (i = (cornerE s t d).1 ∧ k < (cornerE s t d).2)) → nearB (s - i * d) (t - k * d) d = false) ∧ ((i, k) = cornerE s t d → nearB (s - i * d) (t - k * d) d = true) := by
  rcases (show i = -1 ∨ i = 0 ∨ i = 1 ∨ i = 2 by omega) with rfl | rfl | rfl | rfl <;> rcases (show k = -1 ∨ k = 0 ∨ k = 1 ∨ k = 2 by omega) with rfl | rfl | rfl | rfl <;>
    · unfold cornerE nearB
      constructor
      · intro h
        simp only [Bool.and_eq_false_iff, decide_eq_false_iff_not]
        split at h
        · simp only at h; omega
        · split at h
          · simp only at h; omega
          · split at h
            · simp only at h; omega
            · simp only at h; omega
      · intro h
        simp only [Bool.and_eq_true, decide_eq_true_eq]
        split at h
        · simp only [Prod.mk.injEq] at h; omega
        · split at h
          · simp only [Prod.mk.injEq] at h; omega
          · split at h
            · simp only [Prod.mk.injEq] at h; omega
            · simp only [Prod.mk.injEq] at h; omega
/-- Which of its parent's a cell is, and the parent's number. -/
def digE (z : E2) : Nat :=
  if (z.1 + 5 * z.2) % 7 = 0 then 0 else if (z.1 + 5 * z.2) % 7 = 1 then 1 else if (z.1 + 5 * z.2) % 7 = 5 then 2 else if (z.1 + 5 * z.2) % 7 = 4 then 3 else if (z.1 + 5 * z.2) % 7 = 6 then 4 else if (z.1 + 5 * z.2) % 7 = 2 then 5 else 6
def upE (z : E2) : E2 := ((3 * (z.1 - (leftE (digE z)).1) + (z.2 - (leftE (digE z)).2)) / 7, (2 * (z.2 - (leftE (digE z)).2) - (z.1 - (leftE (digE z)).1)) / 7)
/-- The cell within one, by a number. -/
def downE (q : E2) (d : Nat) : E2 := addE (mulE q (2, 1)) (leftE d)
theorem downE_eq (q : E2) (d : Nat) : downE q d = (2 * q.1 - q.2 + (leftE d).1, q.1 + 3 * q.2 + (leftE d).2) := by
  unfold downE addE mulE
  ext <;> simp only <;> omega
theorem left_cases {d : Nat} (h : d < 7) : (d = 0 ∧ leftE d = (0, 0)) ∨ (d = 1 ∧ leftE d = (1, 0)) ∨ (d = 2 ∧ leftE d = (0, 1)) ∨ (d = 3 ∧ leftE d = (-1, 1)) ∨ (d = 4 ∧ leftE d = (-1, 0)) ∨ (d = 5 ∧ leftE d = (0, -1)) ∨ (d = 6 ∧ leftE d = (1, -1)) := by
  rcases (show d = 0 ∨ d = 1 ∨ d = 2 ∨ d = 3 ∨ d = 4 ∨ d = 5 ∨ d = 6 by omega) with rfl | rfl | rfl | rfl | rfl | rfl | rfl <;> simp [leftE, unitE]
theorem digE_lt (z : E2) : digE z < 7 := by
  unfold digE
  repeat (split; · omega)
  omega
theorem digE_down (q : E2) {d : Nat} (h : d < 7) : digE (downE q d) = d := by
  rw [downE_eq]
  unfold digE
  rcases left_cases h with ⟨rfl, e⟩ | ⟨rfl, e⟩ | ⟨rfl, e⟩ | ⟨rfl, e⟩ | ⟨rfl, e⟩ | ⟨rfl, e⟩ | ⟨rfl, e⟩ <;> rw [e] <;> simp only
  · rw [if_pos (by omega)]
  · rw [if_neg (by omega), if_pos (by omega)]
  · rw [if_neg (by omega), if_neg (by omega), if_pos (by omega)]
  · rw [if_neg (by omega), if_neg (by omega), if_neg (by omega), if_pos (by omega)]
  · rw [if_neg (by omega), if_neg (by omega), if_neg (by omega), if_neg (by omega), if_pos (by omega)]
  · rw [if_neg (by omega), if_neg (by omega), if_neg (by omega), if_neg (by omega), if_neg (by omega), if_pos (by omega)]
  · rw [if_neg (by omega), if_neg (by omega), if_neg (by omega), if_neg (by omega), if_neg (by omega), if_neg (by omega)]
theorem upE_down (q : E2) {d : Nat} (h : d < 7) : upE (downE q d) = q := by
  unfold upE
  rw [digE_down q h, downE_eq]
  generalize leftE d = l
  ext <;> simp only <;> omega
theorem down_up (z : E2) : downE (upE z) (digE z) = z := by
  rw [downE_eq]
  unfold upE
  have hl := left_cases (digE_lt z)
  have hd : digE z = if (z.1 + 5 * z.2) % 7 = 0 then 0 else if (z.1 + 5 * z.2) % 7 = 1 then 1 else if (z.1 + 5 * z.2) % 7 = 5 then 2 else if (z.1 + 5 * z.2) % 7 = 4 then 3 else if (z.1 + 5 * z.2) % 7 = 6 then 4 else if (z.1 + 5 * z.2) % 7 = 2 then 5 else 6 := rfl
  generalize digE z = d at *
  obtain ⟨a, b⟩ := z
  simp only at *
  rcases hl with ⟨rfl, e⟩ | ⟨rfl, e⟩ | ⟨rfl, e⟩ | ⟨rfl, e⟩ | ⟨rfl, e⟩ | ⟨rfl, e⟩ | ⟨rfl, e⟩ <;> rw [e] <;> ext <;> simp only <;> split at hd <;> (try omega) <;> split at hd <;> (try omega) <;> split at hd <;> (try omega) <;> split at hd <;> (try omega) <;> split at hd <;> (try omega) <;> split at hd <;> omega
/-- The parent is the nearest to a seventh of z times (3, -1). -/
theorem round_up (z : E2) : roundE (mulE z (3, -1)) 7 = upE z := by
  have h := down_up z
  have hl := left_cases (digE_lt z)
  generalize upE z = q at *
  generalize digE z = d at *
  rw [downE_eq] at h
  subst h
  unfold roundE mulE cornerE addE
  rcases hl with ⟨_, e⟩ | ⟨_, e⟩ | ⟨_, e⟩ | ⟨_, e⟩ | ⟨_, e⟩ | ⟨_, e⟩ | ⟨_, e⟩ <;> rw [e] <;> ext <;> simp only <;> (repeat' split) <;> simp only <;> omega
end Go.Proofs.Ytkjfdaleamonaaa.Wd
