/- The plain law on triangles: which points are on one side of all edges. -/
import Derived.Test.YtnnfkdajbaicoaaPolyP
namespace Go.Proofs.Ytnnfkdajbaicoaa

namespace Tri
def cx (a b c d : Int) : Int := a * d - c * b
theorem bary_v (u1 v1 u2 v2 u3 v3 : Int) : cx u2 v2 u3 v3 * v1 + cx u3 v3 u1 v1 * v2 + cx u1 v1 u2 v2 * v3 = 0 := by
  unfold cx; simp only [Int.sub_mul, Int.mul_sub, Int.mul_assoc, Int.mul_left_comm, Int.mul_comm]; omega
theorem bary_u (u1 v1 u2 v2 u3 v3 : Int) : cx u2 v2 u3 v3 * u1 + cx u3 v3 u1 v1 * u2 + cx u1 v1 u2 v2 * u3 = 0 := by
  unfold cx; simp only [Int.sub_mul, Int.mul_sub, Int.mul_assoc, Int.mul_left_comm, Int.mul_comm]; omega
theorem pp {a b : Int} (h1 : 0 < a) (h2 : 0 < b) : 0 < a * b := Int.mul_pos h1 h2
theorem pn {a b : Int} (h1 : 0 < a) (h2 : b < 0) : a * b < 0 := Int.mul_neg_of_pos_of_neg h1 h2
theorem np {a b : Int} (h1 : a < 0) (h2 : 0 < b) : a * b < 0 := Int.mul_neg_of_neg_of_pos h1 h2
theorem nn {a b : Int} (h1 : a < 0) (h2 : b < 0) : 0 < a * b := Int.mul_pos_of_neg_of_neg h1 h2
/-- The sign of a product. -/
theorem sg (a b : Int) : (0 < a ∧ 0 < b ∧ 0 < a * b) ∨ (0 < a ∧ b < 0 ∧ a * b < 0) ∨ (a < 0 ∧ 0 < b ∧ a * b < 0) ∨ (a < 0 ∧ b < 0 ∧ 0 < a * b) ∨ (a = 0 ∧ a * b = 0) ∨ (b = 0 ∧ a * b = 0) := by
  rcases Int.lt_trichotomy a 0 with h | h | h
  · rcases Int.lt_trichotomy b 0 with g | g | g
    · exact .inr (.inr (.inr (.inl ⟨h, g, nn h g⟩)))
    · subst g; simp
    · exact .inr (.inr (.inl ⟨h, g, np h g⟩))
  · subst h; simp
  · rcases Int.lt_trichotomy b 0 with g | g | g
    · exact .inr (.inl ⟨h, g, pn h g⟩)
    · subst g; simp
    · exact .inl ⟨h, g, pp h g⟩
def On (a b c d : Int) : Prop := (a ≤ 0 ∨ c ≤ 0) ∧ (0 ≤ a ∨ 0 ≤ c) ∧ (b ≤ 0 ∨ d ≤ 0) ∧ (0 ≤ b ∨ 0 ≤ d) ∧ cx a b c d = 0
def Cr (a b c d : Int) : Prop := (b ≤ 0 ∧ 0 < d ∧ 0 < cx a b c d) ∨ (d ≤ 0 ∧ 0 < b ∧ cx a b c d < 0)
/-- An edge through the row with the point on its line has the point on it. -/
theorem on_zero {a b c d : Int} (h : cx a b c d = 0) (hs : (b ≤ 0 ∧ 0 < d) ∨ (d ≤ 0 ∧ 0 < b)) : On a b c d := by
  have h' := h
  unfold cx at h'
  refine ⟨?_, ?_, by omega, by omega, h⟩
  · rcases sg a d with h1 | h1 | h1 | h1 | h1 | h1 <;> rcases sg c b with h2 | h2 | h2 | h2 | h2 | h2 <;> omega
  · rcases sg a d with h1 | h1 | h1 | h1 | h1 | h1 <;> rcases sg c b with h2 | h2 | h2 | h2 | h2 | h2 <;> omega
/-- Who lies on an edge is on one side of all. -/
theorem on_one {u1 v1 u2 v2 u3 v3 : Int} (h : On u1 v1 u2 v2) :
    ¬ (0 < cx u2 v2 u3 v3 ∧ cx u3 v3 u1 v1 < 0) ∧ ¬ (cx u2 v2 u3 v3 < 0 ∧ 0 < cx u3 v3 u1 v1) := by
  obtain ⟨h1, h2, h3, h4, h5⟩ := h
  have hv := bary_v u1 v1 u2 v2 u3 v3
  have hu := bary_u u1 v1 u2 v2 u3 v3
  rw [h5] at hv hu
  have hz : ∀ p q : Int, p = 0 → q = 0 → cx p q u3 v3 = 0 := fun p q e1 e2 => by unfold cx; rw [e1, e2]; simp
  have hz2 : u2 = 0 → v2 = 0 → cx u2 v2 u3 v3 = 0 := fun e1 e2 => hz _ _ e1 e2
  generalize cx u2 v2 u3 v3 = D2 at *
  generalize cx u3 v3 u1 v1 = D3 at *
  rw [Int.zero_mul] at hv hu
  constructor
  · rintro ⟨g1, g2⟩
    have e1 : u2 = 0 := by
      rcases sg D2 u1 with k | k | k | k | k | k <;> rcases sg D3 u2 with m | m | m | m | m | m <;> omega
    have e2 : v2 = 0 := by
      rcases sg D2 v1 with k | k | k | k | k | k <;> rcases sg D3 v2 with m | m | m | m | m | m <;> omega
    have := hz2 e1 e2
    omega
  · rintro ⟨g1, g2⟩
    have e1 : u2 = 0 := by
      rcases sg D2 u1 with k | k | k | k | k | k <;> rcases sg D3 u2 with m | m | m | m | m | m <;> omega
    have e2 : v2 = 0 := by
      rcases sg D2 v1 with k | k | k | k | k | k <;> rcases sg D3 v2 with m | m | m | m | m | m <;> omega
    have := hz2 e1 e2
    omega

def One (a b c : Int) : Prop := (0 ≤ a ∧ 0 ≤ b ∧ 0 ≤ c) ∨ (a ≤ 0 ∧ b ≤ 0 ∧ c ≤ 0)
instance (a b c : Int) : Decidable (One a b c) := by unfold One; infer_instance
def Odd (p q r : Prop) : Prop := (p ∧ q ∧ r) ∨ (p ∧ ¬ q ∧ ¬ r) ∨ (¬ p ∧ q ∧ ¬ r) ∨ (¬ p ∧ ¬ q ∧ r)
def Law (u1 v1 u2 v2 u3 v3 : Int) : Prop :=
  (cx u1 v1 u2 v2 + cx u2 v2 u3 v3 + cx u3 v3 u1 v1 ≠ 0 → ((On u1 v1 u2 v2 ∨ On u2 v2 u3 v3 ∨ On u3 v3 u1 v1 ∨ Odd (Cr u1 v1 u2 v2) (Cr u2 v2 u3 v3) (Cr u3 v3 u1 v1)) ↔ One (cx u1 v1 u2 v2) (cx u2 v2 u3 v3) (cx u3 v3 u1 v1))) ∧
  (cx u1 v1 u2 v2 + cx u2 v2 u3 v3 + cx u3 v3 u1 v1 = 0 → Odd (Cr u1 v1 u2 v2) (Cr u2 v2 u3 v3) (Cr u3 v3 u1 v1) → On u1 v1 u2 v2 ∨ On u2 v2 u3 v3 ∨ On u3 v3 u1 v1)
theorem Odd.rot {p q r : Prop} : Odd q r p ↔ Odd p q r := by
  unfold Odd
  by_cases h1 : p <;> by_cases h2 : q <;> by_cases h3 : r <;> simp [h1, h2, h3]
theorem One.rot {a b c : Int} : One b c a ↔ One a b c := by unfold One; omega
theorem Law.rot {u1 v1 u2 v2 u3 v3 : Int} (h : Law u2 v2 u3 v3 u1 v1) : Law u1 v1 u2 v2 u3 v3 := by
  obtain ⟨h1, h2⟩ := h
  refine ⟨fun g => ?_, fun g k => ?_⟩
  · have := h1 (by omega)
    rw [← One.rot, ← this, Odd.rot.symm]
    constructor
    · rintro (h | h | h | h)
      · exact .inr (.inr (.inl h))
      · exact .inl h
      · exact .inr (.inl h)
      · exact .inr (.inr (.inr h))
    · rintro (h | h | h | h)
      · exact .inr (.inl h)
      · exact .inr (.inr (.inl h))
      · exact .inl h
      · exact .inr (.inr (.inr h))
  · rcases h2 (by omega) (Odd.rot.2 k) with h | h | h
    · exact .inr (.inl h)
    · exact .inr (.inr h)
    · exact .inl h

theorem all_above {u1 v1 u2 v2 u3 v3 : Int} (h1 : 0 < v1) (h2 : 0 < v2) (h3 : 0 < v3) : Law u1 v1 u2 v2 u3 v3 := by
  have hv := bary_v u1 v1 u2 v2 u3 v3
  have n1 : ¬ On u1 v1 u2 v2 := fun h => by have := h.2.2.1; omega
  have n2 : ¬ On u2 v2 u3 v3 := fun h => by have := h.2.2.1; omega
  have n3 : ¬ On u3 v3 u1 v1 := fun h => by have := h.2.2.1; omega
  have c1 : ¬ Cr u1 v1 u2 v2 := fun h => by unfold Cr at h; omega
  have c2 : ¬ Cr u2 v2 u3 v3 := fun h => by unfold Cr at h; omega
  have c3 : ¬ Cr u3 v3 u1 v1 := fun h => by unfold Cr at h; omega
  have hodd : ¬ Odd (Cr u1 v1 u2 v2) (Cr u2 v2 u3 v3) (Cr u3 v3 u1 v1) := by unfold Odd; simp [c1, c2, c3]
  refine ⟨fun g => ⟨fun k => ?_, fun k => ?_⟩, fun g k => (hodd k).elim⟩
  · rcases k with k | k | k | k
    · exact (n1 k).elim
    · exact (n2 k).elim
    · exact (n3 k).elim
    · exact (hodd k).elim
  · exfalso
    unfold One at k
    clear n1 n2 n3 c1 c2 c3 hodd
    generalize cx u1 v1 u2 v2 = D1 at *
    generalize cx u2 v2 u3 v3 = D2 at *
    generalize cx u3 v3 u1 v1 = D3 at *
    rcases k with ⟨k1, k2, k3⟩ | ⟨k1, k2, k3⟩
    · have a : 0 ≤ D2 * v1 ∧ (D2 * v1 = 0 → D2 = 0) := by have := sg D2 v1; omega
      have b : 0 ≤ D3 * v2 ∧ (D3 * v2 = 0 → D3 = 0) := by have := sg D3 v2; omega
      have c : 0 ≤ D1 * v3 ∧ (D1 * v3 = 0 → D1 = 0) := by have := sg D1 v3; omega
      have := a.2 (by omega); have := b.2 (by omega); have := c.2 (by omega)
      omega
    · have a : D2 * v1 ≤ 0 ∧ (D2 * v1 = 0 → D2 = 0) := by have := sg D2 v1; omega
      have b : D3 * v2 ≤ 0 ∧ (D3 * v2 = 0 → D3 = 0) := by have := sg D3 v2; omega
      have c : D1 * v3 ≤ 0 ∧ (D1 * v3 = 0 → D1 = 0) := by have := sg D1 v3; omega
      have := a.2 (by omega); have := b.2 (by omega); have := c.2 (by omega)
      omega

/-- A corner on the row, the others not above it. -/
theorem corner {u1 v1 u2 v2 u3 : Int} (h1 : v1 ≤ 0) (h2 : v2 ≤ 0) (hD : (0 < cx u1 v1 u2 v2 ∧ 0 ≤ cx u2 v2 u3 0 ∧ 0 ≤ cx u3 0 u1 v1) ∨ (cx u1 v1 u2 v2 < 0 ∧ cx u2 v2 u3 0 ≤ 0 ∧ cx u3 0 u1 v1 ≤ 0)) :
    On u2 v2 u3 0 ∨ On u3 0 u1 v1 := by
  unfold On
  unfold cx at *
  simp only [Int.mul_zero, Int.zero_mul, Int.zero_sub, Int.sub_zero] at *
  rcases sg u3 v2 with a | a | a | a | a | a <;> rcases sg u3 v1 with b | b | b | b | b | b <;> first
    | omega
    | (rcases sg u1 v2 with c | c | c | c | c | c <;> rcases sg u2 v1 with d | d | d | d | d | d <;> omega)

theorem none_above {u1 v1 u2 v2 u3 v3 : Int} (h1 : v1 ≤ 0) (h2 : v2 ≤ 0) (h3 : v3 ≤ 0) : Law u1 v1 u2 v2 u3 v3 := by
  have hv := bary_v u1 v1 u2 v2 u3 v3
  have c1 : ¬ Cr u1 v1 u2 v2 := by unfold Cr; omega
  have c2 : ¬ Cr u2 v2 u3 v3 := by unfold Cr; omega
  have c3 : ¬ Cr u3 v3 u1 v1 := by unfold Cr; omega
  have hodd : ¬ Odd (Cr u1 v1 u2 v2) (Cr u2 v2 u3 v3) (Cr u3 v3 u1 v1) := by unfold Odd; simp [c1, c2, c3]
  refine ⟨fun g => ⟨fun k => ?_, fun k => ?_⟩, fun _ k => (hodd k).elim⟩
  · rcases k with k | k | k | k
    · have := on_one (u3 := u3) (v3 := v3) k; have := k.2.2.2.2; unfold One; omega
    · have := on_one (u3 := u1) (v3 := v1) k; have := k.2.2.2.2; unfold One; omega
    · have := on_one (u3 := u2) (v3 := v2) k; have := k.2.2.2.2; unfold One; omega
    · exact (hodd k).elim
  · have hz : (cx u1 v1 u2 v2 ≠ 0 → v3 = 0) ∧ (cx u2 v2 u3 v3 ≠ 0 → v1 = 0) ∧ (cx u3 v3 u1 v1 ≠ 0 → v2 = 0) := by
      unfold One at k
      generalize cx u1 v1 u2 v2 = D1 at *
      generalize cx u2 v2 u3 v3 = D2 at *
      generalize cx u3 v3 u1 v1 = D3 at *
      clear c1 c2 c3 hodd
      rcases k with k | k
      · have a : D2 * v1 ≤ 0 ∧ (D2 * v1 = 0 → D2 ≠ 0 → v1 = 0) := by have := sg D2 v1; omega
        have b : D3 * v2 ≤ 0 ∧ (D3 * v2 = 0 → D3 ≠ 0 → v2 = 0) := by have := sg D3 v2; omega
        have c : D1 * v3 ≤ 0 ∧ (D1 * v3 = 0 → D1 ≠ 0 → v3 = 0) := by have := sg D1 v3; omega
        omega
      · have a : 0 ≤ D2 * v1 ∧ (D2 * v1 = 0 → D2 ≠ 0 → v1 = 0) := by have := sg D2 v1; omega
        have b : 0 ≤ D3 * v2 ∧ (D3 * v2 = 0 → D3 ≠ 0 → v2 = 0) := by have := sg D3 v2; omega
        have c : 0 ≤ D1 * v3 ∧ (D1 * v3 = 0 → D1 ≠ 0 → v3 = 0) := by have := sg D1 v3; omega
        omega
    unfold One at k
    by_cases g1 : cx u1 v1 u2 v2 = 0
    · by_cases g2 : cx u2 v2 u3 v3 = 0
      · have g3 : cx u3 v3 u1 v1 ≠ 0 := by omega
        obtain rfl := hz.2.2 g3
        rcases corner (u1 := u3) (v1 := v3) (u2 := u1) (v2 := v1) (u3 := u2) h3 h1 (by omega) with h | h
        · exact .inl h
        · exact .inr (.inl h)
      · obtain rfl := hz.2.1 g2
        rcases corner (u1 := u2) (v1 := v2) (u2 := u3) (v2 := v3) (u3 := u1) h2 h3 (by omega) with h | h
        · exact .inr (.inr (.inl h))
        · exact .inl h
    · obtain rfl := hz.1 g1
      rcases corner (u1 := u1) (v1 := v1) (u2 := u2) (v2 := v2) (u3 := u3) h1 h2 (by omega) with h | h
      · exact .inr (.inl h)
      · exact .inr (.inr (.inl h))

/-- One corner alone above the row. -/
theorem one_above {u1 v1 u2 v2 u3 v3 : Int} (h1 : 0 < v1) (h2 : v2 ≤ 0) (h3 : v3 ≤ 0) : Law u1 v1 u2 v2 u3 v3 := by
  have hv := bary_v u1 v1 u2 v2 u3 v3
  have E1 : cx u1 v1 u2 v2 = 0 → On u1 v1 u2 v2 := fun h => on_zero h (by omega)
  have E3 : cx u3 v3 u1 v1 = 0 → On u3 v3 u1 v1 := fun h => on_zero h (by omega)
  have F : (0 ≤ cx u1 v1 u2 v2 → 0 ≤ cx u3 v3 u1 v1 → 0 ≤ cx u2 v2 u3 v3) ∧ (cx u1 v1 u2 v2 ≤ 0 → cx u3 v3 u1 v1 ≤ 0 → cx u2 v2 u3 v3 ≤ 0) := by
    generalize cx u1 v1 u2 v2 = D1 at *
    generalize cx u2 v2 u3 v3 = D2 at *
    generalize cx u3 v3 u1 v1 = D3 at *
    clear E1 E3
    refine ⟨fun g k => ?_, fun g k => ?_⟩
    · have b : D3 * v2 ≤ 0 := by have := sg D3 v2; omega
      have c : D1 * v3 ≤ 0 := by have := sg D1 v3; omega
      have a := sg D2 v1
      omega
    · have b : 0 ≤ D3 * v2 := by have := sg D3 v2; omega
      have c : 0 ≤ D1 * v3 := by have := sg D1 v3; omega
      have a := sg D2 v1
      omega
  have G : cx u1 v1 u2 v2 ≠ 0 → cx u3 v3 u1 v1 ≠ 0 → On u2 v2 u3 v3 → ¬ ((0 < cx u1 v1 u2 v2 ∧ cx u3 v3 u1 v1 < 0) ∨ (cx u1 v1 u2 v2 < 0 ∧ 0 < cx u3 v3 u1 v1)) := by
    intro g1 g3 ho hm
    have ho1 := on_one (u3 := u1) (v3 := v1) ho
    omega
  have c1 : Cr u1 v1 u2 v2 ↔ cx u1 v1 u2 v2 < 0 := by unfold Cr; omega
  have c2 : ¬ Cr u2 v2 u3 v3 := by unfold Cr; omega
  have c3 : Cr u3 v3 u1 v1 ↔ 0 < cx u3 v3 u1 v1 := by unfold Cr; omega
  have h5 : On u2 v2 u3 v3 → cx u2 v2 u3 v3 = 0 := fun h => h.2.2.2.2
  have h6 : On u1 v1 u2 v2 → cx u1 v1 u2 v2 = 0 := fun h => h.2.2.2.2
  have h7 : On u3 v3 u1 v1 → cx u3 v3 u1 v1 = 0 := fun h => h.2.2.2.2
  unfold Law Odd One
  rw [c1, c3]
  generalize cx u1 v1 u2 v2 = D1 at *
  generalize cx u2 v2 u3 v3 = D2 at *
  generalize cx u3 v3 u1 v1 = D3 at *
  generalize On u1 v1 u2 v2 = O1 at *
  generalize On u2 v2 u3 v3 = O2 at *
  generalize On u3 v3 u1 v1 = O3 at *
  generalize Cr u2 v2 u3 v3 = C2 at *
  clear hv c1 c3
  by_cases k1 : O1 <;> by_cases k2 : O2 <;> by_cases k3 : O3 <;> simp only [k1, k2, k3, c2, true_or, or_true, false_or, or_false, true_iff, false_and, and_false, not_false_eq_true, true_and, and_true, forall_const, imp_false, implies_true, false_implies, imp_true_iff] at * <;> omega

/-- One corner alone not above the row. -/
theorem one_below {u1 v1 u2 v2 u3 v3 : Int} (h1 : v1 ≤ 0) (h2 : 0 < v2) (h3 : 0 < v3) : Law u1 v1 u2 v2 u3 v3 := by
  have hv := bary_v u1 v1 u2 v2 u3 v3
  have E1 : cx u1 v1 u2 v2 = 0 → On u1 v1 u2 v2 := fun h => on_zero h (by omega)
  have E3 : cx u3 v3 u1 v1 = 0 → On u3 v3 u1 v1 := fun h => on_zero h (by omega)
  have F : (0 ≤ cx u1 v1 u2 v2 → 0 ≤ cx u3 v3 u1 v1 → 0 < cx u1 v1 u2 v2 ∨ 0 < cx u3 v3 u1 v1 → 0 < cx u2 v2 u3 v3) ∧
      (cx u1 v1 u2 v2 ≤ 0 → cx u3 v3 u1 v1 ≤ 0 → cx u1 v1 u2 v2 < 0 ∨ cx u3 v3 u1 v1 < 0 → cx u2 v2 u3 v3 < 0) := by
    generalize cx u1 v1 u2 v2 = D1 at *
    generalize cx u2 v2 u3 v3 = D2 at *
    generalize cx u3 v3 u1 v1 = D3 at *
    clear E1 E3
    refine ⟨fun g k j => ?_, fun g k j => ?_⟩
    · have b : 0 ≤ D3 * v2 ∧ (D3 * v2 = 0 → D3 = 0) := by have := sg D3 v2; omega
      have c : 0 ≤ D1 * v3 ∧ (D1 * v3 = 0 → D1 = 0) := by have := sg D1 v3; omega
      have a := sg D2 v1
      omega
    · have b : D3 * v2 ≤ 0 ∧ (D3 * v2 = 0 → D3 = 0) := by have := sg D3 v2; omega
      have c : D1 * v3 ≤ 0 ∧ (D1 * v3 = 0 → D1 = 0) := by have := sg D1 v3; omega
      have a := sg D2 v1
      omega
  have c1 : Cr u1 v1 u2 v2 ↔ 0 < cx u1 v1 u2 v2 := by unfold Cr; omega
  have c2 : ¬ Cr u2 v2 u3 v3 := by unfold Cr; omega
  have c3 : Cr u3 v3 u1 v1 ↔ cx u3 v3 u1 v1 < 0 := by unfold Cr; omega
  have k2 : ¬ On u2 v2 u3 v3 := by unfold On; omega
  have h6 : On u1 v1 u2 v2 → cx u1 v1 u2 v2 = 0 := fun h => h.2.2.2.2
  have h7 : On u3 v3 u1 v1 → cx u3 v3 u1 v1 = 0 := fun h => h.2.2.2.2
  unfold Law Odd One
  rw [c1, c3]
  generalize cx u1 v1 u2 v2 = D1 at *
  generalize cx u2 v2 u3 v3 = D2 at *
  generalize cx u3 v3 u1 v1 = D3 at *
  generalize On u1 v1 u2 v2 = O1 at *
  generalize On u2 v2 u3 v3 = O2 at *
  generalize On u3 v3 u1 v1 = O3 at *
  generalize Cr u2 v2 u3 v3 = C2 at *
  clear hv c1 c3
  by_cases k1 : O1 <;> by_cases k3 : O3 <;> simp only [k1, k2, k3, c2, true_or, or_true, false_or, or_false, true_iff, false_and, and_false, not_false_eq_true, true_and, and_true, forall_const, imp_false, implies_true, false_implies, imp_true_iff] at * <;> omega

theorem law (u1 v1 u2 v2 u3 v3 : Int) : Law u1 v1 u2 v2 u3 v3 := by
  by_cases h1 : 0 < v1 <;> by_cases h2 : 0 < v2 <;> by_cases h3 : 0 < v3
  · exact all_above h1 h2 h3
  · exact Law.rot (Law.rot (one_below (by omega) h1 h2))
  · exact Law.rot (one_below (by omega) h3 h1)
  · exact one_above h1 (by omega) (by omega)
  · exact one_below (by omega) h2 h3
  · exact Law.rot (one_above h2 (by omega) (by omega))
  · exact Law.rot (Law.rot (one_above h3 (by omega) (by omega)))
  · exact none_above (by omega) (by omega) (by omega)
end Tri
open Go.RowKit
theorem On_iff {a b c d x y : Int} (h1 : 0 ≤ a ∧ a ≤ 63) (h2 : 0 ≤ b ∧ b ≤ 63) (h3 : 0 ≤ c ∧ c ≤ 63) (h4 : 0 ≤ d ∧ d ≤ 63) (hx : -30 ≤ x ∧ x ≤ 97) (hy : -30 ≤ y ∧ y ≤ 97) :
    (onE a b c d x y = true ↔ Tri.On (a - x) (b - y) (c - x) (d - y)) ∧ (crE a b c d x y = true ↔ Tri.Cr (a - x) (b - y) (c - x) (d - y)) := by
  have e : Tri.cx (a - x) (b - y) (c - x) (d - y) = det a b c d x y := by
    unfold Tri.cx det; simp only [Int.sub_mul, Int.mul_sub, Int.mul_comm]; omega
  unfold onE btw crE Tri.On Tri.Cr
  rw [e, side_plain (by omega) (by omega) (by omega) (by omega) (by omega) (by omega)]
  generalize det a b c d x y = D
  constructor
  · simp only [Bool.and_eq_true, decide_eq_true_eq, beq_iff_eq]
    split
    · omega
    · split <;> omega
  · split
    · simp only [decide_eq_true_eq]; split <;> try split
      all_goals omega
    · split
      · simp only [decide_eq_true_eq]; split <;> try split
        all_goals omega
      · simp; omega

/-- The three corners as a ring. -/
def tri (A B C D E F : Int) : List Pt := [(A, B), (C, D), (E, F)]
def crs (a b c d x y : Int) : Int := (c - a) * (y - b) - (d - b) * (x - a)
theorem crs_bound {a b c d x y : Int} (h1 : 0 ≤ a ∧ a ≤ 63) (h2 : 0 ≤ b ∧ b ≤ 63) (h3 : 0 ≤ c ∧ c ≤ 63) (h4 : 0 ≤ d ∧ d ≤ 63) (hx : -30 ≤ x ∧ x ≤ 97) (hy : -30 ≤ y ∧ y ≤ 97) :
    -6300 ≤ (c - a) * (y - b) ∧ (c - a) * (y - b) ≤ 6300 ∧ -6300 ≤ (d - b) * (x - a) ∧ (d - b) * (x - a) ≤ 6300 := by
  have e1 := mul_abs_le (u := c - a) (v := y - b) (U := 63) (V := 100) (by omega) (by omega) (by omega) (by omega)
  have e2 := mul_abs_le (u := d - b) (v := x - a) (U := 63) (V := 100) (by omega) (by omega) (by omega) (by omega)
  omega
theorem tri_check {A B C D E F : Int} (hA : 0 ≤ A ∧ A ≤ 63) (hB : 0 ≤ B ∧ B ≤ 63) (hC : 0 ≤ C ∧ C ≤ 63) (hD : 0 ≤ D ∧ D ≤ 63) (hE : 0 ≤ E ∧ E ≤ 63) (hF : 0 ≤ F ∧ F ≤ 63) : checkF [tri A B C D E F] = 0 :=
  check_ok (c := 3) (by simp) (by simp) (by simp) (by
    intro l hl
    simp only [List.mem_singleton] at hl
    subst hl
    refine ⟨by simp [tri], by simp [tri], fun p hp => ?_⟩
    simp only [tri, List.mem_cons, List.not_mem_nil, or_false] at hp
    rcases hp with rfl | rfl | rfl <;> refine ⟨?_, ?_, ?_, ?_⟩ <;> dsimp only <;> omega)
theorem tri_area {A B C D E F : Int} (hA : 0 ≤ A ∧ A ≤ 63) (hB : 0 ≤ B ∧ B ≤ 63) (hC : 0 ≤ C ∧ C ≤ 63) (hD : 0 ≤ D ∧ D ≤ 63) (hE : 0 ≤ E ∧ E ≤ 63) (hF : 0 ≤ F ∧ F ≤ 63) (x y : Int) :
    area2F (tri A B C D E F) = crs A B C D x y + crs C D E F x y + crs E F A B x y := by
  unfold area2F
  rw [if_pos (tri_check hA hB hC hD hE hF)]
  show stepA _ (stepA _ (stepA _ 0 0) 1) 2 = _
  unfold stepA
  simp only [show (tri A B C D E F).length = 3 from rfl]
  show wrap64 (wrap64 (wrap64 (0 + wrap64 (wrap64 (A * D) - wrap64 (C * B))) + wrap64 (wrap64 (C * F) - wrap64 (E * D))) + wrap64 (wrap64 (E * B) - wrap64 (A * F))) = _
  have m1 := mul_abs_le (u := A) (v := D) (U := 63) (V := 63) (by omega) (by omega) (by omega) (by omega)
  have m2 := mul_abs_le (u := C) (v := B) (U := 63) (V := 63) (by omega) (by omega) (by omega) (by omega)
  have m3 := mul_abs_le (u := C) (v := F) (U := 63) (V := 63) (by omega) (by omega) (by omega) (by omega)
  have m4 := mul_abs_le (u := E) (v := D) (U := 63) (V := 63) (by omega) (by omega) (by omega) (by omega)
  have m5 := mul_abs_le (u := E) (v := B) (U := 63) (V := 63) (by omega) (by omega) (by omega) (by omega)
  have m6 := mul_abs_le (u := A) (v := F) (U := 63) (V := 63) (by omega) (by omega) (by omega) (by omega)
  have e : crs A B C D x y + crs C D E F x y + crs E F A B x y = A * D - C * B + (C * F - E * D) + (E * B - A * F) := by
    unfold crs; simp only [Int.sub_mul, Int.mul_sub, Int.mul_comm]; omega
  rw [e]
  generalize A * D = n1 at *
  generalize C * B = n2 at *
  generalize C * F = n3 at *
  generalize E * D = n4 at *
  generalize E * B = n5 at *
  generalize A * F = n6 at *
  rw [IntWalk.wrap64_in n1 (by omega), IntWalk.wrap64_in n2 (by omega), IntWalk.wrap64_in n3 (by omega), IntWalk.wrap64_in n4 (by omega), IntWalk.wrap64_in n5 (by omega), IntWalk.wrap64_in n6 (by omega),
    IntWalk.wrap64_in (n1 - n2) (by omega), IntWalk.wrap64_in (n3 - n4) (by omega), IntWalk.wrap64_in (n5 - n6) (by omega), Int.zero_add, IntWalk.wrap64_in (n1 - n2) (by omega), IntWalk.wrap64_in (n1 - n2 + (n3 - n4)) (by omega), IntWalk.wrap64_in (n1 - n2 + (n3 - n4) + (n5 - n6)) (by omega)]
/-- What the law asks. -/
theorem tri_law {A B C D E F x y : Int} (hA : 0 ≤ A ∧ A ≤ 63) (hB : 0 ≤ B ∧ B ≤ 63) (hC : 0 ≤ C ∧ C ≤ 63) (hD : 0 ≤ D ∧ D ≤ 63) (hE : 0 ≤ E ∧ E ≤ 63) (hF : 0 ≤ F ∧ F ≤ 63)
    (hx : -30 ≤ x ∧ x ≤ 97) (hy : -30 ≤ y ∧ y ≤ 97) :
    (area2F (tri A B C D E F) = 0 → insideF [tri A B C D E F] x y = onF [tri A B C D E F] x y) ∧
    (area2F (tri A B C D E F) ≠ 0 → insideF [tri A B C D E F] x y = decide (Tri.One (crs A B C D x y) (crs C D E F x y) (crs E F A B x y))) := by
  rw [tri_area hA hB hC hD hE hF x y]
  obtain ⟨o1, k1⟩ := On_iff hA hB hC hD hx hy
  obtain ⟨o2, k2⟩ := On_iff hC hD hE hF hx hy
  obtain ⟨o3, k3⟩ := On_iff hE hF hA hB hx hy
  have hL := Tri.law (A - x) (B - y) (C - x) (D - y) (E - x) (F - y)
  unfold Tri.Law at hL
  rw [← o1, ← o2, ← o3, ← k1, ← k2, ← k3] at hL
  have e : ∀ a b c d : Int, Tri.cx (a - x) (b - y) (c - x) (d - y) = crs a b c d x y := fun a b c d => by
    unfold Tri.cx crs; simp only [Int.sub_mul, Int.mul_sub, Int.mul_comm]; omega
  rw [e, e, e] at hL
  have hn := near_ok (tri_check hA hB hC hD hE hF) (x := x) (y := y) (by omega) (by omega)
  have hon : onTo [tri A B C D E F] x y 1 = (onE A B C D x y || onE C D E F x y || onE E F A B x y) := by
    rw [show (1 : Nat) = [tri A B C D E F].length from rfl, one_on]
    show ((((List.range 3).any (onEl (tri A B C D E F) x y)))) = _
    rw [show List.range 3 = [0, 1, 2] from rfl]
    simp only [List.any_cons, List.any_nil, Bool.or_false, onEl, show (tri A B C D E F).length = 3 from rfl]
    show (onE A B C D x y || (onE C D E F x y || onE E F A B x y)) = _
    rw [Bool.or_assoc]
  have hcr : crTo [tri A B C D E F] x y 1 = (crE A B C D x y != (crE C D E F x y != crE E F A B x y)) := by
    rw [show (1 : Nat) = [tri A B C D E F].length from rfl, one_cr]
    unfold crR
    rw [show (tri A B C D E F).length = 3 from rfl, show List.range 3 = [0, 1, 2] from rfl]
    simp only [List.foldl_cons, List.foldl_nil, crEl, show (tri A B C D E F).length = 3 from rfl]
    show (((false != crE A B C D x y) != crE C D E F x y) != crE E F A B x y) = _
    cases crE A B C D x y <;> cases crE C D E F x y <;> cases crE E F A B x y <;> rfl
  unfold insideF onF
  rw [hn, show [tri A B C D E F].length = 1 from rfl, hon, hcr]
  obtain ⟨h1, h2⟩ := hL
  clear hon hcr hn e o1 o2 o3 k1 k2 k3
  generalize crs A B C D x y = d1 at *
  generalize crs C D E F x y = d2 at *
  generalize crs E F A B x y = d3 at *
  generalize onE A B C D x y = p1 at *
  generalize onE C D E F x y = p2 at *
  generalize onE E F A B x y = p3 at *
  generalize crE A B C D x y = r1 at *
  generalize crE C D E F x y = r2 at *
  generalize crE E F A B x y = r3 at *
  refine ⟨fun g => ?_, fun g => ?_⟩
  · have := h2 g
    clear h1 h2
    revert this
    cases p1 <;> cases p2 <;> cases p3 <;> cases r1 <;> cases r2 <;> cases r3 <;> simp [Tri.Odd]
  · have := h1 g
    clear h1 h2
    by_cases ho : Tri.One d1 d2 d3
    · simp only [ho, iff_true] at this
      rw [decide_eq_true ho]
      revert this
      cases p1 <;> cases p2 <;> cases p3 <;> cases r1 <;> cases r2 <;> cases r3 <;> simp [Tri.Odd]
    · simp only [ho, iff_false] at this
      rw [decide_eq_false ho]
      revert this
      cases p1 <;> cases p2 <;> cases p3 <;> cases r1 <;> cases r2 <;> cases r3 <;> simp [Tri.Odd]
end Go.Proofs.Ytnnfkdajbaicoaa
