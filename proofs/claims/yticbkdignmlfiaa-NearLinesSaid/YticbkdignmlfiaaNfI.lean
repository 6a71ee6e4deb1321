/- Rings and disks: which numbers they hold. Plain. -/
import Derived.Test.YticbkdignmlfiaaNrC
import Derived.Test.YticbkdignmlfiaaWdN
namespace Go.Proofs.Yticbkdignmlfiaa
open Go.RowKit Go.Lib Wd

theorem lineP_mem (c u y : E2) (k : Nat) : y ∈ lineP c u k ↔ ∃ j : Nat, j < k ∧ y = (c.1 + j * u.1, c.2 + j * u.2) := by
  unfold lineP
  rw [List.mem_map]
  constructor
  · rintro ⟨j, hj, rfl⟩; exact ⟨j, List.mem_range.1 hj, rfl⟩
  · rintro ⟨j, hj, rfl⟩; exact ⟨j, List.mem_range.2 hj, rfl⟩
theorem corn_at (z : E2) (k : Nat) : corn z k 0 = (z.1, z.2 - k) ∧ corn z k 1 = (z.1 + k, z.2 - k) ∧ corn z k 2 = (z.1 + k, z.2) ∧ corn z k 3 = (z.1, z.2 + k) ∧ corn z k 4 = (z.1 - k, z.2 + k) ∧ corn z k 5 = (z.1 - k, z.2) := by
  simp only [corn, ptP, unitE, Prod.mk.injEq]
  omega
/-- A ring's numbers are those so far away. -/
theorem ring_mem (z y : E2) (k : Nat) : y ∈ ringL z k ↔ Hex k (subE y z) ∧ ¬ Hex ((k : Int) - 1) (subE y z) := by
  obtain ⟨c0, c1, c2, c3, c4, c5⟩ := corn_at z k
  obtain ⟨a, b⟩ := y
  obtain ⟨p, q⟩ := z
  unfold ringL
  split
  · subst k
    unfold Hex subE
    simp only [List.mem_singleton, Prod.mk.injEq]
    omega
  · simp only [sidesP, List.nil_append, List.mem_append, lineP_mem, c0, c1, c2, c3, c4, c5, unitE, Prod.mk.injEq]
    unfold Hex subE
    simp only
    constructor
    · rintro (((((⟨j, h1, h2, h3⟩ | ⟨j, h1, h2, h3⟩) | ⟨j, h1, h2, h3⟩) | ⟨j, h1, h2, h3⟩) | ⟨j, h1, h2, h3⟩) | ⟨j, h1, h2, h3⟩) <;> omega
    · intro ⟨h1, h2⟩
      rcases (show (b - q = -k ∧ 0 ≤ a - p ∧ a - p < k) ∨ (a - p = k ∧ -k ≤ b - q ∧ b - q < 0) ∨ (a - p + (b - q) = k ∧ 0 ≤ b - q ∧ b - q < k) ∨ (b - q = k ∧ -k < a - p ∧ a - p ≤ 0) ∨ (a - p = -k ∧ 0 < b - q ∧ b - q ≤ k) ∨ (a - p + (b - q) = -k ∧ -k < b - q ∧ b - q ≤ 0) by omega) with h | h | h | h | h | h
      · exact .inl (.inl (.inl (.inl (.inl ⟨(a - p).toNat, by omega, by omega, by omega⟩))))
      · exact .inl (.inl (.inl (.inl (.inr ⟨(b - q + k).toNat, by omega, by omega, by omega⟩))))
      · exact .inl (.inl (.inl (.inr ⟨(b - q).toNat, by omega, by omega, by omega⟩)))
      · exact .inl (.inl (.inr ⟨(p - a).toNat, by omega, by omega, by omega⟩))
      · exact .inl (.inr ⟨(k - (b - q)).toNat, by omega, by omega, by omega⟩)
      · exact .inr ⟨(q - b).toNat, by omega, by omega, by omega⟩
theorem disk_mem (z y : E2) (n : Nat) : y ∈ allR z 0 n ↔ Hex ((n : Int) - 1) (subE y z) := by
  induction n with
  | zero =>
    unfold allR Hex
    simp only [List.not_mem_nil, false_iff]
    omega
  | succ n ih =>
    show y ∈ allR z 0 n ++ ringL z (0 + n) ↔ _
    rw [List.mem_append, ih, Nat.zero_add, ring_mem]
    unfold Hex
    simp only [Int.natCast_add, Int.natCast_one]
    omega
theorem srt_rising (l : List Int) : Rising (srt l) := by
  intro i j hij hj
  have hi : i < (srt l).length := by omega
  have e1 : (srt l).getD i 0 = (srt l)[i] := by rw [List.getD_eq_getElem?_getD, List.getElem?_eq_getElem hi]; rfl
  have e2 : (srt l).getD j 0 = (srt l)[j] := by rw [List.getD_eq_getElem?_getD, List.getElem?_eq_getElem hj]; rfl
  rw [e1, e2]
  rcases Nat.lt_or_eq_of_le hij with h | h
  · exact List.pairwise_iff_getElem.1 (srt_sorted l) i j hi hj h
  · subst h; exact Int.le_refl _
theorem disk_len (z : E2) (n : Nat) : (allR z 0 (n + 1)).length = 3 * n * (n + 1) + 1 := by
  induction n with
  | zero => rfl
  | succ n ih =>
    rw [allR_length, ih]
    have : (ringL z (0 + (n + 1))).length = 6 * (n + 1) := by
      unfold ringL
      rw [if_neg (by omega), sidesP_length, Nat.zero_add]
    rw [this]
    simp only [Nat.mul_add, Nat.add_mul]
    omega
/-- Where all may be, all are told. -/
theorem tell_all {r : Int} {L : List E2} (h : ∀ y ∈ L, okB r y = true) : (tellL r L).length = L.length := by
  unfold tellL
  rw [List.length_map, List.filter_eq_self.2 h]
theorem tell_sub {r : Int} {L M : List E2} (h : ∀ y ∈ L, y ∈ M) : ∀ v ∈ srt (tellL r L), v ∈ srt (tellL r M) := by
  intro v hv
  rw [srt_mem] at hv ⊢
  unfold tellL at hv ⊢
  obtain ⟨y, hy, rfl⟩ := List.mem_map.1 hv
  obtain ⟨h1, h2⟩ := List.mem_filter.1 hy
  exact List.mem_map.2 ⟨y, List.mem_filter.2 ⟨h y h1, h2⟩, rfl⟩
end Go.Proofs.Yticbkdignmlfiaa
