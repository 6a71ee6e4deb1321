/- Words of cells that may be; children of cells that may be (for seats without package near). Plain, but for the names. -/
import Derived.Test.YtkjfdaleamonaaaNfD
import Derived.Test.YtkjfdaleamonaaaNfL
import Derived.Test.YtkjfdaleamonaaaWdN
namespace Go.Proofs.Ytkjfdaleamonaaa
open Go.RowKit Go.Lib Wd

theorem ofW_ok {r : Nat} {z : E2} (h : okB r z = true) : ofW r z = wordN r z ∧ ofE r z = 0 ∧ ofW r z < 18446744073709551616 := by
  unfold ofW ofE
  rw [if_pos h, if_pos h]
  have := wordN_lt h
  exact ⟨rfl, rfl, by show wordN r z < _; omega⟩
theorem ofW_inj {r : Nat} {y z : E2} (hy : okB r y = true) (hz : okB r z = true) : ofW r y = ofW r z ↔ y = z := by
  constructor
  · intro h
    rw [(ofW_ok hy).1, (ofW_ok hz).1] at h
    exact (word_inj hy hz h).2
  · rintro rfl; rfl
theorem kid_ok {r : Nat} {z : E2} (h : okB r z = true) (hr : r + 1 ≤ 12) {d : Nat} (hd : d < 7) : okB (r + 1 : Nat) (downE z d) = true := by
  refine ok_of_base hr ?_
  have e : upN (r + 1) (downE z d) = upN r z := by
    show upN r (upE (downE z d)) = _
    rw [upE_down z hd]
  rw [e]
  exact (okB_parts h).2
theorem cv_ok {r : Nat} {z : E2} (h : okB r z = true) : cvR (ofW r z) = r ∧ cvZ (ofW r z) = z ∧ cvE (ofW r z) = 0 := by
  obtain ⟨a1, a2, a3⟩ := word_cell h
  rw [(ofW_ok h).1]
  unfold cvR cvZ cvE
  rw [if_pos a1, if_pos a1, if_pos a1, a2, a3]
  exact ⟨rfl, rfl, rfl⟩
theorem kd_ok {r : Nat} {z : E2} (h : okB r z = true) (hr : r + 1 ≤ 12) : kdE r z = 0 ∧ kdL r z = kidsL r z := by
  have hE : kdE r z = 0 := by unfold kdE; rw [if_pos h, if_neg (by omega)]
  exact ⟨hE, by unfold kdL; rw [if_pos hE]⟩
/-- A list of words, one more. -/
theorem take_w (V : List Int) {k : Nat} (h : k < V.length) : V.take (k + 1) = V.take k ++ [V.getD k 0] := by
  rw [List.take_add_one, List.getElem?_eq_getElem h, List.getD_eq_getElem?_getD, List.getElem?_eq_getElem h]
  rfl
theorem rem12 (r : Int) : (-12 < r.tmod 12 ∧ r.tmod 12 < 12) ∧ (r.tmod 12 + 12).tmod 12 = r % 12 := by
  have h : (-12 < r.tmod 12 ∧ r.tmod 12 < 12) ∧ (r.tmod 12 + 12) % 12 = r % 12 := by
    rcases Int.lt_or_le r 0 with h | h
    · have e : r.tmod 12 = -((-r) % 12) := by rw [← Int.tmod_eq_emod_of_nonneg (show 0 ≤ -r by omega), Int.neg_tmod, Int.neg_neg]
      omega
    · rw [Int.tmod_eq_emod_of_nonneg h]; omega
  refine ⟨h.1, ?_⟩
  rw [Int.tmod_eq_emod_of_nonneg (by omega)]
  exact h.2
theorem andNot_even (y : Int) : bits .andNot .i64 y 1 % 2 = 0 := by
  show IntKind.i64.wrap ((BitVec.ofInt 64 y &&& ~~~BitVec.ofInt 64 1).toNat : Int) % 2 = 0
  have h : (BitVec.ofInt 64 y &&& ~~~BitVec.ofInt 64 1).toNat % 2 = 0 := by
    rw [BitVec.toNat_and]
    have := Nat.and_mod_two_pow (a := (BitVec.ofInt 64 y).toNat) (b := (~~~BitVec.ofInt 64 1).toNat) (n := 1)
    rw [Nat.pow_one] at this
    rw [this, show (~~~BitVec.ofInt 64 1 : BitVec 64).toNat % 2 = 0 by decide, Nat.and_zero]
  rw [IntKind.wrap_i64]
  omega
end Go.Proofs.Ytkjfdaleamonaaa
