/- Contracts at []uint64 that only read: Index, Contains, BinarySearch, (set).in, (set).out, cells.Has; the reference's Has and Same. -/
import Derived.Test.YtkjfdaleamonaaaSlA
namespace Go.Proofs.Ytkjfdaleamonaaa
open Go.RowKit Go.Lib Go.Sort

def hasF (l : List Int) (x : Int) : Bool := l.contains x
theorem hasF_yes {l : List Int} {x : Int} {j : Nat} (hj : j < l.length) (h : l.getD j 0 = x) : hasF l x = true := by
  unfold hasF
  rw [List.contains_iff_mem]
  rw [← h, List.getD_eq_getElem?_getD, List.getElem?_eq_getElem hj, Option.getD_some]
  exact List.getElem_mem _
theorem hasF_no {l : List Int} {x : Int} (h : ∀ j, j < l.length → l.getD j 0 ≠ x) : hasF l x = false := by
  unfold hasF
  rw [Bool.eq_false_iff, ne_eq, List.contains_iff_mem]
  intro hm
  obtain ⟨j, hj, e⟩ := List.getElem_of_mem hm
  exact h j hj (by rw [List.getD_eq_getElem?_getD, List.getElem?_eq_getElem hj, Option.getD_some, e])

set_option maxRecDepth 100000 in
set_option maxHeartbeats 1000000 in
theorem uindex_any (ao : Option Addr) (c : Nat) (l : List Int) (x : Int) (w : World) (B : Nat) (h : WordsAt w B ao l) (hn : l.length ≤ 1000000000) :
    Calls Try.prog 71 #[.slice ao l.length c, .int .u64 x] w fun e w' => ∃ r : Int, e = .returned (.int .i64 r) ∧ decide (0 ≤ r) = hasF l x ∧ w = w' := by
  obtain ⟨n, hnn⟩ : ∃ n, l.length = n := ⟨_, rfl⟩
  have HN := Lib.hid hnn
  have HW := Lib.hid h
  rw [hnn] at hn ⊢
  clear hnn h
  go_enter Try.func71, Try.ntmps71
  go_wp2
  go_loop [8] (fun i => ∃ k : Nat, k ≤ n ∧ i = .int .i64 k ∧ Hid (∀ j, j < k → l.getD j 0 ≠ x)) (fun i => n - (intOf i).toNat)
  case atStart => exact ⟨0, Nat.zero_le _, rfl, fun j hj => by omega⟩
  case round =>
    obtain ⟨k, hk, rfl, HA⟩ := hrel
    by_cases hlt : k < n
    · obtain ⟨b, off, rfl, hb, hc⟩ := HW.out (by rw [HN.out]; omega)
      have c0 := hc k (by rw [HN.out]; exact hlt)
      clear hc
      have HY : Hid (l.getD k 0 = x → hasF l x = true) := fun e => hasF_yes (by rw [HN.out]; exact hlt) e
      have HS : Hid (l.getD k 0 ≠ x → ∀ j, j < k + 1 → l.getD j 0 ≠ x) := fun e j hj => by
        by_cases ej : j = k
        · rw [ej]; exact e
        · exact HA.out j (by omega)
      generalize l.getD k 0 = y at c0 HY HS
      by_cases he : x = y
      · have hq : (x == y) = true := by simpa using he
        have HF : Hid (hasF l x = true) := HY.out he.symm
        clear he HY HS
        go_wp2
        go_ret
        exact ⟨_, rfl, by rw [HF.out]; simp, rfl⟩
      · have hq : (x == y) = false := by simpa using he
        have HS2 : Hid (∀ j, j < k + 1 → l.getD j 0 ≠ x) := HS.out (fun e => he e.symm)
        clear he HY HS
        go_wp2
        go_round
        case rel => exact ⟨k + 1, by omega, by go_num, HS2⟩
        case measure => simp [intOf]; omega
    · obtain rfl : k = n := by omega
      have HF : Hid (hasF l x = false) := hasF_no (fun j hj => HA.out j (by rw [HN.out] at hj; exact hj))
      clear HA
      go_wp2
      go_ret
      exact ⟨_, rfl, by rw [HF.out]; simp, rfl⟩
set_option maxHeartbeats 400000 in
theorem ucontains_any (ao : Option Addr) (c : Nat) (l : List Int) (x : Int) (w : World) (B : Nat) (h : WordsAt w B ao l) (hn : l.length ≤ 1000000000) :
    Calls Try.prog 42 #[.slice ao l.length c, .int .u64 x] w fun e w' => e = .returned (.bool (hasF l x)) ∧ w = w' := by
  have HI := Lib.hid (uindex_any ao c l x w B h hn)
  go_enter Try.func42, Try.ntmps42
  go_wp2_with fail
  refine HI.out.mono ?_
  rintro e w1 ⟨r, rfl, hr, rfl⟩
  have HR := Lib.hid hr
  clear hr
  go_wp2
  go_ret
  exact ⟨ret_bool HR.out, rfl⟩
set_option maxHeartbeats 400000 in
theorem uhas_any (ao : Option Addr) (c : Nat) (l : List Int) (x : Int) (w : World) (B : Nat) (h : WordsAt w B ao l) (hn : l.length ≤ 1000000000) :
    Calls Try.prog 27 #[.slice ao l.length c, .int .u64 x] w fun e w' => e = .returned (.bool (hasF l x)) ∧ w = w' := by
  have HI := Lib.hid (ucontains_any ao c l x w B h hn)
  go_enter Try.func27, Try.ntmps27
  go_wp2_with fail
  refine HI.out.mono ?_
  rintro e w1 ⟨rfl, rfl⟩
  go_wp2
  go_ret
  exact ⟨rfl, rfl⟩

/-- Words, rising (each once or not). -/
def Rising (l : List Int) : Prop := ∀ i j, i ≤ j → j < l.length → l.getD i 0 ≤ l.getD j 0
def Found (l : List Int) (x : Int) (w : World) (e : Ending) (w' : World) : Prop := ∃ p : Int, e = .returned (.tuple #[.int .i64 p, .bool (hasF l x)]) ∧ w = w'
end Go.Proofs.Ytkjfdaleamonaaa
