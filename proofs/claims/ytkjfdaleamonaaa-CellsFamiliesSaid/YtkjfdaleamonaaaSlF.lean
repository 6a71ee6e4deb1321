/- Contract of apiarylaw7.awake. -/
import Derived.Test.YtkjfdaleamonaaaSlE
namespace Go.Proofs.Ytkjfdaleamonaaa
open Go.RowKit Go.Lib Go.Sort

theorem words_new (w : World) (l : List Int) (t : TypeId) : WordsAt (w.alloc (.cells (uV l).toArray t)) (w.heap.size + 1) (some ⟨w.heap.size, 0, none⟩) l := fun _ =>
  ⟨w.heap.size, 0, rfl, by omega, fun i hi => by
    rw [cell_of_row _ _ _ _ _ _ (heap_new _ _ _ rfl)]
    rw [Nat.zero_add, List.getElem?_toArray]
    exact uV_get l i hi⟩
theorem aw1 : setF [3, 1, 3] = [1, 3] := (setF_up _).ext (by simp [Up]) fun x => by rw [setF_mem]; simp; omega
theorem aw2 : unionL [2] [1] = [1, 2] := by
  have h : setF ([2] ++ [1]) = [1, 2] := (setF_up _).ext (by simp [Up]) fun x => by rw [setF_mem]; simp; omega
  unfold unionL toldF; rw [h]; rfl
theorem aw3 : unionE [2] [1] = 0 := by
  have h : setF ([2] ++ [1]) = [1, 2] := (setF_up _).ext (by simp [Up]) fun x => by rw [setF_mem]; simp; omega
  unfold unionE toldE; rw [h]; rfl
def Aw1 (w : World) (e : Ending) (w' : World) : Prop := ∃ ao c, e = .returned (.slice ao 2 c) ∧ WordsAt w' w'.heap.size ao [1, 3] ∧ Below w.heap.size w w'
def Aw2 (w : World) (e : Ending) (w' : World) : Prop := ∃ ao c, e = .returned (.tuple #[.slice ao 2 c, .int .i64 0]) ∧ WordsAt w' w'.heap.size ao [1, 2] ∧ Below w.heap.size w w'
set_option maxRecDepth 100000 in
set_option maxHeartbeats 4000000 in
theorem awake7_any (w : World) : Calls Try.prog 12 #[] w fun e w' => e = .returned (.bool true) ∧ Below w.heap.size w w' := by
  have H1 : Hid (Calls Try.prog 8 #[.slice (some ⟨w.heap.size, 0, none⟩) 3 3] (w.alloc (.cells #[.int .u64 3, .int .u64 1, .int .u64 3] 24)) (Aw1 w)) := by
    refine (uset_any (some ⟨w.heap.size, 0, none⟩) 3 [3, 1, 3] _ _ (words_new w [3, 1, 3] 24) (by decide)).mono ?_
    rintro e w' ⟨ao, c, rfl, _, h, hb⟩
    rw [aw1] at h ⊢
    exact ⟨ao, c, rfl, h, below_alloc hb⟩
  have H2 : Hid (∀ w1 : World, Calls Try.prog 25 #[.slice (some ⟨w1.heap.size, 0, none⟩) 1 1, .slice (some ⟨w1.heap.size + 1, 0, none⟩) 1 1] ((w1.alloc (.cells #[.int .u64 2] 24)).alloc (.cells #[.int .u64 1] 24)) (Aw2 w1)) := fun w1 => by
    have hb0 : Below (w1.heap.size + 1) (w1.alloc (.cells #[.int .u64 2] 24)) ((w1.alloc (.cells #[.int .u64 2] 24)).alloc (.cells #[.int .u64 1] 24)) := (Below.refl _ _).alloc (by simp) _
    refine (union_any (some ⟨w1.heap.size, 0, none⟩) (some ⟨w1.heap.size + 1, 0, none⟩) 1 1 [2] [1] _ (((words_new w1 [2] 24).below hb0 (Nat.le_refl _)).wider (by simp)) ((by have h := words_new (w1.alloc (.cells #[.int .u64 2] 24)) [1] 24; rw [World.size_alloc] at h; exact h.wider (by simp))) (by simp) (by simp) (by decide) (by decide)).mono ?_
    rintro e w' ⟨ao, c, rfl, h, hb, -⟩
    rw [aw2] at h ⊢
    rw [aw3]
    exact ⟨ao, c, rfl, h, below_alloc (below_alloc hb)⟩
  have H3 : Hid (∀ (ao : Option Addr) (c : Nat) (w1 : World), WordsAt w1 w1.heap.size ao [1, 2] → Calls Try.prog 26 #[.slice ao 2 c, .slice (some ⟨w1.heap.size, 0, none⟩) 2 2] (w1.alloc (.cells #[.int .u64 1, .int .u64 2] 24)) fun e w' => e = .returned (.bool true) ∧ Below w1.heap.size w1 w') := fun ao c w1 h => by
    have hb0 : Below w1.heap.size w1 (w1.alloc (.cells #[.int .u64 1, .int .u64 2] 24)) := (Below.refl _ _).alloc (Nat.le_refl _) _
    refine (same_any ao (some ⟨w1.heap.size, 0, none⟩) c 2 [1, 2] [1, 2] _ _ _ (h.below hb0 (Nat.le_refl _)) (words_new w1 [1, 2] 24) (by decide)).mono ?_
    rintro e w' ⟨rfl, hb⟩
    exact ⟨rfl, below_alloc hb⟩
  have H4 : Hid (∀ w1 : World, Calls Try.prog 27 #[.slice (some ⟨w1.heap.size, 0, none⟩) 2 2, .int .u64 1] (w1.alloc (.cells #[.int .u64 3, .int .u64 1] 24)) fun e w' => e = .returned (.bool true) ∧ Below w1.heap.size w1 w') := fun w1 => by
    refine (uhas_any (some ⟨w1.heap.size, 0, none⟩) 2 [3, 1] 1 _ _ (words_new w1 [3, 1] 24) (by decide)).mono ?_
    rintro e w' ⟨rfl, rfl⟩
    exact ⟨rfl, (Below.refl _ _).alloc (Nat.le_refl _) _⟩
  go_enter Try.func12, Try.ntmps12
  go_wp2_with fail
  refine H1.out.mono ?_
  rintro e w1 ⟨lo, lc, rfl, hl, hb1⟩
  have HL := Lib.hid hl
  clear hl
  go_wp2_with fail
  refine (H2.out _).mono ?_
  rintro e w2 ⟨uo, uc, rfl, hu, hb2⟩
  have HU := Lib.hid hu
  have HL2 := Lib.hid (HL.out.below hb2 (Nat.le_refl _))
  have hb3 := below_later hb1 hb1.size hb2
  clear hu hb1 hb2 HL
  obtain ⟨g, off, rfl, hg, hc⟩ := HL2.out (by decide)
  have c0 : w2.cell? ⟨g, off, none⟩ = some (.int .u64 1) := hc 0 (by decide)
  have c1 : w2.cell? ⟨g, off + 1, none⟩ = some (.int .u64 3) := hc 1 (by decide)
  have hg' := World.block_lt_of_cell? w2 _ c0
  dsimp only at hg'
  clear hc HL2
  go_wp2_with fail
  refine (H3.out _ _ _ HU.out).mono ?_
  rintro e w3 ⟨rfl, hb4⟩
  have hb5 := below_later hb3 hb3.size hb4
  clear hb3 hb4 HU c0 c1 hg'
  go_wp2_with fail
  refine (H4.out _).mono ?_
  rintro e w4 ⟨rfl, hb6⟩
  have hb7 := below_later hb5 hb5.size hb6
  clear hb5 hb6
  go_wp2
  go_ret
  exact ⟨rfl, hb7⟩
end Go.Proofs.Ytkjfdaleamonaaa
