/- The plain laws of sets of words: rising, each once; what is in them. No Go in sight. -/
import Derived.Test.YtkjfdaleamonaaaCellA
import Derived.Test.YtkjfdaleamonaaaSlB
namespace Go.Proofs.Ytkjfdaleamonaaa
open Go.RowKit Go.Lib Go.Sort

def Up (l : List Int) : Prop := l.Pairwise (· < ·)
theorem getD_mem {l : List Int} {j : Nat} (h : j < l.length) : l.getD j 0 ∈ l := by
  rw [List.getD_eq_getElem?_getD, List.getElem?_eq_getElem h, Option.getD_some]; exact List.getElem_mem h
theorem hasF_iff (l : List Int) (x : Int) : hasF l x = true ↔ x ∈ l := by unfold hasF; exact List.contains_iff_mem
theorem srt_mem (l : List Int) (x : Int) : x ∈ srt l ↔ x ∈ l := List.mem_mergeSort
theorem srt_sorted (l : List Int) : (srt l).Pairwise (· ≤ ·) := by
  have := List.pairwise_mergeSort (le := fun x y : Int => decide (x ≤ y)) (fun a b c h1 h2 => by simp at *; omega) (fun a b => by simp; omega) l
  exact this.imp fun h => by simpa using h
theorem cut_mem (d : Array Int) (x : Int) : ∀ m, m ≤ d.size → (x ∈ compactUpTo d m ↔ ∃ j, j < m ∧ d[j]! = x)
  | 0, _ => by simp [compactUpTo]
  | m + 1, h => by
    rw [compactUpTo_succ, List.mem_append, cut_mem d x m (by omega)]
    by_cases hk : 0 < m ∧ d[m]! = d[m - 1]!
    · rw [keeps_neg hk.1 hk.2]
      simp only [Bool.false_eq_true, if_false, List.not_mem_nil, or_false]
      constructor
      · rintro ⟨j, hj, e⟩; exact ⟨j, by omega, e⟩
      · rintro ⟨j, hj, e⟩
        by_cases ej : j = m
        · subst ej; exact ⟨j - 1, by omega, by rw [← hk.2]; exact e⟩
        · exact ⟨j, by omega, e⟩
    · have hkk : keeps d m = true := by
        by_cases h0 : m = 0
        · exact keeps_lt_one d m (by omega)
        · exact keeps_pos fun e => hk ⟨by omega, e⟩
      rw [hkk]
      simp only [if_true, List.mem_singleton]
      constructor
      · rintro (⟨j, hj, e⟩ | e)
        · exact ⟨j, by omega, e⟩
        · exact ⟨m, by omega, e.symm⟩
      · rintro ⟨j, hj, e⟩
        by_cases ej : j = m
        · subst ej; exact .inr e.symm
        · exact .inl ⟨j, by omega, e⟩
theorem cut_up (d : Array Int) (hs : ∀ i j, i ≤ j → j < d.size → d[i]! ≤ d[j]!) : ∀ m, m ≤ d.size → Up (compactUpTo d m)
  | 0, _ => by simp [compactUpTo, Up]
  | m + 1, h => by
    rw [compactUpTo_succ]
    have ih := cut_up d hs m (by omega)
    by_cases hk : 0 < m ∧ d[m]! = d[m - 1]!
    · rw [keeps_neg hk.1 hk.2]; simpa using ih
    · have hkk : keeps d m = true := by
        by_cases h0 : m = 0
        · exact keeps_lt_one d m (by omega)
        · exact keeps_pos fun e => hk ⟨by omega, e⟩
      rw [hkk]
      simp only [if_true]
      unfold Up at *
      rw [List.pairwise_append]
      refine ⟨ih, by simp, fun a ha b hb => ?_⟩
      obtain rfl : b = d[m]! := by simpa using hb
      obtain ⟨j, hj, e⟩ := (cut_mem d a m (by omega)).1 ha
      have h1 := hs j (m - 1) (by omega) (by omega)
      have h2 := hs (m - 1) m (by omega) (by omega)
      have h3 : d[m]! ≠ d[m - 1]! := fun e => hk ⟨by omega, e⟩
      omega
theorem arr_get (l : List Int) (j : Nat) (h : j < l.length) : l.toArray[j]! = l.getD j 0 := by simp [List.getD_eq_getElem?_getD, h, getElem!_pos]
theorem sorted_getD {l : List Int} (h : l.Pairwise (· ≤ ·)) : ∀ i j, i ≤ j → j < l.length → l.getD i 0 ≤ l.getD j 0 := fun i j hij hj => by
  rw [List.getD_eq_getElem?_getD, List.getD_eq_getElem?_getD, List.getElem?_eq_getElem hj, List.getElem?_eq_getElem (by omega), Option.getD_some, Option.getD_some]
  by_cases e : i = j
  · subst e; exact Int.le_refl _
  · exact List.pairwise_iff_getElem.1 h i j (by omega) hj (by omega)
theorem setF_up (l : List Int) : Up (setF l) := by
  unfold setF
  refine cut_up _ (fun i j hij hj => ?_) _ (by simp)
  have hj' : j < (srt l).length := by simpa using hj
  rw [arr_get _ i (by omega), arr_get _ j hj']
  exact sorted_getD (srt_sorted l) i j hij hj'
theorem setF_mem (l : List Int) (x : Int) : x ∈ setF l ↔ x ∈ l := by
  unfold setF
  rw [cut_mem _ _ _ (by simp), ← srt_mem l x]
  constructor
  · rintro ⟨j, hj, rfl⟩; rw [arr_get _ j hj]; exact getD_mem hj
  · intro h
    obtain ⟨j, hj, e⟩ := List.getElem_of_mem h
    exact ⟨j, hj, by rw [arr_get _ j hj, List.getD_eq_getElem?_getD, List.getElem?_eq_getElem hj, Option.getD_some, e]⟩
theorem Up.rising {l : List Int} (h : Up l) : Rising l := fun i j hij hj => sorted_getD (h.imp fun h => by omega) i j hij hj
/-- Rising words, each once, are one list if they are the same words. -/
theorem Up.ext : ∀ {l m : List Int}, Up l → Up m → (∀ x, x ∈ l ↔ x ∈ m) → l = m
  | [], [], _, _, _ => rfl
  | [], b :: m, _, _, h => absurd ((h b).2 (by simp)) (by simp)
  | a :: l, [], _, _, h => absurd ((h a).1 (by simp)) (by simp)
  | a :: l, b :: m, h1, h2, h => by
    unfold Up at *
    rw [List.pairwise_cons] at h1 h2
    have hab : a = b := by
      have p1 := (h a).1 (by simp)
      have p2 := (h b).2 (by simp)
      rcases List.mem_cons.1 p1 with e | p1
      · exact e
      · rcases List.mem_cons.1 p2 with e | p2
        · exact e.symm
        · have := h1.1 _ p2; have := h2.1 _ p1; omega
    subst hab
    congr 1
    refine Up.ext h1.2 h2.2 fun x => ⟨fun hx => ?_, fun hx => ?_⟩
    · rcases List.mem_cons.1 ((h x).1 (by simp [hx])) with e | p
      · have := h1.1 _ hx; omega
      · exact p
    · rcases List.mem_cons.1 ((h x).2 (by simp [hx])) with e | p
      · have := h2.1 _ hx; omega
      · exact p
theorem setF_length (l : List Int) : (setF l).length ≤ l.length := by
  unfold setF
  exact Nat.le_trans (cut_length _ _) (Nat.le_of_eq (srt_length l))
theorem filter_up {l : List Int} (h : Up l) (p : Int → Bool) : Up (l.filter p) := h.filter p
theorem setF_up_eq {l : List Int} (h : Up l) : setF l = l := (setF_up l).ext h fun x => setF_mem l x
end Go.Proofs.Ytkjfdaleamonaaa
