/- Plain laws: how package hull makes a side of a hull; sorted and compacted points. -/
import Derived.Test.YtcoffankmmjehaaHullD
namespace Go.Proofs.Ytcoffankmmjehaa.Hull
open Go.Lib
/-- How many corners of a side are left ahead of a point. -/
def popN (L : List Pt) (c : Pt) : Nat → Nat
  | 0 => 0
  | t + 1 => if 1 ≤ t ∧ turn (pg L (t - 1)) (pg L t) c ≤ 0 then popN L c t else t + 1
theorem popN_le (L : List Pt) (c : Pt) : ∀ t, popN L c t ≤ t
  | 0 => Nat.le_refl _
  | t + 1 => by
    unfold popN
    split
    · have := popN_le L c t; omega
    · omega
theorem popN_pos (L : List Pt) (c : Pt) : ∀ t, 1 ≤ t → 1 ≤ popN L c t
  | 0, h => by omega
  | t + 1, _ => by
    unfold popN
    split
    · rename_i h; exact popN_pos L c t h.1
    · omega
theorem popN_pop (L : List Pt) (c : Pt) : ∀ t, popN L c t < t → turn (pg L (popN L c t - 1)) (pg L (popN L c t)) c ≤ 0
  | 0, h => by omega
  | t + 1, h => by
    unfold popN at h ⊢
    split
    · rename_i h1
      rcases Nat.lt_or_ge (popN L c t) t with h2 | h2
      · exact popN_pop L c t h2
      · have : popN L c t = t := by have := popN_le L c t; omega
        rw [this]; exact h1.2
    · rename_i h1; rw [if_neg h1] at h; omega
theorem popN_stop (L : List Pt) (c : Pt) : ∀ t, 1 ≤ t → popN L c t = 1 ∨ 0 < turn (pg L (popN L c t - 2)) (pg L (popN L c t - 1)) c
  | 0, h => by omega
  | t + 1, _ => by
    unfold popN
    split
    · rename_i h1; exact popN_stop L c t h1.1
    · rename_i h1
      by_cases h2 : 1 ≤ t
      · right
        rw [show t + 1 - 2 = t - 1 by omega, show t + 1 - 1 = t by omega]
        have : ¬ turn (pg L (t - 1)) (pg L t) c ≤ 0 := fun h => h1 ⟨h2, h⟩
        omega
      · left; omega
theorem popN_step (L : List Pt) (c : Pt) (t : Nat) (h : 1 ≤ t) (h2 : turn (pg L (t - 1)) (pg L t) c ≤ 0) : popN L c (t + 1) = popN L c t := by
  show (if 1 ≤ t ∧ turn (pg L (t - 1)) (pg L t) c ≤ 0 then popN L c t else t + 1) = _
  rw [if_pos ⟨h, h2⟩]
theorem popN_end (L : List Pt) (c : Pt) (t : Nat) (h2 : 0 < turn (pg L (t - 1)) (pg L t) c) : popN L c (t + 1) = t + 1 := by
  show (if 1 ≤ t ∧ turn (pg L (t - 1)) (pg L t) c ≤ 0 then popN L c t else t + 1) = _
  rw [if_neg (fun h => by omega)]
theorem popN_one (L : List Pt) (c : Pt) : popN L c 1 = 1 := by
  show (if 1 ≤ 0 ∧ turn (pg L (0 - 1)) (pg L 0) c ≤ 0 then popN L c 0 else 0 + 1) = _
  rw [if_neg (fun h => by omega)]
def chainStep (L : List Pt) (c : Pt) : List Pt := L.take (popN L c L.length) ++ [c]
def chainTo (l : List Pt) (k : Nat) : List Pt := (l.take k).foldl chainStep []
def chainF (l : List Pt) : List Pt := chainTo l l.length
theorem take_succ_pg {l : List Pt} {k : Nat} (h : k < l.length) : l.take (k + 1) = l.take k ++ [pg l k] := by
  rw [List.take_succ_eq_append_getElem h]
  unfold pg; rw [List.getD_eq_getElem?_getD, List.getElem?_eq_getElem h, Option.getD_some]
theorem chainTo_zero (l : List Pt) : chainTo l 0 = [] := rfl
theorem chainTo_succ {l : List Pt} {k : Nat} (h : k < l.length) : chainTo l (k + 1) = chainStep (chainTo l k) (pg l k) := by
  unfold chainTo; rw [take_succ_pg h, List.foldl_append]; rfl
theorem chainStep_length (L : List Pt) (c : Pt) : (chainStep L c).length = popN L c L.length + 1 := by
  unfold chainStep; rw [List.length_append, List.length_take, Nat.min_eq_left (popN_le _ _ _)]; rfl
theorem chainTo_le (l : List Pt) : ∀ k, k ≤ l.length → (chainTo l k).length ≤ k
  | 0, _ => by simp [chainTo_zero]
  | k + 1, h => by
    rw [chainTo_succ (by omega), chainStep_length]
    have := popN_le (chainTo l k) (pg l k) (chainTo l k).length
    have := chainTo_le l k (by omega)
    omega
theorem chainTo_mem (l : List Pt) : ∀ k, k ≤ l.length → ∀ p ∈ chainTo l k, p ∈ l
  | 0, _, p, hp => by simp [chainTo_zero] at hp
  | k + 1, h, p, hp => by
    rw [chainTo_succ (by omega)] at hp
    unfold chainStep at hp
    rw [List.mem_append] at hp
    rcases hp with hp | hp
    · exact chainTo_mem l k (by omega) p (List.mem_of_mem_take hp)
    · simp at hp; rw [hp]; exact pg_mem (by omega)
theorem chainTo_pos (l : List Pt) (k : Nat) (h1 : 1 ≤ k) (h : k ≤ l.length) : 1 ≤ (chainTo l k).length := by
  obtain ⟨k, rfl⟩ : ∃ j, k = j + 1 := ⟨k - 1, by omega⟩
  rw [chainTo_succ (by omega), chainStep_length]; omega
/-- Ascending, seen from s. -/
def Asc (s : Int) (l : List Pt) : Prop := ∀ i j, i < j → j < l.length → Lt s (pg l i) (pg l j)
theorem chain_side {s : Int} (hs : Sg s) {l : List Pt} (ha : Asc s l) : ∀ k, 1 ≤ k → k ≤ l.length → Side s (fun p => p ∈ l.take k) (chainTo l k) := by
  intro k
  induction k with
  | zero => intro h; omega
  | succ k ih =>
    intro _ hk
    have e : ∀ p, p ∈ l.take (k + 1) ↔ p ∈ l.take k ∨ p = pg l k := fun p => by rw [take_succ_pg (by omega)]; simp
    rw [chainTo_succ (by omega)]
    by_cases h0 : k = 0
    · subst h0
      refine (side_one s (pg l 0)).of_iff fun p => ?_
      rw [e]; simp
    · have h1 := ih (by omega) (by omega)
      refine (side_push hs h1 (c := pg l k) (fun p hp => ?_) (popN_pos _ _ _ h1.pos) (popN_le _ _ _) (popN_pop _ _ _) (popN_stop _ _ _ h1.pos)).of_iff e
      obtain ⟨i, hi, rfl⟩ := mem_pg hp
      rw [List.length_take] at hi
      rw [pg_take (by omega)]
      exact ha i k (by omega) (by omega)
theorem chain_both {l : List Pt} (ha : Asc 1 l) (h : l ≠ []) : Both (fun p => p ∈ l) (chainF l) (chainF l.reverse) := by
  have hl : 0 < l.length := List.length_pos_iff.2 h
  have hr : Asc (-1) l.reverse := fun i j hij hj => by
    rw [List.length_reverse] at hj
    rw [pg_rev l i (by omega), pg_rev l j hj, lt_flip]
    exact ha _ _ (by omega) (by omega)
  refine ⟨(chain_side sg1 ha l.length (by omega) (Nat.le_refl _)).of_iff fun p => by simp, ?_⟩
  have := chain_side sgm hr l.reverse.length (by rw [List.length_reverse]; omega) (Nat.le_refl _)
  exact this.of_iff fun p => by rw [List.take_length, List.mem_reverse]
theorem chainF_le (l : List Pt) : (chainF l).length ≤ l.length := chainTo_le l _ (Nat.le_refl _)
/-- By x, then y. -/
def ltB (a b : Pt) : Bool := decide (a.1 < b.1) || (a.1 == b.1 && decide (a.2 < b.2))
theorem ltB_iff (a b : Pt) : ltB a b = true ↔ Lt 1 a b := by unfold ltB Lt Ls sb; simp; omega
/-- Sorted and compacted: ascending, the same points. -/
theorem sorted_compact {l R : List Pt} (hp : R.Perm l) (hs : ∀ i j, i < j → j < R.length → ltB (pg R j) (pg R i) = false) :
    Asc 1 (compactUpTo R.toArray R.length) ∧ ∀ p, p ∈ compactUpTo R.toArray R.length ↔ p ∈ l := by
  have key : ∀ m, m ≤ R.length → (∀ p, p ∈ compactUpTo R.toArray m ↔ p ∈ R.take m) ∧ Asc 1 (compactUpTo R.toArray m) ∧ (0 < m → ∀ p ∈ compactUpTo R.toArray m, p = pg R (m - 1) ∨ Lt 1 p (pg R (m - 1))) := by
    intro m
    induction m with
    | zero => intro _; exact ⟨fun p => by simp [compactUpTo], fun i j _ hj => by simp [compactUpTo] at hj, fun h => by omega⟩
    | succ m ih =>
      intro hm
      obtain ⟨h1, h2, h3⟩ := ih (by omega)
      have eg : R.toArray[m]! = pg R m := by rw [← pg_arr]
      have eg1 : R.toArray[m - 1]! = pg R (m - 1) := by rw [← pg_arr]
      have em : ∀ p, p ∈ R.take (m + 1) ↔ p ∈ R.take m ∨ p = pg R m := fun p => by rw [take_succ_pg (by omega)]; simp
      rw [compactUpTo_succ]
      by_cases hk : keeps R.toArray m = true
      · rw [if_pos hk, eg]
        have hnew : 0 < m → ∀ p ∈ compactUpTo R.toArray m, Lt 1 p (pg R m) := fun h0 p hp => by
          have hne : pg R m ≠ pg R (m - 1) := fun e => by
            have := keeps_ng (l := R) h0 e
            rw [this] at hk; cases hk
          have hlt : Lt 1 (pg R (m - 1)) (pg R m) := by
            rcases lt_tri sg1 (pg R (m - 1)) (pg R m) with h | h | h
            · exact h
            · exact absurd h.symm hne
            · have h4 := (ltB_iff _ _).2 h
              rw [hs (m - 1) m (by omega) (by omega)] at h4; cases h4
          rcases h3 h0 p hp with rfl | h
          · exact hlt
          · exact lt_trans' sg1 h hlt
        refine ⟨fun p => ?_, fun i j hij hj => ?_, fun _ p hp => ?_⟩
        · rw [List.mem_append, h1, em]; simp
        · rw [List.length_append] at hj
          simp at hj
          rw [pg_append, if_pos (by omega), pg_append]
          split
          · rename_i hj2; exact h2 i j hij hj2
          · rename_i hj2
            rw [show j - (compactUpTo R.toArray m).length = 0 by omega]
            refine hnew ?_ _ (pg_mem (by omega))
            rcases Nat.eq_zero_or_pos m with h0 | h0
            · subst h0; simp [compactUpTo] at hj; omega
            · exact h0
        · rw [List.mem_append] at hp
          rw [Nat.add_sub_cancel]
          rcases hp with hp | hp
          · right
            refine hnew ?_ p hp
            rcases Nat.eq_zero_or_pos m with h0 | h0
            · subst h0; simp [compactUpTo] at hp
            · exact h0
          · simp at hp; exact .inl hp
      · rw [if_neg hk, List.append_nil]
        have h0 : 0 < m := by
          rcases Nat.eq_zero_or_pos m with h0 | h0
          · subst h0; exact absurd (keeps_lt_one _ 0 (by omega)) hk
          · exact h0
        have he : pg R m = pg R (m - 1) := by
          by_cases e : pg R m = pg R (m - 1)
          · exact e
          · exact absurd (keeps_pg e) hk
        refine ⟨fun p => ?_, h2, fun _ p hp => ?_⟩
        · rw [h1, em]
          constructor
          · exact .inl
          · rintro (h | h)
            · exact h
            · rw [h, he]
              have : pg (R.take m) (m - 1) = pg R (m - 1) := pg_take (by omega)
              rw [← this]; exact pg_mem (by rw [List.length_take]; omega)
        · rw [Nat.add_sub_cancel, he]; exact h3 h0 p hp
  obtain ⟨h1, h2, _⟩ := key R.length (Nat.le_refl _)
  exact ⟨h2, fun p => by rw [h1, List.take_length]; exact hp.mem_iff⟩
/-- H is the hull of l, as package hull tells it. -/
def HullIs (l H : List Pt) : Prop := ((okB l = false ∨ l = []) ∧ H = []) ∨ (okB l = true ∧ ∃ L U, Both (fun p => p ∈ l) L U ∧ H = if 3 ≤ (ring L U).length then ring L U else [])
theorem HullIs.unique {l m H K : List Pt} (h : HullIs l H) (k : HullIs m K) (ho : okB l = okB m) (hm : ∀ p, p ∈ l ↔ p ∈ m) : H = K := by
  have he : l = [] ↔ m = [] := by
    rw [List.eq_nil_iff_forall_not_mem, List.eq_nil_iff_forall_not_mem]
    exact forall_congr' fun p => not_congr (hm p)
  rcases h with ⟨h1, rfl⟩ | ⟨h1, L, U, h2, rfl⟩
  · rcases k with ⟨_, rfl⟩ | ⟨k1, L, U, k2, rfl⟩
    · rfl
    · exfalso
      rcases h1 with h1 | h1
      · rw [ho, k1] at h1; cases h1
      · rw [he.1 h1] at k2
        have := k2.lo.mem 0 k2.lo.pos
        simp at this
  · rcases k with ⟨k1, rfl⟩ | ⟨k1, L', U', k2, rfl⟩
    · exfalso
      rcases k1 with k1 | k1
      · rw [ho, k1] at h1; cases h1
      · rw [he.2 k1] at h2
        have := h2.lo.mem 0 h2.lo.pos
        simp at this
    · obtain ⟨rfl, rfl⟩ := h2.unique (k2.of_iff hm)
      rfl
end Go.Proofs.Ytcoffankmmjehaa.Hull
