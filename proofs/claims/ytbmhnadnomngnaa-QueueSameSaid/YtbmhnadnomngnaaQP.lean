/- Plain laws on heaps of weights. -/
import Derived.Test.YtbmhnadnomngnaaQC
namespace Go.Proofs.Ytbmhnadnomngnaa

theorem less_iff {a b : Wt} : lessW a b = true ↔ b.2 < a.2 ∨ (a.2 = b.2 ∧ a.1 < b.1) := by
  unfold lessW
  by_cases e : a.2 = b.2
  · rw [if_pos e]; simp; omega
  · rw [if_neg e]; simp; omega
theorem less_not {a b : Wt} : lessW a b = false ↔ a.2 < b.2 ∨ (a.2 = b.2 ∧ b.1 ≤ a.1) := by
  rw [← Bool.not_eq_true, less_iff]; omega
theorem less_asymm {a b : Wt} (h : lessW a b = true) : lessW b a = false := by rw [less_iff] at h; rw [less_not]; omega
theorem less_trans {a b c : Wt} (h : lessW a b = true) (h2 : lessW b c = true) : lessW a c = true := by rw [less_iff] at *; omega
theorem less_ntrans {a b c : Wt} (h : lessW a b = false) (h2 : lessW b c = false) : lessW a c = false := by rw [less_not] at *; omega
theorem less_total {a b : Wt} (h : lessW a b = false) (h2 : lessW b a = false) : a = b := by
  rw [less_not] at *
  exact Prod.ext (by omega) (by omega)
theorem less_irrefl (a : Wt) : lessW a a = false := by rw [less_not]; omega

def par (j : Nat) : Nat := (j - 1) / 2
def Heap (n : Nat) (L : List Wt) : Prop := ∀ j, 0 < j → j < n → lessW (wg L j) (wg L (par j)) = false
theorem heap_min {n : Nat} {L : List Wt} (h : Heap n L) : ∀ j, j < n → lessW (wg L j) (wg L 0) = false := by
  intro j
  induction j using Nat.strongRecOn with
  | _ j ih =>
    intro hj
    by_cases e : j = 0
    · subst e; exact less_irrefl _
    · have hp : par j < j := by unfold par; omega
      exact less_ntrans (h j (by omega) hj) (ih (par j) hp (by omega))
def UpOk (n : Nat) (L : List Wt) (k : Nat) : Prop := (∀ j, 0 < j → j < n → j ≠ k → lessW (wg L j) (wg L (par j)) = false) ∧ ∀ j, 0 < j → j < n → par j = k → 0 < k → lessW (wg L j) (wg L (par k)) = false
theorem up_heap {n : Nat} : ∀ (k : Nat) (L : List Wt), k < n → n ≤ L.length → UpOk n L k → Heap n (upF L k) := by
  intro k
  induction k using Nat.strongRecOn with
  | _ k ih =>
    intro L hk hn h
    by_cases e : k = 0
    · subst e
      rw [upF_zero]
      exact fun j h1 h2 => h.1 j h1 h2 (by omega)
    · cases hl : lessW (wg L k) (wg L (par k)) with
      | false =>
        rw [upF_stop rfl hl]
        intro j h1 h2
        by_cases e2 : j = k
        · subst e2; exact hl
        · exact h.1 j h1 h2 e2
      | true =>
        obtain ⟨i, hi⟩ : ∃ i, par k = i := ⟨_, rfl⟩
        rw [hi] at hl
        have hik : i < k := by unfold par at hi; omega
        rw [upF_step (by omega) hi hl]
        refine ih i hik _ (by omega) (by rw [swapL_length]; exact hn) ⟨fun j h1 h2 h3 => ?_, fun j h1 h2 h3 h4 => ?_⟩
        · rw [wg_swap (by omega) (by omega), wg_swap (by omega) (by omega)]
          by_cases e1 : j = k
          · subst e1
            rw [if_pos rfl, hi, if_neg (by omega), if_pos rfl]
            exact less_asymm hl
          · rw [if_neg e1, if_neg h3]
            by_cases e2 : par j = k
            · rw [if_pos e2]
              have := h.2 j h1 h2 e2 (by omega)
              rwa [hi] at this
            · rw [if_neg e2]
              by_cases e3 : par j = i
              · rw [if_pos e3]
                have hj := h.1 j h1 h2 e1
                rw [e3] at hj
                cases hc : lessW (wg L j) (wg L k) with
                | false => rfl
                | true => rw [less_trans hc hl] at hj; cases hj
              · rw [if_neg e3]
                exact h.1 j h1 h2 e1
        · have hq : par i < i := by unfold par; omega
          rw [wg_swap (by omega) (by omega), wg_swap (by omega) (by omega), if_neg (show ¬ par i = k by omega), if_neg (show ¬ par i = i by omega)]
          have hii := h.1 i h4 (by omega) (by omega)
          by_cases e1 : j = k
          · rw [if_pos e1]; exact hii
          · have hji : ¬ j = i := by unfold par at h3; omega
            rw [if_neg e1, if_neg hji]
            have hj := h.1 j h1 h2 e1
            rw [h3] at hj
            exact less_ntrans hj hii

def Off (n : Nat) (L : List Wt) (i : Nat) : Prop := (∀ j, 0 < j → j < n → j ≠ i → par j ≠ i → lessW (wg L j) (wg L (par j)) = false) ∧ ∀ j, 0 < j → j < n → par j = i → 0 < i → lessW (wg L j) (wg L (par i)) = false
theorem child_par {L : List Wt} {i n : Nat} : par (childF L i n) = i := by unfold childF par; split <;> omega
theorem child_pos {L : List Wt} {i n : Nat} : 0 < childF L i n := by have := childF_gt L i n; omega
theorem child_least {L : List Wt} {i n j : Nat} (h0 : 0 < j) (hj : j < n) (hp : par j = i) (hne : j ≠ childF L i n) : lessW (wg L j) (wg L (childF L i n)) = false := by
  have hjj : j = 2 * i + 1 ∨ j = 2 * i + 2 := by unfold par at hp; omega
  unfold childF at hne ⊢
  split
  · rename_i h
    rw [if_pos h] at hne
    have : j = 2 * i + 1 := by omega
    subst this
    exact less_asymm h.2
  · rename_i h
    rw [if_neg h] at hne
    have : j = 2 * i + 2 := by omega
    subst this
    cases hc : lessW (wg L (2 * i + 2)) (wg L (2 * i + 1)) with
    | false => rfl
    | true => exact absurd ⟨hj, hc⟩ h
theorem off_step {n : Nat} {L : List Wt} {i c : Nat} (hn : n ≤ L.length) (h : Off n L i) (hlt : 2 * i + 1 < n) (hc : childF L i n = c) (hl : lessW (wg L c) (wg L i) = true) :
    (∀ j, 0 < j → j < n → par j ≠ c → lessW (wg (swapL L i c) j) (wg (swapL L i c) (par j)) = false) ∧ ∀ j, 0 < j → j < n → par j = c → 0 < c → lessW (wg (swapL L i c) j) (wg (swapL L i c) (par c)) = false := by
  have hcp : par c = i := by rw [← hc]; exact child_par
  have hcn : c < n := by rw [← hc]; exact childF_lt hlt
  have hic : i < c := by rw [← hc]; exact childF_gt L i n
  refine ⟨fun j h1 h2 h3 => ?_, fun j h1 h2 h3 _ => ?_⟩
  · rw [wg_swap (by omega) (by omega), wg_swap (by omega) (by omega), if_neg h3]
    by_cases e1 : j = c
    · subst e1
      rw [if_pos rfl, if_pos hcp]
      exact less_asymm hl
    · rw [if_neg e1]
      by_cases e2 : j = i
      · subst e2
        have hpj : ¬ par j = j := by unfold par; omega
        rw [if_pos rfl, if_neg hpj]
        exact h.2 c (by omega) hcn hcp h1
      · rw [if_neg e2]
        by_cases e3 : par j = i
        · rw [if_pos e3, ← hc]
          exact child_least h1 h2 e3 (by rw [hc]; exact e1)
        · rw [if_neg e3]
          exact h.1 j h1 h2 e2 e3
  · have hji : ¬ j = i := by unfold par at h3; omega
    have hjc : ¬ j = c := by unfold par at h3; omega
    rw [wg_swap (by omega) (by omega), wg_swap (by omega) (by omega), hcp, if_neg hjc, if_neg hji, if_neg (show ¬ i = c by omega), if_pos rfl]
    have := h.1 j h1 h2 hji (by rw [h3]; omega)
    rwa [h3] at this
theorem down_heap {n : Nat} : ∀ (m i : Nat) (L : List Wt), n - i ≤ m → n ≤ L.length → (∀ j, 0 < j → j < n → par j ≠ i → lessW (wg L j) (wg L (par j)) = false) → (∀ j, 0 < j → j < n → par j = i → 0 < i → lessW (wg L j) (wg L (par i)) = false) → Heap n (downF L i n).1 := by
  intro m
  induction m with
  | zero =>
    intro i L hm hn h1 h2
    rw [downF_end (by omega)]
    exact fun j h3 h4 => h1 j h3 h4 (by unfold par; omega)
  | succ m ih =>
    intro i L hm hn h1 h2
    by_cases he : n ≤ 2 * i + 1
    · rw [downF_end he]
      exact fun j h3 h4 => h1 j h3 h4 (by unfold par; omega)
    · obtain ⟨c, hc⟩ : ∃ c, childF L i n = c := ⟨_, rfl⟩
      have hic : i < c := by rw [← hc]; exact childF_gt L i n
      cases hl : lessW (wg L c) (wg L i) with
      | false =>
        rw [downF_stop hc hl]
        intro j h3 h4
        by_cases e : par j = i
        · rw [e]
          by_cases e2 : j = c
          · rw [e2]; exact hl
          · have := child_least (L := L) h3 h4 e (by rw [hc]; exact e2)
            rw [hc] at this
            exact less_ntrans this hl
        · exact h1 j h3 h4 e
      | true =>
        rw [downF_step he hc hl]
        have hs := off_step hn ⟨fun j h3 h4 _ h5 => h1 j h3 h4 h5, h2⟩ (by omega) hc hl
        exact ih c _ (by omega) (by rw [swapL_length]; exact hn) hs.1 hs.2
theorem off_down {n : Nat} {L : List Wt} {i : Nat} (hn : n ≤ L.length) (h : Off n L i) :
    (i < (downF L i n).2 → Heap n (downF L i n).1) ∧ (¬ i < (downF L i n).2 → (downF L i n).1 = L ∧ UpOk n L i) := by
  by_cases he : n ≤ 2 * i + 1
  · rw [downF_end he]
    refine ⟨fun h => absurd h (Nat.lt_irrefl _), fun _ => ⟨rfl, fun j h1 h2 h3 => h.1 j h1 h2 h3 (by unfold par; omega), h.2⟩⟩
  · obtain ⟨c, hc⟩ : ∃ c, childF L i n = c := ⟨_, rfl⟩
    have hic : i < c := by rw [← hc]; exact childF_gt L i n
    cases hl : lessW (wg L c) (wg L i) with
    | false =>
      rw [downF_stop hc hl]
      refine ⟨fun h => absurd h (Nat.lt_irrefl _), fun _ => ⟨rfl, fun j h1 h2 h3 => ?_, h.2⟩⟩
      by_cases e : par j = i
      · rw [e]
        by_cases e2 : j = c
        · rw [e2]; exact hl
        · have := child_least (L := L) h1 h2 e (by rw [hc]; exact e2)
          rw [hc] at this
          exact less_ntrans this hl
      · exact h.1 j h1 h2 h3 e
    | true =>
      rw [downF_step he hc hl]
      have hs := off_step hn h (by omega) hc hl
      refine ⟨fun _ => down_heap _ c _ (Nat.le_refl _) (by rw [swapL_length]; exact hn) hs.1 hs.2, fun h9 => absurd ?_ h9⟩
      have : ∀ (m k : Nat) (M : List Wt), n - k ≤ m → k ≤ (downF M k n).2 := by
        intro m
        induction m with
        | zero => intro k M hm; rw [downF_end (by omega)]; exact Nat.le_refl _
        | succ m ih =>
          intro k M hm
          by_cases he : n ≤ 2 * k + 1
          · rw [downF_end he]; exact Nat.le_refl _
          · have hkc := childF_gt M k n
            cases hl : lessW (wg M (childF M k n)) (wg M k) with
            | false => rw [downF_stop rfl hl]; exact Nat.le_refl _
            | true =>
              rw [downF_step he rfl hl]
              have := ih (childF M k n) (swapL M k (childF M k n)) (by omega)
              omega
      have := this _ c (swapL L i c) (Nat.le_refl _)
      omega

theorem set_perm {L : List Wt} {i k : Nat} (hi : i < L.length) (hk : k < L.length) : (swapL L i k).Perm L := by
  refine List.perm_iff_count.2 fun a => ?_
  have e1 : wg L i = L[i] := by unfold wg; rw [List.getD_eq_getElem?_getD, List.getElem?_eq_getElem hi, Option.getD_some]
  have e2 : wg L k = L[k] := by unfold wg; rw [List.getD_eq_getElem?_getD, List.getElem?_eq_getElem hk, Option.getD_some]
  unfold swapL
  rw [List.count_set (by simpa using hk), List.count_set hi, e1, e2]
  have p1 : (if L[i] == a then 1 else 0) ≤ L.count a := by
    split
    · rename_i h
      have h := eq_of_beq h
      rw [← h]
      exact List.count_pos_iff.2 (List.getElem_mem hi)
    · omega
  rw [List.getElem_set]
  by_cases e : i = k
  · subst e
    rw [if_pos rfl]
    omega
  · rw [if_neg e]
    by_cases h1 : (L[i] == a) = true <;> by_cases h2 : (L[k] == a) = true <;> simp only [h1, h2, if_true, if_false, Bool.false_eq_true] at p1 ⊢ <;> omega
theorem up_perm : ∀ (k : Nat) (L : List Wt), k < L.length → (upF L k).Perm L := by
  intro k
  induction k using Nat.strongRecOn with
  | _ k ih =>
    intro L hk
    by_cases e : k = 0
    · subst e; rw [upF_zero]
    · cases hl : lessW (wg L k) (wg L ((k - 1) / 2)) with
      | false => rw [upF_stop rfl hl]
      | true =>
        rw [upF_step (by omega) rfl hl]
        exact (ih _ (by omega) _ (by rw [swapL_length]; omega)).trans (set_perm (by omega) hk)
theorem down_perm {n : Nat} : ∀ (m i : Nat) (L : List Wt), n - i ≤ m → n ≤ L.length → (downF L i n).1.Perm L ∧ ∀ j, n ≤ j → wg (downF L i n).1 j = wg L j := by
  intro m
  induction m with
  | zero => intro i L hm hn; rw [downF_end (by omega)]; exact ⟨List.Perm.refl _, fun _ _ => rfl⟩
  | succ m ih =>
    intro i L hm hn
    by_cases he : n ≤ 2 * i + 1
    · rw [downF_end he]; exact ⟨List.Perm.refl _, fun _ _ => rfl⟩
    · have hic := childF_gt L i n
      have hcn := childF_lt (L := L) (i := i) (n := n) (by omega)
      cases hl : lessW (wg L (childF L i n)) (wg L i) with
      | false => rw [downF_stop rfl hl]; exact ⟨List.Perm.refl _, fun _ _ => rfl⟩
      | true =>
        rw [downF_step he rfl hl]
        obtain ⟨h1, h2⟩ := ih (childF L i n) (swapL L i (childF L i n)) (by omega) (by rw [swapL_length]; exact hn)
        refine ⟨h1.trans (set_perm (by omega) (by omega)), fun j hj => ?_⟩
        rw [h2 j hj, wg_swap (by omega) (by omega), if_neg (by omega), if_neg (by omega)]
end Go.Proofs.Ytbmhnadnomngnaa
