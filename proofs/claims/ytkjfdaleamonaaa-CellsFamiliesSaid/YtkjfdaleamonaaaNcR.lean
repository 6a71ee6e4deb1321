/- Plain laws: the words of a cell's children; all children of some cells, by their parents. -/
import Derived.Test.YtkjfdaleamonaaaNcP
namespace Go.Proofs.Ytkjfdaleamonaaa
open Go.RowKit Go.Lib Wd

theorem hd_sevens {f : Nat → Nat} {r : Nat} (h : ∀ k, r < k → f k = 7) (j : Nat) : hd f (r + j) + 1 = 8 ^ j * (hd f r + 1) := by
  induction j with
  | zero => simp
  | succ j ih =>
    show hd f (r + j) * 8 + f (r + j + 1) + 1 = _
    rw [h _ (by omega), Nat.pow_succ, Nat.mul_comm (8 ^ j) 8, Nat.mul_assoc, ← ih]
    omega
theorem hd_one {f g : Nat → Nat} {m : Nat} (h : ∀ k, k ≠ m + 1 → f k = g k) (j : Nat) : hd f (m + 1 + j) + g (m + 1) * 8 ^ j = hd g (m + 1 + j) + f (m + 1) * 8 ^ j := by
  induction j with
  | zero =>
    show hd f m * 8 + f (m + 1) + g (m + 1) * 8 ^ 0 = hd g m * 8 + g (m + 1) + f (m + 1) * 8 ^ 0
    have : hd f m = hd g m := hd_congr fun k _ hk => h k (by omega)
    rw [this]
    omega
  | succ j ih =>
    show hd f (m + 1 + j) * 8 + f (m + 1 + j + 1) + g (m + 1) * 8 ^ (j + 1) = hd g (m + 1 + j) * 8 + g (m + 1 + j + 1) + f (m + 1) * 8 ^ (j + 1)
    rw [h (m + 1 + j + 1) (by omega), Nat.pow_succ, ← Nat.mul_assoc, ← Nat.mul_assoc]
    omega
/-- A child's word. -/
theorem word_kid {r : Nat} {z : E2} (hr : r + 1 ≤ 12) {d : Nat} (hd' : d < 7) : wordN (r + 1) (downE z d) + (7 - d) * 8 ^ (11 - r) = wordN r z + 72057594037927936 := by
  have hu : ∀ k, upN (k + 1) (downE z d) = upN k z := fun k => by
    show upN k (upE (downE z d)) = _
    rw [upE_down z hd']
  have h1 := hd_one (f := dgt (r + 1) (downE z d)) (g := dgt r z) (m := r) (fun k hk => by
    unfold dgt
    by_cases hkr : k ≤ r
    · rw [if_pos (by omega), if_pos hkr, show r + 1 - k = r - k + 1 by omega, hu]
    · rw [if_neg (by omega), if_neg hkr]) (11 - r)
  have e1 : dgt (r + 1) (downE z d) (r + 1) = d := by
    unfold dgt
    rw [if_pos (Nat.le_refl _), Nat.sub_self]
    exact digE_down z hd'
  have e2 : dgt r z (r + 1) = 7 := by
    unfold dgt
    rw [if_neg (by omega)]
  rw [e1, e2, show r + 1 + (11 - r) = 12 by omega] at h1
  unfold wordN topN
  rw [hu r]
  have e3 : (7 - d) * 8 ^ (11 - r) + d * 8 ^ (11 - r) = 7 * 8 ^ (11 - r) := by rw [← Nat.add_mul, show 7 - d + d = 7 by omega]
  omega
/-- A word and one is so many eighths. -/
theorem word_mul {r : Nat} (hr : r ≤ 12) (z : E2) : ∃ A, wordN r z + 1 = 8 ^ (12 - r) * A := by
  have h1 := hd_sevens (f := dgt r z) (r := r) (fun k hk => by unfold dgt; rw [if_neg (by omega)]) (12 - r)
  rw [show r + (12 - r) = 12 by omega] at h1
  refine ⟨8 ^ r * (16777216 + r * 1048576 + ((upN r z).1 + 512).toNat * 1024 + ((upN r z).2 + 512).toNat) + (hd (dgt r z) r + 1), ?_⟩
  unfold wordN topN
  rw [Nat.mul_add, ← h1, ← Nat.mul_assoc, ← Nat.pow_add, show 12 - r + r = 12 by omega, show (8 : Nat) ^ 12 = 68719476736 by decide]
  omega
/-- The words of a cell's children, from its word. -/
def kidsW (r : Nat) (W : Int) : List Int := (List.range 7).map fun d => W + 72057594037927936 - ((7 - d : Nat) : Int) * ((8 ^ (11 - r) : Nat) : Int)
/-- Words of cells of one size. -/
def Sized (r : Nat) (l : List Int) : Prop := ∀ W ∈ l, ∃ z, okB r z = true ∧ W = (wordN r z : Int)
theorem kidsW_get {r : Nat} {z : E2} (hr : r + 1 ≤ 12) {d : Nat} (hd : d < 7) : (kidsW r (wordN r z)).getD d 0 = (wordN (r + 1) (downE z d) : Int) := by
  have h := word_kid (z := z) hr hd
  unfold kidsW
  rw [List.getD_eq_getElem?_getD, List.getElem?_map, List.getElem?_range hd]
  show (wordN r z : Int) + 72057594037927936 - ((7 - d : Nat) : Int) * ((8 ^ (11 - r) : Nat) : Int) = _
  rw [← Int.natCast_mul]
  omega
theorem kidsW_mem {r : Nat} {z : E2} (hr : r + 1 ≤ 12) (v : Int) : v ∈ kidsW r (wordN r z) ↔ ∃ d, d < 7 ∧ v = (wordN (r + 1) (downE z d) : Int) := by
  unfold kidsW
  rw [List.mem_map]
  constructor
  · rintro ⟨d, hd, rfl⟩
    have hd := List.mem_range.1 hd
    have h := word_kid (z := z) hr hd
    refine ⟨d, hd, ?_⟩
    rw [← Int.natCast_mul]
    omega
  · rintro ⟨d, hd, rfl⟩
    have h := word_kid (z := z) hr hd
    refine ⟨d, List.mem_range.2 hd, ?_⟩
    rw [← Int.natCast_mul]
    omega
theorem kids_apart {r : Nat} (hr : r + 1 ≤ 12) {y z : E2} (h : wordN r y < wordN r z) {d e : Nat} (hd : d < 7) (he : e < 7) : wordN (r + 1) (downE y d) < wordN (r + 1) (downE z e) := by
  obtain ⟨A, hA⟩ := word_mul (show r ≤ 12 by omega) y
  obtain ⟨B, hB⟩ := word_mul (show r ≤ 12 by omega) z
  have h1 := word_kid (z := y) hr hd
  have h2 := word_kid (z := z) hr he
  have e8 : (8 : Nat) ^ (12 - r) = 8 ^ (11 - r) * 8 := by rw [← Nat.pow_succ, show (11 - r).succ = 12 - r by omega]
  have hu : 0 < (8 : Nat) ^ (11 - r) := Nat.pow_pos (by decide)
  rw [e8] at hA hB
  generalize (8 : Nat) ^ (11 - r) = u at *
  have hAB : A < B := by
    rcases Nat.lt_or_ge A B with h' | h'
    · exact h'
    · have := Nat.mul_le_mul_left (u * 8) h'; omega
  have h3 := Nat.mul_le_mul_left (u * 8) (show A + 1 ≤ B from hAB)
  rw [Nat.mul_add, Nat.mul_one] at h3
  have h4 : (7 - d) * u ≤ 7 * u := Nat.mul_le_mul_right u (by omega)
  have h5 : (7 - e) * u ≤ 7 * u := Nat.mul_le_mul_right u (by omega)
  omega
theorem kids_up {r : Nat} (_hr : r + 1 ≤ 12) (z : E2) : Up (kidsW r (wordN r z)) := by
  unfold kidsW
  refine List.pairwise_map.2 ((List.pairwise_lt_range (n := 7)).imp_of_mem fun {a b} ha hb hab => ?_)
  have ha := List.mem_range.1 ha
  have hb := List.mem_range.1 hb
  have hu : 0 < (8 : Nat) ^ (11 - r) := Nat.pow_pos (by decide)
  have : (7 - b) * 8 ^ (11 - r) + 8 ^ (11 - r) ≤ (7 - a) * 8 ^ (11 - r) := by
    rw [← Nat.succ_mul]; exact Nat.mul_le_mul_right _ (by omega)
  rw [← Int.natCast_mul, ← Int.natCast_mul]
  omega
theorem all_up {r : Nat} (hr : r + 1 ≤ 12) : ∀ {S : List Int}, Up S → Sized r S → Up (S.flatMap (kidsW r))
  | [], _, _ => List.Pairwise.nil
  | W :: S, h, hs => by
    obtain ⟨h1, h2⟩ := List.pairwise_cons.1 h
    obtain ⟨z, hz, rfl⟩ := hs W (List.mem_cons_self)
    rw [List.flatMap_cons]
    refine List.pairwise_append.2 ⟨kids_up hr z, all_up hr h2 fun V hV => hs V (List.mem_cons_of_mem _ hV), fun a ha b hb => ?_⟩
    obtain ⟨V, hV, hb⟩ := List.mem_flatMap.1 hb
    obtain ⟨y, hy, rfl⟩ := hs V (List.mem_cons_of_mem _ hV)
    obtain ⟨d, hd, rfl⟩ := (kidsW_mem hr a).1 ha
    obtain ⟨e, he, rfl⟩ := (kidsW_mem hr b).1 hb
    have := kids_apart hr (show wordN r z < wordN r y by have := h1 _ hV; omega) hd he
    omega
/-- All children, set. -/
theorem setF_kids {r : Nat} (hr : r + 1 ≤ 12) {l K : List Int} (hs : Sized r l) (hK : ∀ v, v ∈ K ↔ ∃ W ∈ l, v ∈ kidsW r W) : setF K = (setF l).flatMap (kidsW r) := by
  refine (setF_up K).ext (all_up hr (setF_up l) fun W hW => hs W ((setF_mem l W).1 hW)) fun v => ?_
  rw [setF_mem, hK, List.mem_flatMap]
  constructor
  · rintro ⟨W, h1, h2⟩; exact ⟨W, (setF_mem l W).2 h1, h2⟩
  · rintro ⟨W, h1, h2⟩; exact ⟨W, (setF_mem l W).1 h1, h2⟩
theorem par_kid {r : Nat} (hr : r + 1 ≤ 12) {z : E2} (hz : okB r z = true) {d : Nat} (hd : d < 7) : parE (wordN (r + 1) (downE z d)) = 0 ∧ parW (wordN (r + 1) (downE z d)) = wordN r z := by
  have hk := kid_ok hz hr hd
  obtain ⟨a1, a2, a3⟩ := word_cell hk
  refine ⟨by unfold parE; rw [if_pos a1, if_neg (by omega)], ?_⟩
  unfold parW
  rw [if_pos ⟨a1, by omega⟩, a2, a3, upE_down z hd, show ((r + 1 : Nat) : Int) - 1 = (r : Int) by omega, (ofW_ok hz).1]
/-- One cell's children more. -/
theorem gAll_kids {r : Nat} (hr : r + 1 ≤ 12) {z : E2} (hz : okB r z = true) {l : List Int} {o : List (List Int)} {p : Int} {b : Bool} (h : gAll l = ⟨o, p, b⟩) (hn : b = true → p ≠ (wordN r z : Int)) :
    gAll (l ++ kidsW r (wordN r z)) = ⟨o ++ [kidsW r (wordN r z)], (wordN r z : Int), true⟩ := by
  have step : ∀ n, n < 7 → gAll (l ++ (kidsW r (wordN r z)).take (n + 1)) = ⟨o ++ [(kidsW r (wordN r z)).take (n + 1)], (wordN r z : Int), true⟩ := by
    intro n
    have hL : (kidsW r (wordN r z)).length = 7 := by unfold kidsW; simp
    induction n with
    | zero =>
      intro _
      obtain ⟨e1, e2⟩ := par_kid hr hz (show 0 < 7 by omega)
      have e3 := kidsW_get (z := z) hr (show 0 < 7 by omega)
      rw [take_w _ (by omega), e3]
      show gAll (l ++ ([] ++ [_])) = ⟨o ++ [[] ++ [_]], _, _⟩
      rw [List.nil_append, gAll_snoc, h]
      unfold gStep
      rw [Int.toNat_natCast, e1, e2, if_neg (by decide), if_neg (fun h3 => hn h3.2.1 h3.2.2.symm)]
      rfl
    | succ n ih =>
      intro hn7
      obtain ⟨e1, e2⟩ := par_kid hr hz (show n + 1 < 7 by omega)
      have e3 := kidsW_get (z := z) hr (show n + 1 < 7 by omega)
      rw [take_w _ (by omega), e3, ← List.append_assoc, gAll_snoc, ih (by omega)]
      unfold gStep
      rw [Int.toNat_natCast, e1, e2, if_neg (by decide), if_pos ⟨rfl, rfl, rfl⟩]
      simp
  have := step 6 (by omega)
  rwa [List.take_of_length_le (by unfold kidsW; simp)] at this
theorem gAll_all {r : Nat} (hr : r + 1 ≤ 12) (S : List Int) (hu : S.Nodup) (hs : Sized r S) : (gAll (S.flatMap (kidsW r))).out = S.map (kidsW r) ∧ ((gAll (S.flatMap (kidsW r))).has = true → (gAll (S.flatMap (kidsW r))).last ∈ S) := by
  induction S using snoc_ind with
  | h0 => exact ⟨rfl, fun h => by cases h⟩
  | h1 S W ih =>
    obtain ⟨h1, h2⟩ := ih (List.nodup_append.1 hu).1 fun V hV => hs V (List.mem_append_left _ hV)
    obtain ⟨z, hz, rfl⟩ := hs W (List.mem_append_right _ (List.mem_singleton.2 rfl))
    have hW : (wordN r z : Int) ∉ S := fun h => (List.nodup_append.1 hu).2.2 _ h _ (List.mem_singleton.2 rfl) rfl
    rw [List.flatMap_append, show [(wordN r z : Int)].flatMap (kidsW r) = kidsW r (wordN r z) by simp]
    rw [gAll_kids hr hz (o := (gAll (S.flatMap (kidsW r))).out) (p := (gAll (S.flatMap (kidsW r))).last) (b := (gAll (S.flatMap (kidsW r))).has) rfl (fun h e => hW (by rw [← e]; exact h2 h)), h1]
    exact ⟨by simp, fun _ => by simp⟩
theorem grp_kids {r : Nat} (hr : r + 1 ≤ 12) {l K : List Int} (hs : Sized r l) (hK : ∀ v, v ∈ K ↔ ∃ W ∈ l, v ∈ kidsW r W) : grpF K = (setF l).map (kidsW r) := by
  unfold grpF
  rw [setF_kids hr hs hK]
  refine (gAll_all hr _ ?_ fun W hW => hs W ((setF_mem l W).1 hW)).1
  rw [List.nodup_iff_pairwise_ne]
  exact (setF_up l).imp fun h => by omega
end Go.Proofs.Ytkjfdaleamonaaa
