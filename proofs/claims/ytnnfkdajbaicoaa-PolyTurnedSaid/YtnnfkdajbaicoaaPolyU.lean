/- The plain law on rings that begin elsewhere or go the other way about. -/
import Derived.Test.YtnnfkdajbaicoaaPolyP
import Derived.Test.YtnnfkdajbaicoaaPolyG
namespace Go.Proofs.Ytnnfkdajbaicoaa
open Go.RowKit

def rotTo (l : List Pt) (f k : Nat) : List Pt := (List.range k).map fun i => l.getD ((i + f) % l.length) (0, 0)
def revTo (l : List Pt) (k : Nat) : List Pt := (List.range k).map fun i => l.getD (l.length - 1 - i) (0, 0)
theorem rotTo_length (l : List Pt) (f k : Nat) : (rotTo l f k).length = k := by simp [rotTo]
theorem revTo_length (l : List Pt) (k : Nat) : (revTo l k).length = k := by simp [revTo]
theorem rotTo_succ (l : List Pt) (f k : Nat) : rotTo l f (k + 1) = rotTo l f k ++ [(px l ((k + f) % l.length), py l ((k + f) % l.length))] := by unfold rotTo px py; rw [List.range_succ]; simp
theorem revTo_succ (l : List Pt) (k : Nat) : revTo l (k + 1) = revTo l k ++ [(px l (l.length - 1 - k), py l (l.length - 1 - k))] := by unfold revTo px py; rw [List.range_succ]; simp
theorem rotTo_at (l : List Pt) (f k j : Nat) (h : j < k) : px (rotTo l f k) j = px l ((j + f) % l.length) ∧ py (rotTo l f k) j = py l ((j + f) % l.length) := by
  unfold rotTo px py; simp [List.getD_eq_getElem?_getD, h]
theorem revTo_at (l : List Pt) (k j : Nat) (h : j < k) : px (revTo l k) j = px l (l.length - 1 - j) ∧ py (revTo l k) j = py l (l.length - 1 - j) := by
  unfold revTo px py; simp [List.getD_eq_getElem?_getD, h]
theorem rot_mem {l : List Pt} {f k : Nat} (h0 : 0 < l.length) : ∀ p ∈ rotTo l f k, p ∈ l := fun p hp => by
  simp only [rotTo, List.mem_map, List.mem_range] at hp
  obtain ⟨i, _, rfl⟩ := hp
  exact px_mem (Nat.mod_lt _ h0)
theorem rev_mem {l : List Pt} {k : Nat} (h0 : 0 < l.length) : ∀ p ∈ revTo l k, p ∈ l := fun p hp => by
  simp only [revTo, List.mem_map, List.mem_range] at hp
  obtain ⟨i, _, rfl⟩ := hp
  exact px_mem (by omega)

/-- A way about the same places. -/
def Turns (n : Nat) (σ : Nat → Nat) : Prop := ((List.range n).map σ).Perm (List.range n)
theorem turns_rot {n : Nat} (h3 : 3 ≤ n) (h6 : n ≤ 6) (f : Nat) : Turns n fun j => (j + f) % n := by
  have e : (fun j => (j + f) % n) = fun j => (j + f % n) % n := by funext j; rw [Nat.add_mod_mod]
  rw [e]
  have hlt := Nat.mod_lt f (show n > 0 by omega)
  generalize f % n = g at hlt
  unfold Turns
  rcases (show n = 3 ∨ n = 4 ∨ n = 5 ∨ n = 6 by omega) with rfl | rfl | rfl | rfl
  · rcases (show g = 0 ∨ g = 1 ∨ g = 2 by omega) with rfl | rfl | rfl <;> decide
  · rcases (show g = 0 ∨ g = 1 ∨ g = 2 ∨ g = 3 by omega) with rfl | rfl | rfl | rfl <;> decide
  · rcases (show g = 0 ∨ g = 1 ∨ g = 2 ∨ g = 3 ∨ g = 4 by omega) with rfl | rfl | rfl | rfl | rfl <;> decide
  · rcases (show g = 0 ∨ g = 1 ∨ g = 2 ∨ g = 3 ∨ g = 4 ∨ g = 5 by omega) with rfl | rfl | rfl | rfl | rfl | rfl <;> decide
theorem turns_rev {n : Nat} (h3 : 3 ≤ n) (h6 : n ≤ 6) : Turns n fun j => n - 1 - (j + 1) % n := by
  unfold Turns
  rcases (show n = 3 ∨ n = 4 ∨ n = 5 ∨ n = 6 by omega) with rfl | rfl | rfl | rfl <;> decide

theorem any_turn {n : Nat} {σ : Nat → Nat} (h : Turns n σ) (f g : Nat → Bool) (he : ∀ j, j < n → f j = g (σ j)) : (List.range n).any f = (List.range n).any g := by
  have e1 : (List.range n).any f = ((List.range n).map σ).any g := by
    rw [List.any_map, Bool.eq_iff_iff, List.any_eq_true, List.any_eq_true]
    constructor
    · rintro ⟨j, hj, hf⟩
      exact ⟨j, hj, by rw [he j (by simpa using hj)] at hf; exact hf⟩
    · rintro ⟨j, hj, hf⟩
      exact ⟨j, hj, by rw [he j (by simpa using hj)]; exact hf⟩
  rw [e1, h.any_eq]
theorem xor_turn {n : Nat} {σ : Nat → Nat} (h : Turns n σ) (f g : Nat → Bool) (he : ∀ j, j < n → f j = g (σ j)) :
    (List.range n).foldl (fun o i => o != f i) false = (List.range n).foldl (fun o i => o != g i) false := by
  have e1 : (List.range n).foldl (fun o i => o != f i) false = ((List.range n).map σ).foldl (fun o i => o != g i) false := by
    rw [List.foldl_map]
    exact foldl_congr _ _ _ _ fun j hj b => by rw [he j (by simpa using hj)]
  rw [e1]
  exact h.foldl_eq' (fun x _ y _ z => by cases z <;> cases g x <;> cases g y <;> rfl) _
theorem sum_turn {n : Nat} {σ : Nat → Nat} (h : Turns n σ) (g : Nat → Int) : (List.range n).foldl (fun s i => s + g (σ i)) 0 = (List.range n).foldl (fun s i => s + g i) 0 := by
  have e1 : (List.range n).foldl (fun s i => s + g (σ i)) 0 = ((List.range n).map σ).foldl (fun s i => s + g i) 0 := by rw [List.foldl_map]
  rw [e1]
  exact h.foldl_eq' (fun x _ y _ z => by omega) _

/-- What an edge gives to the area. -/
def shoe (l : List Pt) (j : Nat) : Int := px l j * py l ((j + 1) % l.length) - px l ((j + 1) % l.length) * py l j
theorem area_plain {l : List Pt} (h : TameR' 60 l) (h6 : l.length ≤ 6) : ∀ j, j ≤ l.length → areaTo l j = (List.range j).foldl (fun s i => s + shoe l i) 0 ∧ -(1000000000000 * (j : Int)) ≤ areaTo l j ∧ areaTo l j ≤ 1000000000000 * (j : Int)
  | 0, _ => ⟨rfl, by simp [areaTo], by simp [areaTo]⟩
  | j + 1, hj => by
    obtain ⟨i1, i2, i3⟩ := area_plain h h6 j (by omega)
    have p1 := h _ (px_mem (l := l) (j := j) (by omega))
    have p2 := h _ (px_mem (l := l) (next_lt (n := l.length) (j := j) (by omega)))
    dsimp only at p1 p2
    have m1 := mul_abs_le (u := px l j) (v := py l ((j + 1) % l.length)) (U := 600000) (V := 600000) (by omega) (by omega) (by omega) (by omega)
    have m2 := mul_abs_le (u := px l ((j + 1) % l.length)) (v := py l j) (U := 600000) (V := 600000) (by omega) (by omega) (by omega) (by omega)
    rw [areaTo_succ, List.range_succ, List.foldl_append]
    simp only [List.foldl_cons, List.foldl_nil]
    rw [← i1]
    unfold stepA shoe
    generalize px l j * py l ((j + 1) % l.length) = a1 at *
    generalize px l ((j + 1) % l.length) * py l j = a2 at *
    generalize areaTo l j = s at *
    rw [IntWalk.wrap64_in a1 (by omega), IntWalk.wrap64_in a2 (by omega), IntWalk.wrap64_in (a1 - a2) (by omega), IntWalk.wrap64_in (s + (a1 - a2)) (by omega)]
    refine ⟨rfl, by push_cast; omega, by push_cast; omega⟩

theorem onE_back {a b c d x y : Int} (h1 : 0 ≤ a ∧ a < 1073741824) (h2 : 0 ≤ b ∧ b < 1073741824) (h3 : 0 ≤ c ∧ c < 1073741824) (h4 : 0 ≤ d ∧ d < 1073741824)
    (hx : -2147483648 ≤ x ∧ x ≤ 2147483648) (hy : -2147483648 ≤ y ∧ y ≤ 2147483648) : onE c d a b x y = onE a b c d x y ∧ crE c d a b x y = crE a b c d x y := by
  have e : det c d a b x y = -det a b c d x y := by unfold det; simp only [Int.mul_sub, Int.mul_comm]; omega
  unfold onE crE
  rw [side_plain h1 h2 h3 h4 hx hy, side_plain h3 h4 h1 h2 hx hy, e]
  generalize det a b c d x y = D
  constructor
  · have b1 : ∀ a c x : Int, btw c a x = btw a c x := fun a c x => by unfold btw; rw [Int.min_comm, Int.max_comm]
    rw [b1 a c x, b1 b d y]
    congr 1
    by_cases g1 : 0 < D
    · rw [if_neg (by omega), if_pos (by omega), if_pos g1]; rfl
    · by_cases g2 : D < 0
      · rw [if_pos (by omega), if_neg g1, if_pos g2]; rfl
      · rw [if_neg (by omega), if_neg (by omega), if_neg g1, if_neg g2]
  · by_cases k1 : b ≤ y ∧ y < d
    · rw [if_neg (by omega), if_pos k1, if_pos k1]
      by_cases g1 : 0 < D
      · rw [if_neg (by omega), if_pos (by omega), if_pos g1]; rfl
      · by_cases g2 : D < 0
        · rw [if_pos (by omega), if_neg g1, if_pos g2]; rfl
        · rw [if_neg (by omega), if_neg (by omega), if_neg g1, if_neg g2]
    · by_cases k2 : d ≤ y ∧ y < b
      · rw [if_pos k2, if_neg k1, if_pos k2]
        by_cases g1 : 0 < D
        · rw [if_neg (by omega), if_pos (by omega), if_pos g1]; rfl
        · by_cases g2 : D < 0
          · rw [if_pos (by omega), if_neg g1, if_pos g2]; rfl
          · rw [if_neg (by omega), if_neg (by omega), if_neg g1, if_neg g2]
      · rw [if_neg k2, if_neg k1, if_neg k1, if_neg k2]

section
variable {l : List Pt} (h3 : 3 ≤ l.length) (h6 : l.length ≤ 6)
theorem rot_next (f j : Nat) : ((j + 1) % l.length + f) % l.length = ((j + f) % l.length + 1) % l.length := by
  rw [Nat.mod_add_mod, Nat.mod_add_mod]; congr 1; omega
include h3 in
theorem rev_next {j : Nat} (hj : j < l.length) : l.length - 1 - j = ((l.length - 1 - (j + 1) % l.length) + 1) % l.length := by
  by_cases e : j + 1 = l.length
  · rw [e, Nat.mod_self, Nat.sub_zero, Nat.sub_add_cancel (by omega), Nat.mod_self]; omega
  · rw [Nat.mod_eq_of_lt (show j + 1 < l.length by omega), Nat.mod_eq_of_lt (by omega)]; omega
include h3 h6
theorem rot_rings (f : Nat) (x y : Int) : onR (rotTo l f l.length) x y l.length = onR l x y l.length ∧ crR (rotTo l f l.length) x y l.length = crR l x y l.length := by
  have hs := turns_rot h3 h6 f
  refine ⟨any_turn hs _ _ fun j hj => ?_, xor_turn hs _ _ fun j hj => ?_⟩
  · unfold onEl
    have e1 := rotTo_at l f l.length j hj
    have e2 := rotTo_at l f l.length _ (next_lt hj)
    rw [rotTo_length, e1.1, e1.2, e2.1, e2.2, rot_next]
  · unfold crEl
    have e1 := rotTo_at l f l.length j hj
    have e2 := rotTo_at l f l.length _ (next_lt hj)
    rw [rotTo_length, e1.1, e1.2, e2.1, e2.2, rot_next]
theorem rev_rings (hl : AllIn l) {x y : Int} (hx : -2147483648 ≤ x ∧ x ≤ 2147483648) (hy : -2147483648 ≤ y ∧ y ≤ 2147483648) :
    onR (revTo l l.length) x y l.length = onR l x y l.length ∧ crR (revTo l l.length) x y l.length = crR l x y l.length := by
  have hs := turns_rev h3 h6
  refine ⟨any_turn hs _ _ fun j hj => ?_, xor_turn hs _ _ fun j hj => ?_⟩
  · unfold onEl
    have e1 := revTo_at l l.length j hj
    have e2 := revTo_at l l.length _ (next_lt hj)
    rw [revTo_length, e1.1, e1.2, e2.1, e2.2, ← rev_next h3 hj]
    have q1 := hl.at (j := l.length - 1 - j) (by omega)
    have q2 := hl.at (j := l.length - 1 - (j + 1) % l.length) (by omega)
    exact (onE_back q2.1 q2.2 q1.1 q1.2 hx hy).1
  · unfold crEl
    have e1 := revTo_at l l.length j hj
    have e2 := revTo_at l l.length _ (next_lt hj)
    rw [revTo_length, e1.1, e1.2, e2.1, e2.2, ← rev_next h3 hj]
    have q1 := hl.at (j := l.length - 1 - j) (by omega)
    have q2 := hl.at (j := l.length - 1 - (j + 1) % l.length) (by omega)
    exact (onE_back q2.1 q2.2 q1.1 q1.2 hx hy).2
theorem tame_check (hT : TameR' 60 l) : checkF [l] = 0 := check_ok (c := 6) (by simp) (by simp) (by simp) fun l' hl => by
  obtain rfl : l' = l := by simpa using hl
  exact ⟨h3, h6, tame_in hT (by omega)⟩
theorem rot_area (hT : TameR' 60 l) (f : Nat) : area2F (rotTo l f l.length) = area2F l := by
  have hT2 : TameR' 60 (rotTo l f l.length) := fun p hp => hT p (rot_mem (by omega) p hp)
  unfold area2F
  rw [if_pos (tame_check h3 h6 hT), if_pos (tame_check (by rw [rotTo_length]; exact h3) (by rw [rotTo_length]; exact h6) hT2), rotTo_length]
  have e1 := (area_plain hT2 (by rw [rotTo_length]; exact h6) l.length (by rw [rotTo_length]; exact Nat.le_refl _)).1
  rw [e1, (area_plain hT h6 l.length (Nat.le_refl _)).1, ← sum_turn (turns_rot h3 h6 f) (shoe l)]
  have : ∀ (L : List Nat) (s : Int), (∀ j ∈ L, j < l.length) → L.foldl (fun s i => s + shoe (rotTo l f l.length) i) s = L.foldl (fun s i => s + shoe l ((i + f) % l.length)) s := by
    intro L
    induction L with
    | nil => intro s _; rfl
    | cons j L ih =>
      intro s hL
      have hj := hL j (by simp)
      rw [List.foldl_cons, List.foldl_cons, ih _ fun k hk => hL k (by simp [hk])]
      congr 2
      unfold shoe
      have e1 := rotTo_at l f l.length j hj
      have e2 := rotTo_at l f l.length _ (next_lt hj)
      rw [rotTo_length, e1.1, e1.2, e2.1, e2.2, rot_next]
  exact this _ _ fun j hj => by simpa using hj
theorem rev_area (hT : TameR' 60 l) : area2F (revTo l l.length) = -area2F l ∧ -9000000000000 ≤ area2F l ∧ area2F l ≤ 9000000000000 := by
  have hT2 : TameR' 60 (revTo l l.length) := fun p hp => hT p (rev_mem (by omega) p hp)
  unfold area2F
  rw [if_pos (tame_check h3 h6 hT), if_pos (tame_check (by rw [revTo_length]; exact h3) (by rw [revTo_length]; exact h6) hT2), revTo_length]
  have e1 := (area_plain hT2 (by rw [revTo_length]; exact h6) l.length (by rw [revTo_length]; exact Nat.le_refl _)).1
  obtain ⟨e2, b1, b2⟩ := area_plain hT h6 l.length (Nat.le_refl _)
  refine ⟨?_, by omega, by omega⟩
  rw [e1, e2, ← sum_turn (turns_rev h3 h6) (shoe l)]
  have : ∀ (L : List Nat) (s : Int), (∀ j ∈ L, j < l.length) → L.foldl (fun s i => s + shoe (revTo l l.length) i) s = -L.foldl (fun s i => s + shoe l (l.length - 1 - (i + 1) % l.length)) (-s) := by
    intro L
    induction L with
    | nil => intro s _; simp
    | cons j L ih =>
      intro s hL
      have hj := hL j (by simp)
      rw [List.foldl_cons, List.foldl_cons, ih _ fun k hk => hL k (by simp [hk])]
      congr 2
      unfold shoe
      have e1 := revTo_at l l.length j hj
      have e2 := revTo_at l l.length _ (next_lt hj)
      rw [revTo_length, e1.1, e1.2, e2.1, e2.2, ← rev_next h3 hj, Int.mul_comm (px l (l.length - 1 - (j + 1) % l.length))]
      omega
  rw [this _ 0 fun j hj => by simpa using hj]
  simp
end

theorem onTo_cons (l : List Pt) (r : List (List Pt)) (x y : Int) : onTo (l :: r) x y (l :: r).length = (onR l x y l.length || r.any fun l => onR l x y l.length) := by
  unfold onTo; rw [List.take_length]; rfl
theorem crTo_cons (l : List Pt) (r : List (List Pt)) (x y : Int) : crTo (l :: r) x y (l :: r).length = r.foldl (fun o l => o != crR l x y l.length) (crR l x y l.length) := by
  unfold crTo; rw [List.take_length, List.foldl_cons]; simp
/-- What the law asks. -/
theorem turned {l m : List Pt} {r : List (List Pt)} (hT : TameOK 60 (l :: r)) (hm : m.length = l.length) (hmm : ∀ p ∈ m, p ∈ l) {x y : Int} (hx : 499999 ≤ x ∧ x ≤ 500060) (hy : 499999 ≤ y ∧ y ≤ 500060)
    (ho : onR m x y l.length = onR l x y l.length) (hc : crR m x y l.length = crR l x y l.length) : insideF (m :: r) x y = insideF (l :: r) x y ∧ onF (m :: r) x y = onF (l :: r) x y := by
  have hin : ∀ l' ∈ l :: r, 3 ≤ l'.length ∧ l'.length ≤ 6 ∧ AllIn l' := fun l' hl' => by
    obtain ⟨h1, h2, h3⟩ := hT.2 l' hl'
    exact ⟨h1, h2, tame_in (size := 60) h3 (by omega)⟩
  have hlen := hT.1
  have c1 : checkF (l :: r) = 0 := check_ok (c := 6) (by simp) (by omega) (by omega) hin
  have c2 : checkF (m :: r) = 0 := check_ok (c := 6) (by simp) (by simp at hlen ⊢; omega) (by simp at hlen ⊢; omega) fun l' hl' => by
    rcases List.mem_cons.1 hl' with rfl | hl'
    · obtain ⟨h1, h2, h3⟩ := hin l (by simp)
      exact ⟨by omega, by omega, fun p hp => h3 p (hmm p hp)⟩
    · exact hin l' (by simp [hl'])
  have n1 := near_ok c1 (x := x) (y := y) (by omega) (by omega)
  have n2 := near_ok c2 (x := x) (y := y) (by omega) (by omega)
  unfold insideF onF
  rw [n1, n2, onTo_cons, onTo_cons, crTo_cons, crTo_cons, hm, ho, hc]
  exact ⟨rfl, rfl⟩
end Go.Proofs.Ytnnfkdajbaicoaa
