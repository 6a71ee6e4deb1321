/- The plain laws on rings: no Go in sight. -/
import Derived.Test.YtnnfkdajbaicoaaPolyE
namespace Go.Proofs.Ytnnfkdajbaicoaa
open Go.RowKit

theorem mul_abs_le {u v U V : Int} (h1 : -U ≤ u) (h2 : u ≤ U) (h3 : -V ≤ v) (h4 : v ≤ V) : -(U * V) ≤ u * v ∧ u * v ≤ U * V := by
  have hu : u.natAbs ≤ U.natAbs := by omega
  have hv : v.natAbs ≤ V.natAbs := by omega
  have h := Nat.mul_le_mul hu hv
  rw [← Int.natAbs_mul, ← Int.natAbs_mul] at h
  have hp : 0 ≤ U * V := Int.mul_nonneg (by omega) (by omega)
  omega

/-- Twice the area of the edge and the point. -/
def det (a b c d x y : Int) : Int := (c - a) * (y - b) - (x - a) * (d - b)
theorem det_id (a b c d x y : Int) : det a b c d x y = (c - x) * (y - b) + (a - x) * (d - y) := by
  unfold det; simp only [Int.sub_mul, Int.mul_sub]; omega
def InWorld (p : Pt) : Prop := 0 ≤ p.1 ∧ p.1 < 1073741824 ∧ 0 ≤ p.2 ∧ p.2 < 1073741824
theorem side_plain {a b c d x y : Int} (h1 : 0 ≤ a ∧ a < 1073741824) (h2 : 0 ≤ b ∧ b < 1073741824) (h3 : 0 ≤ c ∧ c < 1073741824) (h4 : 0 ≤ d ∧ d < 1073741824)
    (hx : -2147483648 ≤ x ∧ x ≤ 2147483648) (hy : -2147483648 ≤ y ∧ y ≤ 2147483648) :
    side a b c d x y = if 0 < det a b c d x y then 1 else if det a b c d x y < 0 then -1 else 0 := by
  have e1 := mul_abs_le (u := c - a) (v := y - b) (U := 1073741824) (V := 3221225472) (by omega) (by omega) (by omega) (by omega)
  have e2 := mul_abs_le (u := x - a) (v := d - b) (U := 3221225472) (V := 1073741824) (by omega) (by omega) (by omega) (by omega)
  unfold side det
  rw [IntWalk.wrap64_in (c - a) (by omega), IntWalk.wrap64_in (y - b) (by omega), IntWalk.wrap64_in (x - a) (by omega), IntWalk.wrap64_in (d - b) (by omega),
    IntWalk.wrap64_in ((c - a) * (y - b)) (by omega), IntWalk.wrap64_in ((x - a) * (d - b)) (by omega)]
  generalize (c - a) * (y - b) = m
  generalize (x - a) * (d - b) = n
  by_cases h1 : n < m
  · rw [if_pos h1, if_pos (by omega)]
  · by_cases h2 : m < n
    · rw [if_neg h1, if_pos h2, if_neg (by omega), if_pos (by omega)]
    · rw [if_neg h1, if_neg h2, if_neg (by omega), if_neg (by omega)]

theorem px_mem {l : List Pt} {j : Nat} (h : j < l.length) : (px l j, py l j) ∈ l := by
  unfold px py
  simp only [List.getD_eq_getElem?_getD, List.getElem?_eq_getElem h, Option.getD_some]
  exact List.getElem_mem h

/-- Which way an edge leads past a row: from its row or below to above it, or back. -/
def straddle (b d y : Int) : Bool := decide (b ≤ y) != decide (d ≤ y)
/-- An edge that lies right of a point crosses its row right of it just if it leads past it. -/
theorem cr_right {a b c d x y : Int} (h1 : 0 ≤ a ∧ a < 1073741824) (h2 : 0 ≤ b ∧ b < 1073741824) (h3 : 0 ≤ c ∧ c < 1073741824) (h4 : 0 ≤ d ∧ d < 1073741824)
    (hx : -2147483648 ≤ x ∧ x ≤ 2147483648) (hy : -2147483648 ≤ y ∧ y ≤ 2147483648) (ha : x < a) (hc : x < c) : crE a b c d x y = straddle b d y := by
  unfold crE straddle
  rw [side_plain h1 h2 h3 h4 hx hy]
  have hd := det_id a b c d x y
  by_cases k1 : b ≤ y
  · by_cases k2 : y < d
    · have p1 : 0 ≤ (c - x) * (y - b) := Int.mul_nonneg (by omega) (by omega)
      have p2 : 0 < (a - x) * (d - y) := Int.mul_pos (by omega) (by omega)
      rw [if_pos ⟨k1, k2⟩, if_pos (by omega)]
      simp [k1]; omega
    · rw [if_neg (by omega), if_neg (by omega)]
      simp [k1]; omega
  · by_cases k2 : d ≤ y
    · have p1 : 0 < (c - x) * (b - y) := Int.mul_pos (by omega) (by omega)
      have p2 : 0 ≤ (a - x) * (y - d) := Int.mul_nonneg (by omega) (by omega)
      have e1 : (c - x) * (y - b) = -((c - x) * (b - y)) := by rw [← Int.mul_neg]; congr 1; omega
      have e2 : (a - x) * (d - y) = -((a - x) * (y - d)) := by rw [← Int.mul_neg]; congr 1; omega
      rw [if_neg (by omega), if_pos (by omega), if_neg (by omega), if_pos (by omega)]
      simp [k1, k2]
    · rw [if_neg (by omega), if_neg (by omega)]
      simp [k1, k2]
/-- An edge that lies left of a point crosses nothing right of it. -/
theorem cr_left {a b c d x y : Int} (h1 : 0 ≤ a ∧ a < 1073741824) (h2 : 0 ≤ b ∧ b < 1073741824) (h3 : 0 ≤ c ∧ c < 1073741824) (h4 : 0 ≤ d ∧ d < 1073741824)
    (hx : -2147483648 ≤ x ∧ x ≤ 2147483648) (hy : -2147483648 ≤ y ∧ y ≤ 2147483648) (ha : a < x) (hc : c < x) : crE a b c d x y = false := by
  unfold crE
  rw [side_plain h1 h2 h3 h4 hx hy]
  have hd := det_id a b c d x y
  by_cases k1 : b ≤ y ∧ y < d
  · have p1 : 0 ≤ (x - c) * (y - b) := Int.mul_nonneg (by omega) (by omega)
    have p2 : 0 < (x - a) * (d - y) := Int.mul_pos (by omega) (by omega)
    have e1 : (c - x) * (y - b) = -((x - c) * (y - b)) := by rw [← Int.neg_mul]; congr 1; omega
    have e2 : (a - x) * (d - y) = -((x - a) * (d - y)) := by rw [← Int.neg_mul]; congr 1; omega
    rw [if_pos k1, if_neg (by omega), if_pos (by omega)]
    rfl
  · by_cases k2 : d ≤ y ∧ y < b
    · have p1 : 0 < (x - c) * (b - y) := Int.mul_pos (by omega) (by omega)
      have p2 : 0 ≤ (x - a) * (y - d) := Int.mul_nonneg (by omega) (by omega)
      have e1 : (c - x) * (y - b) = (x - c) * (b - y) := by rw [← Int.neg_mul_neg]; congr 1 <;> omega
      have e2 : (a - x) * (d - y) = (x - a) * (y - d) := by rw [← Int.neg_mul_neg]; congr 1 <;> omega
      rw [if_neg k1, if_pos k2, if_pos (by omega)]
      rfl
    · rw [if_neg k1, if_neg k2]

theorem on_far {a b c d x y : Int} (h : (x < a ∧ x < c) ∨ (a < x ∧ c < x) ∨ (y < b ∧ y < d) ∨ (b < y ∧ d < y)) : onE a b c d x y = false := by
  unfold onE btw
  simp only [Bool.and_eq_false_iff, decide_eq_false_iff_not, Int.not_le]
  omega

/-- Along a way that comes back the number of changes is even. -/
theorem odd_fold (f : Nat → Bool) : ∀ n, (List.range n).foldl (fun o i => o != (f i != f (i + 1))) false = (f 0 != f n)
  | 0 => by simp
  | n + 1 => by
    rw [List.range_succ, List.foldl_append, odd_fold f n]
    simp only [List.foldl_cons, List.foldl_nil]
    cases f 0 <;> cases f n <;> cases f (n + 1) <;> rfl
theorem foldl_congr {α : Type} (f g : Bool → α → Bool) : ∀ (l : List α) (s : Bool), (∀ x ∈ l, ∀ b, f b x = g b x) → l.foldl f s = l.foldl g s
  | [], _, _ => rfl
  | a :: l, s, h => by rw [List.foldl_cons, List.foldl_cons, h a (by simp)]; exact foldl_congr f g l _ fun x hx => h x (by simp [hx])
theorem crR_congr (l : List Pt) (x y : Int) (n : Nat) (g : Nat → Bool) (h : ∀ i, i < n → crEl l x y i = g i) : crR l x y n = (List.range n).foldl (fun o i => o != g i) false := by
  unfold crR
  exact foldl_congr _ _ _ _ fun i hi b => by rw [h i (by simpa using hi)]
theorem straddle_even (l : List Pt) (y : Int) (_h0 : 0 < l.length) : (List.range l.length).foldl (fun o i => o != straddle (py l i) (py l ((i + 1) % l.length)) y) false = false := by
  have h1 : (List.range l.length).foldl (fun o i => o != straddle (py l i) (py l ((i + 1) % l.length)) y) false = (List.range l.length).foldl (fun o i => o != ((fun k => decide (py l (k % l.length) ≤ y)) i != (fun k => decide (py l (k % l.length) ≤ y)) (i + 1))) false :=
    foldl_congr _ _ _ _ fun i hi b => by
      have hi : i < l.length := by simpa using hi
      simp only [straddle, Nat.mod_eq_of_lt hi]
  rw [h1, odd_fold (fun k => decide (py l (k % l.length) ≤ y))]
  have e : decide (py l (0 % l.length) ≤ y) = decide (py l (l.length % l.length) ≤ y) := by rw [decide_eq_decide, Nat.zero_mod, Nat.mod_self]
  show (decide (py l (0 % l.length) ≤ y) != decide (py l (l.length % l.length) ≤ y)) = false
  rw [e]
  cases decide (py l (l.length % l.length) ≤ y) <;> rfl
theorem fold_false (n : Nat) : (List.range n).foldl (fun o _ => o != false) false = false := by
  induction n with
  | zero => rfl
  | succ n ih => rw [List.range_succ, List.foldl_append, ih]; rfl

def AllIn (l : List Pt) : Prop := ∀ p ∈ l, InWorld p
theorem AllIn.at {l : List Pt} (h : AllIn l) {j : Nat} (hj : j < l.length) : (0 ≤ px l j ∧ px l j < 1073741824) ∧ (0 ≤ py l j ∧ py l j < 1073741824) := by
  have := h _ (px_mem hj)
  exact ⟨⟨this.1, this.2.1⟩, this.2.2⟩
theorem next_lt {n j : Nat} (h : j < n) : (j + 1) % n < n := Nat.mod_lt _ (by omega)
/-- A ring right of a point is crossed an even number of times. -/
theorem ring_right {l : List Pt} (hl : AllIn l) (h0 : 0 < l.length) {x y : Int} (hx : -2147483648 ≤ x ∧ x ≤ 2147483648) (hy : -2147483648 ≤ y ∧ y ≤ 2147483648) (h : ∀ p ∈ l, x < p.1) :
    crR l x y l.length = false ∧ onR l x y l.length = false := by
  constructor
  · rw [crR_congr l x y l.length (fun i => straddle (py l i) (py l ((i + 1) % l.length)) y) (fun i hi => by
      obtain ⟨h1, h2⟩ := hl.at hi
      obtain ⟨h3, h4⟩ := hl.at (next_lt hi)
      exact cr_right h1 h2 h3 h4 hx hy (h _ (px_mem hi)) (h _ (px_mem (next_lt hi))))]
    exact straddle_even l y h0
  · unfold onR
    rw [List.any_eq_false]
    intro i hi
    have hi : i < l.length := by simpa using hi
    unfold onEl
    rw [on_far (.inl ⟨h _ (px_mem hi), h _ (px_mem (next_lt hi))⟩)]
    simp
theorem ring_left {l : List Pt} (hl : AllIn l) {x y : Int} (hx : -2147483648 ≤ x ∧ x ≤ 2147483648) (hy : -2147483648 ≤ y ∧ y ≤ 2147483648) (h : ∀ p ∈ l, p.1 < x) :
    crR l x y l.length = false ∧ onR l x y l.length = false := by
  constructor
  · rw [crR_congr l x y l.length (fun _ => false) (fun i hi => by
      obtain ⟨h1, h2⟩ := hl.at hi
      obtain ⟨h3, h4⟩ := hl.at (next_lt hi)
      exact cr_left h1 h2 h3 h4 hx hy (h _ (px_mem hi)) (h _ (px_mem (next_lt hi))))]
    exact fold_false _
  · unfold onR
    rw [List.any_eq_false]
    intro i hi
    have hi : i < l.length := by simpa using hi
    unfold onEl
    rw [on_far (.inr (.inl ⟨h _ (px_mem hi), h _ (px_mem (next_lt hi))⟩))]
    simp

/-- A ring moved by whole steps. -/
def moved (dx dy : Int) (l : List Pt) : List Pt := l.map fun p => (p.1 + dx, p.2 + dy)
theorem moved_length (dx dy : Int) (l : List Pt) : (moved dx dy l).length = l.length := by simp [moved]
theorem moved_at (dx dy : Int) (l : List Pt) {j : Nat} (h : j < l.length) : px (moved dx dy l) j = px l j + dx ∧ py (moved dx dy l) j = py l j + dy := by
  unfold moved px py
  simp [List.getD_eq_getElem?_getD, h]
theorem det_moved (a b c d x y dx dy : Int) : det (a + dx) (b + dy) (c + dx) (d + dy) (x + dx) (y + dy) = det a b c d x y := by
  unfold det
  rw [show c + dx - (a + dx) = c - a by omega, show y + dy - (b + dy) = y - b by omega, show x + dx - (a + dx) = x - a by omega, show d + dy - (b + dy) = d - b by omega]
theorem edge_moved {a b c d x y dx dy : Int} (h1 : 0 ≤ a ∧ a < 1073741824) (h2 : 0 ≤ b ∧ b < 1073741824) (h3 : 0 ≤ c ∧ c < 1073741824) (h4 : 0 ≤ d ∧ d < 1073741824)
    (hx : -2147483648 ≤ x ∧ x ≤ 2147483648) (hy : -2147483648 ≤ y ∧ y ≤ 2147483648)
    (g1 : 0 ≤ a + dx ∧ a + dx < 1073741824) (g2 : 0 ≤ b + dy ∧ b + dy < 1073741824) (g3 : 0 ≤ c + dx ∧ c + dx < 1073741824) (g4 : 0 ≤ d + dy ∧ d + dy < 1073741824)
    (gx : -2147483648 ≤ x + dx ∧ x + dx ≤ 2147483648) (gy : -2147483648 ≤ y + dy ∧ y + dy ≤ 2147483648) :
    onE (a + dx) (b + dy) (c + dx) (d + dy) (x + dx) (y + dy) = onE a b c d x y ∧ crE (a + dx) (b + dy) (c + dx) (d + dy) (x + dx) (y + dy) = crE a b c d x y := by
  have hs : side (a + dx) (b + dy) (c + dx) (d + dy) (x + dx) (y + dy) = side a b c d x y := by rw [side_plain h1 h2 h3 h4 hx hy, side_plain g1 g2 g3 g4 gx gy, det_moved]
  constructor
  · unfold onE btw
    rw [hs]
    have e1 : decide (min (a + dx) (c + dx) ≤ x + dx) = decide (min a c ≤ x) := by rw [decide_eq_decide]; omega
    have e2 : decide (x + dx ≤ max (a + dx) (c + dx)) = decide (x ≤ max a c) := by rw [decide_eq_decide]; omega
    have e3 : decide (min (b + dy) (d + dy) ≤ y + dy) = decide (min b d ≤ y) := by rw [decide_eq_decide]; omega
    have e4 : decide (y + dy ≤ max (b + dy) (d + dy)) = decide (y ≤ max b d) := by rw [decide_eq_decide]; omega
    rw [e1, e2, e3, e4]
  · unfold crE
    rw [hs]
    by_cases k1 : b ≤ y ∧ y < d
    · rw [if_pos k1, if_pos (by omega)]
    · rw [if_neg k1, if_neg (by omega)]
      by_cases k2 : d ≤ y ∧ y < b
      · rw [if_pos k2, if_pos (by omega)]
      · rw [if_neg k2, if_neg (by omega)]
theorem ring_moved {l : List Pt} {dx dy x y : Int} (hl : AllIn l) (hm : AllIn (moved dx dy l)) (hx : -2147483648 ≤ x ∧ x ≤ 2147483648) (hy : -2147483648 ≤ y ∧ y ≤ 2147483648)
    (gx : -2147483648 ≤ x + dx ∧ x + dx ≤ 2147483648) (gy : -2147483648 ≤ y + dy ∧ y + dy ≤ 2147483648) :
    onR (moved dx dy l) (x + dx) (y + dy) l.length = onR l x y l.length ∧ crR (moved dx dy l) (x + dx) (y + dy) l.length = crR l x y l.length := by
  have hE : ∀ i, i < l.length → onEl (moved dx dy l) (x + dx) (y + dy) i = onEl l x y i ∧ crEl (moved dx dy l) (x + dx) (y + dy) i = crEl l x y i := fun i hi => by
    obtain ⟨h1, h2⟩ := hl.at hi
    obtain ⟨h3, h4⟩ := hl.at (next_lt hi)
    have hi' : i < (moved dx dy l).length := by rw [moved_length]; exact hi
    obtain ⟨g1, g2⟩ := hm.at hi'
    obtain ⟨g3, g4⟩ := hm.at (next_lt hi')
    rw [moved_length] at g3 g4
    rw [(moved_at dx dy l hi).1] at g1
    rw [(moved_at dx dy l hi).2] at g2
    rw [(moved_at dx dy l (next_lt hi)).1] at g3
    rw [(moved_at dx dy l (next_lt hi)).2] at g4
    unfold onEl crEl
    rw [moved_length, (moved_at dx dy l hi).1, (moved_at dx dy l hi).2, (moved_at dx dy l (next_lt hi)).1, (moved_at dx dy l (next_lt hi)).2]
    exact edge_moved h1 h2 h3 h4 hx hy g1 g2 g3 g4 gx gy
  constructor
  · unfold onR
    rw [Bool.eq_iff_iff, List.any_eq_true, List.any_eq_true]
    exact ⟨fun ⟨i, hi, h⟩ => ⟨i, hi, by rw [← (hE i (by simpa using hi)).1]; exact h⟩, fun ⟨i, hi, h⟩ => ⟨i, hi, by rw [(hE i (by simpa using hi)).1]; exact h⟩⟩
  · rw [crR_congr _ _ _ _ _ fun i hi => (hE i hi).2]
    rfl

/-- Rings that may be. -/
theorem totTo_bound (c : Nat) : ∀ (ls : List (List Pt)) (k : Nat), (∀ l ∈ ls, l.length ≤ c) → totTo ls k ≤ ls.length * c
  | [], k, _ => by simp [totTo]
  | l :: ls, 0, _ => by simp [totTo]
  | l :: ls, k + 1, h => by
    have ih := totTo_bound c ls k fun x hx => h x (by simp [hx])
    have h1 := h l (by simp)
    have e : totTo (l :: ls) (k + 1) = l.length + totTo ls k := by unfold totTo; simp
    rw [e, List.length_cons, Nat.add_mul]
    omega
theorem check_ok {ls : List (List Pt)} {c : Nat} (h0 : 0 < ls.length) (h1 : ls.length ≤ 20) (hc : ls.length * c ≤ 500) (hl : ∀ l ∈ ls, 3 ≤ l.length ∧ l.length ≤ c ∧ AllIn l) : checkF ls = 0 := by
  have hb := totTo_bound c ls ls.length fun l h => (hl l h).2.1
  have hs : shTo ls ls.length = false := by
    unfold shTo
    simp only [List.take_length, Bool.or_eq_false_iff, decide_eq_false_iff_not, List.any_eq_false, decide_eq_true_eq]
    exact ⟨by omega, fun l h => by have := (hl l h).1; omega⟩
  have ho : outTo ls ls.length = false := by
    unfold outTo
    simp only [List.take_length, List.any_eq_false]
    intro l h1 h2
    rw [List.any_eq_true] at h2
    obtain ⟨p, hp, h3⟩ := h2
    have := (hl l h1).2.2 p hp
    unfold InWorld at this
    unfold outP at h3
    simp only [Bool.or_eq_true, decide_eq_true_eq] at h3
    omega
  unfold checkF
  rw [if_neg (by omega), hs, ho]
  rfl
theorem near_ok {ls : List (List Pt)} {x y : Int} (h : checkF ls = 0) (hx : -2147483648 ≤ x ∧ x ≤ 2147483648) (hy : -2147483648 ≤ y ∧ y ≤ 2147483648) : nearF ls x y = true := by
  unfold nearF; simp [h, hx, hy]

/-! ### Rings together -/
def TameR' (size : Int) (l : List Pt) : Prop := ∀ p ∈ l, 500000 ≤ p.1 ∧ p.1 < 500000 + size ∧ 500000 ≤ p.2 ∧ p.2 < 500000 + size
theorem tame_in {size : Int} {l : List Pt} (h : TameR' size l) (hs : size ≤ 1000000) : AllIn l := fun p hp => by
  obtain ⟨h1, h2, h3, h4⟩ := h p hp
  exact ⟨by omega, by omega, by omega, by omega⟩
theorem one_on (l : List Pt) (x y : Int) : onTo [l] x y [l].length = onR l x y l.length := by simp [onTo]
theorem one_cr (l : List Pt) (x y : Int) : crTo [l] x y [l].length = crR l x y l.length := by simp [crTo]
theorem two_on (l m : List Pt) (x y : Int) : onTo [l, m] x y [l, m].length = (onR l x y l.length || onR m x y m.length) := by simp [onTo]
theorem two_cr (l m : List Pt) (x y : Int) : crTo [l, m] x y [l, m].length = (crR l x y l.length != crR m x y m.length) := by simp [crTo]

theorem together (a : List Pt) (h : TameR' 60 a) (h3 : 3 ≤ a.length) (h6 : a.length ≤ 6) (u v i : Int) (hu : 499999 ≤ u ∧ u ≤ 500060) (hv : 499999 ≤ v ∧ v ≤ 500060) (hi : i = 0 ∨ i = 1) :
    insideF [a, moved 1000 0 a] (u + 1000 * i) v = (insideF [a] (u + 1000 * i) v || insideF [moved 1000 0 a] (u + 1000 * i) v) ∧
    insideF [a, a] (u + 1000 * i) v = onF [a] (u + 1000 * i) v ∧ insideF [moved 1000 0 a] (u + 1000 * i) v = insideF [a] (u + 1000 * i - 1000) v := by
  have ha := tame_in h (by omega)
  have hb : AllIn (moved 1000 0 a) := fun p hp => by
    unfold moved at hp
    obtain ⟨q, hq, rfl⟩ := List.mem_map.1 hp
    obtain ⟨g1, g2, g3, g4⟩ := h q hq
    exact ⟨by show 0 ≤ q.1 + 1000; omega, by show q.1 + 1000 < _; omega, by show 0 ≤ q.2 + 0; omega, by show q.2 + 0 < _; omega⟩
  have hbl := moved_length 1000 0 a
  have c1 : checkF [a] = 0 := check_ok (c := 6) (by simp) (by simp) (by simp) (by simp; exact ⟨h3, h6, ha⟩)
  have c2 : checkF [moved 1000 0 a] = 0 := check_ok (c := 6) (by simp) (by simp) (by simp) (by simp [hbl]; exact ⟨h3, h6, hb⟩)
  have c3 : checkF [a, moved 1000 0 a] = 0 := check_ok (c := 6) (by simp) (by simp) (by simp) (by simp [hbl]; exact ⟨⟨h3, h6, ha⟩, h3, h6, hb⟩)
  have c4 : checkF [a, a] = 0 := check_ok (c := 6) (by simp) (by simp) (by simp) (by simp; exact ⟨h3, h6, ha⟩)
  have hy : -2147483648 ≤ v ∧ v ≤ 2147483648 := by omega
  have hx : -2147483648 ≤ u + 1000 * i ∧ u + 1000 * i ≤ 2147483648 := by omega
  have hx' : -2147483648 ≤ u + 1000 * i - 1000 ∧ u + 1000 * i - 1000 ≤ 2147483648 := by omega
  have hm := ring_moved ha hb hx' hy (by omega) (by omega)
  rw [show u + 1000 * i - 1000 + 1000 = u + 1000 * i by omega, show v + 0 = v by omega] at hm
  unfold insideF onF
  rw [near_ok c1 hx hy, near_ok c1 hx' hy, near_ok c2 hx hy, near_ok c3 hx hy, near_ok c4 hx hy, one_on, one_on, one_cr, one_cr, one_on, one_cr, two_on, two_on, two_cr, two_cr, hbl, hm.1, hm.2]
  refine ⟨?_, ?_, rfl⟩
  · rcases hi with rfl | rfl
    · have := ring_right (l := moved 1000 0 a) hb (by omega) hx hy (fun p hp => by
        unfold moved at hp
        obtain ⟨q, hq, rfl⟩ := List.mem_map.1 hp
        have := (h q hq).1
        show _ < q.1 + 1000
        omega)
      rw [hbl, hm.1, hm.2] at this
      rw [this.1, this.2]
      cases onR a (u + 1000 * 0) v a.length <;> cases crR a (u + 1000 * 0) v a.length <;> rfl
    · have := ring_left (l := a) ha hx hy (fun p hp => by have := (h p hp).2.1; omega)
      rw [this.1, this.2]
      simp
  · cases onR a (u + 1000 * i) v a.length <;> cases crR a (u + 1000 * i) v a.length <;> rfl
end Go.Proofs.Ytnnfkdajbaicoaa
