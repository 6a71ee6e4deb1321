/- The plain law of PolyBoxes: what lies in a box; what lies outside of a polygon's box. No Go in sight. -/
import Derived.Test.YtnnfkdajbaicoaaPolyP
import Derived.Test.YtnnfkdajbaicoaaPolyF
import Derived.Test.YtnnfkdajbaicoaaPolyG
namespace Go.Proofs.Ytnnfkdajbaicoaa
open Go.RowKit

def quad (a b c d : Int) : List Pt := [(a, b), (c, b), (c, d), (a, d)]
theorem btw_self (b y : Int) : btw b b y = (y == b) := by unfold btw; rw [Bool.eq_iff_iff]; simp; omega
theorem on_flat {a b c x y : Int} (ha : 0 ≤ a ∧ a ≤ 63) (hb : 0 ≤ b ∧ b ≤ 63) (hc : 0 ≤ c ∧ c ≤ 63) (hx : -20 ≤ x ∧ x ≤ 107) (hy : -20 ≤ y ∧ y ≤ 107) : onE a b c b x y = (btw a c x && y == b) := by
  unfold onE
  rw [btw_self]
  by_cases h : y = b
  · subst h
    have e : side a y c y x y = 0 := by
      rw [side_plain (by omega) (by omega) (by omega) (by omega) (by omega) (by omega)]
      unfold det
      rw [Int.sub_self, Int.mul_zero, Int.mul_zero]; rfl
    rw [e]; simp
  · have : (y == b) = false := by simpa using h
    rw [this]; simp
theorem on_steep {b c d x y : Int} (hb : 0 ≤ b ∧ b ≤ 63) (hc : 0 ≤ c ∧ c ≤ 63) (hd : 0 ≤ d ∧ d ≤ 63) (hx : -20 ≤ x ∧ x ≤ 107) (hy : -20 ≤ y ∧ y ≤ 107) : onE c b c d x y = (x == c && btw b d y) := by
  unfold onE
  rw [btw_self]
  by_cases h : x = c
  · subst h
    have e : side x b x d x y = 0 := by
      rw [side_plain (by omega) (by omega) (by omega) (by omega) (by omega) (by omega)]
      unfold det
      rw [Int.sub_self, Int.zero_mul, Int.zero_mul]; rfl
    rw [e]; simp
  · have : (x == c) = false := by simpa using h
    rw [this]; simp
theorem cr_flat {a b c x y : Int} : crE a b c b x y = false := by
  unfold crE
  rw [if_neg (by omega), if_neg (by omega)]
theorem cr_steep {b c d x y : Int} (hb : 0 ≤ b ∧ b ≤ 63) (hc : 0 ≤ c ∧ c ≤ 63) (hd : 0 ≤ d ∧ d ≤ 63) (hx : -20 ≤ x ∧ x ≤ 107) (hy : -20 ≤ y ∧ y ≤ 107) : crE c b c d x y = (straddle b d y && decide (x < c)) := by
  unfold crE straddle
  rw [side_plain (by omega) (by omega) (by omega) (by omega) (by omega) (by omega)]
  have e : det c b c d x y = (c - x) * (d - b) := by
    unfold det; rw [Int.sub_self, Int.zero_mul, Int.zero_sub, ← Int.neg_mul]; congr 1; omega
  rw [e]
  by_cases h1 : b ≤ y ∧ y < d
  · rw [if_pos h1]
    have h2 : decide (b ≤ y) = true := by simpa using h1.1
    have h3 : decide (d ≤ y) = false := by simp; omega
    rw [h2, h3]
    by_cases h4 : x < c
    · have p : 0 < (c - x) * (d - b) := Int.mul_pos (by omega) (by omega)
      rw [if_pos p]; simp [h4]
    · have p : (c - x) * (d - b) ≤ 0 := by
        have : 0 ≤ (x - c) * (d - b) := Int.mul_nonneg (by omega) (by omega)
        have e2 : (c - x) * (d - b) = -((x - c) * (d - b)) := by rw [← Int.neg_mul]; congr 1; omega
        omega
      rw [if_neg (by omega)]
      by_cases p2 : (c - x) * (d - b) < 0
      · rw [if_pos p2]; simp [h4]
      · rw [if_neg p2]; simp [h4]
  · rw [if_neg h1]
    by_cases h2 : d ≤ y ∧ y < b
    · rw [if_pos h2]
      have h3 : decide (b ≤ y) = false := by simp; omega
      have h4 : decide (d ≤ y) = true := by simpa using h2.1
      rw [h3, h4]
      by_cases h5 : x < c
      · have p : (c - x) * (d - b) < 0 := by
          have : 0 < (c - x) * (b - d) := Int.mul_pos (by omega) (by omega)
          have e2 : (c - x) * (d - b) = -((c - x) * (b - d)) := by rw [← Int.mul_neg]; congr 1; omega
          omega
        rw [if_neg (by omega), if_pos p]; simp [h5]
      · have p : 0 ≤ (c - x) * (d - b) := by
          have : 0 ≤ (x - c) * (b - d) := Int.mul_nonneg (by omega) (by omega)
          have e2 : (c - x) * (d - b) = (x - c) * (b - d) := by rw [← Int.neg_mul_neg]; congr 1 <;> omega
          omega
        by_cases p2 : 0 < (c - x) * (d - b)
        · rw [if_pos p2]; simp [h5]
        · rw [if_neg p2, if_neg (by omega)]; simp [h5]
    · rw [if_neg h2]
      have : (decide (b ≤ y) != decide (d ≤ y)) = false := by
        by_cases h3 : b ≤ y <;> by_cases h4 : d ≤ y <;> simp [h3, h4] <;> omega
      rw [this]; rfl

/-- What the law says of a box. -/
def boxIn (a b c d x y : Int) : Bool := decide (min a c ≤ x) && decide (x ≤ max a c) && decide (min b d ≤ y) && decide (y ≤ max b d)
theorem btw_eq (a b n : Int) : btw a b n = true ↔ min a b ≤ n ∧ n ≤ max a b := by unfold btw; simp
theorem quad_law {a b c d x y : Int} (ha : 0 ≤ a ∧ a ≤ 63) (hb : 0 ≤ b ∧ b ≤ 63) (hc : 0 ≤ c ∧ c ≤ 63) (hd : 0 ≤ d ∧ d ≤ 63) (hx : -20 ≤ x ∧ x ≤ 107) (hy : -20 ≤ y ∧ y ≤ 107) :
    (¬ (a = c ∨ b = d) → insideF [quad a b c d] x y = boxIn a b c d x y) ∧ ((a = c ∨ b = d) → insideF [quad a b c d] x y = (boxIn a b c d x y && onF [quad a b c d] x y)) := by
  have c1 : checkF [quad a b c d] = 0 := check_ok (c := 4) (by simp) (by simp) (by simp) fun l hl => by
    obtain rfl : l = _ := by simpa using hl
    refine ⟨by simp [quad], by simp [quad], fun p hp => ?_⟩
    unfold quad at hp
    unfold InWorld
    simp only [List.mem_cons, List.not_mem_nil, or_false] at hp
    rcases hp with rfl | rfl | rfl | rfl <;> dsimp only <;> omega
  have n1 := near_ok c1 (x := x) (y := y) (by omega) (by omega)
  have eo : onR (quad a b c d) x y (quad a b c d).length = (onE a b c b x y || onE c b c d x y || onE c d a d x y || onE a d a b x y) := by
    show (List.range 4).any (onEl (quad a b c d) x y) = _
    have e0 : onEl (quad a b c d) x y 0 = onE a b c b x y := rfl
    have e1 : onEl (quad a b c d) x y 1 = onE c b c d x y := rfl
    have e2 : onEl (quad a b c d) x y 2 = onE c d a d x y := rfl
    have e3 : onEl (quad a b c d) x y 3 = onE a d a b x y := by simp [onEl, quad, px, py]
    simp only [List.range_succ, List.range_zero, List.nil_append, List.any_append, List.any_cons, List.any_nil, Bool.or_false, e0, e1, e2, e3]
  have ec : crR (quad a b c d) x y (quad a b c d).length = ((((false != crE a b c b x y) != crE c b c d x y) != crE c d a d x y) != crE a d a b x y) := by
    show (List.range 4).foldl (fun o i => o != crEl (quad a b c d) x y i) false = _
    have e3 : crEl (quad a b c d) x y 3 = crE a d a b x y := by simp [crEl, quad, px, py]
    simp only [List.range_succ, List.range_zero, List.nil_append, List.foldl_append, List.foldl_cons, List.foldl_nil, e3]
    rfl
  unfold insideF onF
  rw [n1, one_on, one_cr, eo, ec, on_flat ha hb hc hx hy, on_steep hb hc hd hx hy, on_flat hc hd ha hx hy, on_steep hd ha hb hx hy, cr_flat, cr_steep hb hc hd hx hy, cr_flat, cr_steep hd ha hb hx hy]
  unfold straddle btw boxIn
  constructor
  · intro hn
    rw [Bool.eq_iff_iff]
    by_cases k1 : b ≤ y <;> by_cases k2 : d ≤ y <;> by_cases k3 : x < c <;> by_cases k4 : x < a <;> simp [k1, k2, k3, k4] <;> omega
  · intro hn
    rw [Bool.eq_iff_iff]
    by_cases k1 : b ≤ y <;> by_cases k2 : d ≤ y <;> by_cases k3 : x < c <;> by_cases k4 : x < a <;> simp [k1, k2, k3, k4] <;> omega

/-! ### A polygon's box -/
theorem bx_mono (l : List Pt) (s : Bx) : ∀ j, j ≤ l.length → (bxR l s j).a ≤ s.a ∧ (bxR l s j).b ≤ s.b ∧ s.c ≤ (bxR l s j).c ∧ s.d ≤ (bxR l s j).d ∧
    ∀ i, i < j → (bxR l s j).a ≤ px l i ∧ px l i ≤ (bxR l s j).c ∧ (bxR l s j).b ≤ py l i ∧ py l i ≤ (bxR l s j).d
  | 0, _ => ⟨Int.le_refl _, Int.le_refl _, Int.le_refl _, Int.le_refl _, fun i hi => by omega⟩
  | j + 1, h => by
    obtain ⟨i1, i2, i3, i4, ih⟩ := bx_mono l s j (by omega)
    rw [bxR_succ]
    generalize bxR l s j = t at *
    unfold bstep
    dsimp only
    refine ⟨by omega, by omega, by omega, by omega, fun i hi => ?_⟩
    by_cases e : i = j
    · subst e; omega
    · have := ih i (by omega); omega
theorem bxTo_mono (ls : List (List Pt)) : ∀ k, ∀ i, i < k → ∀ j, j < (rg ls i).length → (bxTo ls k).a ≤ px (rg ls i) j ∧ px (rg ls i) j ≤ (bxTo ls k).c ∧ (bxTo ls k).b ≤ py (rg ls i) j ∧ py (rg ls i) j ≤ (bxTo ls k).d
  | 0, i, hi, _, _ => by omega
  | k + 1, i, hi, j, hj => by
    obtain ⟨i1, i2, i3, i4, ih⟩ := bx_mono (rg ls k) (bxTo ls k) _ (Nat.le_refl _)
    rw [bxTo_succ]
    by_cases e : i = k
    · subst e; exact ih j hj
    · have := bxTo_mono ls k i (by omega) j hj
      omega
theorem ring_below {l : List Pt} {x y : Int} (h : ∀ p ∈ l, y < p.2) : crR l x y l.length = false ∧ onR l x y l.length = false := by
  constructor
  · rw [crR_congr l x y l.length (fun _ => false) (fun i hi => by
      have g1 := h _ (px_mem hi)
      have g2 := h _ (px_mem (next_lt hi))
      unfold crEl crE
      dsimp only at g1 g2
      rw [if_neg (by omega), if_neg (by omega)])]
    exact fold_false _
  · unfold onR
    rw [List.any_eq_false]
    intro i hi
    have hi : i < l.length := by simpa using hi
    unfold onEl
    rw [on_far (.inr (.inr (.inl ⟨h _ (px_mem hi), h _ (px_mem (next_lt hi))⟩)))]
    simp
theorem ring_above {l : List Pt} {x y : Int} (h : ∀ p ∈ l, p.2 < y) : crR l x y l.length = false ∧ onR l x y l.length = false := by
  constructor
  · rw [crR_congr l x y l.length (fun _ => false) (fun i hi => by
      have g1 := h _ (px_mem hi)
      have g2 := h _ (px_mem (next_lt hi))
      unfold crEl crE
      dsimp only at g1 g2
      rw [if_neg (by omega), if_neg (by omega)])]
    exact fold_false _
  · unfold onR
    rw [List.any_eq_false]
    intro i hi
    have hi : i < l.length := by simpa using hi
    unfold onEl
    rw [on_far (.inr (.inr (.inr ⟨h _ (px_mem hi), h _ (px_mem (next_lt hi))⟩)))]
    simp
theorem mem_px {l : List Pt} {p : Pt} (h : p ∈ l) : ∃ j, j < l.length ∧ px l j = p.1 ∧ py l j = p.2 := by
  obtain ⟨j, hj, e⟩ := List.getElem_of_mem h
  exact ⟨j, hj, by unfold px; simp [List.getD_eq_getElem?_getD, hj, e], by unfold py; simp [List.getD_eq_getElem?_getD, hj, e]⟩
/-- What lies outside of a polygon's box is not inside. -/
theorem box_out {ls : List (List Pt)} {size : Int} (hsz : size ≤ 1000) (h0 : 0 < ls.length) (hT : TameOK size ls) {x y : Int} (hx : -2147483648 ≤ x ∧ x ≤ 2147483648) (hy : -2147483648 ≤ y ∧ y ≤ 2147483648)
    (ho : ¬ ((boxF ls).a ≤ x ∧ x ≤ (boxF ls).c ∧ (boxF ls).b ≤ y ∧ y ≤ (boxF ls).d)) : insideF ls x y = false := by
  have hin : ∀ l ∈ ls, 3 ≤ l.length ∧ l.length ≤ 6 ∧ AllIn l := fun l hl => by
    obtain ⟨h1, h2, h3⟩ := hT.2 l hl
    exact ⟨h1, h2, tame_in (size := size) h3 (by omega)⟩
  have hlen := hT.1
  have c1 : checkF ls = 0 := check_ok (c := 6) h0 (by omega) (by omega) hin
  unfold boxF at ho
  rw [if_pos c1] at ho
  have hall : ∀ l ∈ ls, ∀ p ∈ l, (bxTo ls ls.length).a ≤ p.1 ∧ p.1 ≤ (bxTo ls ls.length).c ∧ (bxTo ls ls.length).b ≤ p.2 ∧ p.2 ≤ (bxTo ls ls.length).d := fun l hl p hp => by
    obtain ⟨i, hi, e⟩ := List.getElem_of_mem hl
    obtain ⟨j, hj, e1, e2⟩ := mem_px hp
    have er : rg ls i = l := by unfold rg; simp [List.getD_eq_getElem?_getD, hi, e]
    have := bxTo_mono ls ls.length i hi j (by rw [er]; exact hj)
    rw [er, e1, e2] at this
    exact this
  generalize bxTo ls ls.length = s at *
  have hr : ∀ l ∈ ls, crR l x y l.length = false ∧ onR l x y l.length = false := fun l hl => by
    have hp := hall l hl
    obtain ⟨h3, h6, hli⟩ := hin l hl
    by_cases k1 : x < s.a
    · exact ring_right hli (by omega) hx hy fun p h => by have := hp p h; omega
    · by_cases k2 : s.c < x
      · exact ring_left hli hx hy fun p h => by have := hp p h; omega
      · by_cases k3 : y < s.b
        · exact ring_below fun p h => by have := hp p h; omega
        · exact ring_above fun p h => by have := hp p h; omega
  have eo : onTo ls x y ls.length = false := by
    unfold onTo
    rw [List.take_length, List.any_eq_false]
    intro l hl
    rw [(hr l hl).2]; simp
  have ec : crTo ls x y ls.length = false := by
    unfold crTo
    rw [List.take_length]
    have : ∀ (r : List (List Pt)), (∀ l ∈ r, crR l x y l.length = false) → r.foldl (fun o l => o != crR l x y l.length) false = false := by
      intro r
      induction r with
      | nil => intro _; rfl
      | cons l r ih => intro h; rw [List.foldl_cons, h l (by simp)]; exact ih fun l hl => h l (by simp [hl])
    exact this ls fun l hl => (hr l hl).1
  unfold insideF
  rw [eo, ec]; simp
/-- The box of tame rings lies where they lie. -/
theorem box_tame {ls : List (List Pt)} {size : Int} (hsz : size ≤ 1000) (h0 : 0 < ls.length) (hT : TameOK size ls) : 500000 ≤ (boxF ls).a ∧ (boxF ls).a ≤ 501000 ∧ 500000 ≤ (boxF ls).b ∧ (boxF ls).b ≤ 501000 ∧ (boxF ls).a ≤ (boxF ls).c ∧ (boxF ls).b ≤ (boxF ls).d ∧ (boxF ls).c ≤ 501000 ∧ (boxF ls).d ≤ 501000 := by
  have hin : ∀ l ∈ ls, 3 ≤ l.length ∧ l.length ≤ 6 ∧ AllIn l := fun l hl => by
    obtain ⟨h1, h2, h3⟩ := hT.2 l hl
    exact ⟨h1, h2, tame_in (size := size) h3 (by omega)⟩
  have hlen := hT.1
  have c1 : checkF ls = 0 := check_ok (c := 6) h0 (by omega) (by omega) hin
  have hm0 : rg ls 0 ∈ ls := by unfold rg; simp [List.getD_eq_getElem?_getD, h0]
  have h30 := (hin _ hm0).1
  unfold boxF
  rw [if_pos c1]
  have hbx : ∀ k, k ≤ ls.length → ∀ s, s = bxTo ls k → 500000 ≤ s.a ∧ s.a ≤ 501000 ∧ 500000 ≤ s.b ∧ s.b ≤ 501000 ∧ s.a ≤ s.c ∧ s.b ≤ s.d ∧ s.c ≤ 501000 ∧ s.d ≤ 501000 := by
    intro k
    induction k with
    | zero =>
      intro _ s hs
      subst hs
      have := (hT.2 _ hm0).2.2 _ (px_mem (l := rg ls 0) (j := 0) (by omega))
      dsimp only at this
      show 500000 ≤ px (rg ls 0) 0 ∧ px (rg ls 0) 0 ≤ 501000 ∧ 500000 ≤ py (rg ls 0) 0 ∧ py (rg ls 0) 0 ≤ 501000 ∧ px (rg ls 0) 0 ≤ px (rg ls 0) 0 ∧ py (rg ls 0) 0 ≤ py (rg ls 0) 0 ∧ px (rg ls 0) 0 ≤ 501000 ∧ py (rg ls 0) 0 ≤ 501000
      omega
    | succ k ih =>
      intro hk s hs
      have i1 := ih (by omega) _ rfl
      rw [bxTo_succ] at hs
      have hmk : rg ls k ∈ ls := by unfold rg; simp [List.getD_eq_getElem?_getD, show k < ls.length by omega]
      have ht := (hT.2 _ hmk).2.2
      generalize rg ls k = l at *
      generalize bxTo ls k = s0 at *
      have : ∀ j, j ≤ l.length → ∀ s, s = bxR l s0 j → 500000 ≤ s.a ∧ s.a ≤ 501000 ∧ 500000 ≤ s.b ∧ s.b ≤ 501000 ∧ s.a ≤ s.c ∧ s.b ≤ s.d ∧ s.c ≤ 501000 ∧ s.d ≤ 501000 := by
        intro j
        induction j with
        | zero => intro _ s hs; subst hs; exact i1
        | succ j ihj =>
          intro hj s hs
          have i2 := ihj (by omega) _ rfl
          rw [bxR_succ] at hs
          have hp := ht _ (px_mem (l := l) (j := j) (by omega))
          dsimp only at hp
          subst hs
          generalize bxR l s0 j = s1 at *
          unfold bstep
          dsimp only
          omega
      exact this _ (Nat.le_refl _) s hs
  exact hbx ls.length (Nat.le_refl _) _ rfl
end Go.Proofs.Ytnnfkdajbaicoaa
