/- The plain law of PolyMoved: rings moved by the same steps. No Go in sight. -/
import Derived.Test.YtnnfkdajbaicoaaPolyP
import Derived.Test.YtnnfkdajbaicoaaPolyF
import Derived.Test.YtnnfkdajbaicoaaPolyG
namespace Go.Proofs.Ytnnfkdajbaicoaa
open Go.RowKit

/-- The shoelace's term of an edge. -/
def shoeV (l : List Pt) (j : Nat) : Int := px l j * py l ((j + 1) % l.length) - px l ((j + 1) % l.length) * py l j
theorem area_in {l : List Pt} (h : AllIn l) (h6 : l.length ≤ 6) : ∀ j, j ≤ l.length → areaTo l j = (List.range j).foldl (fun s i => s + shoeV l i) 0 ∧ -(1152921504606846976 * (j : Int)) ≤ areaTo l j ∧ areaTo l j ≤ 1152921504606846976 * (j : Int)
  | 0, _ => ⟨rfl, by simp [areaTo], by simp [areaTo]⟩
  | j + 1, hj => by
    obtain ⟨i1, i2, i3⟩ := area_in h h6 j (by omega)
    obtain ⟨p1, p2⟩ := h.at (j := j) (by omega)
    obtain ⟨q1, q2⟩ := h.at (next_lt (n := l.length) (j := j) (by omega))
    have m1 := mul_abs_le (u := px l j) (v := py l ((j + 1) % l.length)) (U := 1073741824) (V := 1073741824) (by omega) (by omega) (by omega) (by omega)
    have m2 := mul_abs_le (u := px l ((j + 1) % l.length)) (v := py l j) (U := 1073741824) (V := 1073741824) (by omega) (by omega) (by omega) (by omega)
    have n1 : 0 ≤ px l j * py l ((j + 1) % l.length) := Int.mul_nonneg p1.1 q2.1
    have n2 : 0 ≤ px l ((j + 1) % l.length) * py l j := Int.mul_nonneg q1.1 p2.1
    have hj6 : (j : Int) ≤ 5 := by omega
    rw [areaTo_succ, List.range_succ, List.foldl_append]
    simp only [List.foldl_cons, List.foldl_nil]
    rw [← i1]
    unfold stepA shoeV
    generalize px l j * py l ((j + 1) % l.length) = a1 at *
    generalize px l ((j + 1) % l.length) * py l j = a2 at *
    generalize areaTo l j = s at *
    rw [IntWalk.wrap64_in a1 (by omega), IntWalk.wrap64_in a2 (by omega), IntWalk.wrap64_in (a1 - a2) (by omega), IntWalk.wrap64_in (s + (a1 - a2)) (by omega)]
    refine ⟨rfl, by push_cast; omega, by push_cast; omega⟩
/-- A sum of differences along a way that comes back. -/
theorem sum_tele (F : Nat → Int) : ∀ n, (List.range n).foldl (fun s i => s + (F (i + 1) - F i)) 0 = F n - F 0
  | 0 => by simp
  | n + 1 => by
    rw [List.range_succ, List.foldl_append, sum_tele F n]
    simp only [List.foldl_cons, List.foldl_nil]
    omega
theorem sum_split (f g h : Nat → Int) (n : Nat) : (List.range n).foldl (fun s i => s + (f i + g i + h i)) 0 = (List.range n).foldl (fun s i => s + f i) 0 + (List.range n).foldl (fun s i => s + g i) 0 + (List.range n).foldl (fun s i => s + h i) 0 := by
  induction n with
  | zero => simp
  | succ n ih =>
    rw [List.range_succ, List.foldl_append, List.foldl_append, List.foldl_append, List.foldl_append, ih]
    simp only [List.foldl_cons, List.foldl_nil]
    omega
theorem sum_mul (c : Int) (f : Nat → Int) (n : Nat) : (List.range n).foldl (fun s i => s + c * f i) 0 = c * (List.range n).foldl (fun s i => s + f i) 0 := by
  induction n with
  | zero => simp
  | succ n ih =>
    rw [List.range_succ, List.foldl_append, List.foldl_append, ih]
    simp only [List.foldl_cons, List.foldl_nil]
    rw [Int.mul_add]
theorem sum_congr {f g : Nat → Int} : ∀ n, (∀ i, i < n → f i = g i) → (List.range n).foldl (fun s i => s + f i) 0 = (List.range n).foldl (fun s i => s + g i) 0
  | 0, _ => rfl
  | n + 1, h => by
    rw [List.range_succ, List.foldl_append, List.foldl_append, sum_congr n fun i hi => h i (by omega)]
    simp only [List.foldl_cons, List.foldl_nil]
    rw [h n (by omega)]
theorem sum_cyc (f : Nat → Int) (n : Nat) (_h : 0 < n) : (List.range n).foldl (fun s i => s + (f ((i + 1) % n) - f i)) 0 = 0 := by
  have e : (List.range n).foldl (fun s i => s + (f ((i + 1) % n) - f i)) 0 = (List.range n).foldl (fun s i => s + ((fun k => f (k % n)) (i + 1) - (fun k => f (k % n)) i)) 0 :=
    sum_congr n fun i hi => by show _ = f ((i + 1) % n) - f (i % n); rw [Nat.mod_eq_of_lt hi]
  rw [e, sum_tele (fun k => f (k % n))]
  show f (n % n) - f (0 % n) = 0
  rw [Nat.mod_self, Nat.zero_mod]; omega
theorem shoe_moved {l : List Pt} {dx dy : Int} {j : Nat} (hj : j < l.length) :
    shoeV (moved dx dy l) j = shoeV l j + dx * (py l ((j + 1) % l.length) - py l j) + (-dy) * (px l ((j + 1) % l.length) - px l j) := by
  unfold shoeV
  have e1 := moved_at dx dy l hj
  have e2 := moved_at dx dy l (next_lt hj)
  rw [moved_length, e1.1, e1.2, e2.1, e2.2]
  generalize px l j = a
  generalize py l j = b
  generalize px l ((j + 1) % l.length) = c
  generalize py l ((j + 1) % l.length) = d
  simp only [Int.mul_add, Int.add_mul, Int.mul_sub, Int.neg_mul]
  rw [Int.mul_comm dy c, Int.mul_comm dy a, Int.mul_comm dx dy]
  omega
theorem area_moved {l : List Pt} {dx dy : Int} (h3 : 3 ≤ l.length) (h6 : l.length ≤ 6) (hl : AllIn l) (hm : AllIn (moved dx dy l)) : area2F (moved dx dy l) = area2F l := by
  have c1 : checkF [l] = 0 := check_ok (c := 6) (by simp) (by simp) (by simp) (by simp; exact ⟨h3, h6, hl⟩)
  have c2 : checkF [moved dx dy l] = 0 := check_ok (c := 6) (by simp) (by simp) (by simp) (by simp [moved_length]; exact ⟨h3, h6, hm⟩)
  unfold area2F
  rw [if_pos c1, if_pos c2, (area_in hl h6 _ (Nat.le_refl _)).1, (area_in hm (by rw [moved_length]; exact h6) _ (Nat.le_refl _)).1, moved_length,
    sum_congr (f := shoeV (moved dx dy l)) (g := fun j => shoeV l j + dx * (py l ((j + 1) % l.length) - py l j) + (-dy) * (px l ((j + 1) % l.length) - px l j)) l.length (fun i hi => shoe_moved hi),
    sum_split, sum_mul, sum_mul, sum_cyc (py l) _ (by omega), sum_cyc (px l) _ (by omega)]
  omega

theorem foldl_map_eq {α β : Type} (f g : β → α → β) (h : α → α) : ∀ (l : List α) (s : β), (∀ x ∈ l, ∀ s, f s (h x) = g s x) → (l.map h).foldl f s = l.foldl g s
  | [], _, _ => rfl
  | a :: l, s, e => by rw [List.map_cons, List.foldl_cons, List.foldl_cons, e a (by simp)]; exact foldl_map_eq f g h l _ fun x hx => e x (by simp [hx])
theorem any_map_eq {α : Type} (f g : α → Bool) (h : α → α) : ∀ (l : List α), (∀ x ∈ l, f (h x) = g x) → (l.map h).any f = l.any g
  | [], _ => rfl
  | a :: l, e => by rw [List.map_cons, List.any_cons, List.any_cons, e a (by simp), any_map_eq f g h l fun x hx => e x (by simp [hx])]

/-- Rings, moved, are rings. -/
theorem moved_in {dx dy : Int} (hx : 0 ≤ dx ∧ dx < 268435456) (hy : 0 ≤ dy ∧ dy < 268435456) {l : List Pt} (h : TameR' 60 l) : AllIn (moved dx dy l) := fun p hp => by
  unfold moved at hp
  obtain ⟨q, hq, rfl⟩ := List.mem_map.1 hp
  obtain ⟨g1, g2, g3, g4⟩ := h q hq
  exact ⟨by show 0 ≤ q.1 + dx; omega, by show q.1 + dx < _; omega, by show 0 ≤ q.2 + dy; omega, by show q.2 + dy < _; omega⟩
theorem rg_map (dx dy : Int) (ls : List (List Pt)) {k : Nat} (h : k < ls.length) : rg (ls.map (moved dx dy)) k = moved dx dy (rg ls k) := by
  unfold rg; simp [List.getD_eq_getElem?_getD, h]
def bmove (dx dy : Int) (s : Bx) : Bx := ⟨s.a + dx, s.b + dy, s.c + dx, s.d + dy⟩
theorem bstep_moved (dx dy : Int) (s : Bx) (x y : Int) : bstep (bmove dx dy s) (x + dx) (y + dy) = bmove dx dy (bstep s x y) := by
  unfold bstep bmove
  simp only [Bx.mk.injEq]
  omega
theorem bxR_moved (dx dy : Int) (l : List Pt) (s : Bx) : ∀ j, j ≤ l.length → bxR (moved dx dy l) (bmove dx dy s) j = bmove dx dy (bxR l s j)
  | 0, _ => rfl
  | j + 1, h => by
    have e := moved_at dx dy l (j := j) (by omega)
    rw [bxR_succ, bxR_succ, bxR_moved dx dy l s j (by omega), e.1, e.2, bstep_moved]
theorem bxTo_moved (dx dy : Int) {ls : List (List Pt)} (h0 : 0 < ls.length) (h3 : 0 < (rg ls 0).length) : ∀ k, k ≤ ls.length → bxTo (ls.map (moved dx dy)) k = bmove dx dy (bxTo ls k)
  | 0, _ => by
    show bx0 _ = bmove dx dy (bx0 ls)
    unfold bx0
    have e := moved_at dx dy (rg ls 0) h3
    rw [rg_map dx dy ls h0, e.1, e.2]; rfl
  | k + 1, h => by
    rw [bxTo_succ, bxTo_succ, bxTo_moved dx dy h0 h3 k (by omega), rg_map dx dy ls (by omega), moved_length, bxR_moved _ _ _ _ _ (Nat.le_refl _)]

theorem moved_rings {ls : List (List Pt)} (h0 : 0 < ls.length) (hT : TameOK 60 ls) {dx dy : Int} (hdx : 0 ≤ dx ∧ dx < 268435456) (hdy : 0 ≤ dy ∧ dy < 268435456) {x y : Int} (hx : 499999 ≤ x ∧ x ≤ 500060) (hy : 499999 ≤ y ∧ y ≤ 500060) :
    insideF (ls.map (moved dx dy)) (x + dx) (y + dy) = insideF ls x y ∧ onF (ls.map (moved dx dy)) (x + dx) (y + dy) = onF ls x y ∧ boxF (ls.map (moved dx dy)) = bmove dx dy (boxF ls) ∧
    (∀ l ∈ ls, area2F (moved dx dy l) = area2F l) ∧ 500000 ≤ (boxF ls).a ∧ (boxF ls).a ≤ 500060 ∧ 500000 ≤ (boxF ls).b ∧ (boxF ls).b ≤ 500060 ∧ 500000 ≤ (boxF ls).c ∧ (boxF ls).c ≤ 500060 ∧ 500000 ≤ (boxF ls).d ∧ (boxF ls).d ≤ 500060 := by
  have hin : ∀ l ∈ ls, 3 ≤ l.length ∧ l.length ≤ 6 ∧ AllIn l := fun l hl => by
    obtain ⟨h1, h2, h3⟩ := hT.2 l hl
    exact ⟨h1, h2, tame_in (size := 60) h3 (by omega)⟩
  have hmi : ∀ l ∈ ls, AllIn (moved dx dy l) := fun l hl => moved_in hdx hdy (hT.2 l hl).2.2
  have hlen := hT.1
  have c1 : checkF ls = 0 := check_ok (c := 6) h0 (by omega) (by omega) hin
  have c2 : checkF (ls.map (moved dx dy)) = 0 := check_ok (c := 6) (by simpa using h0) (by simp; omega) (by simp; omega) fun l' hl' => by
    obtain ⟨l, hl, rfl⟩ := List.mem_map.1 hl'
    obtain ⟨g1, g2, _⟩ := hin l hl
    exact ⟨by rw [moved_length]; exact g1, by rw [moved_length]; exact g2, hmi l hl⟩
  have hr : ∀ l ∈ ls, _ := fun l hl => ring_moved (x := x) (y := y) (hin l hl).2.2 (hmi l hl) (by omega) (by omega) (by omega) (by omega)
  have n1 := near_ok c1 (x := x) (y := y) (by omega) (by omega)
  have n2 := near_ok c2 (x := x + dx) (y := y + dy) (by omega) (by omega)
  have eo : onTo (ls.map (moved dx dy)) (x + dx) (y + dy) (ls.map (moved dx dy)).length = onTo ls x y ls.length := by
    unfold onTo
    rw [List.take_length, List.take_length]
    exact any_map_eq _ _ _ ls fun l hl => by rw [moved_length]; exact (hr l hl).1
  have ec : crTo (ls.map (moved dx dy)) (x + dx) (y + dy) (ls.map (moved dx dy)).length = crTo ls x y ls.length := by
    unfold crTo
    rw [List.take_length, List.take_length]
    exact foldl_map_eq _ _ _ ls _ fun l hl s => by rw [moved_length, (hr l hl).2]
  have hm0 : rg ls 0 ∈ ls := by unfold rg; simp [List.getD_eq_getElem?_getD, h0]
  have h30 := (hin _ hm0).1
  have eb : boxF (ls.map (moved dx dy)) = bmove dx dy (boxF ls) := by
    unfold boxF
    rw [if_pos c1, if_pos c2, List.length_map]
    exact bxTo_moved dx dy h0 (by omega) _ (Nat.le_refl _)
  have hbx : ∀ k, k ≤ ls.length → ∀ s, s = bxTo ls k → 500000 ≤ s.a ∧ s.a ≤ 500060 ∧ 500000 ≤ s.b ∧ s.b ≤ 500060 ∧ 500000 ≤ s.c ∧ s.c ≤ 500060 ∧ 500000 ≤ s.d ∧ s.d ≤ 500060 := by
    intro k
    induction k with
    | zero =>
      intro _ s hs
      subst hs
      have := (hT.2 _ hm0).2.2 _ (px_mem (l := rg ls 0) (j := 0) (by omega))
      dsimp only at this
      show 500000 ≤ px (rg ls 0) 0 ∧ px (rg ls 0) 0 ≤ 500060 ∧ 500000 ≤ py (rg ls 0) 0 ∧ py (rg ls 0) 0 ≤ 500060 ∧ 500000 ≤ px (rg ls 0) 0 ∧ px (rg ls 0) 0 ≤ 500060 ∧ 500000 ≤ py (rg ls 0) 0 ∧ py (rg ls 0) 0 ≤ 500060
      omega
    | succ k ih =>
      intro hk s hs
      have i1 := ih (by omega) _ rfl
      rw [bxTo_succ] at hs
      have hmk : rg ls k ∈ ls := by unfold rg; simp [List.getD_eq_getElem?_getD, show k < ls.length by omega]
      have ht := (hT.2 _ hmk).2.2
      generalize rg ls k = l at *
      generalize bxTo ls k = s0 at *
      have : ∀ j, j ≤ l.length → ∀ s, s = bxR l s0 j → 500000 ≤ s.a ∧ s.a ≤ 500060 ∧ 500000 ≤ s.b ∧ s.b ≤ 500060 ∧ 500000 ≤ s.c ∧ s.c ≤ 500060 ∧ 500000 ≤ s.d ∧ s.d ≤ 500060 := by
        intro j
        induction j with
        | zero => intro _ s hs; subst hs; exact i1
        | succ j ihj =>
          intro hj s hs
          have i2 := ihj (by omega) _ rfl
          rw [bxR_succ] at hs
          have hp := ht _ (px_mem (l := l) (j := j) (by omega))
          dsimp only at hp
          subst hs
          generalize bxR l s0 j = s1 at *
          unfold bstep
          dsimp only
          omega
      exact this _ (Nat.le_refl _) s hs
  have hb := hbx ls.length (Nat.le_refl _) _ rfl
  refine ⟨?_, ?_, eb, fun l hl => area_moved (hin l hl).1 (hin l hl).2.1 (hin l hl).2.2 (hmi l hl), ?_⟩
  · unfold insideF; rw [n1, n2, eo, ec]
  · unfold onF; rw [n1, n2, eo]
  · unfold boxF; rw [if_pos c1]; exact hb
end Go.Proofs.Ytnnfkdajbaicoaa
