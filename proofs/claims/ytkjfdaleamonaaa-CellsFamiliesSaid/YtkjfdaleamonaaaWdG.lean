/- Contracts of package cell: shape, Way, Ok. -/
import Derived.Test.YtkjfdaleamonaaaWdF
import Derived.Test.YtkjfdaleamonaaaWdW
import Derived.Test.YtkjfdaleamonaaaLex7
import Derived.StillTailTactics
namespace Go.Proofs.Ytkjfdaleamonaaa
open Go.RowKit Go.Lib Wd

/-- A cell, as a value. -/
abbrev vC (r : Int) (z : E2) : Value := .agg #[.int .i64 r, .int .i64 z.1, .int .i64 z.2]
set_option maxHeartbeats 2000000 in
theorem shape_any (r : Int) (z : E2) (w : World) :
    Calls Try.prog 90 #[vC r z] w fun e w' => e = .returned (.bool (shapeB r z)) ∧ Below w.heap.size w w' := by
  obtain ⟨a, b⟩ := z
  have W1 := Lib.hid (within_any a 1073741824 (by omega) (by omega))
  have W2 := Lib.hid (within_any b 1073741824 (by omega) (by omega))
  have HS : Hid (shapeB r (a, b) = (decide (0 ≤ r) && decide (r ≤ 12) && (decide (-1073741824 ≤ a) && decide (a ≤ 1073741824)) && (decide (-1073741824 ≤ b) && decide (b ≤ 1073741824)))) := rfl
  simp only [vC] at *
  generalize shapeB r (a, b) = s at *
  generalize (decide (-1073741824 ≤ a) && decide (a ≤ 1073741824)) = p at *
  generalize (decide (-1073741824 ≤ b) && decide (b ≤ 1073741824)) = q at *
  have hB : Hid (Below w.heap.size w (w.alloc (.cells #[.int .i64 r, .int .i64 a, .int .i64 b] 29))) := (Below.refl _ _).alloc (Nat.le_refl _) _
  by_cases h0 : 0 ≤ r
  · by_cases h1 : r ≤ 12
    · have HV : Hid (s = (p && q)) := by show _ = _; rw [HS.out, decide_eq_true h0, decide_eq_true h1]; simp
      clear HS
      cases p
      · go_enter Try.func90, Try.ntmps90
        go_wp2_with fail
        refine (W1.out _).mono ?_
        rintro e w1 ⟨rfl, rfl⟩
        go_wp2
        go_ret
        exact ⟨by rw [HV.out]; rfl, hB.out⟩
      · go_enter Try.func90, Try.ntmps90
        go_wp2_with fail
        refine (W1.out _).mono ?_
        rintro e w1 ⟨rfl, rfl⟩
        go_wp2_with fail
        refine (W2.out _).mono ?_
        rintro e w1 ⟨rfl, rfl⟩
        go_wp2
        go_ret
        exact ⟨by rw [HV.out, Bool.true_and]; rfl, hB.out⟩
    · have HV : Hid (s = false) := by show _ = _; rw [HS.out, decide_eq_false h1]; simp
      have q1 : decide (r ≤ 12) = false := decide_eq_false h1
      clear HS
      go_enter Try.func90, Try.ntmps90
      go_wp2
      go_ret
      exact ⟨by rw [HV.out]; rfl, hB.out⟩
  · have HV : Hid (s = false) := by show _ = _; rw [HS.out, decide_eq_false h0]; simp
    have q1 : decide (0 ≤ r) = false := decide_eq_false h0
    clear HS
    go_enter Try.func90, Try.ntmps90
    go_wp2
    go_ret
    exact ⟨by rw [HV.out]; rfl, hB.out⟩
theorem in_any (n : Int) (w : World) :
    Calls Try.prog 92 #[.int .i64 n] w fun e w' => e = .returned (.bool (decide (-512 ≤ n) && decide (n < 512))) ∧ w' = w := by
  by_cases h0 : -512 ≤ n
  · obtain ⟨b, hb⟩ : ∃ b, decide (n < 512) = b := ⟨_, rfl⟩
    have HV : Hid ((decide (-512 ≤ n) && decide (n < 512)) = b) := by show _ = _; rw [decide_eq_true h0, hb]; rfl
    rw [HV.out]
    clear HV
    cases b
    · go_enter Try.func92, Try.ntmps92
      go_wp2
      go_ret
      exact ⟨rfl, rfl⟩
    · go_enter Try.func92, Try.ntmps92
      go_wp2
      go_ret
      exact ⟨rfl, rfl⟩
  · have q1 : decide (-512 ≤ n) = false := decide_eq_false h0
    have HV : Hid ((decide (-512 ≤ n) && decide (n < 512)) = false) := by show _ = _; rw [q1]; rfl
    rw [HV.out]
    clear HV
    go_enter Try.func92, Try.ntmps92
    go_wp2
    go_ret
    exact ⟨rfl, rfl⟩
theorem Turn.mono {S T : Nat → Prop} {w w' : World} (h : Turn S w w') (hs : ∀ k, S k → T k) : Turn T w w' := ⟨h.1, h.2.1, h.2.2.1, h.2.2.2.1, fun k hk hn => h.2.2.2.2 k hk fun h2 => hn (hs k h2)⟩
/-- The thirteen numbers of an array. -/
abbrev vD (f : Nat → Int) : Value := .agg #[.int .i64 (f 0), .int .i64 (f 1), .int .i64 (f 2), .int .i64 (f 3), .int .i64 (f 4), .int .i64 (f 5), .int .i64 (f 6), .int .i64 (f 7), .int .i64 (f 8), .int .i64 (f 9), .int .i64 (f 10), .int .i64 (f 11), .int .i64 (f 12)]
def Arr (w : World) (b : Nat) (f : Nat → Int) : Prop := ∃ A : Array Value, w.heap[b]? = some (.cells A 104 (0, 0)) ∧ A.size = 13 ∧ ∀ k, k < 13 → A[k]? = some (.int .i64 (f k))
theorem Arr.lt {w : World} {b : Nat} {f : Nat → Int} (h : Arr w b f) : b < w.heap.size := by obtain ⟨A, h, _⟩ := h; exact (Array.getElem?_eq_some_iff.1 h).1
theorem Arr.turn {S : Nat → Prop} {w w' : World} {b : Nat} {f : Nat → Int} (h : Arr w b f) (ht : Turn S w w') (hs : ¬ S b) : Arr w' b f := by
  have hl := h.lt
  obtain ⟨A, h, h2⟩ := h
  exact ⟨A, (ht.2.2.2.2 b hl hs).trans h, h2⟩
theorem Arr.later {w w' : World} {b : Nat} {f : Nat → Int} (h : Arr w b f) (hb : Below w.heap.size w w') : Arr w' b f := h.turn (Turn.of_below (S := fun _ => False) hb) (fun h => h)
theorem Arr.cell {w : World} {b : Nat} {f : Nat → Int} (h : Arr w b f) {k : Nat} (hk : k < 13) : w.cell? ⟨b, k, none⟩ = some (.int .i64 (f k)) ∧ w.frozen? ⟨b, k, none⟩ = false := by
  obtain ⟨A, h, hs, h2⟩ := h
  have := h2 k hk
  exact ⟨by simp [World.cell?, h, this], by simp [World.frozen?, h]⟩
theorem Arr.put {w : World} {b : Nat} {f : Nat → Int} (h : Arr w b f) {k : Nat} (_hk : k < 13) (v : Int) : Arr (w.setCell ⟨b, k, none⟩ (.int .i64 v)) b (fun j => if j = k then v else f j) ∧ Turn (fun q => q = b) w (w.setCell ⟨b, k, none⟩ (.int .i64 v)) := by
  refine ⟨?_, (Turn.refl (fun q => q = b) w).setCell (a := ⟨b, k, none⟩) rfl _⟩
  obtain ⟨A, h, hs, h2⟩ := h
  refine ⟨A.setIfInBounds k (.int .i64 v), ?_, by simpa using hs, fun j hj => ?_⟩
  · rw [Sort.setCell_eq]
    simp [Sort.mapBlock, Array.getElem?_modify, h, Sort.onCells]
  · by_cases e : j = k
    · subst e
      simp only [if_pos]
      rw [Array.getElem?_setIfInBounds_self_of_lt (by omega)]
    · simp only [if_neg e]
      rw [Array.getElem?_setIfInBounds_ne (fun h => e h.symm)]
      exact h2 j hj
theorem Arr.congr {w : World} {b : Nat} {f g : Nat → Int} (h : Arr w b f) (e : ∀ k, k < 13 → f k = g k) : Arr w b g := by
  obtain ⟨A, h, hs, h2⟩ := h
  exact ⟨A, h, hs, fun k hk => by rw [← e k hk]; exact h2 k hk⟩
theorem Arr.zero {w : World} {b : Nat} (h : w.heap[b]? = some (.cells #[.int .i64 0, .int .i64 0, .int .i64 0, .int .i64 0, .int .i64 0, .int .i64 0, .int .i64 0, .int .i64 0, .int .i64 0, .int .i64 0, .int .i64 0, .int .i64 0, .int .i64 0] 104 (0, 0))) : Arr w b fun _ => 0 :=
  ⟨_, h, rfl, fun k hk => by
    rcases (show k = 0 ∨ k = 1 ∨ k = 2 ∨ k = 3 ∨ k = 4 ∨ k = 5 ∨ k = 6 ∨ k = 7 ∨ k = 8 ∨ k = 9 ∨ k = 10 ∨ k = 11 ∨ k = 12 by omega) with rfl | rfl | rfl | rfl | rfl | rfl | rfl | rfl | rfl | rfl | rfl | rfl | rfl <;> rfl⟩
theorem Arr.cells {w : World} {b : Nat} {f : Nat → Int} (h : Arr w b f) : w.cell? ⟨b, 0, none⟩ = some (.int .i64 (f 0)) ∧ w.cell? ⟨b, 1, none⟩ = some (.int .i64 (f 1)) ∧ w.cell? ⟨b, 2, none⟩ = some (.int .i64 (f 2)) ∧ w.cell? ⟨b, 3, none⟩ = some (.int .i64 (f 3)) ∧ w.cell? ⟨b, 4, none⟩ = some (.int .i64 (f 4)) ∧ w.cell? ⟨b, 5, none⟩ = some (.int .i64 (f 5)) ∧ w.cell? ⟨b, 6, none⟩ = some (.int .i64 (f 6)) ∧ w.cell? ⟨b, 7, none⟩ = some (.int .i64 (f 7)) ∧ w.cell? ⟨b, 8, none⟩ = some (.int .i64 (f 8)) ∧ w.cell? ⟨b, 9, none⟩ = some (.int .i64 (f 9)) ∧ w.cell? ⟨b, 10, none⟩ = some (.int .i64 (f 10)) ∧ w.cell? ⟨b, 11, none⟩ = some (.int .i64 (f 11)) ∧ w.cell? ⟨b, 12, none⟩ = some (.int .i64 (f 12)) := ⟨(h.cell (k := 0) (by decide)).1, (h.cell (k := 1) (by decide)).1, (h.cell (k := 2) (by decide)).1, (h.cell (k := 3) (by decide)).1, (h.cell (k := 4) (by decide)).1, (h.cell (k := 5) (by decide)).1, (h.cell (k := 6) (by decide)).1, (h.cell (k := 7) (by decide)).1, (h.cell (k := 8) (by decide)).1, (h.cell (k := 9) (by decide)).1, (h.cell (k := 10) (by decide)).1, (h.cell (k := 11) (by decide)).1, (h.cell (k := 12) (by decide)).1⟩
theorem Arr.frozen {w : World} {b : Nat} {f : Nat → Int} (h : Arr w b f) : w.frozen? ⟨b, 0, none⟩ = false ∧ w.frozen? ⟨b, 1, none⟩ = false ∧ w.frozen? ⟨b, 2, none⟩ = false ∧ w.frozen? ⟨b, 3, none⟩ = false ∧ w.frozen? ⟨b, 4, none⟩ = false ∧ w.frozen? ⟨b, 5, none⟩ = false ∧ w.frozen? ⟨b, 6, none⟩ = false ∧ w.frozen? ⟨b, 7, none⟩ = false ∧ w.frozen? ⟨b, 8, none⟩ = false ∧ w.frozen? ⟨b, 9, none⟩ = false ∧ w.frozen? ⟨b, 10, none⟩ = false ∧ w.frozen? ⟨b, 11, none⟩ = false ∧ w.frozen? ⟨b, 12, none⟩ = false := ⟨(h.cell (k := 0) (by decide)).2, (h.cell (k := 1) (by decide)).2, (h.cell (k := 2) (by decide)).2, (h.cell (k := 3) (by decide)).2, (h.cell (k := 4) (by decide)).2, (h.cell (k := 5) (by decide)).2, (h.cell (k := 6) (by decide)).2, (h.cell (k := 7) (by decide)).2, (h.cell (k := 8) (by decide)).2, (h.cell (k := 9) (by decide)).2, (h.cell (k := 10) (by decide)).2, (h.cell (k := 11) (by decide)).2, (h.cell (k := 12) (by decide)).2⟩
theorem Arr.same {w : World} {b : Nat} {f : Nat → Int} (h : Arr w b f) {k : Nat} (hk : k < 13) : Arr (w.setCell ⟨b, k, none⟩ (.int .i64 (f k))) b f ∧ Turn (fun q => q = b) w (w.setCell ⟨b, k, none⟩ (.int .i64 (f k))) :=
  ⟨(h.put hk (f k)).1.congr fun j _ => by by_cases e : j = k <;> simp [e], (h.put hk (f k)).2⟩
theorem Arr.sames {w : World} {b : Nat} {f : Nat → Int} (h : Arr w b f) : Arr (((((((((((((w.setCell ⟨b, 0, none⟩ (.int .i64 (f 0))).setCell ⟨b, 1, none⟩ (.int .i64 (f 1))).setCell ⟨b, 2, none⟩ (.int .i64 (f 2))).setCell ⟨b, 3, none⟩ (.int .i64 (f 3))).setCell ⟨b, 4, none⟩ (.int .i64 (f 4))).setCell ⟨b, 5, none⟩ (.int .i64 (f 5))).setCell ⟨b, 6, none⟩ (.int .i64 (f 6))).setCell ⟨b, 7, none⟩ (.int .i64 (f 7))).setCell ⟨b, 8, none⟩ (.int .i64 (f 8))).setCell ⟨b, 9, none⟩ (.int .i64 (f 9))).setCell ⟨b, 10, none⟩ (.int .i64 (f 10))).setCell ⟨b, 11, none⟩ (.int .i64 (f 11))).setCell ⟨b, 12, none⟩ (.int .i64 (f 12))) b f ∧ Turn (fun q => q = b) w (((((((((((((w.setCell ⟨b, 0, none⟩ (.int .i64 (f 0))).setCell ⟨b, 1, none⟩ (.int .i64 (f 1))).setCell ⟨b, 2, none⟩ (.int .i64 (f 2))).setCell ⟨b, 3, none⟩ (.int .i64 (f 3))).setCell ⟨b, 4, none⟩ (.int .i64 (f 4))).setCell ⟨b, 5, none⟩ (.int .i64 (f 5))).setCell ⟨b, 6, none⟩ (.int .i64 (f 6))).setCell ⟨b, 7, none⟩ (.int .i64 (f 7))).setCell ⟨b, 8, none⟩ (.int .i64 (f 8))).setCell ⟨b, 9, none⟩ (.int .i64 (f 9))).setCell ⟨b, 10, none⟩ (.int .i64 (f 10))).setCell ⟨b, 11, none⟩ (.int .i64 (f 11))).setCell ⟨b, 12, none⟩ (.int .i64 (f 12))) := by
  have h0 := h.same (k := 0) (by decide)
  have h1 := h0.1.same (k := 1) (by decide)
  have h2 := h1.1.same (k := 2) (by decide)
  have h3 := h2.1.same (k := 3) (by decide)
  have h4 := h3.1.same (k := 4) (by decide)
  have h5 := h4.1.same (k := 5) (by decide)
  have h6 := h5.1.same (k := 6) (by decide)
  have h7 := h6.1.same (k := 7) (by decide)
  have h8 := h7.1.same (k := 8) (by decide)
  have h9 := h8.1.same (k := 9) (by decide)
  have h10 := h9.1.same (k := 10) (by decide)
  have h11 := h10.1.same (k := 11) (by decide)
  have h12 := h11.1.same (k := 12) (by decide)
  exact ⟨h12.1, ((((((((((((h0.2.trans h1.2 fun _ _ h => h).trans h2.2 fun _ _ h => h).trans h3.2 fun _ _ h => h).trans h4.2 fun _ _ h => h).trans h5.2 fun _ _ h => h).trans h6.2 fun _ _ h => h).trans h7.2 fun _ _ h => h).trans h8.2 fun _ _ h => h).trans h9.2 fun _ _ h => h).trans h10.2 fun _ _ h => h).trans h11.2 fun _ _ h => h).trans h12.2 fun _ _ h => h)⟩
/-- What the last statement of Way may turn. -/
def Gb (E A : Nat) (x : E2) (f : Nat → Int) (w w' : World) : Prop := Turn (fun q => q = E ∨ q = A) w w' ∧ (Arr w A f → Arr w' A f) ∧ ((∃ u v, Two2 w E u v) → ∃ u v, Two2 w' E u v) ∧ (Two2 w E (.int .i64 x.1) (.int .i64 x.2) → Two2 w' E (.int .i64 x.1) (.int .i64 x.2))
theorem Gb.refl (E A : Nat) (x : E2) (f : Nat → Int) (w : World) : Gb E A x f w w := ⟨Turn.refl _ _, fun h => h, fun h => h, fun h => h⟩
theorem Gb.trans {E A : Nat} {x : E2} {f : Nat → Int} {w w1 w2 : World} (h : Gb E A x f w w1) (h2 : Gb E A x f w1 w2) : Gb E A x f w w2 := ⟨h.1.trans h2.1 fun _ _ h => h, fun ha => h2.2.1 (h.2.1 ha), fun ha => h2.2.2.1 (h.2.2.1 ha), fun ha => h2.2.2.2 (h.2.2.2 ha)⟩
theorem Gb.arr {E A : Nat} {x : E2} {f : Nat → Int} {w w' : World} (hA : Arr w A f → Arr w' A f) (ht : Turn (fun q => q = A) w w') (hne : E ≠ A) (hE : E < w.heap.size) : Gb E A x f w w' :=
  ⟨ht.mono fun _ h => .inr h, hA, fun ⟨u, v, h⟩ => ⟨u, v, h.turn ht hE hne⟩, fun h => h.turn ht hE hne⟩
theorem Gb.put {E A : Nat} {x : E2} {f : Nat → Int} {w : World} (hE : ∃ u v, Two2 w E u v) (hne : E ≠ A) : Gb E A x f w ((w.setCell ⟨E, 0, none⟩ (.int .i64 x.1)).setCell ⟨E, 1, none⟩ (.int .i64 x.2)) ∧ Two2 ((w.setCell ⟨E, 0, none⟩ (.int .i64 x.1)).setCell ⟨E, 1, none⟩ (.int .i64 x.2)) E (.int .i64 x.1) (.int .i64 x.2) := by
  obtain ⟨u, v, h⟩ := hE
  have hp := h.put (.int .i64 x.1) (.int .i64 x.2)
  exact ⟨⟨hp.2.mono fun _ h => .inl h, fun ha => ha.turn hp.2 (fun e => hne e.symm), fun _ => ⟨_, _, hp.1⟩, fun _ => hp.1⟩, hp.1⟩
/-- Nothing has turned but an array, which is as it was or as it shall be. -/
def Ga (A : Nat) (f g : Nat → Int) (w w' : World) : Prop := Turn (fun q => q = A) w w' ∧ (Arr w A f → Arr w' A f ∨ Arr w' A g) ∧ (Arr w A g → Arr w' A g)
theorem Ga.refl (A : Nat) (f g : Nat → Int) (w : World) : Ga A f g w w := ⟨Turn.refl _ _, fun h => .inl h, fun h => h⟩
theorem Ga.trans {A : Nat} {f g : Nat → Int} {w w1 w2 : World} (h : Ga A f g w w1) (h2 : Ga A f g w1 w2) : Ga A f g w w2 := ⟨h.1.trans h2.1 fun _ _ h => h, fun ha => (h.2.1 ha).elim h2.2.1 fun h3 => .inr (h2.2.2 h3), fun ha => h2.2.2 (h.2.2 ha)⟩
theorem Ga.of_below {A : Nat} {f g : Nat → Int} {w w' : World} (h : Below w.heap.size w w') : Ga A f g w w' := ⟨Turn.of_below h, fun ha => .inl (ha.later h), fun ha => ha.later h⟩
/-- The digits found so far: those behind place i. -/
def wayD (R : Nat) (z : E2) (i k : Nat) : Int := if i < k ∧ k ≤ R then (digE (upN (R - k) z) : Int) else 0
theorem wayD_all (R : Nat) (z : E2) {k : Nat} (_hk : k < 13) (_hR : R ≤ 12) : wayD R z R k = 0 := by unfold wayD; rw [if_neg (by omega)]
theorem wayD_step {R : Nat} {z : E2} {i k : Nat} (hi : i < R) : (if k = i + 1 then (digE (upN (R - (i + 1)) z) : Int) else wayD R z (i + 1) k) = wayD R z i k := by
  unfold wayD
  by_cases h : k = i + 1
  · subst h; rw [if_pos rfl, if_pos (by omega)]
  · rw [if_neg h]
    by_cases h2 : i < k ∧ k ≤ R
    · rw [if_pos h2, if_pos (by omega)]
    · rw [if_neg h2, if_neg (by omega)]
theorem upN_sm {h : Int} (hh : 2 ≤ h) {z : E2} (hz : Sm h z) (k : Nat) : Sm h (upN k z) := by
  induction k with
  | zero => exact hz
  | succ k ih => rw [upN_up]; exact up_sm hh ih
/-- The way up from a cell. -/
def Way (w : World) (r : Int) (z : E2) (e : Ending) (w' : World) : Prop :=
  ∃ (b : E2) (f : Nat → Int), e = .returned (.tuple #[vE b, vD f, .bool (okB r z)]) ∧ (okB r z = true → b = upN r.toNat z ∧ ∀ k, 0 < k → k ≤ r.toNat → f k = (digE (upN (r.toNat - k) z) : Int)) ∧ Below w.heap.size w w'
set_option maxRecDepth 100000 in
set_option maxHeartbeats 8000000 in
theorem way_no (r : Int) (z : E2) (hs : ¬ shapeB r z = true) (w : World) : Calls Try.prog 68 #[vC r z] w (Way w r z) := by
  have HS := Lib.hid (shape_any r z)
  have hs0 : shapeB r z = false := by simpa using hs
  have HOK : Hid (okB r z = false) := by show _ = _; unfold okB; rw [hs0]; rfl
  rw [hs0] at HS
  clear hs hs0
  have HP : Hid (∀ w', Below w.heap.size w w' → Way w r z (.returned (.tuple #[.agg #[.int .i64 0, .int .i64 0], vD fun _ => 0, .bool false])) w') := fun w' hb => ⟨(0, 0), fun _ => 0, by rw [HOK.out], (fun h => by rw [HOK.out] at h; cases h), hb⟩
  simp only [vC] at *
  go_enter Try.func68, Try.ntmps68
  go_wp2_with fail
  refine (HS.out _).mono ?_
  rintro e w1 ⟨rfl, hb1⟩
  have hz1 := hb1.size
  simp at hz1
  have HU : Hid (Two2 w1 (w.heap.size + 1) (.int .i64 0) (.int .i64 0)) := (Two2.of_row (t := 27) (by rw [Below.heap_alloc _ _ _ (by simp)]; exact heap_new _ _ _ (by simp))).later (by simp) hb1
  have HA : Hid (Arr w1 (w.heap.size + 2) fun _ => 0) := (Arr.zero (heap_new _ _ _ (by simp))).later hb1
  have HB : Hid (Below w.heap.size w w1) := (((Below.refl _ _).alloc (Nat.le_refl _) _).alloc (by simp) _).alloc (by simp; omega) _ |>.trans (hb1.mono (by simp; omega))
  have hs1 : w.heap.size + 1 < w1.heap.size := by omega
  have hs2 : w.heap.size + 1 + 1 < w1.heap.size := by omega
  clear hb1 hz1
  go_wp2
  refine wp_region_end 4 (Gb (w.heap.size + 1) (w.heap.size + 2) (0, 0) fun _ => 0) (fun qi_ qv_ qw_ => qv_ = ([.agg #[.int .i64 0, .int .i64 0], vD fun _ => 0, undef, undef] : List Value).getD qi_ undef ∧ (qi_ = 2 → (fun q => Two2 q (w.heap.size + 1) (.int .i64 0) (.int .i64 0)) qw_)) (by kernel_rfl) (by kernel_rfl) (by kernel_rfl) (fun _ => Gb.refl _ _ _ _ _) (fun _ _ _ h1 h2 => h1.trans h2) (fun _ _ _ _ _ h2 h => ⟨h.1, fun e => h2.2.2.2 (h.2 e)⟩) ?_
  simp only [List.take_succ_cons, List.take_zero, List.drop_succ_cons, List.drop_zero]
  refine inv_cons (fun wx hg hd => ?_) (fun v0 => ?_)
  · clear hd
    obtain ⟨⟨t1, t2⟩, _⟩ := hg.2.2.2 HU.out
    go_wp2
    first | exact ⟨_, rfl, Gb.refl _ _ _ _ _, rfl⟩ | exact ⟨_, rfl, Gb.refl _ _ _ _ _, rfl, fun h => absurd h (by simp)⟩
  (try simp only [List.nil_append, Act.put, List.setIfInBounds_toArray, List.set_cons_zero, List.set_cons_succ])
  refine inv_cons (fun wx hg hd => ?_) (fun v1 => ?_)
  · clear hd
    obtain ⟨t0, t1, t2, t3, t4, t5, t6, t7, t8, t9, t10, t11, t12⟩ := (hg.2.1 HA.out).cells
    go_wp2
    first | exact ⟨_, rfl, Gb.refl _ _ _ _ _, rfl⟩ | exact ⟨_, rfl, Gb.refl _ _ _ _ _, rfl, fun h => absurd h (by simp)⟩
  (try simp only [List.cons_append, List.nil_append, Act.put, List.setIfInBounds_toArray, List.set_cons_zero, List.set_cons_succ])
  refine inv_cons (fun wx hg hd => ?_) (fun v2 => ?_)
  · (try (have ee : v0 = (.agg #[.int .i64 0, .int .i64 0] : Value) := (hd 0 (by simp) (by decide)).1; subst ee))
    clear hd
    obtain ⟨u, v, ⟨t1, t2⟩, t3, t4⟩ := hg.2.2.1 ⟨_, _, HU.out⟩
    have hP := Gb.put (E := w.heap.size + 1) (A := w.heap.size + 2) (x := (0, 0)) (f := fun _ => 0) (w := wx) ⟨u, v, ⟨t1, t2⟩, t3, t4⟩ (by omega)
    go_wp2
    exact ⟨_, rfl, hP.1, rfl, hP.2⟩
  (try simp only [List.cons_append, List.nil_append, Act.put])
  refine inv_cons (fun wx hg hd => ?_) (fun v3 => ?_)
  · (try (have ee : v1 = (vD fun _ => 0 : Value) := (hd 1 (by simp) (by decide)).1; subst ee))
    clear hd
    obtain ⟨t0, t1, t2, t3, t4, t5, t6, t7, t8, t9, t10, t11, t12⟩ := (hg.2.1 HA.out).cells
    obtain ⟨f0, f1, f2, f3, f4, f5, f6, f7, f8, f9, f10, f11, f12⟩ := (hg.2.1 HA.out).frozen
    have hP := (hg.2.1 HA.out).sames
    have hEl : w.heap.size + 1 < wx.heap.size := (by have := hg.1.2.2.2.1; simp at this; omega)
    go_wp2
    first | exact ⟨_, rfl, Gb.arr (fun _ => hP.1) hP.2 (by omega) hEl, rfl⟩ | exact ⟨_, rfl, Gb.arr (fun _ => hP.1) hP.2 (by omega) hEl, rfl, fun h => absurd h (by simp)⟩
  (try simp only [List.cons_append, List.nil_append, Act.put])
  refine inv_done (fun wx hg hd => ?_)
  (have ee : v0 = (.agg #[.int .i64 0, .int .i64 0] : Value) := (hd 0 (by simp)).1; subst ee)
  (have ee : v1 = (vD fun _ => 0 : Value) := (hd 1 (by simp)).1; subst ee)
  (have ee : v2 = (undef : Value) := (hd 2 (by simp)).1; subst ee)
  (have ee : v3 = (undef : Value) := (hd 3 (by simp)).1; subst ee)
  have hE := (hd 2 (by simp)).2 rfl
  clear hd
  (try go_simp)
  have hAx : Arr wx (w.heap.size + 2) fun _ => 0 := hg.2.1 HA.out
  have hBx : Below w.heap.size w wx := HB.out.trans (Turn.below (B := w.heap.size) hg.1 (by show _ ≤ w1.heap.size; omega) fun q hq e => by rcases e with e | e <;> omega)
  have HF := Lib.hid (HP.out wx hBx)
  obtain ⟨⟨y0, y1⟩, _, _⟩ := hE
  obtain ⟨t0, t1, t2, t3, t4, t5, t6, t7, t8, t9, t10, t11, t12⟩ := hAx.cells
  clear hAx hBx HA HU hg HP
  go_wp2
  refine only_done ?_
  go_wp2
  exact bodyPost_ret (v := .tuple #[.agg #[.int .i64 0, .int .i64 0], vD fun _ => 0, .bool false]) (by simp [results, Try.results68, go_sem, *]) rfl HF.out
set_option maxRecDepth 100000 in
set_option maxHeartbeats 8000000 in
theorem way_yes (r : Int) (z : E2) (hs : shapeB r z = true) (w : World) : Calls Try.prog 68 #[vC r z] w (Way w r z) := by
  have HS := Lib.hid (shape_any r z)
  · have hs2 := (shapeB_iff r z).1 hs
    obtain ⟨R, rfl⟩ : ∃ R : Nat, r = R := ⟨r.toNat, by omega⟩
    have hR : R ≤ 12 := by omega
    have HOK : Hid (okB R z = baseB (upN R z)) := by show _ = _; unfold okB; rw [hs]; rfl
    rw [hs] at HS
    have HSM : Hid (Sm 1099511627776 z) := by show Sm _ _; unfold Sm; omega
    clear hs hs2
    obtain ⟨a, b⟩ := z
    simp only [vC] at *
    go_enter Try.func68, Try.ntmps68
    go_wp2_with fail
    refine (HS.out _).mono ?_
    rintro e w1 ⟨rfl, hb1⟩
    have hz1 := hb1.size
    simp at hz1
    have hr := hb1.block w.heap.size (by simp; omega)
    rw [Below.heap_alloc _ _ _ (by simp; omega), Below.heap_alloc _ _ _ (by simp), heap_new _ _ _ rfl] at hr
    have c0 : w1.cell? ⟨w.heap.size, 0, none⟩ = some (.int .i64 R) := cell_of_row _ _ 0 _ _ _ hr
    have c1 : w1.cell? ⟨w.heap.size, 1, none⟩ = some (.int .i64 a) := cell_of_row _ _ 1 _ _ _ hr
    have c2 : w1.cell? ⟨w.heap.size, 2, none⟩ = some (.int .i64 b) := cell_of_row _ _ 2 _ _ _ hr
    have u0 : Two2 w1 (w.heap.size + 1) (.int .i64 0) (.int .i64 0) := (Two2.of_row (t := 27) (by rw [Below.heap_alloc _ _ _ (by simp)]; exact heap_new _ _ _ (by simp))).later (by simp) hb1
    have a0 : Arr w1 (w.heap.size + 2) fun _ => 0 := (Arr.zero (heap_new _ _ _ (by simp))).later hb1
    have hB1 : Below w.heap.size w w1 := (((Below.refl _ _).alloc (Nat.le_refl _) _).alloc (by simp) _).alloc (by simp; omega) _ |>.trans (hb1.mono (by simp; omega))
    have hal : Below w1.heap.size w1 (w1.alloc (.cells #[.int .i64 a, .int .i64 b] 27)) := (Below.refl _ _).alloc (Nat.le_refl _) _
    have hsz := World.size_alloc w1 (.cells #[.int .i64 a, .int .i64 b] 27)
    have U := Lib.hid (u0.later (by omega) hal)
    have A := Lib.hid (a0.later hal)
    have B := Lib.hid (hB1.trans (hal.mono (by omega)))
    have Z : Hid (Two2 (w1.alloc (.cells #[.int .i64 a, .int .i64 b] 27)) w1.heap.size (.int .i64 a) (.int .i64 b)) := Two2.of_row (t := 27) (heap_new _ _ _ rfl)
    have hz2 : w.heap.size + 2 < w1.heap.size := by omega
    have d0 : (w1.alloc (.cells #[.int .i64 a, .int .i64 b] 27)).cell? ⟨w.heap.size, 0, none⟩ = some (.int .i64 R) := (hal.cell (p := ⟨w.heap.size, 0, none⟩) (by show w.heap.size < w1.heap.size; omega)).trans c0
    clear hb1 hr u0 a0 hB1 hal hz1
    go_upto_region 4 with (fail)
    generalize w1.alloc (.cells #[.int .i64 a, .int .i64 b] 27) = w2 at *
    obtain ⟨zb, hzb⟩ : ∃ zb, w1.heap.size = zb := ⟨_, rfl⟩
    rw [hzb] at Z hz2 hsz ⊢
    clear hzb c0 c1 c2
    go_upto_region 5 with (fail)
    clear d0
    obtain ⟨y, hy⟩ : ∃ y : E2, y = (a, b) := ⟨_, rfl⟩
    have HY := Lib.hid hy
    rw [← hy] at HOK HSM
    have Z : Hid (Two2 w2 zb (.int .i64 (upN 0 y).1) (.int .i64 (upN 0 y).2)) := by rw [hy]; exact Z.out
    have HPOST : Hid (∀ e w', Way w R y e w' → Way w R (a, b) e w') := fun e w' h => by rw [← hy]; exact h
    clear hy
    go_wp2
    go_loopw [6] (fun i wr => ∃ j : Nat, j ≤ R ∧ i = .int .i64 j ∧ Hid (Two2 wr zb (.int .i64 (upN (R - j) y).1) (.int .i64 (upN (R - j) y).2) ∧ Arr wr (w.heap.size + 2) (wayD R y j) ∧ Two2 wr (w.heap.size + 1) (.int .i64 0) (.int .i64 0) ∧ Below w.heap.size w wr) ∧ w2.heap.size ≤ wr.heap.size) (fun i _ => (intOf i).toNat)
    case atStart => exact ⟨R, Nat.le_refl _, rfl, ⟨by rw [Nat.sub_self]; exact Z.out, A.out.congr fun k hk => (wayD_all R y hk hR).symm, U.out, B.out⟩, Nat.le_refl _⟩
    case round =>
      obtain ⟨j, hj, rfl, HI, hws⟩ := hrel
      clear Z A U B
      by_cases hj0 : j = 0
      · subst hj0
        rw [Nat.sub_zero] at HI
        obtain ⟨⟨⟨z0, z1⟩, z2, z3⟩, hA, hU, hB⟩ := HI.out
        have hzw : zb < wr.heap.size := by omega
        have N1 := Lib.hid (in_any (upN R y).1)
        have N2 := Lib.hid (in_any (upN R y).2)
        have HBB : Hid (baseB (upN R y) = ((decide (-512 ≤ (upN R y).1) && decide ((upN R y).1 < 512)) && (decide (-512 ≤ (upN R y).2) && decide ((upN R y).2 < 512)))) := rfl
        have HD : Hid (∀ k, 0 < k → k ≤ R → wayD R y 0 k = (digE (upN (R - k) y) : Int)) := fun k h0 h1 => by unfold wayD; rw [if_pos ⟨h0, h1⟩]
        obtain ⟨x, hx⟩ : ∃ x, upN R y = x := ⟨_, rfl⟩
        obtain ⟨f, hf⟩ : ∃ f, wayD R y 0 = f := ⟨_, rfl⟩
        rw [hf] at hA HD
        rw [hx] at N1 N2 HBB z0 z1 HOK
        have HXE := Lib.hid hx
        have HA := Lib.hid hA
        have HU := Lib.hid hU
        have HB := Lib.hid hB
        have HZ : Hid (Two2 wr zb (.int .i64 x.1) (.int .i64 x.2)) := ⟨⟨z0, z1⟩, z2, z3⟩
        clear HI hA hU hB hx hf HS
        generalize (decide (-512 ≤ x.1) && decide (x.1 < 512)) = p at *
        generalize (decide (-512 ≤ x.2) && decide (x.2 < 512)) = q at *
        have HX : Hid (∀ wx, Turn (fun q => q = w.heap.size + 1 ∨ q = w.heap.size + 2) wr.drew wx → Two2 wx zb (.int .i64 x.1) (.int .i64 x.2)) := fun wx hx => Two2.turn (w := wr.drew) HZ.out hx hzw (by omega)
        cases p
        · clear z0 z1 z2 z3
          go_wp2
          refine wp_region_end 14 (Gb (w.heap.size + 1) (w.heap.size + 2) x f) (fun qi_ qv_ qw_ => qv_ = ([.agg #[.int .i64 x.1, .int .i64 x.2], vD f, .func (.func 92) #[] #[], .pointer (some ⟨zb, 0, none⟩), .int .i64 x.1, .bool false, .bool false, undef, undef, undef, undef, .bool false, undef, undef] : List Value).getD qi_ undef ∧ (qi_ = 12 → (fun q => Two2 q (w.heap.size + 1) (.int .i64 x.1) (.int .i64 x.2)) qw_)) (by kernel_rfl) (by kernel_rfl) (by kernel_rfl) (fun _ => Gb.refl _ _ _ _ _) (fun _ _ _ h1 h2 => h1.trans h2) (fun _ _ _ _ _ h2 h => ⟨h.1, fun e => h2.2.2.2 (h.2 e)⟩) ?_
          simp only [List.take_succ_cons, List.take_zero, List.drop_succ_cons, List.drop_zero]
          refine inv_cons (fun wx hg hd => ?_) (fun v0 => ?_)
          · clear hd
            obtain ⟨⟨t1, t2⟩, _⟩ := HX.out _ hg.1
            go_wp2
            first | exact ⟨_, rfl, Gb.refl _ _ _ _ _, rfl⟩ | exact ⟨_, rfl, Gb.refl _ _ _ _ _, rfl, fun h => absurd h (by simp)⟩
          (try simp only [List.nil_append, Act.put, List.setIfInBounds_toArray, List.set_cons_zero, List.set_cons_succ])
          refine inv_cons (fun wx hg hd => ?_) (fun v1 => ?_)
          · clear hd
            obtain ⟨t0, t1, t2, t3, t4, t5, t6, t7, t8, t9, t10, t11, t12⟩ := (hg.2.1 HA.out).cells
            go_wp2
            first | exact ⟨_, rfl, Gb.refl _ _ _ _ _, rfl⟩ | exact ⟨_, rfl, Gb.refl _ _ _ _ _, rfl, fun h => absurd h (by simp)⟩
          (try simp only [List.cons_append, List.nil_append, Act.put, List.setIfInBounds_toArray, List.set_cons_zero, List.set_cons_succ])
          refine inv_cons (fun wx hg hd => ?_) (fun v2 => ?_)
          · clear hd
            go_wp2
            first | exact ⟨_, rfl, Gb.refl _ _ _ _ _, rfl⟩ | exact ⟨_, rfl, Gb.refl _ _ _ _ _, rfl, fun h => absurd h (by simp)⟩
          (try simp only [List.cons_append, List.nil_append, Act.put, List.setIfInBounds_toArray, List.set_cons_zero, List.set_cons_succ])
          refine inv_cons (fun wx hg hd => ?_) (fun v3 => ?_)
          · clear hd
            go_wp2
            first | exact ⟨_, rfl, Gb.refl _ _ _ _ _, rfl⟩ | exact ⟨_, rfl, Gb.refl _ _ _ _ _, rfl, fun h => absurd h (by simp)⟩
          (try simp only [List.cons_append, List.nil_append, Act.put, List.setIfInBounds_toArray, List.set_cons_zero, List.set_cons_succ])
          refine inv_cons (fun wx hg hd => ?_) (fun v4 => ?_)
          · (try (have ee : v3 = (.pointer (some ⟨zb, 0, none⟩) : Value) := (hd 3 (by simp) (by decide)).1; subst ee))
            clear hd
            obtain ⟨⟨t1, t2⟩, _⟩ := HX.out _ hg.1
            go_wp2
            first | exact ⟨_, rfl, Gb.refl _ _ _ _ _, rfl⟩ | exact ⟨_, rfl, Gb.refl _ _ _ _ _, rfl, fun h => absurd h (by simp)⟩
          (try simp only [List.cons_append, List.nil_append, Act.put, List.setIfInBounds_toArray, List.set_cons_zero, List.set_cons_succ])
          refine inv_cons (fun wx hg hd => ?_) (fun v5 => ?_)
          · (try (have ee : v2 = (.func (.func 92) #[] #[] : Value) := (hd 2 (by simp) (by decide)).1; subst ee))
            (try (have ee : v4 = (.int .i64 x.1 : Value) := (hd 4 (by simp) (by decide)).1; subst ee))
            clear hd
            go_wp2_with fail
            refine (N1.out _).mono ?_
            rintro e w' ⟨rfl, rfl⟩
            go_wp2
            first | exact ⟨_, rfl, Gb.refl _ _ _ _ _, rfl⟩ | exact ⟨_, rfl, Gb.refl _ _ _ _ _, rfl, fun h => absurd h (by simp)⟩
          (try simp only [List.cons_append, List.nil_append, Act.put, List.setIfInBounds_toArray, List.set_cons_zero, List.set_cons_succ])
          refine inv_cons (fun wx hg hd => ?_) (fun v6 => ?_)
          · (try (have ee : v5 = (.bool false : Value) := (hd 5 (by simp) (by decide)).1; subst ee))
            clear hd
            go_wp2
            first | exact ⟨_, rfl, Gb.refl _ _ _ _ _, rfl⟩ | exact ⟨_, rfl, Gb.refl _ _ _ _ _, rfl, fun h => absurd h (by simp)⟩
          (try simp only [List.cons_append, List.nil_append, Act.put, List.setIfInBounds_toArray, List.set_cons_zero, List.set_cons_succ])
          refine inv_cons (fun wx hg hd => ?_) (fun v7 => ?_)
          · (try (have ee : v6 = (.bool false : Value) := (hd 6 (by simp) (by decide)).1; subst ee))
            clear hd
            go_wp2
            first | exact ⟨_, rfl, Gb.refl _ _ _ _ _, rfl⟩ | exact ⟨_, rfl, Gb.refl _ _ _ _ _, rfl, fun h => absurd h (by simp)⟩
          (try simp only [List.cons_append, List.nil_append, Act.put, List.setIfInBounds_toArray, List.set_cons_zero, List.set_cons_succ])
          refine inv_cons (fun wx hg hd => ?_) (fun v8 => ?_)
          · (try (have ee : v6 = (.bool false : Value) := (hd 6 (by simp) (by decide)).1; subst ee))
            clear hd
            go_wp2
            first | exact ⟨_, rfl, Gb.refl _ _ _ _ _, rfl⟩ | exact ⟨_, rfl, Gb.refl _ _ _ _ _, rfl, fun h => absurd h (by simp)⟩
          (try simp only [List.cons_append, List.nil_append, Act.put, List.setIfInBounds_toArray, List.set_cons_zero, List.set_cons_succ])
          refine inv_cons (fun wx hg hd => ?_) (fun v9 => ?_)
          · (try (have ee : v6 = (.bool false : Value) := (hd 6 (by simp) (by decide)).1; subst ee))
            (try (have ee : v8 = (undef : Value) := (hd 8 (by simp) (by decide)).1; subst ee))
            clear hd
            go_wp2
            first | exact ⟨_, rfl, Gb.refl _ _ _ _ _, rfl⟩ | exact ⟨_, rfl, Gb.refl _ _ _ _ _, rfl, fun h => absurd h (by simp)⟩
          (try simp only [List.cons_append, List.nil_append, Act.put, List.setIfInBounds_toArray, List.set_cons_zero, List.set_cons_succ])
          refine inv_cons (fun wx hg hd => ?_) (fun v10 => ?_)
          · (try (have ee : v6 = (.bool false : Value) := (hd 6 (by simp) (by decide)).1; subst ee))
            (try (have ee : v7 = (undef : Value) := (hd 7 (by simp) (by decide)).1; subst ee))
            (try (have ee : v9 = (undef : Value) := (hd 9 (by simp) (by decide)).1; subst ee))
            clear hd
            go_wp2
            first | exact ⟨_, rfl, Gb.refl _ _ _ _ _, rfl⟩ | exact ⟨_, rfl, Gb.refl _ _ _ _ _, rfl, fun h => absurd h (by simp)⟩
          (try simp only [List.cons_append, List.nil_append, Act.put, List.setIfInBounds_toArray, List.set_cons_zero, List.set_cons_succ])
          refine inv_cons (fun wx hg hd => ?_) (fun v11 => ?_)
          · (try (have ee : v6 = (.bool false : Value) := (hd 6 (by simp) (by decide)).1; subst ee))
            (try (have ee : v10 = (undef : Value) := (hd 10 (by simp) (by decide)).1; subst ee))
            clear hd
            go_wp2
            first | exact ⟨_, rfl, Gb.refl _ _ _ _ _, rfl⟩ | exact ⟨_, rfl, Gb.refl _ _ _ _ _, rfl, fun h => absurd h (by simp)⟩
          (try simp only [List.cons_append, List.nil_append, Act.put, List.setIfInBounds_toArray, List.set_cons_zero, List.set_cons_succ])
          refine inv_cons (fun wx hg hd => ?_) (fun v12 => ?_)
          · (try (have ee : v0 = (.agg #[.int .i64 x.1, .int .i64 x.2] : Value) := (hd 0 (by simp) (by decide)).1; subst ee))
            clear hd
            obtain ⟨u, v, ⟨t1, t2⟩, t3, t4⟩ := hg.2.2.1 ⟨_, _, HU.out⟩
            have hP := Gb.put (E := w.heap.size + 1) (A := w.heap.size + 2) (x := x) (f := f) (w := wx) ⟨u, v, ⟨t1, t2⟩, t3, t4⟩ (by omega)
            go_wp2
            exact ⟨_, rfl, hP.1, rfl, hP.2⟩
          (try simp only [List.cons_append, List.nil_append, Act.put])
          refine inv_cons (fun wx hg hd => ?_) (fun v13 => ?_)
          · (try (have ee : v1 = (vD f : Value) := (hd 1 (by simp) (by decide)).1; subst ee))
            clear hd
            obtain ⟨t0, t1, t2, t3, t4, t5, t6, t7, t8, t9, t10, t11, t12⟩ := (hg.2.1 HA.out).cells
            obtain ⟨f0, f1, f2, f3, f4, f5, f6, f7, f8, f9, f10, f11, f12⟩ := (hg.2.1 HA.out).frozen
            have hP := (hg.2.1 HA.out).sames
            have hEl : w.heap.size + 1 < wx.heap.size := (by have := hg.1.2.2.2.1; simp at this; omega)
            go_wp2
            first | exact ⟨_, rfl, Gb.arr (fun _ => hP.1) hP.2 (by omega) hEl, rfl⟩ | exact ⟨_, rfl, Gb.arr (fun _ => hP.1) hP.2 (by omega) hEl, rfl, fun h => absurd h (by simp)⟩
          (try simp only [List.cons_append, List.nil_append, Act.put])
          refine inv_done (fun wx hg hd => ?_)
          (have ee : v0 = (.agg #[.int .i64 x.1, .int .i64 x.2] : Value) := (hd 0 (by simp)).1; subst ee)
          (have ee : v1 = (vD f : Value) := (hd 1 (by simp)).1; subst ee)
          (have ee : v2 = (.func (.func 92) #[] #[] : Value) := (hd 2 (by simp)).1; subst ee)
          (have ee : v3 = (.pointer (some ⟨zb, 0, none⟩) : Value) := (hd 3 (by simp)).1; subst ee)
          (have ee : v4 = (.int .i64 x.1 : Value) := (hd 4 (by simp)).1; subst ee)
          (have ee : v5 = (.bool false : Value) := (hd 5 (by simp)).1; subst ee)
          (have ee : v6 = (.bool false : Value) := (hd 6 (by simp)).1; subst ee)
          (have ee : v7 = (undef : Value) := (hd 7 (by simp)).1; subst ee)
          (have ee : v8 = (undef : Value) := (hd 8 (by simp)).1; subst ee)
          (have ee : v9 = (undef : Value) := (hd 9 (by simp)).1; subst ee)
          (have ee : v10 = (undef : Value) := (hd 10 (by simp)).1; subst ee)
          (have ee : v11 = (.bool false : Value) := (hd 11 (by simp)).1; subst ee)
          (have ee : v12 = (undef : Value) := (hd 12 (by simp)).1; subst ee)
          (have ee : v13 = (undef : Value) := (hd 13 (by simp)).1; subst ee)
          have hE := (hd 12 (by simp)).2 rfl
          clear hd
          (try go_simp)
          have hAx : Arr wx (w.heap.size + 2) f := hg.2.1 HA.out
          have hBx : Below w.heap.size w wx := HB.out.trans (Turn.below (B := w.heap.size) hg.1 (by show _ ≤ wr.heap.size; omega) fun q hq e => by rcases e with e | e <;> omega)
          have HBX := Lib.hid hBx
          obtain ⟨⟨y0, y1⟩, _, _⟩ := hE
          obtain ⟨t0, t1, t2, t3, t4, t5, t6, t7, t8, t9, t10, t11, t12⟩ := hAx.cells
          clear hAx hBx HA HZ HX HU hg
          go_wp2
          refine only_done ?_
          go_wp2
          exact bodyPost_ret (v := .tuple #[.agg #[.int .i64 x.1, .int .i64 x.2], vD f, .bool false]) (by simp [results, Try.results68, go_sem, *]) rfl (HPOST.out _ _ ⟨x, f, by rw [HOK.out, HBB.out]; rfl, fun _ => ⟨HXE.out.symm, HD.out⟩, HBX.out⟩)
        · clear z0 z1 z2 z3
          go_wp2
          refine wp_region_end 14 (Gb (w.heap.size + 1) (w.heap.size + 2) x f) (fun qi_ qv_ qw_ => qv_ = ([.agg #[.int .i64 x.1, .int .i64 x.2], vD f, .func (.func 92) #[] #[], .pointer (some ⟨zb, 0, none⟩), .int .i64 x.1, .bool true, .bool true, .func (.func 92) #[] #[], .pointer (some ⟨zb, 1, none⟩), .int .i64 x.2, .bool q, .bool q, undef, undef] : List Value).getD qi_ undef ∧ (qi_ = 12 → (fun q => Two2 q (w.heap.size + 1) (.int .i64 x.1) (.int .i64 x.2)) qw_)) (by kernel_rfl) (by kernel_rfl) (by kernel_rfl) (fun _ => Gb.refl _ _ _ _ _) (fun _ _ _ h1 h2 => h1.trans h2) (fun _ _ _ _ _ h2 h => ⟨h.1, fun e => h2.2.2.2 (h.2 e)⟩) ?_
          simp only [List.take_succ_cons, List.take_zero, List.drop_succ_cons, List.drop_zero]
          refine inv_cons (fun wx hg hd => ?_) (fun v0 => ?_)
          · clear hd
            obtain ⟨⟨t1, t2⟩, _⟩ := HX.out _ hg.1
            go_wp2
            first | exact ⟨_, rfl, Gb.refl _ _ _ _ _, rfl⟩ | exact ⟨_, rfl, Gb.refl _ _ _ _ _, rfl, fun h => absurd h (by simp)⟩
          (try simp only [List.nil_append, Act.put, List.setIfInBounds_toArray, List.set_cons_zero, List.set_cons_succ])
          refine inv_cons (fun wx hg hd => ?_) (fun v1 => ?_)
          · clear hd
            obtain ⟨t0, t1, t2, t3, t4, t5, t6, t7, t8, t9, t10, t11, t12⟩ := (hg.2.1 HA.out).cells
            go_wp2
            first | exact ⟨_, rfl, Gb.refl _ _ _ _ _, rfl⟩ | exact ⟨_, rfl, Gb.refl _ _ _ _ _, rfl, fun h => absurd h (by simp)⟩
          (try simp only [List.cons_append, List.nil_append, Act.put, List.setIfInBounds_toArray, List.set_cons_zero, List.set_cons_succ])
          refine inv_cons (fun wx hg hd => ?_) (fun v2 => ?_)
          · clear hd
            go_wp2
            first | exact ⟨_, rfl, Gb.refl _ _ _ _ _, rfl⟩ | exact ⟨_, rfl, Gb.refl _ _ _ _ _, rfl, fun h => absurd h (by simp)⟩
          (try simp only [List.cons_append, List.nil_append, Act.put, List.setIfInBounds_toArray, List.set_cons_zero, List.set_cons_succ])
          refine inv_cons (fun wx hg hd => ?_) (fun v3 => ?_)
          · clear hd
            go_wp2
            first | exact ⟨_, rfl, Gb.refl _ _ _ _ _, rfl⟩ | exact ⟨_, rfl, Gb.refl _ _ _ _ _, rfl, fun h => absurd h (by simp)⟩
          (try simp only [List.cons_append, List.nil_append, Act.put, List.setIfInBounds_toArray, List.set_cons_zero, List.set_cons_succ])
          refine inv_cons (fun wx hg hd => ?_) (fun v4 => ?_)
          · (try (have ee : v3 = (.pointer (some ⟨zb, 0, none⟩) : Value) := (hd 3 (by simp) (by decide)).1; subst ee))
            clear hd
            obtain ⟨⟨t1, t2⟩, _⟩ := HX.out _ hg.1
            go_wp2
            first | exact ⟨_, rfl, Gb.refl _ _ _ _ _, rfl⟩ | exact ⟨_, rfl, Gb.refl _ _ _ _ _, rfl, fun h => absurd h (by simp)⟩
          (try simp only [List.cons_append, List.nil_append, Act.put, List.setIfInBounds_toArray, List.set_cons_zero, List.set_cons_succ])
          refine inv_cons (fun wx hg hd => ?_) (fun v5 => ?_)
          · (try (have ee : v2 = (.func (.func 92) #[] #[] : Value) := (hd 2 (by simp) (by decide)).1; subst ee))
            (try (have ee : v4 = (.int .i64 x.1 : Value) := (hd 4 (by simp) (by decide)).1; subst ee))
            clear hd
            go_wp2_with fail
            refine (N1.out _).mono ?_
            rintro e w' ⟨rfl, rfl⟩
            go_wp2
            first | exact ⟨_, rfl, Gb.refl _ _ _ _ _, rfl⟩ | exact ⟨_, rfl, Gb.refl _ _ _ _ _, rfl, fun h => absurd h (by simp)⟩
          (try simp only [List.cons_append, List.nil_append, Act.put, List.setIfInBounds_toArray, List.set_cons_zero, List.set_cons_succ])
          refine inv_cons (fun wx hg hd => ?_) (fun v6 => ?_)
          · (try (have ee : v5 = (.bool true : Value) := (hd 5 (by simp) (by decide)).1; subst ee))
            clear hd
            go_wp2
            first | exact ⟨_, rfl, Gb.refl _ _ _ _ _, rfl⟩ | exact ⟨_, rfl, Gb.refl _ _ _ _ _, rfl, fun h => absurd h (by simp)⟩
          (try simp only [List.cons_append, List.nil_append, Act.put, List.setIfInBounds_toArray, List.set_cons_zero, List.set_cons_succ])
          refine inv_cons (fun wx hg hd => ?_) (fun v7 => ?_)
          · (try (have ee : v6 = (.bool true : Value) := (hd 6 (by simp) (by decide)).1; subst ee))
            clear hd
            go_wp2
            first | exact ⟨_, rfl, Gb.refl _ _ _ _ _, rfl⟩ | exact ⟨_, rfl, Gb.refl _ _ _ _ _, rfl, fun h => absurd h (by simp)⟩
          (try simp only [List.cons_append, List.nil_append, Act.put, List.setIfInBounds_toArray, List.set_cons_zero, List.set_cons_succ])
          refine inv_cons (fun wx hg hd => ?_) (fun v8 => ?_)
          · (try (have ee : v6 = (.bool true : Value) := (hd 6 (by simp) (by decide)).1; subst ee))
            clear hd
            go_wp2
            first | exact ⟨_, rfl, Gb.refl _ _ _ _ _, rfl⟩ | exact ⟨_, rfl, Gb.refl _ _ _ _ _, rfl, fun h => absurd h (by simp)⟩
          (try simp only [List.cons_append, List.nil_append, Act.put, List.setIfInBounds_toArray, List.set_cons_zero, List.set_cons_succ])
          refine inv_cons (fun wx hg hd => ?_) (fun v9 => ?_)
          · (try (have ee : v6 = (.bool true : Value) := (hd 6 (by simp) (by decide)).1; subst ee))
            (try (have ee : v8 = (.pointer (some ⟨zb, 1, none⟩) : Value) := (hd 8 (by simp) (by decide)).1; subst ee))
            clear hd
            obtain ⟨⟨t1, t2⟩, _⟩ := HX.out _ hg.1
            go_wp2
            first | exact ⟨_, rfl, Gb.refl _ _ _ _ _, rfl⟩ | exact ⟨_, rfl, Gb.refl _ _ _ _ _, rfl, fun h => absurd h (by simp)⟩
          (try simp only [List.cons_append, List.nil_append, Act.put, List.setIfInBounds_toArray, List.set_cons_zero, List.set_cons_succ])
          refine inv_cons (fun wx hg hd => ?_) (fun v10 => ?_)
          · (try (have ee : v6 = (.bool true : Value) := (hd 6 (by simp) (by decide)).1; subst ee))
            (try (have ee : v7 = (.func (.func 92) #[] #[] : Value) := (hd 7 (by simp) (by decide)).1; subst ee))
            (try (have ee : v9 = (.int .i64 x.2 : Value) := (hd 9 (by simp) (by decide)).1; subst ee))
            clear hd
            go_wp2_with fail
            refine (N2.out _).mono ?_
            rintro e w' ⟨rfl, rfl⟩
            go_wp2
            first | exact ⟨_, rfl, Gb.refl _ _ _ _ _, rfl⟩ | exact ⟨_, rfl, Gb.refl _ _ _ _ _, rfl, fun h => absurd h (by simp)⟩
          (try simp only [List.cons_append, List.nil_append, Act.put, List.setIfInBounds_toArray, List.set_cons_zero, List.set_cons_succ])
          refine inv_cons (fun wx hg hd => ?_) (fun v11 => ?_)
          · (try (have ee : v6 = (.bool true : Value) := (hd 6 (by simp) (by decide)).1; subst ee))
            (try (have ee : v10 = (.bool q : Value) := (hd 10 (by simp) (by decide)).1; subst ee))
            clear hd
            go_wp2
            first | exact ⟨_, rfl, Gb.refl _ _ _ _ _, rfl⟩ | exact ⟨_, rfl, Gb.refl _ _ _ _ _, rfl, fun h => absurd h (by simp)⟩
          (try simp only [List.cons_append, List.nil_append, Act.put, List.setIfInBounds_toArray, List.set_cons_zero, List.set_cons_succ])
          refine inv_cons (fun wx hg hd => ?_) (fun v12 => ?_)
          · (try (have ee : v0 = (.agg #[.int .i64 x.1, .int .i64 x.2] : Value) := (hd 0 (by simp) (by decide)).1; subst ee))
            clear hd
            obtain ⟨u, v, ⟨t1, t2⟩, t3, t4⟩ := hg.2.2.1 ⟨_, _, HU.out⟩
            have hP := Gb.put (E := w.heap.size + 1) (A := w.heap.size + 2) (x := x) (f := f) (w := wx) ⟨u, v, ⟨t1, t2⟩, t3, t4⟩ (by omega)
            go_wp2
            exact ⟨_, rfl, hP.1, rfl, hP.2⟩
          (try simp only [List.cons_append, List.nil_append, Act.put])
          refine inv_cons (fun wx hg hd => ?_) (fun v13 => ?_)
          · (try (have ee : v1 = (vD f : Value) := (hd 1 (by simp) (by decide)).1; subst ee))
            clear hd
            obtain ⟨t0, t1, t2, t3, t4, t5, t6, t7, t8, t9, t10, t11, t12⟩ := (hg.2.1 HA.out).cells
            obtain ⟨f0, f1, f2, f3, f4, f5, f6, f7, f8, f9, f10, f11, f12⟩ := (hg.2.1 HA.out).frozen
            have hP := (hg.2.1 HA.out).sames
            have hEl : w.heap.size + 1 < wx.heap.size := (by have := hg.1.2.2.2.1; simp at this; omega)
            go_wp2
            first | exact ⟨_, rfl, Gb.arr (fun _ => hP.1) hP.2 (by omega) hEl, rfl⟩ | exact ⟨_, rfl, Gb.arr (fun _ => hP.1) hP.2 (by omega) hEl, rfl, fun h => absurd h (by simp)⟩
          (try simp only [List.cons_append, List.nil_append, Act.put])
          refine inv_done (fun wx hg hd => ?_)
          (have ee : v0 = (.agg #[.int .i64 x.1, .int .i64 x.2] : Value) := (hd 0 (by simp)).1; subst ee)
          (have ee : v1 = (vD f : Value) := (hd 1 (by simp)).1; subst ee)
          (have ee : v2 = (.func (.func 92) #[] #[] : Value) := (hd 2 (by simp)).1; subst ee)
          (have ee : v3 = (.pointer (some ⟨zb, 0, none⟩) : Value) := (hd 3 (by simp)).1; subst ee)
          (have ee : v4 = (.int .i64 x.1 : Value) := (hd 4 (by simp)).1; subst ee)
          (have ee : v5 = (.bool true : Value) := (hd 5 (by simp)).1; subst ee)
          (have ee : v6 = (.bool true : Value) := (hd 6 (by simp)).1; subst ee)
          (have ee : v7 = (.func (.func 92) #[] #[] : Value) := (hd 7 (by simp)).1; subst ee)
          (have ee : v8 = (.pointer (some ⟨zb, 1, none⟩) : Value) := (hd 8 (by simp)).1; subst ee)
          (have ee : v9 = (.int .i64 x.2 : Value) := (hd 9 (by simp)).1; subst ee)
          (have ee : v10 = (.bool q : Value) := (hd 10 (by simp)).1; subst ee)
          (have ee : v11 = (.bool q : Value) := (hd 11 (by simp)).1; subst ee)
          (have ee : v12 = (undef : Value) := (hd 12 (by simp)).1; subst ee)
          (have ee : v13 = (undef : Value) := (hd 13 (by simp)).1; subst ee)
          have hE := (hd 12 (by simp)).2 rfl
          clear hd
          (try go_simp)
          have hAx : Arr wx (w.heap.size + 2) f := hg.2.1 HA.out
          have hBx : Below w.heap.size w wx := HB.out.trans (Turn.below (B := w.heap.size) hg.1 (by show _ ≤ wr.heap.size; omega) fun q hq e => by rcases e with e | e <;> omega)
          have HBX := Lib.hid hBx
          obtain ⟨⟨y0, y1⟩, _, _⟩ := hE
          obtain ⟨t0, t1, t2, t3, t4, t5, t6, t7, t8, t9, t10, t11, t12⟩ := hAx.cells
          clear hAx hBx HA HZ HX HU hg
          go_wp2
          refine only_done ?_
          go_wp2
          exact bodyPost_ret (v := .tuple #[.agg #[.int .i64 x.1, .int .i64 x.2], vD f, .bool q]) (by simp [results, Try.results68, go_sem, *]) rfl (HPOST.out _ _ ⟨x, f, by rw [HOK.out, HBB.out]; rfl, fun _ => ⟨HXE.out.symm, HD.out⟩, HBX.out⟩)
      · obtain ⟨i, rfl⟩ : ∃ i, j = i + 1 := ⟨j - 1, by omega⟩
        have hsp := split_in (upN (R - (i + 1)) y) (upN_sm (by omega) HSM.out _)
        have hup : upN (R - i) y = upE (upN (R - (i + 1)) y) := by rw [show R - i = (R - (i + 1)) + 1 by omega, upN_up]
        have HD := Lib.hid (digit_in (digE (upN (R - (i + 1)) y)) (digE_lt _))
        have HWD := Lib.hid (fun k => wayD_step (R := R) (z := y) (i := i) (k := k) (by omega))
        rw [← hup] at hsp
        simp only [vE] at hsp HD
        have HSP := Lib.hid hsp
        clear hsp hup
        generalize upN (R - (i + 1)) y = x at *
        obtain ⟨x', hx'⟩ : ∃ x', upN (R - i) y = x' := ⟨_, rfl⟩
        rw [hx'] at HSP
        have HXE := Lib.hid hx'
        clear hx'
        generalize leftE (digE x) = l at *
        generalize digE x = d at *
        obtain ⟨⟨⟨z0, z1⟩, z2, z3⟩, hA, hU, hB⟩ := HI.out
        have Z := Lib.hid HI.out.1
        have A := Lib.hid hA
        have U := Lib.hid hU
        have B := Lib.hid hB
        have q0 : decide (0 < (i : Int) + 1) = true := decide_eq_true (by omega)
        clear hA hU hB HI
        go_wp2_with fail
        refine (HSP.out _).mono ?_
        rintro e w3 ⟨rfl, hb3⟩
        have hz3 := hb3.size
        have k1 := World.size_alloc w3 (.cells #[.int .i64 x'.1, .int .i64 x'.2] 27)
        have k2 := World.size_alloc (w3.alloc (.cells #[.int .i64 x'.1, .int .i64 x'.2] 27)) (.cells #[.int .i64 l.1, .int .i64 l.2] 27)
        have hal : Below w3.heap.size w3 ((w3.alloc (.cells #[.int .i64 x'.1, .int .i64 x'.2] 27)).alloc (.cells #[.int .i64 l.1, .int .i64 l.2] 27)) := ((Below.refl _ _).alloc (Nat.le_refl _) _).alloc (by omega) _
        have hal2 : Below wr.heap.size wr ((w3.alloc (.cells #[.int .i64 x'.1, .int .i64 x'.2] 27)).alloc (.cells #[.int .i64 l.1, .int .i64 l.2] 27)) := hb3.trans (hal.mono hz3)
        have Z2 := Lib.hid (Z.out.later (by omega) hal2)
        have A2 := Lib.hid (A.out.later hal2)
        have U2 := Lib.hid (U.out.later (by omega) hal2)
        have B2 := Lib.hid (B.out.trans (hal2.mono (by omega)))
        have X2 : Hid (Two ((w3.alloc (.cells #[.int .i64 x'.1, .int .i64 x'.2] 27)).alloc (.cells #[.int .i64 l.1, .int .i64 l.2] 27)) w3.heap.size (.int .i64 x'.1) (.int .i64 x'.2)) := (Two.of_row (t := 27) (f := _) (heap_new _ _ _ rfl)).alloc (by omega) _
        have L2 : Hid (Two ((w3.alloc (.cells #[.int .i64 x'.1, .int .i64 x'.2] 27)).alloc (.cells #[.int .i64 l.1, .int .i64 l.2] 27)) (w3.heap.size + 1) (.int .i64 l.1) (.int .i64 l.2)) := Two.of_row (t := 27) (f := _) (heap_new _ _ _ (by omega))
        clear hb3 hal hal2 z0 z1 z2 z3 Z A U B
        go_upto_region 8 with (fail)
        generalize (w3.alloc (.cells #[.int .i64 x'.1, .int .i64 x'.2] 27)).alloc (.cells #[.int .i64 l.1, .int .i64 l.2] 27) = w4 at *
        have HG : Hid (∀ wx, Ga (w.heap.size + 2) (wayD R y (i + 1)) (wayD R y i) w4.drew wx → (∃ v, wx.cell? ⟨w.heap.size + 1 + 1, i + 1, none⟩ = some v) ∧ wx.frozen? ⟨w.heap.size + 1 + 1, i + 1, none⟩ = false ∧ Ga (w.heap.size + 2) (wayD R y (i + 1)) (wayD R y i) wx (wx.setCell ⟨w.heap.size + 1 + 1, i + 1, none⟩ (.int .i64 d)) ∧ Arr (wx.setCell ⟨w.heap.size + 1 + 1, i + 1, none⟩ (.int .i64 d)) (w.heap.size + 2) (wayD R y i)) := fun wx hx => by
          have hi13 : i + 1 < 13 := by omega
          have hp : Arr wx (w.heap.size + 2) (wayD R y (i + 1)) ∨ Arr wx (w.heap.size + 2) (wayD R y i) := hx.2.1 A2.out
          have hput : Arr (wx.setCell ⟨w.heap.size + 1 + 1, i + 1, none⟩ (.int .i64 d)) (w.heap.size + 2) (wayD R y i) ∧ Turn (fun q => q = w.heap.size + 2) wx (wx.setCell ⟨w.heap.size + 1 + 1, i + 1, none⟩ (.int .i64 d)) := by
            rcases hp with h | h
            · exact ⟨(h.put hi13 (d : Int)).1.congr fun k _ => HWD.out k, (h.put hi13 (d : Int)).2⟩
            · refine ⟨(h.put hi13 (d : Int)).1.congr fun k _ => ?_, (h.put hi13 (d : Int)).2⟩
              rw [← HWD.out k]
              by_cases e : k = i + 1
              · rw [if_pos e, if_pos e]
              · rw [if_neg e, if_neg e]
          refine ⟨?_, ?_, ⟨hput.2, fun _ => .inr hput.1, fun _ => hput.1⟩, hput.1⟩
          · rcases hp with h | h
            · exact ⟨_, (h.cell hi13).1⟩
            · exact ⟨_, (h.cell hi13).1⟩
          · rcases hp with h | h
            · exact (h.cell hi13).2
            · exact (h.cell hi13).2
        have HX : Hid (∀ wx, Turn (fun q => q = w.heap.size + 2) w4 wx → Two wx w3.heap.size (.int .i64 x'.1) (.int .i64 x'.2) ∧ Two wx (w3.heap.size + 1) (.int .i64 l.1) (.int .i64 l.2)) := fun wx hx => ⟨X2.out.turn hx (by omega) (by omega), L2.out.turn hx (by omega) (by omega)⟩
        have hi12 : (i : Int) + 1 < 13 := by omega
        clear X2 L2
        refine wp_region_end 6 (Ga (w.heap.size + 2) (wayD R y (i + 1)) (wayD R y i)) (fun qi_ qv_ qw_ => qv_ = ([.int .i64 ((i : Int) + 1), .agg #[.int .i64 l.1, .int .i64 l.2], .int .i64 (d : Int), .agg #[.int .i64 x'.1, .int .i64 x'.2], .pointer (some ⟨w.heap.size + 1 + 1, i + 1, none⟩), undef] : List Value).getD qi_ undef ∧ (qi_ = 5 → (fun q => Arr q (w.heap.size + 2) (wayD R y i)) qw_)) (by kernel_rfl) (by kernel_rfl) (by kernel_rfl) (fun _ => Ga.refl _ _ _ _) (fun _ _ _ h1 h2 => h1.trans h2) (fun _ _ _ _ _ h2 h => ⟨h.1, fun e => h2.2.2 (h.2 e)⟩) ?_
        simp only [List.take_succ_cons, List.take_zero, List.drop_succ_cons, List.drop_zero]
        refine inv_cons (fun wx hg hd => ?_) (fun v0 => ?_)
        · clear hd
          go_wp2
          first | exact ⟨_, rfl, Ga.refl _ _ _ _, rfl⟩ | exact ⟨_, rfl, Ga.refl _ _ _ _, rfl, fun h => absurd h (by simp)⟩
        (try simp only [List.nil_append, Act.put, List.setIfInBounds_toArray, List.set_cons_zero, List.set_cons_succ])
        refine inv_cons (fun wx hg hd => ?_) (fun v1 => ?_)
        · clear hd
          obtain ⟨_, t1, t2⟩ := HX.out _ hg.1
          go_wp2
          first | exact ⟨_, rfl, Ga.refl _ _ _ _, rfl⟩ | exact ⟨_, rfl, Ga.refl _ _ _ _, rfl, fun h => absurd h (by simp)⟩
        (try simp only [List.cons_append, List.nil_append, Act.put, List.setIfInBounds_toArray, List.set_cons_zero, List.set_cons_succ])
        refine inv_cons (fun wx hg hd => ?_) (fun v2 => ?_)
        · (try (have ee : v1 = (.agg #[.int .i64 l.1, .int .i64 l.2] : Value) := (hd 1 (by simp) (by decide)).1; subst ee))
          clear hd
          go_wp2_with fail
          refine (HD.out _).mono ?_
          rintro e w' ⟨rfl, hb⟩
          go_wp2
          first | exact ⟨_, rfl, Ga.of_below hb, rfl⟩ | exact ⟨_, rfl, Ga.of_below hb, rfl, fun h => absurd h (by simp)⟩
        (try simp only [List.cons_append, List.nil_append, Act.put, List.setIfInBounds_toArray, List.set_cons_zero, List.set_cons_succ])
        refine inv_cons (fun wx hg hd => ?_) (fun v3 => ?_)
        · clear hd
          obtain ⟨⟨t1, t2⟩, _⟩ := HX.out _ hg.1
          go_wp2
          first | exact ⟨_, rfl, Ga.refl _ _ _ _, rfl⟩ | exact ⟨_, rfl, Ga.refl _ _ _ _, rfl, fun h => absurd h (by simp)⟩
        (try simp only [List.cons_append, List.nil_append, Act.put, List.setIfInBounds_toArray, List.set_cons_zero, List.set_cons_succ])
        refine inv_cons (fun wx hg hd => ?_) (fun v4 => ?_)
        · (try (have ee : v0 = (.int .i64 ((i : Int) + 1) : Value) := (hd 0 (by simp) (by decide)).1; subst ee))
          clear hd
          go_wp2
          first | exact ⟨_, rfl, Ga.refl _ _ _ _, rfl⟩ | exact ⟨_, rfl, Ga.refl _ _ _ _, rfl, fun h => absurd h (by simp)⟩
        (try simp only [List.cons_append, List.nil_append, Act.put, List.setIfInBounds_toArray, List.set_cons_zero, List.set_cons_succ])
        refine inv_cons (fun wx hg hd => ?_) (fun v5 => ?_)
        · (try (have ee : v2 = (.int .i64 (d : Int) : Value) := (hd 2 (by simp) (by decide)).1; subst ee))
          (try (have ee : v4 = (.pointer (some ⟨w.heap.size + 1 + 1, i + 1, none⟩) : Value) := (hd 4 (by simp) (by decide)).1; subst ee))
          clear hd
          obtain ⟨⟨v, t1⟩, t2, t3, t4⟩ := HG.out _ hg
          go_wp2
          exact ⟨_, rfl, t3, rfl, t4⟩
        (try simp only [List.cons_append, List.nil_append, Act.put])
        refine inv_done (fun wx hg hd => ?_)
        (have ee : v0 = (.int .i64 ((i : Int) + 1) : Value) := (hd 0 (by simp)).1; subst ee)
        (have ee : v1 = (.agg #[.int .i64 l.1, .int .i64 l.2] : Value) := (hd 1 (by simp)).1; subst ee)
        (have ee : v2 = (.int .i64 (d : Int) : Value) := (hd 2 (by simp)).1; subst ee)
        (have ee : v3 = (.agg #[.int .i64 x'.1, .int .i64 x'.2] : Value) := (hd 3 (by simp)).1; subst ee)
        (have ee : v4 = (.pointer (some ⟨w.heap.size + 1 + 1, i + 1, none⟩) : Value) := (hd 4 (by simp)).1; subst ee)
        (have ee : v5 = (undef : Value) := (hd 5 (by simp)).1; subst ee)
        have hE := (hd 5 (by simp)).2 rfl
        clear hd
        (try go_simp)
        have hgt : Turn (fun q => q = w.heap.size + 2) w4 wx := hg.1
        have hsx := hgt.2.2.2.1
        have Z3 := Lib.hid (Z2.out.turn hgt (by omega) (by omega))
        have U3 := Lib.hid (U2.out.turn hgt (by omega) (by omega))
        have B3 : Hid (Below w.heap.size w wx) := B2.out.trans (hgt.below (by omega) fun q hq e => by omega)
        have P := Lib.hid (Z3.out.put (.int .i64 x'.1) (.int .i64 x'.2))
        have hs4 := P.out.2.2.2.2.1
        have HN : Hid (Two2 ((wx.setCell ⟨zb, 0, none⟩ (.int .i64 x'.1)).setCell ⟨zb, 1, none⟩ (.int .i64 x'.2)) zb (.int .i64 x'.1) (.int .i64 x'.2) ∧ Arr ((wx.setCell ⟨zb, 0, none⟩ (.int .i64 x'.1)).setCell ⟨zb, 1, none⟩ (.int .i64 x'.2)) (w.heap.size + 2) (wayD R y i) ∧ Two2 ((wx.setCell ⟨zb, 0, none⟩ (.int .i64 x'.1)).setCell ⟨zb, 1, none⟩ (.int .i64 x'.2)) (w.heap.size + 1) (.int .i64 0) (.int .i64 0) ∧ Below w.heap.size w ((wx.setCell ⟨zb, 0, none⟩ (.int .i64 x'.1)).setCell ⟨zb, 1, none⟩ (.int .i64 x'.2))) :=
          ⟨P.out.1, Arr.turn hE P.out.2 (by omega), U3.out.turn P.out.2 (by omega) (by omega), B3.out.trans (P.out.2.below (by omega) fun q hq e => by omega)⟩
        obtain ⟨⟨z0, z1⟩, z2, z3⟩ := Z3.out
        have HSZ : Hid (w2.heap.size ≤ ((wx.setCell ⟨zb, 0, none⟩ (.int .i64 x'.1)).setCell ⟨zb, 1, none⟩ (.int .i64 x'.2)).heap.size) := by show _ ≤ _; omega
        clear hgt hg hE HX HG Z2 A2 U2 B2 Z3 U3 B3 P
        go_wp2
        refine only_done ?_
        go_wp2
        go_roundw
        case rel => exact ⟨i, by omega, by go_num, by rw [HXE.out]; exact HN.out, HSZ.out⟩
        case measure => simp [intOf]
theorem way_any (r : Int) (z : E2) (w : World) : Calls Try.prog 68 #[vC r z] w (Way w r z) := by
  by_cases hs : shapeB r z = true
  · exact way_yes r z hs w
  · exact way_no r z hs w
/-- Whether it is a cell. -/
theorem ok_any (r : Int) (z : E2) (w : World) : Calls Try.prog 66 #[vC r z] w fun e w' => e = .returned (.bool (okB r z)) ∧ Below w.heap.size w w' := by
  have HW := Lib.hid (way_any r z)
  unfold Way at HW
  generalize okB r z = o at *
  simp only [vC] at *
  go_enter Try.func66, Try.ntmps66
  go_wp2_with fail
  refine (HW.out _).mono ?_
  rintro e w1 ⟨b, f, rfl, -, hb⟩
  have HB : Hid (Below w.heap.size w w1) := ((Below.refl _ _).alloc (Nat.le_refl _) _).trans (hb.mono (by simp))
  have hz := HB.out.size
  clear hb HW
  go_wp2
  go_ret
  exact ⟨rfl, (HB.out.alloc hz _).alloc (by simp; omega) _⟩
end Go.Proofs.Ytkjfdaleamonaaa
