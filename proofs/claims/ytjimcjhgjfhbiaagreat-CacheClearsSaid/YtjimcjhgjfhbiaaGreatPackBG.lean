/- Joined: WdG, WdH, WdI, NfG, NfC, NfD, NfH, CvA: contracts and plain laws, each with its own heading below. -/
import Derived.Test.YtjimcjhgjfhbiaaGreatPackBF
import Derived.Test.YtjimcjhgjfhbiaaGreatPackBE
import Derived.StillTailTactics
import Derived.Laws.Bits64b
import Derived.Laws.BitsAllLaws
/- Contracts of package cell: shape, Way, Ok. -/
namespace Go.Proofs.YtjimcjhgjfhbiaaGreat
open Go.RowKit Go.Lib Wd

/-- A cell, as a value. -/
abbrev vC (r : Int) (z : E2) : Value := .agg #[.int .i64 r, .int .i64 z.1, .int .i64 z.2]
set_option maxHeartbeats 2000000 in
theorem shape_any (r : Int) (z : E2) (w : World) :
    Calls Tryz.prog 133 #[vC r z] w fun e w' => e = .returned (.bool (shapeB r z)) ∧ Below w.heap.size w w' := by
  obtain ⟨a, b⟩ := z
  have W1 := Lib.hid (within_any a 1073741824 (by omega) (by omega))
  have W2 := Lib.hid (within_any b 1073741824 (by omega) (by omega))
  have HS : Hid (shapeB r (a, b) = (decide (0 ≤ r) && decide (r ≤ 12) && (decide (-1073741824 ≤ a) && decide (a ≤ 1073741824)) && (decide (-1073741824 ≤ b) && decide (b ≤ 1073741824)))) := rfl
  simp only [vC] at *
  generalize shapeB r (a, b) = s at *
  generalize (decide (-1073741824 ≤ a) && decide (a ≤ 1073741824)) = p at *
  generalize (decide (-1073741824 ≤ b) && decide (b ≤ 1073741824)) = q at *
  have hB : Hid (Below w.heap.size w (w.alloc (.cells #[.int .i64 r, .int .i64 a, .int .i64 b] 72))) := (Below.refl _ _).alloc (Nat.le_refl _) _
  by_cases h0 : 0 ≤ r
  · by_cases h1 : r ≤ 12
    · have HV : Hid (s = (p && q)) := by show _ = _; rw [HS.out, decide_eq_true h0, decide_eq_true h1]; simp
      clear HS
      cases p
      · go_enter Tryz.func133, Tryz.ntmps133
        go_wp2_with fail
        refine (W1.out _).mono ?_
        rintro e w1 ⟨rfl, rfl⟩
        go_wp2
        go_ret
        exact ⟨by rw [HV.out]; rfl, hB.out⟩
      · go_enter Tryz.func133, Tryz.ntmps133
        go_wp2_with fail
        refine (W1.out _).mono ?_
        rintro e w1 ⟨rfl, rfl⟩
        go_wp2_with fail
        refine (W2.out _).mono ?_
        rintro e w1 ⟨rfl, rfl⟩
        go_wp2
        go_ret
        exact ⟨by rw [HV.out, Bool.true_and]; rfl, hB.out⟩
    · have HV : Hid (s = false) := by show _ = _; rw [HS.out, decide_eq_false h1]; simp
      have q1 : decide (r ≤ 12) = false := decide_eq_false h1
      clear HS
      go_enter Tryz.func133, Tryz.ntmps133
      go_wp2
      go_ret
      exact ⟨by rw [HV.out]; rfl, hB.out⟩
  · have HV : Hid (s = false) := by show _ = _; rw [HS.out, decide_eq_false h0]; simp
    have q1 : decide (0 ≤ r) = false := decide_eq_false h0
    clear HS
    go_enter Tryz.func133, Tryz.ntmps133
    go_wp2
    go_ret
    exact ⟨by rw [HV.out]; rfl, hB.out⟩
theorem in_any (n : Int) (w : World) :
    Calls Tryz.prog 136 #[.int .i64 n] w fun e w' => e = .returned (.bool (decide (-512 ≤ n) && decide (n < 512))) ∧ w' = w := by
  by_cases h0 : -512 ≤ n
  · obtain ⟨b, hb⟩ : ∃ b, decide (n < 512) = b := ⟨_, rfl⟩
    have HV : Hid ((decide (-512 ≤ n) && decide (n < 512)) = b) := by show _ = _; rw [decide_eq_true h0, hb]; rfl
    rw [HV.out]
    clear HV
    cases b
    · go_enter Tryz.func136, Tryz.ntmps136
      go_wp2
      go_ret
      exact ⟨rfl, rfl⟩
    · go_enter Tryz.func136, Tryz.ntmps136
      go_wp2
      go_ret
      exact ⟨rfl, rfl⟩
  · have q1 : decide (-512 ≤ n) = false := decide_eq_false h0
    have HV : Hid ((decide (-512 ≤ n) && decide (n < 512)) = false) := by show _ = _; rw [q1]; rfl
    rw [HV.out]
    clear HV
    go_enter Tryz.func136, Tryz.ntmps136
    go_wp2
    go_ret
    exact ⟨rfl, rfl⟩
theorem Turn.mono {S T : Nat → Prop} {w w' : World} (h : Turn S w w') (hs : ∀ k, S k → T k) : Turn T w w' := ⟨h.1, h.2.1, h.2.2.1, h.2.2.2.1, fun k hk hn => h.2.2.2.2 k hk fun h2 => hn (hs k h2)⟩
/-- The thirteen numbers of an array. -/
abbrev vD (f : Nat → Int) : Value := .agg #[.int .i64 (f 0), .int .i64 (f 1), .int .i64 (f 2), .int .i64 (f 3), .int .i64 (f 4), .int .i64 (f 5), .int .i64 (f 6), .int .i64 (f 7), .int .i64 (f 8), .int .i64 (f 9), .int .i64 (f 10), .int .i64 (f 11), .int .i64 (f 12)]
def Arr (w : World) (b : Nat) (f : Nat → Int) : Prop := ∃ A : Array Value, w.heap[b]? = some (.cells A 177 (0, 0)) ∧ A.size = 13 ∧ ∀ k, k < 13 → A[k]? = some (.int .i64 (f k))
theorem Arr.lt {w : World} {b : Nat} {f : Nat → Int} (h : Arr w b f) : b < w.heap.size := by obtain ⟨A, h, _⟩ := h; exact (Array.getElem?_eq_some_iff.1 h).1
theorem Arr.turn {S : Nat → Prop} {w w' : World} {b : Nat} {f : Nat → Int} (h : Arr w b f) (ht : Turn S w w') (hs : ¬ S b) : Arr w' b f := by
  have hl := h.lt
  obtain ⟨A, h, h2⟩ := h
  exact ⟨A, (ht.2.2.2.2 b hl hs).trans h, h2⟩
theorem Arr.later {w w' : World} {b : Nat} {f : Nat → Int} (h : Arr w b f) (hb : Below w.heap.size w w') : Arr w' b f := h.turn (Turn.of_below (S := fun _ => False) hb) (fun h => h)
theorem Arr.cell {w : World} {b : Nat} {f : Nat → Int} (h : Arr w b f) {k : Nat} (hk : k < 13) : w.cell? ⟨b, k, none⟩ = some (.int .i64 (f k)) ∧ w.frozen? ⟨b, k, none⟩ = false := by
  obtain ⟨A, h, hs, h2⟩ := h
  have := h2 k hk
  exact ⟨by simp [World.cell?, h, this], by simp [World.frozen?, h]⟩
theorem Arr.put {w : World} {b : Nat} {f : Nat → Int} (h : Arr w b f) {k : Nat} (_hk : k < 13) (v : Int) : Arr (w.setCell ⟨b, k, none⟩ (.int .i64 v)) b (fun j => if j = k then v else f j) ∧ Turn (fun q => q = b) w (w.setCell ⟨b, k, none⟩ (.int .i64 v)) := by
  refine ⟨?_, (Turn.refl (fun q => q = b) w).setCell (a := ⟨b, k, none⟩) rfl _⟩
  obtain ⟨A, h, hs, h2⟩ := h
  refine ⟨A.setIfInBounds k (.int .i64 v), ?_, by simpa using hs, fun j hj => ?_⟩
  · rw [Sort.setCell_eq]
    simp [Sort.mapBlock, Array.getElem?_modify, h, Sort.onCells]
  · by_cases e : j = k
    · subst e
      simp only [if_pos]
      rw [Array.getElem?_setIfInBounds_self_of_lt (by omega)]
    · simp only [if_neg e]
      rw [Array.getElem?_setIfInBounds_ne (fun h => e h.symm)]
      exact h2 j hj
theorem Arr.congr {w : World} {b : Nat} {f g : Nat → Int} (h : Arr w b f) (e : ∀ k, k < 13 → f k = g k) : Arr w b g := by
  obtain ⟨A, h, hs, h2⟩ := h
  exact ⟨A, h, hs, fun k hk => by rw [← e k hk]; exact h2 k hk⟩
theorem Arr.zero {w : World} {b : Nat} (h : w.heap[b]? = some (.cells #[.int .i64 0, .int .i64 0, .int .i64 0, .int .i64 0, .int .i64 0, .int .i64 0, .int .i64 0, .int .i64 0, .int .i64 0, .int .i64 0, .int .i64 0, .int .i64 0, .int .i64 0] 177 (0, 0))) : Arr w b fun _ => 0 :=
  ⟨_, h, rfl, fun k hk => by
    rcases (show k = 0 ∨ k = 1 ∨ k = 2 ∨ k = 3 ∨ k = 4 ∨ k = 5 ∨ k = 6 ∨ k = 7 ∨ k = 8 ∨ k = 9 ∨ k = 10 ∨ k = 11 ∨ k = 12 by omega) with rfl | rfl | rfl | rfl | rfl | rfl | rfl | rfl | rfl | rfl | rfl | rfl | rfl <;> rfl⟩
theorem Arr.cells {w : World} {b : Nat} {f : Nat → Int} (h : Arr w b f) : w.cell? ⟨b, 0, none⟩ = some (.int .i64 (f 0)) ∧ w.cell? ⟨b, 1, none⟩ = some (.int .i64 (f 1)) ∧ w.cell? ⟨b, 2, none⟩ = some (.int .i64 (f 2)) ∧ w.cell? ⟨b, 3, none⟩ = some (.int .i64 (f 3)) ∧ w.cell? ⟨b, 4, none⟩ = some (.int .i64 (f 4)) ∧ w.cell? ⟨b, 5, none⟩ = some (.int .i64 (f 5)) ∧ w.cell? ⟨b, 6, none⟩ = some (.int .i64 (f 6)) ∧ w.cell? ⟨b, 7, none⟩ = some (.int .i64 (f 7)) ∧ w.cell? ⟨b, 8, none⟩ = some (.int .i64 (f 8)) ∧ w.cell? ⟨b, 9, none⟩ = some (.int .i64 (f 9)) ∧ w.cell? ⟨b, 10, none⟩ = some (.int .i64 (f 10)) ∧ w.cell? ⟨b, 11, none⟩ = some (.int .i64 (f 11)) ∧ w.cell? ⟨b, 12, none⟩ = some (.int .i64 (f 12)) := ⟨(h.cell (k := 0) (by decide)).1, (h.cell (k := 1) (by decide)).1, (h.cell (k := 2) (by decide)).1, (h.cell (k := 3) (by decide)).1, (h.cell (k := 4) (by decide)).1, (h.cell (k := 5) (by decide)).1, (h.cell (k := 6) (by decide)).1, (h.cell (k := 7) (by decide)).1, (h.cell (k := 8) (by decide)).1, (h.cell (k := 9) (by decide)).1, (h.cell (k := 10) (by decide)).1, (h.cell (k := 11) (by decide)).1, (h.cell (k := 12) (by decide)).1⟩
theorem Arr.frozen {w : World} {b : Nat} {f : Nat → Int} (h : Arr w b f) : w.frozen? ⟨b, 0, none⟩ = false ∧ w.frozen? ⟨b, 1, none⟩ = false ∧ w.frozen? ⟨b, 2, none⟩ = false ∧ w.frozen? ⟨b, 3, none⟩ = false ∧ w.frozen? ⟨b, 4, none⟩ = false ∧ w.frozen? ⟨b, 5, none⟩ = false ∧ w.frozen? ⟨b, 6, none⟩ = false ∧ w.frozen? ⟨b, 7, none⟩ = false ∧ w.frozen? ⟨b, 8, none⟩ = false ∧ w.frozen? ⟨b, 9, none⟩ = false ∧ w.frozen? ⟨b, 10, none⟩ = false ∧ w.frozen? ⟨b, 11, none⟩ = false ∧ w.frozen? ⟨b, 12, none⟩ = false := ⟨(h.cell (k := 0) (by decide)).2, (h.cell (k := 1) (by decide)).2, (h.cell (k := 2) (by decide)).2, (h.cell (k := 3) (by decide)).2, (h.cell (k := 4) (by decide)).2, (h.cell (k := 5) (by decide)).2, (h.cell (k := 6) (by decide)).2, (h.cell (k := 7) (by decide)).2, (h.cell (k := 8) (by decide)).2, (h.cell (k := 9) (by decide)).2, (h.cell (k := 10) (by decide)).2, (h.cell (k := 11) (by decide)).2, (h.cell (k := 12) (by decide)).2⟩
theorem Arr.same {w : World} {b : Nat} {f : Nat → Int} (h : Arr w b f) {k : Nat} (hk : k < 13) : Arr (w.setCell ⟨b, k, none⟩ (.int .i64 (f k))) b f ∧ Turn (fun q => q = b) w (w.setCell ⟨b, k, none⟩ (.int .i64 (f k))) :=
  ⟨(h.put hk (f k)).1.congr fun j _ => by by_cases e : j = k <;> simp [e], (h.put hk (f k)).2⟩
theorem Arr.sames {w : World} {b : Nat} {f : Nat → Int} (h : Arr w b f) : Arr (((((((((((((w.setCell ⟨b, 0, none⟩ (.int .i64 (f 0))).setCell ⟨b, 1, none⟩ (.int .i64 (f 1))).setCell ⟨b, 2, none⟩ (.int .i64 (f 2))).setCell ⟨b, 3, none⟩ (.int .i64 (f 3))).setCell ⟨b, 4, none⟩ (.int .i64 (f 4))).setCell ⟨b, 5, none⟩ (.int .i64 (f 5))).setCell ⟨b, 6, none⟩ (.int .i64 (f 6))).setCell ⟨b, 7, none⟩ (.int .i64 (f 7))).setCell ⟨b, 8, none⟩ (.int .i64 (f 8))).setCell ⟨b, 9, none⟩ (.int .i64 (f 9))).setCell ⟨b, 10, none⟩ (.int .i64 (f 10))).setCell ⟨b, 11, none⟩ (.int .i64 (f 11))).setCell ⟨b, 12, none⟩ (.int .i64 (f 12))) b f ∧ Turn (fun q => q = b) w (((((((((((((w.setCell ⟨b, 0, none⟩ (.int .i64 (f 0))).setCell ⟨b, 1, none⟩ (.int .i64 (f 1))).setCell ⟨b, 2, none⟩ (.int .i64 (f 2))).setCell ⟨b, 3, none⟩ (.int .i64 (f 3))).setCell ⟨b, 4, none⟩ (.int .i64 (f 4))).setCell ⟨b, 5, none⟩ (.int .i64 (f 5))).setCell ⟨b, 6, none⟩ (.int .i64 (f 6))).setCell ⟨b, 7, none⟩ (.int .i64 (f 7))).setCell ⟨b, 8, none⟩ (.int .i64 (f 8))).setCell ⟨b, 9, none⟩ (.int .i64 (f 9))).setCell ⟨b, 10, none⟩ (.int .i64 (f 10))).setCell ⟨b, 11, none⟩ (.int .i64 (f 11))).setCell ⟨b, 12, none⟩ (.int .i64 (f 12))) := by
  have h0 := h.same (k := 0) (by decide)
  have h1 := h0.1.same (k := 1) (by decide)
  have h2 := h1.1.same (k := 2) (by decide)
  have h3 := h2.1.same (k := 3) (by decide)
  have h4 := h3.1.same (k := 4) (by decide)
  have h5 := h4.1.same (k := 5) (by decide)
  have h6 := h5.1.same (k := 6) (by decide)
  have h7 := h6.1.same (k := 7) (by decide)
  have h8 := h7.1.same (k := 8) (by decide)
  have h9 := h8.1.same (k := 9) (by decide)
  have h10 := h9.1.same (k := 10) (by decide)
  have h11 := h10.1.same (k := 11) (by decide)
  have h12 := h11.1.same (k := 12) (by decide)
  exact ⟨h12.1, ((((((((((((h0.2.trans h1.2 fun _ _ h => h).trans h2.2 fun _ _ h => h).trans h3.2 fun _ _ h => h).trans h4.2 fun _ _ h => h).trans h5.2 fun _ _ h => h).trans h6.2 fun _ _ h => h).trans h7.2 fun _ _ h => h).trans h8.2 fun _ _ h => h).trans h9.2 fun _ _ h => h).trans h10.2 fun _ _ h => h).trans h11.2 fun _ _ h => h).trans h12.2 fun _ _ h => h)⟩
/-- What the last statement of Way may turn. -/
def Gb (E A : Nat) (x : E2) (f : Nat → Int) (w w' : World) : Prop := Turn (fun q => q = E ∨ q = A) w w' ∧ (Arr w A f → Arr w' A f) ∧ ((∃ u v, Two2 w E u v) → ∃ u v, Two2 w' E u v) ∧ (Two2 w E (.int .i64 x.1) (.int .i64 x.2) → Two2 w' E (.int .i64 x.1) (.int .i64 x.2))
theorem Gb.refl (E A : Nat) (x : E2) (f : Nat → Int) (w : World) : Gb E A x f w w := ⟨Turn.refl _ _, fun h => h, fun h => h, fun h => h⟩
theorem Gb.trans {E A : Nat} {x : E2} {f : Nat → Int} {w w1 w2 : World} (h : Gb E A x f w w1) (h2 : Gb E A x f w1 w2) : Gb E A x f w w2 := ⟨h.1.trans h2.1 fun _ _ h => h, fun ha => h2.2.1 (h.2.1 ha), fun ha => h2.2.2.1 (h.2.2.1 ha), fun ha => h2.2.2.2 (h.2.2.2 ha)⟩
theorem Gb.arr {E A : Nat} {x : E2} {f : Nat → Int} {w w' : World} (hA : Arr w A f → Arr w' A f) (ht : Turn (fun q => q = A) w w') (hne : E ≠ A) (hE : E < w.heap.size) : Gb E A x f w w' :=
  ⟨ht.mono fun _ h => .inr h, hA, fun ⟨u, v, h⟩ => ⟨u, v, h.turn ht hE hne⟩, fun h => h.turn ht hE hne⟩
theorem Gb.put {E A : Nat} {x : E2} {f : Nat → Int} {w : World} (hE : ∃ u v, Two2 w E u v) (hne : E ≠ A) : Gb E A x f w ((w.setCell ⟨E, 0, none⟩ (.int .i64 x.1)).setCell ⟨E, 1, none⟩ (.int .i64 x.2)) ∧ Two2 ((w.setCell ⟨E, 0, none⟩ (.int .i64 x.1)).setCell ⟨E, 1, none⟩ (.int .i64 x.2)) E (.int .i64 x.1) (.int .i64 x.2) := by
  obtain ⟨u, v, h⟩ := hE
  have hp := h.put (.int .i64 x.1) (.int .i64 x.2)
  exact ⟨⟨hp.2.mono fun _ h => .inl h, fun ha => ha.turn hp.2 (fun e => hne e.symm), fun _ => ⟨_, _, hp.1⟩, fun _ => hp.1⟩, hp.1⟩
/-- Nothing has turned but an array, which is as it was or as it shall be. -/
def Ga (A : Nat) (f g : Nat → Int) (w w' : World) : Prop := Turn (fun q => q = A) w w' ∧ (Arr w A f → Arr w' A f ∨ Arr w' A g) ∧ (Arr w A g → Arr w' A g)
theorem Ga.refl (A : Nat) (f g : Nat → Int) (w : World) : Ga A f g w w := ⟨Turn.refl _ _, fun h => .inl h, fun h => h⟩
theorem Ga.trans {A : Nat} {f g : Nat → Int} {w w1 w2 : World} (h : Ga A f g w w1) (h2 : Ga A f g w1 w2) : Ga A f g w w2 := ⟨h.1.trans h2.1 fun _ _ h => h, fun ha => (h.2.1 ha).elim h2.2.1 fun h3 => .inr (h2.2.2 h3), fun ha => h2.2.2 (h.2.2 ha)⟩
theorem Ga.of_below {A : Nat} {f g : Nat → Int} {w w' : World} (h : Below w.heap.size w w') : Ga A f g w w' := ⟨Turn.of_below h, fun ha => .inl (ha.later h), fun ha => ha.later h⟩
/-- The digits found so far: those behind place i. -/
def wayD (R : Nat) (z : E2) (i k : Nat) : Int := if i < k ∧ k ≤ R then (digE (upN (R - k) z) : Int) else 0
theorem wayD_all (R : Nat) (z : E2) {k : Nat} (_hk : k < 13) (_hR : R ≤ 12) : wayD R z R k = 0 := by unfold wayD; rw [if_neg (by omega)]
theorem wayD_step {R : Nat} {z : E2} {i k : Nat} (hi : i < R) : (if k = i + 1 then (digE (upN (R - (i + 1)) z) : Int) else wayD R z (i + 1) k) = wayD R z i k := by
  unfold wayD
  by_cases h : k = i + 1
  · subst h; rw [if_pos rfl, if_pos (by omega)]
  · rw [if_neg h]
    by_cases h2 : i < k ∧ k ≤ R
    · rw [if_pos h2, if_pos (by omega)]
    · rw [if_neg h2, if_neg (by omega)]
theorem upN_sm {h : Int} (hh : 2 ≤ h) {z : E2} (hz : Sm h z) (k : Nat) : Sm h (upN k z) := by
  induction k with
  | zero => exact hz
  | succ k ih => rw [upN_up]; exact up_sm hh ih
/-- The way up from a cell. -/
def Way (w : World) (r : Int) (z : E2) (e : Ending) (w' : World) : Prop :=
  ∃ (b : E2) (f : Nat → Int), e = .returned (.tuple #[vE b, vD f, .bool (okB r z)]) ∧ (okB r z = true → b = upN r.toNat z ∧ ∀ k, 0 < k → k ≤ r.toNat → f k = (digE (upN (r.toNat - k) z) : Int)) ∧ Below w.heap.size w w'
set_option maxRecDepth 100000 in
set_option maxHeartbeats 8000000 in
theorem way_no (r : Int) (z : E2) (hs : ¬ shapeB r z = true) (w : World) : Calls Tryz.prog 127 #[vC r z] w (Way w r z) := by
  have HS := Lib.hid (shape_any r z)
  have hs0 : shapeB r z = false := by simpa using hs
  have HOK : Hid (okB r z = false) := by show _ = _; unfold okB; rw [hs0]; rfl
  rw [hs0] at HS
  clear hs hs0
  have HP : Hid (∀ w', Below w.heap.size w w' → Way w r z (.returned (.tuple #[.agg #[.int .i64 0, .int .i64 0], vD fun _ => 0, .bool false])) w') := fun w' hb => ⟨(0, 0), fun _ => 0, by rw [HOK.out], (fun h => by rw [HOK.out] at h; cases h), hb⟩
  simp only [vC] at *
  go_enter Tryz.func127, Tryz.ntmps127
  go_wp2_with fail
  refine (HS.out _).mono ?_
  rintro e w1 ⟨rfl, hb1⟩
  have hz1 := hb1.size
  simp at hz1
  have HU : Hid (Two2 w1 (w.heap.size + 1) (.int .i64 0) (.int .i64 0)) := (Two2.of_row (t := 70) (by rw [Below.heap_alloc _ _ _ (by simp)]; exact heap_new _ _ _ (by simp))).later (by simp) hb1
  have HA : Hid (Arr w1 (w.heap.size + 2) fun _ => 0) := (Arr.zero (heap_new _ _ _ (by simp))).later hb1
  have HB : Hid (Below w.heap.size w w1) := (((Below.refl _ _).alloc (Nat.le_refl _) _).alloc (by simp) _).alloc (by simp; omega) _ |>.trans (hb1.mono (by simp; omega))
  have hs1 : w.heap.size + 1 < w1.heap.size := by omega
  have hs2 : w.heap.size + 1 + 1 < w1.heap.size := by omega
  clear hb1 hz1
  go_wp2
  refine wp_region_end 4 (Gb (w.heap.size + 1) (w.heap.size + 2) (0, 0) fun _ => 0) (fun qi_ qv_ qw_ => qv_ = ([.agg #[.int .i64 0, .int .i64 0], vD fun _ => 0, undef, undef] : List Value).getD qi_ undef ∧ (qi_ = 2 → (fun q => Two2 q (w.heap.size + 1) (.int .i64 0) (.int .i64 0)) qw_)) (by kernel_rfl) (by kernel_rfl) (by kernel_rfl) (fun _ => Gb.refl _ _ _ _ _) (fun _ _ _ h1 h2 => h1.trans h2) (fun _ _ _ _ _ h2 h => ⟨h.1, fun e => h2.2.2.2 (h.2 e)⟩) ?_
  simp only [List.take_succ_cons, List.take_zero, List.drop_succ_cons, List.drop_zero]
  refine inv_cons (fun wx hg hd => ?_) (fun v0 => ?_)
  · clear hd
    obtain ⟨⟨t1, t2⟩, _⟩ := hg.2.2.2 HU.out
    go_wp2
    first | exact ⟨_, rfl, Gb.refl _ _ _ _ _, rfl⟩ | exact ⟨_, rfl, Gb.refl _ _ _ _ _, rfl, fun h => absurd h (by simp)⟩
  (try simp only [List.nil_append, Act.put, List.setIfInBounds_toArray, List.set_cons_zero, List.set_cons_succ])
  refine inv_cons (fun wx hg hd => ?_) (fun v1 => ?_)
  · clear hd
    obtain ⟨t0, t1, t2, t3, t4, t5, t6, t7, t8, t9, t10, t11, t12⟩ := (hg.2.1 HA.out).cells
    go_wp2
    first | exact ⟨_, rfl, Gb.refl _ _ _ _ _, rfl⟩ | exact ⟨_, rfl, Gb.refl _ _ _ _ _, rfl, fun h => absurd h (by simp)⟩
  (try simp only [List.cons_append, List.nil_append, Act.put, List.setIfInBounds_toArray, List.set_cons_zero, List.set_cons_succ])
  refine inv_cons (fun wx hg hd => ?_) (fun v2 => ?_)
  · (try (have ee : v0 = (.agg #[.int .i64 0, .int .i64 0] : Value) := (hd 0 (by simp) (by decide)).1; subst ee))
    clear hd
    obtain ⟨u, v, ⟨t1, t2⟩, t3, t4⟩ := hg.2.2.1 ⟨_, _, HU.out⟩
    have hP := Gb.put (E := w.heap.size + 1) (A := w.heap.size + 2) (x := (0, 0)) (f := fun _ => 0) (w := wx) ⟨u, v, ⟨t1, t2⟩, t3, t4⟩ (by omega)
    go_wp2
    exact ⟨_, rfl, hP.1, rfl, hP.2⟩
  (try simp only [List.cons_append, List.nil_append, Act.put])
  refine inv_cons (fun wx hg hd => ?_) (fun v3 => ?_)
  · (try (have ee : v1 = (vD fun _ => 0 : Value) := (hd 1 (by simp) (by decide)).1; subst ee))
    clear hd
    obtain ⟨t0, t1, t2, t3, t4, t5, t6, t7, t8, t9, t10, t11, t12⟩ := (hg.2.1 HA.out).cells
    obtain ⟨f0, f1, f2, f3, f4, f5, f6, f7, f8, f9, f10, f11, f12⟩ := (hg.2.1 HA.out).frozen
    have hP := (hg.2.1 HA.out).sames
    have hEl : w.heap.size + 1 < wx.heap.size := (by have := hg.1.2.2.2.1; simp at this; omega)
    go_wp2
    first | exact ⟨_, rfl, Gb.arr (fun _ => hP.1) hP.2 (by omega) hEl, rfl⟩ | exact ⟨_, rfl, Gb.arr (fun _ => hP.1) hP.2 (by omega) hEl, rfl, fun h => absurd h (by simp)⟩
  (try simp only [List.cons_append, List.nil_append, Act.put])
  refine inv_done (fun wx hg hd => ?_)
  (have ee : v0 = (.agg #[.int .i64 0, .int .i64 0] : Value) := (hd 0 (by simp)).1; subst ee)
  (have ee : v1 = (vD fun _ => 0 : Value) := (hd 1 (by simp)).1; subst ee)
  (have ee : v2 = (undef : Value) := (hd 2 (by simp)).1; subst ee)
  (have ee : v3 = (undef : Value) := (hd 3 (by simp)).1; subst ee)
  have hE := (hd 2 (by simp)).2 rfl
  clear hd
  (try go_simp)
  have hAx : Arr wx (w.heap.size + 2) fun _ => 0 := hg.2.1 HA.out
  have hBx : Below w.heap.size w wx := HB.out.trans (Turn.below (B := w.heap.size) hg.1 (by show _ ≤ w1.heap.size; omega) fun q hq e => by rcases e with e | e <;> omega)
  have HF := Lib.hid (HP.out wx hBx)
  obtain ⟨⟨y0, y1⟩, _, _⟩ := hE
  obtain ⟨t0, t1, t2, t3, t4, t5, t6, t7, t8, t9, t10, t11, t12⟩ := hAx.cells
  clear hAx hBx HA HU hg HP
  go_wp2
  refine only_done ?_
  go_wp2
  exact bodyPost_ret (v := .tuple #[.agg #[.int .i64 0, .int .i64 0], vD fun _ => 0, .bool false]) (by simp [results, Tryz.results127, go_sem, *]) rfl HF.out
set_option maxRecDepth 100000 in
set_option maxHeartbeats 8000000 in
theorem way_yes (r : Int) (z : E2) (hs : shapeB r z = true) (w : World) : Calls Tryz.prog 127 #[vC r z] w (Way w r z) := by
  have HS := Lib.hid (shape_any r z)
  · have hs2 := (shapeB_iff r z).1 hs
    obtain ⟨R, rfl⟩ : ∃ R : Nat, r = R := ⟨r.toNat, by omega⟩
    have hR : R ≤ 12 := by omega
    have HOK : Hid (okB R z = baseB (upN R z)) := by show _ = _; unfold okB; rw [hs]; rfl
    rw [hs] at HS
    have HSM : Hid (Sm 1099511627776 z) := by show Sm _ _; unfold Sm; omega
    clear hs hs2
    obtain ⟨a, b⟩ := z
    simp only [vC] at *
    go_enter Tryz.func127, Tryz.ntmps127
    go_wp2_with fail
    refine (HS.out _).mono ?_
    rintro e w1 ⟨rfl, hb1⟩
    have hz1 := hb1.size
    simp at hz1
    have hr := hb1.block w.heap.size (by simp; omega)
    rw [Below.heap_alloc _ _ _ (by simp; omega), Below.heap_alloc _ _ _ (by simp), heap_new _ _ _ rfl] at hr
    have c0 : w1.cell? ⟨w.heap.size, 0, none⟩ = some (.int .i64 R) := cell_of_row _ _ 0 _ _ _ hr
    have c1 : w1.cell? ⟨w.heap.size, 1, none⟩ = some (.int .i64 a) := cell_of_row _ _ 1 _ _ _ hr
    have c2 : w1.cell? ⟨w.heap.size, 2, none⟩ = some (.int .i64 b) := cell_of_row _ _ 2 _ _ _ hr
    have u0 : Two2 w1 (w.heap.size + 1) (.int .i64 0) (.int .i64 0) := (Two2.of_row (t := 70) (by rw [Below.heap_alloc _ _ _ (by simp)]; exact heap_new _ _ _ (by simp))).later (by simp) hb1
    have a0 : Arr w1 (w.heap.size + 2) fun _ => 0 := (Arr.zero (heap_new _ _ _ (by simp))).later hb1
    have hB1 : Below w.heap.size w w1 := (((Below.refl _ _).alloc (Nat.le_refl _) _).alloc (by simp) _).alloc (by simp; omega) _ |>.trans (hb1.mono (by simp; omega))
    have hal : Below w1.heap.size w1 (w1.alloc (.cells #[.int .i64 a, .int .i64 b] 70)) := (Below.refl _ _).alloc (Nat.le_refl _) _
    have hsz := World.size_alloc w1 (.cells #[.int .i64 a, .int .i64 b] 70)
    have U := Lib.hid (u0.later (by omega) hal)
    have A := Lib.hid (a0.later hal)
    have B := Lib.hid (hB1.trans (hal.mono (by omega)))
    have Z : Hid (Two2 (w1.alloc (.cells #[.int .i64 a, .int .i64 b] 70)) w1.heap.size (.int .i64 a) (.int .i64 b)) := Two2.of_row (t := 70) (heap_new _ _ _ rfl)
    have hz2 : w.heap.size + 2 < w1.heap.size := by omega
    have d0 : (w1.alloc (.cells #[.int .i64 a, .int .i64 b] 70)).cell? ⟨w.heap.size, 0, none⟩ = some (.int .i64 R) := (hal.cell (p := ⟨w.heap.size, 0, none⟩) (by show w.heap.size < w1.heap.size; omega)).trans c0
    clear hb1 hr u0 a0 hB1 hal hz1
    go_upto_region 4 with (fail)
    generalize w1.alloc (.cells #[.int .i64 a, .int .i64 b] 70) = w2 at *
    obtain ⟨zb, hzb⟩ : ∃ zb, w1.heap.size = zb := ⟨_, rfl⟩
    rw [hzb] at Z hz2 hsz ⊢
    clear hzb c0 c1 c2
    go_upto_region 5 with (fail)
    clear d0
    obtain ⟨y, hy⟩ : ∃ y : E2, y = (a, b) := ⟨_, rfl⟩
    have HY := Lib.hid hy
    rw [← hy] at HOK HSM
    have Z : Hid (Two2 w2 zb (.int .i64 (upN 0 y).1) (.int .i64 (upN 0 y).2)) := by rw [hy]; exact Z.out
    have HPOST : Hid (∀ e w', Way w R y e w' → Way w R (a, b) e w') := fun e w' h => by rw [← hy]; exact h
    clear hy
    go_wp2
    go_loopw [6] (fun i wr => ∃ j : Nat, j ≤ R ∧ i = .int .i64 j ∧ Hid (Two2 wr zb (.int .i64 (upN (R - j) y).1) (.int .i64 (upN (R - j) y).2) ∧ Arr wr (w.heap.size + 2) (wayD R y j) ∧ Two2 wr (w.heap.size + 1) (.int .i64 0) (.int .i64 0) ∧ Below w.heap.size w wr) ∧ w2.heap.size ≤ wr.heap.size) (fun i _ => (intOf i).toNat)
    case atStart => exact ⟨R, Nat.le_refl _, rfl, ⟨by rw [Nat.sub_self]; exact Z.out, A.out.congr fun k hk => (wayD_all R y hk hR).symm, U.out, B.out⟩, Nat.le_refl _⟩
    case round =>
      obtain ⟨j, hj, rfl, HI, hws⟩ := hrel
      clear Z A U B
      by_cases hj0 : j = 0
      · subst hj0
        rw [Nat.sub_zero] at HI
        obtain ⟨⟨⟨z0, z1⟩, z2, z3⟩, hA, hU, hB⟩ := HI.out
        have hzw : zb < wr.heap.size := by omega
        have N1 := Lib.hid (in_any (upN R y).1)
        have N2 := Lib.hid (in_any (upN R y).2)
        have HBB : Hid (baseB (upN R y) = ((decide (-512 ≤ (upN R y).1) && decide ((upN R y).1 < 512)) && (decide (-512 ≤ (upN R y).2) && decide ((upN R y).2 < 512)))) := rfl
        have HD : Hid (∀ k, 0 < k → k ≤ R → wayD R y 0 k = (digE (upN (R - k) y) : Int)) := fun k h0 h1 => by unfold wayD; rw [if_pos ⟨h0, h1⟩]
        obtain ⟨x, hx⟩ : ∃ x, upN R y = x := ⟨_, rfl⟩
        obtain ⟨f, hf⟩ : ∃ f, wayD R y 0 = f := ⟨_, rfl⟩
        rw [hf] at hA HD
        rw [hx] at N1 N2 HBB z0 z1 HOK
        have HXE := Lib.hid hx
        have HA := Lib.hid hA
        have HU := Lib.hid hU
        have HB := Lib.hid hB
        have HZ : Hid (Two2 wr zb (.int .i64 x.1) (.int .i64 x.2)) := ⟨⟨z0, z1⟩, z2, z3⟩
        clear HI hA hU hB hx hf HS
        generalize (decide (-512 ≤ x.1) && decide (x.1 < 512)) = p at *
        generalize (decide (-512 ≤ x.2) && decide (x.2 < 512)) = q at *
        have HX : Hid (∀ wx, Turn (fun q => q = w.heap.size + 1 ∨ q = w.heap.size + 2) wr.drew wx → Two2 wx zb (.int .i64 x.1) (.int .i64 x.2)) := fun wx hx => Two2.turn (w := wr.drew) HZ.out hx hzw (by omega)
        cases p
        · clear z0 z1 z2 z3
          go_wp2
          refine wp_region_end 14 (Gb (w.heap.size + 1) (w.heap.size + 2) x f) (fun qi_ qv_ qw_ => qv_ = ([.agg #[.int .i64 x.1, .int .i64 x.2], vD f, .func (.func 136) #[] #[], .pointer (some ⟨zb, 0, none⟩), .int .i64 x.1, .bool false, .bool false, undef, undef, undef, undef, .bool false, undef, undef] : List Value).getD qi_ undef ∧ (qi_ = 12 → (fun q => Two2 q (w.heap.size + 1) (.int .i64 x.1) (.int .i64 x.2)) qw_)) (by kernel_rfl) (by kernel_rfl) (by kernel_rfl) (fun _ => Gb.refl _ _ _ _ _) (fun _ _ _ h1 h2 => h1.trans h2) (fun _ _ _ _ _ h2 h => ⟨h.1, fun e => h2.2.2.2 (h.2 e)⟩) ?_
          simp only [List.take_succ_cons, List.take_zero, List.drop_succ_cons, List.drop_zero]
          refine inv_cons (fun wx hg hd => ?_) (fun v0 => ?_)
          · clear hd
            obtain ⟨⟨t1, t2⟩, _⟩ := HX.out _ hg.1
            go_wp2
            first | exact ⟨_, rfl, Gb.refl _ _ _ _ _, rfl⟩ | exact ⟨_, rfl, Gb.refl _ _ _ _ _, rfl, fun h => absurd h (by simp)⟩
          (try simp only [List.nil_append, Act.put, List.setIfInBounds_toArray, List.set_cons_zero, List.set_cons_succ])
          refine inv_cons (fun wx hg hd => ?_) (fun v1 => ?_)
          · clear hd
            obtain ⟨t0, t1, t2, t3, t4, t5, t6, t7, t8, t9, t10, t11, t12⟩ := (hg.2.1 HA.out).cells
            go_wp2
            first | exact ⟨_, rfl, Gb.refl _ _ _ _ _, rfl⟩ | exact ⟨_, rfl, Gb.refl _ _ _ _ _, rfl, fun h => absurd h (by simp)⟩
          (try simp only [List.cons_append, List.nil_append, Act.put, List.setIfInBounds_toArray, List.set_cons_zero, List.set_cons_succ])
          refine inv_cons (fun wx hg hd => ?_) (fun v2 => ?_)
          · clear hd
            go_wp2
            first | exact ⟨_, rfl, Gb.refl _ _ _ _ _, rfl⟩ | exact ⟨_, rfl, Gb.refl _ _ _ _ _, rfl, fun h => absurd h (by simp)⟩
          (try simp only [List.cons_append, List.nil_append, Act.put, List.setIfInBounds_toArray, List.set_cons_zero, List.set_cons_succ])
          refine inv_cons (fun wx hg hd => ?_) (fun v3 => ?_)
          · clear hd
            go_wp2
            first | exact ⟨_, rfl, Gb.refl _ _ _ _ _, rfl⟩ | exact ⟨_, rfl, Gb.refl _ _ _ _ _, rfl, fun h => absurd h (by simp)⟩
          (try simp only [List.cons_append, List.nil_append, Act.put, List.setIfInBounds_toArray, List.set_cons_zero, List.set_cons_succ])
          refine inv_cons (fun wx hg hd => ?_) (fun v4 => ?_)
          · (try (have ee : v3 = (.pointer (some ⟨zb, 0, none⟩) : Value) := (hd 3 (by simp) (by decide)).1; subst ee))
            clear hd
            obtain ⟨⟨t1, t2⟩, _⟩ := HX.out _ hg.1
            go_wp2
            first | exact ⟨_, rfl, Gb.refl _ _ _ _ _, rfl⟩ | exact ⟨_, rfl, Gb.refl _ _ _ _ _, rfl, fun h => absurd h (by simp)⟩
          (try simp only [List.cons_append, List.nil_append, Act.put, List.setIfInBounds_toArray, List.set_cons_zero, List.set_cons_succ])
          refine inv_cons (fun wx hg hd => ?_) (fun v5 => ?_)
          · (try (have ee : v2 = (.func (.func 136) #[] #[] : Value) := (hd 2 (by simp) (by decide)).1; subst ee))
            (try (have ee : v4 = (.int .i64 x.1 : Value) := (hd 4 (by simp) (by decide)).1; subst ee))
            clear hd
            go_wp2_with fail
            refine (N1.out _).mono ?_
            rintro e w' ⟨rfl, rfl⟩
            go_wp2
            first | exact ⟨_, rfl, Gb.refl _ _ _ _ _, rfl⟩ | exact ⟨_, rfl, Gb.refl _ _ _ _ _, rfl, fun h => absurd h (by simp)⟩
          (try simp only [List.cons_append, List.nil_append, Act.put, List.setIfInBounds_toArray, List.set_cons_zero, List.set_cons_succ])
          refine inv_cons (fun wx hg hd => ?_) (fun v6 => ?_)
          · (try (have ee : v5 = (.bool false : Value) := (hd 5 (by simp) (by decide)).1; subst ee))
            clear hd
            go_wp2
            first | exact ⟨_, rfl, Gb.refl _ _ _ _ _, rfl⟩ | exact ⟨_, rfl, Gb.refl _ _ _ _ _, rfl, fun h => absurd h (by simp)⟩
          (try simp only [List.cons_append, List.nil_append, Act.put, List.setIfInBounds_toArray, List.set_cons_zero, List.set_cons_succ])
          refine inv_cons (fun wx hg hd => ?_) (fun v7 => ?_)
          · (try (have ee : v6 = (.bool false : Value) := (hd 6 (by simp) (by decide)).1; subst ee))
            clear hd
            go_wp2
            first | exact ⟨_, rfl, Gb.refl _ _ _ _ _, rfl⟩ | exact ⟨_, rfl, Gb.refl _ _ _ _ _, rfl, fun h => absurd h (by simp)⟩
          (try simp only [List.cons_append, List.nil_append, Act.put, List.setIfInBounds_toArray, List.set_cons_zero, List.set_cons_succ])
          refine inv_cons (fun wx hg hd => ?_) (fun v8 => ?_)
          · (try (have ee : v6 = (.bool false : Value) := (hd 6 (by simp) (by decide)).1; subst ee))
            clear hd
            go_wp2
            first | exact ⟨_, rfl, Gb.refl _ _ _ _ _, rfl⟩ | exact ⟨_, rfl, Gb.refl _ _ _ _ _, rfl, fun h => absurd h (by simp)⟩
          (try simp only [List.cons_append, List.nil_append, Act.put, List.setIfInBounds_toArray, List.set_cons_zero, List.set_cons_succ])
          refine inv_cons (fun wx hg hd => ?_) (fun v9 => ?_)
          · (try (have ee : v6 = (.bool false : Value) := (hd 6 (by simp) (by decide)).1; subst ee))
            (try (have ee : v8 = (undef : Value) := (hd 8 (by simp) (by decide)).1; subst ee))
            clear hd
            go_wp2
            first | exact ⟨_, rfl, Gb.refl _ _ _ _ _, rfl⟩ | exact ⟨_, rfl, Gb.refl _ _ _ _ _, rfl, fun h => absurd h (by simp)⟩
          (try simp only [List.cons_append, List.nil_append, Act.put, List.setIfInBounds_toArray, List.set_cons_zero, List.set_cons_succ])
          refine inv_cons (fun wx hg hd => ?_) (fun v10 => ?_)
          · (try (have ee : v6 = (.bool false : Value) := (hd 6 (by simp) (by decide)).1; subst ee))
            (try (have ee : v7 = (undef : Value) := (hd 7 (by simp) (by decide)).1; subst ee))
            (try (have ee : v9 = (undef : Value) := (hd 9 (by simp) (by decide)).1; subst ee))
            clear hd
            go_wp2
            first | exact ⟨_, rfl, Gb.refl _ _ _ _ _, rfl⟩ | exact ⟨_, rfl, Gb.refl _ _ _ _ _, rfl, fun h => absurd h (by simp)⟩
          (try simp only [List.cons_append, List.nil_append, Act.put, List.setIfInBounds_toArray, List.set_cons_zero, List.set_cons_succ])
          refine inv_cons (fun wx hg hd => ?_) (fun v11 => ?_)
          · (try (have ee : v6 = (.bool false : Value) := (hd 6 (by simp) (by decide)).1; subst ee))
            (try (have ee : v10 = (undef : Value) := (hd 10 (by simp) (by decide)).1; subst ee))
            clear hd
            go_wp2
            first | exact ⟨_, rfl, Gb.refl _ _ _ _ _, rfl⟩ | exact ⟨_, rfl, Gb.refl _ _ _ _ _, rfl, fun h => absurd h (by simp)⟩
          (try simp only [List.cons_append, List.nil_append, Act.put, List.setIfInBounds_toArray, List.set_cons_zero, List.set_cons_succ])
          refine inv_cons (fun wx hg hd => ?_) (fun v12 => ?_)
          · (try (have ee : v0 = (.agg #[.int .i64 x.1, .int .i64 x.2] : Value) := (hd 0 (by simp) (by decide)).1; subst ee))
            clear hd
            obtain ⟨u, v, ⟨t1, t2⟩, t3, t4⟩ := hg.2.2.1 ⟨_, _, HU.out⟩
            have hP := Gb.put (E := w.heap.size + 1) (A := w.heap.size + 2) (x := x) (f := f) (w := wx) ⟨u, v, ⟨t1, t2⟩, t3, t4⟩ (by omega)
            go_wp2
            exact ⟨_, rfl, hP.1, rfl, hP.2⟩
          (try simp only [List.cons_append, List.nil_append, Act.put])
          refine inv_cons (fun wx hg hd => ?_) (fun v13 => ?_)
          · (try (have ee : v1 = (vD f : Value) := (hd 1 (by simp) (by decide)).1; subst ee))
            clear hd
            obtain ⟨t0, t1, t2, t3, t4, t5, t6, t7, t8, t9, t10, t11, t12⟩ := (hg.2.1 HA.out).cells
            obtain ⟨f0, f1, f2, f3, f4, f5, f6, f7, f8, f9, f10, f11, f12⟩ := (hg.2.1 HA.out).frozen
            have hP := (hg.2.1 HA.out).sames
            have hEl : w.heap.size + 1 < wx.heap.size := (by have := hg.1.2.2.2.1; simp at this; omega)
            go_wp2
            first | exact ⟨_, rfl, Gb.arr (fun _ => hP.1) hP.2 (by omega) hEl, rfl⟩ | exact ⟨_, rfl, Gb.arr (fun _ => hP.1) hP.2 (by omega) hEl, rfl, fun h => absurd h (by simp)⟩
          (try simp only [List.cons_append, List.nil_append, Act.put])
          refine inv_done (fun wx hg hd => ?_)
          (have ee : v0 = (.agg #[.int .i64 x.1, .int .i64 x.2] : Value) := (hd 0 (by simp)).1; subst ee)
          (have ee : v1 = (vD f : Value) := (hd 1 (by simp)).1; subst ee)
          (have ee : v2 = (.func (.func 136) #[] #[] : Value) := (hd 2 (by simp)).1; subst ee)
          (have ee : v3 = (.pointer (some ⟨zb, 0, none⟩) : Value) := (hd 3 (by simp)).1; subst ee)
          (have ee : v4 = (.int .i64 x.1 : Value) := (hd 4 (by simp)).1; subst ee)
          (have ee : v5 = (.bool false : Value) := (hd 5 (by simp)).1; subst ee)
          (have ee : v6 = (.bool false : Value) := (hd 6 (by simp)).1; subst ee)
          (have ee : v7 = (undef : Value) := (hd 7 (by simp)).1; subst ee)
          (have ee : v8 = (undef : Value) := (hd 8 (by simp)).1; subst ee)
          (have ee : v9 = (undef : Value) := (hd 9 (by simp)).1; subst ee)
          (have ee : v10 = (undef : Value) := (hd 10 (by simp)).1; subst ee)
          (have ee : v11 = (.bool false : Value) := (hd 11 (by simp)).1; subst ee)
          (have ee : v12 = (undef : Value) := (hd 12 (by simp)).1; subst ee)
          (have ee : v13 = (undef : Value) := (hd 13 (by simp)).1; subst ee)
          have hE := (hd 12 (by simp)).2 rfl
          clear hd
          (try go_simp)
          have hAx : Arr wx (w.heap.size + 2) f := hg.2.1 HA.out
          have hBx : Below w.heap.size w wx := HB.out.trans (Turn.below (B := w.heap.size) hg.1 (by show _ ≤ wr.heap.size; omega) fun q hq e => by rcases e with e | e <;> omega)
          have HBX := Lib.hid hBx
          obtain ⟨⟨y0, y1⟩, _, _⟩ := hE
          obtain ⟨t0, t1, t2, t3, t4, t5, t6, t7, t8, t9, t10, t11, t12⟩ := hAx.cells
          clear hAx hBx HA HZ HX HU hg
          go_wp2
          refine only_done ?_
          go_wp2
          exact bodyPost_ret (v := .tuple #[.agg #[.int .i64 x.1, .int .i64 x.2], vD f, .bool false]) (by simp [results, Tryz.results127, go_sem, *]) rfl (HPOST.out _ _ ⟨x, f, by rw [HOK.out, HBB.out]; rfl, fun _ => ⟨HXE.out.symm, HD.out⟩, HBX.out⟩)
        · clear z0 z1 z2 z3
          go_wp2
          refine wp_region_end 14 (Gb (w.heap.size + 1) (w.heap.size + 2) x f) (fun qi_ qv_ qw_ => qv_ = ([.agg #[.int .i64 x.1, .int .i64 x.2], vD f, .func (.func 136) #[] #[], .pointer (some ⟨zb, 0, none⟩), .int .i64 x.1, .bool true, .bool true, .func (.func 136) #[] #[], .pointer (some ⟨zb, 1, none⟩), .int .i64 x.2, .bool q, .bool q, undef, undef] : List Value).getD qi_ undef ∧ (qi_ = 12 → (fun q => Two2 q (w.heap.size + 1) (.int .i64 x.1) (.int .i64 x.2)) qw_)) (by kernel_rfl) (by kernel_rfl) (by kernel_rfl) (fun _ => Gb.refl _ _ _ _ _) (fun _ _ _ h1 h2 => h1.trans h2) (fun _ _ _ _ _ h2 h => ⟨h.1, fun e => h2.2.2.2 (h.2 e)⟩) ?_
          simp only [List.take_succ_cons, List.take_zero, List.drop_succ_cons, List.drop_zero]
          refine inv_cons (fun wx hg hd => ?_) (fun v0 => ?_)
          · clear hd
            obtain ⟨⟨t1, t2⟩, _⟩ := HX.out _ hg.1
            go_wp2
            first | exact ⟨_, rfl, Gb.refl _ _ _ _ _, rfl⟩ | exact ⟨_, rfl, Gb.refl _ _ _ _ _, rfl, fun h => absurd h (by simp)⟩
          (try simp only [List.nil_append, Act.put, List.setIfInBounds_toArray, List.set_cons_zero, List.set_cons_succ])
          refine inv_cons (fun wx hg hd => ?_) (fun v1 => ?_)
          · clear hd
            obtain ⟨t0, t1, t2, t3, t4, t5, t6, t7, t8, t9, t10, t11, t12⟩ := (hg.2.1 HA.out).cells
            go_wp2
            first | exact ⟨_, rfl, Gb.refl _ _ _ _ _, rfl⟩ | exact ⟨_, rfl, Gb.refl _ _ _ _ _, rfl, fun h => absurd h (by simp)⟩
          (try simp only [List.cons_append, List.nil_append, Act.put, List.setIfInBounds_toArray, List.set_cons_zero, List.set_cons_succ])
          refine inv_cons (fun wx hg hd => ?_) (fun v2 => ?_)
          · clear hd
            go_wp2
            first | exact ⟨_, rfl, Gb.refl _ _ _ _ _, rfl⟩ | exact ⟨_, rfl, Gb.refl _ _ _ _ _, rfl, fun h => absurd h (by simp)⟩
          (try simp only [List.cons_append, List.nil_append, Act.put, List.setIfInBounds_toArray, List.set_cons_zero, List.set_cons_succ])
          refine inv_cons (fun wx hg hd => ?_) (fun v3 => ?_)
          · clear hd
            go_wp2
            first | exact ⟨_, rfl, Gb.refl _ _ _ _ _, rfl⟩ | exact ⟨_, rfl, Gb.refl _ _ _ _ _, rfl, fun h => absurd h (by simp)⟩
          (try simp only [List.cons_append, List.nil_append, Act.put, List.setIfInBounds_toArray, List.set_cons_zero, List.set_cons_succ])
          refine inv_cons (fun wx hg hd => ?_) (fun v4 => ?_)
          · (try (have ee : v3 = (.pointer (some ⟨zb, 0, none⟩) : Value) := (hd 3 (by simp) (by decide)).1; subst ee))
            clear hd
            obtain ⟨⟨t1, t2⟩, _⟩ := HX.out _ hg.1
            go_wp2
            first | exact ⟨_, rfl, Gb.refl _ _ _ _ _, rfl⟩ | exact ⟨_, rfl, Gb.refl _ _ _ _ _, rfl, fun h => absurd h (by simp)⟩
          (try simp only [List.cons_append, List.nil_append, Act.put, List.setIfInBounds_toArray, List.set_cons_zero, List.set_cons_succ])
          refine inv_cons (fun wx hg hd => ?_) (fun v5 => ?_)
          · (try (have ee : v2 = (.func (.func 136) #[] #[] : Value) := (hd 2 (by simp) (by decide)).1; subst ee))
            (try (have ee : v4 = (.int .i64 x.1 : Value) := (hd 4 (by simp) (by decide)).1; subst ee))
            clear hd
            go_wp2_with fail
            refine (N1.out _).mono ?_
            rintro e w' ⟨rfl, rfl⟩
            go_wp2
            first | exact ⟨_, rfl, Gb.refl _ _ _ _ _, rfl⟩ | exact ⟨_, rfl, Gb.refl _ _ _ _ _, rfl, fun h => absurd h (by simp)⟩
          (try simp only [List.cons_append, List.nil_append, Act.put, List.setIfInBounds_toArray, List.set_cons_zero, List.set_cons_succ])
          refine inv_cons (fun wx hg hd => ?_) (fun v6 => ?_)
          · (try (have ee : v5 = (.bool true : Value) := (hd 5 (by simp) (by decide)).1; subst ee))
            clear hd
            go_wp2
            first | exact ⟨_, rfl, Gb.refl _ _ _ _ _, rfl⟩ | exact ⟨_, rfl, Gb.refl _ _ _ _ _, rfl, fun h => absurd h (by simp)⟩
          (try simp only [List.cons_append, List.nil_append, Act.put, List.setIfInBounds_toArray, List.set_cons_zero, List.set_cons_succ])
          refine inv_cons (fun wx hg hd => ?_) (fun v7 => ?_)
          · (try (have ee : v6 = (.bool true : Value) := (hd 6 (by simp) (by decide)).1; subst ee))
            clear hd
            go_wp2
            first | exact ⟨_, rfl, Gb.refl _ _ _ _ _, rfl⟩ | exact ⟨_, rfl, Gb.refl _ _ _ _ _, rfl, fun h => absurd h (by simp)⟩
          (try simp only [List.cons_append, List.nil_append, Act.put, List.setIfInBounds_toArray, List.set_cons_zero, List.set_cons_succ])
          refine inv_cons (fun wx hg hd => ?_) (fun v8 => ?_)
          · (try (have ee : v6 = (.bool true : Value) := (hd 6 (by simp) (by decide)).1; subst ee))
            clear hd
            go_wp2
            first | exact ⟨_, rfl, Gb.refl _ _ _ _ _, rfl⟩ | exact ⟨_, rfl, Gb.refl _ _ _ _ _, rfl, fun h => absurd h (by simp)⟩
          (try simp only [List.cons_append, List.nil_append, Act.put, List.setIfInBounds_toArray, List.set_cons_zero, List.set_cons_succ])
          refine inv_cons (fun wx hg hd => ?_) (fun v9 => ?_)
          · (try (have ee : v6 = (.bool true : Value) := (hd 6 (by simp) (by decide)).1; subst ee))
            (try (have ee : v8 = (.pointer (some ⟨zb, 1, none⟩) : Value) := (hd 8 (by simp) (by decide)).1; subst ee))
            clear hd
            obtain ⟨⟨t1, t2⟩, _⟩ := HX.out _ hg.1
            go_wp2
            first | exact ⟨_, rfl, Gb.refl _ _ _ _ _, rfl⟩ | exact ⟨_, rfl, Gb.refl _ _ _ _ _, rfl, fun h => absurd h (by simp)⟩
          (try simp only [List.cons_append, List.nil_append, Act.put, List.setIfInBounds_toArray, List.set_cons_zero, List.set_cons_succ])
          refine inv_cons (fun wx hg hd => ?_) (fun v10 => ?_)
          · (try (have ee : v6 = (.bool true : Value) := (hd 6 (by simp) (by decide)).1; subst ee))
            (try (have ee : v7 = (.func (.func 136) #[] #[] : Value) := (hd 7 (by simp) (by decide)).1; subst ee))
            (try (have ee : v9 = (.int .i64 x.2 : Value) := (hd 9 (by simp) (by decide)).1; subst ee))
            clear hd
            go_wp2_with fail
            refine (N2.out _).mono ?_
            rintro e w' ⟨rfl, rfl⟩
            go_wp2
            first | exact ⟨_, rfl, Gb.refl _ _ _ _ _, rfl⟩ | exact ⟨_, rfl, Gb.refl _ _ _ _ _, rfl, fun h => absurd h (by simp)⟩
          (try simp only [List.cons_append, List.nil_append, Act.put, List.setIfInBounds_toArray, List.set_cons_zero, List.set_cons_succ])
          refine inv_cons (fun wx hg hd => ?_) (fun v11 => ?_)
          · (try (have ee : v6 = (.bool true : Value) := (hd 6 (by simp) (by decide)).1; subst ee))
            (try (have ee : v10 = (.bool q : Value) := (hd 10 (by simp) (by decide)).1; subst ee))
            clear hd
            go_wp2
            first | exact ⟨_, rfl, Gb.refl _ _ _ _ _, rfl⟩ | exact ⟨_, rfl, Gb.refl _ _ _ _ _, rfl, fun h => absurd h (by simp)⟩
          (try simp only [List.cons_append, List.nil_append, Act.put, List.setIfInBounds_toArray, List.set_cons_zero, List.set_cons_succ])
          refine inv_cons (fun wx hg hd => ?_) (fun v12 => ?_)
          · (try (have ee : v0 = (.agg #[.int .i64 x.1, .int .i64 x.2] : Value) := (hd 0 (by simp) (by decide)).1; subst ee))
            clear hd
            obtain ⟨u, v, ⟨t1, t2⟩, t3, t4⟩ := hg.2.2.1 ⟨_, _, HU.out⟩
            have hP := Gb.put (E := w.heap.size + 1) (A := w.heap.size + 2) (x := x) (f := f) (w := wx) ⟨u, v, ⟨t1, t2⟩, t3, t4⟩ (by omega)
            go_wp2
            exact ⟨_, rfl, hP.1, rfl, hP.2⟩
          (try simp only [List.cons_append, List.nil_append, Act.put])
          refine inv_cons (fun wx hg hd => ?_) (fun v13 => ?_)
          · (try (have ee : v1 = (vD f : Value) := (hd 1 (by simp) (by decide)).1; subst ee))
            clear hd
            obtain ⟨t0, t1, t2, t3, t4, t5, t6, t7, t8, t9, t10, t11, t12⟩ := (hg.2.1 HA.out).cells
            obtain ⟨f0, f1, f2, f3, f4, f5, f6, f7, f8, f9, f10, f11, f12⟩ := (hg.2.1 HA.out).frozen
            have hP := (hg.2.1 HA.out).sames
            have hEl : w.heap.size + 1 < wx.heap.size := (by have := hg.1.2.2.2.1; simp at this; omega)
            go_wp2
            first | exact ⟨_, rfl, Gb.arr (fun _ => hP.1) hP.2 (by omega) hEl, rfl⟩ | exact ⟨_, rfl, Gb.arr (fun _ => hP.1) hP.2 (by omega) hEl, rfl, fun h => absurd h (by simp)⟩
          (try simp only [List.cons_append, List.nil_append, Act.put])
          refine inv_done (fun wx hg hd => ?_)
          (have ee : v0 = (.agg #[.int .i64 x.1, .int .i64 x.2] : Value) := (hd 0 (by simp)).1; subst ee)
          (have ee : v1 = (vD f : Value) := (hd 1 (by simp)).1; subst ee)
          (have ee : v2 = (.func (.func 136) #[] #[] : Value) := (hd 2 (by simp)).1; subst ee)
          (have ee : v3 = (.pointer (some ⟨zb, 0, none⟩) : Value) := (hd 3 (by simp)).1; subst ee)
          (have ee : v4 = (.int .i64 x.1 : Value) := (hd 4 (by simp)).1; subst ee)
          (have ee : v5 = (.bool true : Value) := (hd 5 (by simp)).1; subst ee)
          (have ee : v6 = (.bool true : Value) := (hd 6 (by simp)).1; subst ee)
          (have ee : v7 = (.func (.func 136) #[] #[] : Value) := (hd 7 (by simp)).1; subst ee)
          (have ee : v8 = (.pointer (some ⟨zb, 1, none⟩) : Value) := (hd 8 (by simp)).1; subst ee)
          (have ee : v9 = (.int .i64 x.2 : Value) := (hd 9 (by simp)).1; subst ee)
          (have ee : v10 = (.bool q : Value) := (hd 10 (by simp)).1; subst ee)
          (have ee : v11 = (.bool q : Value) := (hd 11 (by simp)).1; subst ee)
          (have ee : v12 = (undef : Value) := (hd 12 (by simp)).1; subst ee)
          (have ee : v13 = (undef : Value) := (hd 13 (by simp)).1; subst ee)
          have hE := (hd 12 (by simp)).2 rfl
          clear hd
          (try go_simp)
          have hAx : Arr wx (w.heap.size + 2) f := hg.2.1 HA.out
          have hBx : Below w.heap.size w wx := HB.out.trans (Turn.below (B := w.heap.size) hg.1 (by show _ ≤ wr.heap.size; omega) fun q hq e => by rcases e with e | e <;> omega)
          have HBX := Lib.hid hBx
          obtain ⟨⟨y0, y1⟩, _, _⟩ := hE
          obtain ⟨t0, t1, t2, t3, t4, t5, t6, t7, t8, t9, t10, t11, t12⟩ := hAx.cells
          clear hAx hBx HA HZ HX HU hg
          go_wp2
          refine only_done ?_
          go_wp2
          exact bodyPost_ret (v := .tuple #[.agg #[.int .i64 x.1, .int .i64 x.2], vD f, .bool q]) (by simp [results, Tryz.results127, go_sem, *]) rfl (HPOST.out _ _ ⟨x, f, by rw [HOK.out, HBB.out]; rfl, fun _ => ⟨HXE.out.symm, HD.out⟩, HBX.out⟩)
      · obtain ⟨i, rfl⟩ : ∃ i, j = i + 1 := ⟨j - 1, by omega⟩
        have hsp := split_in (upN (R - (i + 1)) y) (upN_sm (by omega) HSM.out _)
        have hup : upN (R - i) y = upE (upN (R - (i + 1)) y) := by rw [show R - i = (R - (i + 1)) + 1 by omega, upN_up]
        have HD := Lib.hid (digit_in (digE (upN (R - (i + 1)) y)) (digE_lt _))
        have HWD := Lib.hid (fun k => wayD_step (R := R) (z := y) (i := i) (k := k) (by omega))
        rw [← hup] at hsp
        simp only [vE] at hsp HD
        have HSP := Lib.hid hsp
        clear hsp hup
        generalize upN (R - (i + 1)) y = x at *
        obtain ⟨x', hx'⟩ : ∃ x', upN (R - i) y = x' := ⟨_, rfl⟩
        rw [hx'] at HSP
        have HXE := Lib.hid hx'
        clear hx'
        generalize leftE (digE x) = l at *
        generalize digE x = d at *
        obtain ⟨⟨⟨z0, z1⟩, z2, z3⟩, hA, hU, hB⟩ := HI.out
        have Z := Lib.hid HI.out.1
        have A := Lib.hid hA
        have U := Lib.hid hU
        have B := Lib.hid hB
        have q0 : decide (0 < (i : Int) + 1) = true := decide_eq_true (by omega)
        clear hA hU hB HI
        go_wp2_with fail
        refine (HSP.out _).mono ?_
        rintro e w3 ⟨rfl, hb3⟩
        have hz3 := hb3.size
        have k1 := World.size_alloc w3 (.cells #[.int .i64 x'.1, .int .i64 x'.2] 70)
        have k2 := World.size_alloc (w3.alloc (.cells #[.int .i64 x'.1, .int .i64 x'.2] 70)) (.cells #[.int .i64 l.1, .int .i64 l.2] 70)
        have hal : Below w3.heap.size w3 ((w3.alloc (.cells #[.int .i64 x'.1, .int .i64 x'.2] 70)).alloc (.cells #[.int .i64 l.1, .int .i64 l.2] 70)) := ((Below.refl _ _).alloc (Nat.le_refl _) _).alloc (by omega) _
        have hal2 : Below wr.heap.size wr ((w3.alloc (.cells #[.int .i64 x'.1, .int .i64 x'.2] 70)).alloc (.cells #[.int .i64 l.1, .int .i64 l.2] 70)) := hb3.trans (hal.mono hz3)
        have Z2 := Lib.hid (Z.out.later (by omega) hal2)
        have A2 := Lib.hid (A.out.later hal2)
        have U2 := Lib.hid (U.out.later (by omega) hal2)
        have B2 := Lib.hid (B.out.trans (hal2.mono (by omega)))
        have X2 : Hid (Two ((w3.alloc (.cells #[.int .i64 x'.1, .int .i64 x'.2] 70)).alloc (.cells #[.int .i64 l.1, .int .i64 l.2] 70)) w3.heap.size (.int .i64 x'.1) (.int .i64 x'.2)) := (Two.of_row (t := 70) (f := _) (heap_new _ _ _ rfl)).alloc (by omega) _
        have L2 : Hid (Two ((w3.alloc (.cells #[.int .i64 x'.1, .int .i64 x'.2] 70)).alloc (.cells #[.int .i64 l.1, .int .i64 l.2] 70)) (w3.heap.size + 1) (.int .i64 l.1) (.int .i64 l.2)) := Two.of_row (t := 70) (f := _) (heap_new _ _ _ (by omega))
        clear hb3 hal hal2 z0 z1 z2 z3 Z A U B
        go_upto_region 8 with (fail)
        generalize (w3.alloc (.cells #[.int .i64 x'.1, .int .i64 x'.2] 70)).alloc (.cells #[.int .i64 l.1, .int .i64 l.2] 70) = w4 at *
        have HG : Hid (∀ wx, Ga (w.heap.size + 2) (wayD R y (i + 1)) (wayD R y i) w4.drew wx → (∃ v, wx.cell? ⟨w.heap.size + 1 + 1, i + 1, none⟩ = some v) ∧ wx.frozen? ⟨w.heap.size + 1 + 1, i + 1, none⟩ = false ∧ Ga (w.heap.size + 2) (wayD R y (i + 1)) (wayD R y i) wx (wx.setCell ⟨w.heap.size + 1 + 1, i + 1, none⟩ (.int .i64 d)) ∧ Arr (wx.setCell ⟨w.heap.size + 1 + 1, i + 1, none⟩ (.int .i64 d)) (w.heap.size + 2) (wayD R y i)) := fun wx hx => by
          have hi13 : i + 1 < 13 := by omega
          have hp : Arr wx (w.heap.size + 2) (wayD R y (i + 1)) ∨ Arr wx (w.heap.size + 2) (wayD R y i) := hx.2.1 A2.out
          have hput : Arr (wx.setCell ⟨w.heap.size + 1 + 1, i + 1, none⟩ (.int .i64 d)) (w.heap.size + 2) (wayD R y i) ∧ Turn (fun q => q = w.heap.size + 2) wx (wx.setCell ⟨w.heap.size + 1 + 1, i + 1, none⟩ (.int .i64 d)) := by
            rcases hp with h | h
            · exact ⟨(h.put hi13 (d : Int)).1.congr fun k _ => HWD.out k, (h.put hi13 (d : Int)).2⟩
            · refine ⟨(h.put hi13 (d : Int)).1.congr fun k _ => ?_, (h.put hi13 (d : Int)).2⟩
              rw [← HWD.out k]
              by_cases e : k = i + 1
              · rw [if_pos e, if_pos e]
              · rw [if_neg e, if_neg e]
          refine ⟨?_, ?_, ⟨hput.2, fun _ => .inr hput.1, fun _ => hput.1⟩, hput.1⟩
          · rcases hp with h | h
            · exact ⟨_, (h.cell hi13).1⟩
            · exact ⟨_, (h.cell hi13).1⟩
          · rcases hp with h | h
            · exact (h.cell hi13).2
            · exact (h.cell hi13).2
        have HX : Hid (∀ wx, Turn (fun q => q = w.heap.size + 2) w4 wx → Two wx w3.heap.size (.int .i64 x'.1) (.int .i64 x'.2) ∧ Two wx (w3.heap.size + 1) (.int .i64 l.1) (.int .i64 l.2)) := fun wx hx => ⟨X2.out.turn hx (by omega) (by omega), L2.out.turn hx (by omega) (by omega)⟩
        have hi12 : (i : Int) + 1 < 13 := by omega
        clear X2 L2
        refine wp_region_end 6 (Ga (w.heap.size + 2) (wayD R y (i + 1)) (wayD R y i)) (fun qi_ qv_ qw_ => qv_ = ([.int .i64 ((i : Int) + 1), .agg #[.int .i64 l.1, .int .i64 l.2], .int .i64 (d : Int), .agg #[.int .i64 x'.1, .int .i64 x'.2], .pointer (some ⟨w.heap.size + 1 + 1, i + 1, none⟩), undef] : List Value).getD qi_ undef ∧ (qi_ = 5 → (fun q => Arr q (w.heap.size + 2) (wayD R y i)) qw_)) (by kernel_rfl) (by kernel_rfl) (by kernel_rfl) (fun _ => Ga.refl _ _ _ _) (fun _ _ _ h1 h2 => h1.trans h2) (fun _ _ _ _ _ h2 h => ⟨h.1, fun e => h2.2.2 (h.2 e)⟩) ?_
        simp only [List.take_succ_cons, List.take_zero, List.drop_succ_cons, List.drop_zero]
        refine inv_cons (fun wx hg hd => ?_) (fun v0 => ?_)
        · clear hd
          go_wp2
          first | exact ⟨_, rfl, Ga.refl _ _ _ _, rfl⟩ | exact ⟨_, rfl, Ga.refl _ _ _ _, rfl, fun h => absurd h (by simp)⟩
        (try simp only [List.nil_append, Act.put, List.setIfInBounds_toArray, List.set_cons_zero, List.set_cons_succ])
        refine inv_cons (fun wx hg hd => ?_) (fun v1 => ?_)
        · clear hd
          obtain ⟨_, t1, t2⟩ := HX.out _ hg.1
          go_wp2
          first | exact ⟨_, rfl, Ga.refl _ _ _ _, rfl⟩ | exact ⟨_, rfl, Ga.refl _ _ _ _, rfl, fun h => absurd h (by simp)⟩
        (try simp only [List.cons_append, List.nil_append, Act.put, List.setIfInBounds_toArray, List.set_cons_zero, List.set_cons_succ])
        refine inv_cons (fun wx hg hd => ?_) (fun v2 => ?_)
        · (try (have ee : v1 = (.agg #[.int .i64 l.1, .int .i64 l.2] : Value) := (hd 1 (by simp) (by decide)).1; subst ee))
          clear hd
          go_wp2_with fail
          refine (HD.out _).mono ?_
          rintro e w' ⟨rfl, hb⟩
          go_wp2
          first | exact ⟨_, rfl, Ga.of_below hb, rfl⟩ | exact ⟨_, rfl, Ga.of_below hb, rfl, fun h => absurd h (by simp)⟩
        (try simp only [List.cons_append, List.nil_append, Act.put, List.setIfInBounds_toArray, List.set_cons_zero, List.set_cons_succ])
        refine inv_cons (fun wx hg hd => ?_) (fun v3 => ?_)
        · clear hd
          obtain ⟨⟨t1, t2⟩, _⟩ := HX.out _ hg.1
          go_wp2
          first | exact ⟨_, rfl, Ga.refl _ _ _ _, rfl⟩ | exact ⟨_, rfl, Ga.refl _ _ _ _, rfl, fun h => absurd h (by simp)⟩
        (try simp only [List.cons_append, List.nil_append, Act.put, List.setIfInBounds_toArray, List.set_cons_zero, List.set_cons_succ])
        refine inv_cons (fun wx hg hd => ?_) (fun v4 => ?_)
        · (try (have ee : v0 = (.int .i64 ((i : Int) + 1) : Value) := (hd 0 (by simp) (by decide)).1; subst ee))
          clear hd
          go_wp2
          first | exact ⟨_, rfl, Ga.refl _ _ _ _, rfl⟩ | exact ⟨_, rfl, Ga.refl _ _ _ _, rfl, fun h => absurd h (by simp)⟩
        (try simp only [List.cons_append, List.nil_append, Act.put, List.setIfInBounds_toArray, List.set_cons_zero, List.set_cons_succ])
        refine inv_cons (fun wx hg hd => ?_) (fun v5 => ?_)
        · (try (have ee : v2 = (.int .i64 (d : Int) : Value) := (hd 2 (by simp) (by decide)).1; subst ee))
          (try (have ee : v4 = (.pointer (some ⟨w.heap.size + 1 + 1, i + 1, none⟩) : Value) := (hd 4 (by simp) (by decide)).1; subst ee))
          clear hd
          obtain ⟨⟨v, t1⟩, t2, t3, t4⟩ := HG.out _ hg
          go_wp2
          exact ⟨_, rfl, t3, rfl, t4⟩
        (try simp only [List.cons_append, List.nil_append, Act.put])
        refine inv_done (fun wx hg hd => ?_)
        (have ee : v0 = (.int .i64 ((i : Int) + 1) : Value) := (hd 0 (by simp)).1; subst ee)
        (have ee : v1 = (.agg #[.int .i64 l.1, .int .i64 l.2] : Value) := (hd 1 (by simp)).1; subst ee)
        (have ee : v2 = (.int .i64 (d : Int) : Value) := (hd 2 (by simp)).1; subst ee)
        (have ee : v3 = (.agg #[.int .i64 x'.1, .int .i64 x'.2] : Value) := (hd 3 (by simp)).1; subst ee)
        (have ee : v4 = (.pointer (some ⟨w.heap.size + 1 + 1, i + 1, none⟩) : Value) := (hd 4 (by simp)).1; subst ee)
        (have ee : v5 = (undef : Value) := (hd 5 (by simp)).1; subst ee)
        have hE := (hd 5 (by simp)).2 rfl
        clear hd
        (try go_simp)
        have hgt : Turn (fun q => q = w.heap.size + 2) w4 wx := hg.1
        have hsx := hgt.2.2.2.1
        have Z3 := Lib.hid (Z2.out.turn hgt (by omega) (by omega))
        have U3 := Lib.hid (U2.out.turn hgt (by omega) (by omega))
        have B3 : Hid (Below w.heap.size w wx) := B2.out.trans (hgt.below (by omega) fun q hq e => by omega)
        have P := Lib.hid (Z3.out.put (.int .i64 x'.1) (.int .i64 x'.2))
        have hs4 := P.out.2.2.2.2.1
        have HN : Hid (Two2 ((wx.setCell ⟨zb, 0, none⟩ (.int .i64 x'.1)).setCell ⟨zb, 1, none⟩ (.int .i64 x'.2)) zb (.int .i64 x'.1) (.int .i64 x'.2) ∧ Arr ((wx.setCell ⟨zb, 0, none⟩ (.int .i64 x'.1)).setCell ⟨zb, 1, none⟩ (.int .i64 x'.2)) (w.heap.size + 2) (wayD R y i) ∧ Two2 ((wx.setCell ⟨zb, 0, none⟩ (.int .i64 x'.1)).setCell ⟨zb, 1, none⟩ (.int .i64 x'.2)) (w.heap.size + 1) (.int .i64 0) (.int .i64 0) ∧ Below w.heap.size w ((wx.setCell ⟨zb, 0, none⟩ (.int .i64 x'.1)).setCell ⟨zb, 1, none⟩ (.int .i64 x'.2))) :=
          ⟨P.out.1, Arr.turn hE P.out.2 (by omega), U3.out.turn P.out.2 (by omega) (by omega), B3.out.trans (P.out.2.below (by omega) fun q hq e => by omega)⟩
        obtain ⟨⟨z0, z1⟩, z2, z3⟩ := Z3.out
        have HSZ : Hid (w2.heap.size ≤ ((wx.setCell ⟨zb, 0, none⟩ (.int .i64 x'.1)).setCell ⟨zb, 1, none⟩ (.int .i64 x'.2)).heap.size) := by show _ ≤ _; omega
        clear hgt hg hE HX HG Z2 A2 U2 B2 Z3 U3 B3 P
        go_wp2
        refine only_done ?_
        go_wp2
        go_roundw
        case rel => exact ⟨i, by omega, by go_num, by rw [HXE.out]; exact HN.out, HSZ.out⟩
        case measure => simp [intOf]
theorem way_any (r : Int) (z : E2) (w : World) : Calls Tryz.prog 127 #[vC r z] w (Way w r z) := by
  by_cases hs : shapeB r z = true
  · exact way_yes r z hs w
  · exact way_no r z hs w
/-- Whether it is a cell. -/
theorem ok_any (r : Int) (z : E2) (w : World) : Calls Tryz.prog 115 #[vC r z] w fun e w' => e = .returned (.bool (okB r z)) ∧ Below w.heap.size w w' := by
  have HW := Lib.hid (way_any r z)
  unfold Way at HW
  generalize okB r z = o at *
  simp only [vC] at *
  go_enter Tryz.func115, Tryz.ntmps115
  go_wp2_with fail
  refine (HW.out _).mono ?_
  rintro e w1 ⟨b, f, rfl, -, hb⟩
  have HB : Hid (Below w.heap.size w w1) := ((Below.refl _ _).alloc (Nat.le_refl _) _).trans (hb.mono (by simp))
  have hz := HB.out.size
  clear hb HW
  go_wp2
  go_ret
  exact ⟨rfl, (HB.out.alloc hz _).alloc (by simp; omega) _⟩
end Go.Proofs.YtjimcjhgjfhbiaaGreat
/- Contracts of package ident: put, digitOf, Of. -/
namespace Go.Proofs.YtjimcjhgjfhbiaaGreat
open Go.RowKit Go.Lib Wd

/-- A cell's word, and the error. -/
def ofW (r : Int) (z : E2) : Nat := if okB r z = true then wordN r.toNat z else 0
def ofE (r : Int) (z : E2) : Int := if okB r z = true then 0 else 2
end Go.Proofs.YtjimcjhgjfhbiaaGreat
/- The contract of ident.Cell. -/
namespace Go.Proofs.YtjimcjhgjfhbiaaGreat
open Go.RowKit Go.Lib Wd

/-- A word's cell, and the error. -/
def cvR (w0 : Nat) : Int := if isW w0 = true then (rW w0 : Int) else 0
def cvZ (w0 : Nat) : E2 := if isW w0 = true then zW w0 else (0, 0)
def cvE (w0 : Nat) : Int := if isW w0 = true then 0 else 5
/-- Three cells of a block that may be written. -/
def Tri (w : World) (b : Nat) (r : Int) (z : E2) : Prop := w.heap[b]? = some (.cells #[.int .i64 r, .int .i64 z.1, .int .i64 z.2] 72 (0, 0))
theorem Tri.lt {w : World} {b : Nat} {r : Int} {z : E2} (h : Tri w b r z) : b < w.heap.size := (Array.getElem?_eq_some_iff.1 h).1
theorem Tri.turn {S : Nat → Prop} {w w' : World} {b : Nat} {r : Int} {z : E2} (h : Tri w b r z) (ht : Turn S w w') (hs : ¬ S b) : Tri w' b r z := (ht.2.2.2.2 b h.lt hs).trans h
theorem Tri.later {w w' : World} {b : Nat} {r : Int} {z : E2} (h : Tri w b r z) (hb : Below w.heap.size w w') : Tri w' b r z := (hb.block b h.lt).trans h
theorem Tri.cells {w : World} {b : Nat} {r : Int} {z : E2} (h : Tri w b r z) : w.cell? ⟨b, 0, none⟩ = some (.int .i64 r) ∧ w.cell? ⟨b, 1, none⟩ = some (.int .i64 z.1) ∧ w.cell? ⟨b, 2, none⟩ = some (.int .i64 z.2) ∧ w.frozen? ⟨b, 0, none⟩ = false ∧ w.frozen? ⟨b, 1, none⟩ = false ∧ w.frozen? ⟨b, 2, none⟩ = false ∧ b < w.heap.size :=
  ⟨cell_of_row _ _ 0 _ _ _ h, cell_of_row _ _ 1 _ _ _ h, cell_of_row _ _ 2 _ _ _ h, frozen_of_row _ _ _ _ _ h, frozen_of_row _ _ _ _ _ h, frozen_of_row _ _ _ _ _ h, h.lt⟩
theorem Wd.Hex.sm {h : Int} {z : E2} (hz : Hex h z) : Sm h z := ⟨hz.1, hz.2.1, hz.2.2.1, hz.2.2.2.1⟩
theorem Sm.mono {h h' : Int} {z : E2} (hz : Sm h z) (hh : h ≤ h') : Sm h' z := by unfold Sm at *; omega
theorem head_val (w0 : Nat) (hw : w0 < 18446744073709551616) :
    bits .and .u64 ((w0 : Int) / 72057594037927936) 15 = ((rW w0 : Nat) : Int) ∧ bits .and .u64 ((w0 : Int) / 70368744177664) 1023 = ((w0 / 70368744177664 % 1024 : Nat) : Int) ∧ bits .and .u64 ((w0 : Int) / 68719476736) 1023 = ((w0 / 68719476736 % 1024 : Nat) : Int) := by
  refine ⟨?_, ?_, ?_⟩
  · rw [show ((w0 : Int) / 72057594037927936) = ((w0 / 72057594037927936 : Nat) : Int) by omega, show (15 : Int) = ((15 : Nat) : Int) by rfl, bits_and_u64_nat _ _ (by omega) (by decide), nat_mask4]; rfl
  · rw [show ((w0 : Int) / 70368744177664) = ((w0 / 70368744177664 : Nat) : Int) by omega, show (1023 : Int) = ((1023 : Nat) : Int) by rfl, bits_and_u64_nat _ _ (by omega) (by decide), show w0 / 70368744177664 &&& 1023 = w0 / 70368744177664 % 1024 from Nat.and_two_pow_sub_one_eq_mod _ 10]
  · rw [show ((w0 : Int) / 68719476736) = ((w0 / 68719476736 : Nat) : Int) by omega, show (1023 : Int) = ((1023 : Nat) : Int) by rfl, bits_and_u64_nat _ _ (by omega) (by decide), show w0 / 68719476736 &&& 1023 = w0 / 68719476736 % 1024 from Nat.and_two_pow_sub_one_eq_mod _ 10]
end Go.Proofs.YtjimcjhgjfhbiaaGreat
/- Contracts of apiaryref1: Beta, Pow (of 7), Seven, conj, World; apiarylaw3.Point is left to NfH. -/
namespace Go.Proofs.YtjimcjhgjfhbiaaGreat
open Go.RowKit Go.Lib Wd

theorem bE_sm {k : Nat} (hk : k ≤ 12) : Sm 1048576 (bE k) := by
  obtain ⟨q0, q1, q2, q3, q4, q5, q6, q7, q8, q9, q10, q11, q12⟩ := bE_tab
  unfold Sm
  rcases upto12 hk with rfl | rfl | rfl | rfl | rfl | rfl | rfl | rfl | rfl | rfl | rfl | rfl | rfl <;> decide
theorem pow7_in {k : Nat} (hk : k ≤ 12) : 1 ≤ (7 : Int) ^ k ∧ (7 : Int) ^ k ≤ 13841287201 := by
  rcases upto12 hk with rfl | rfl | rfl | rfl | rfl | rfl | rfl | rfl | rfl | rfl | rfl | rfl | rfl <;> decide
set_option maxRecDepth 100000 in
set_option maxHeartbeats 4000000 in
theorem rbeta_in (n : Nat) (hn : n ≤ 12) (w : World) :
    Calls Tryz.prog 75 #[.int .i64 n] w fun e w' => e = .returned (.tuple #[vE (bE n), .bool true]) ∧ Below w.heap.size w w' := by
  have q1 : decide ((n : Int) < 0) = false := decide_eq_false (by omega)
  have q2 : decide (20 < (n : Int)) = false := decide_eq_false (by omega)
  go_enter Tryz.func75, Tryz.ntmps75
  go_wp2
  have T0 : Hid (Two2 ((w.alloc (.cells #[.int .i64 0, .int .i64 0] 70)).alloc (.cells #[.int .i64 1, .int .i64 0] 70)) w.heap.size (.int .i64 0) (.int .i64 0)) := Two2.of_row (t := 70) (by rw [Below.heap_alloc _ _ _ (by simp)]; exact heap_new _ _ _ rfl)
  have C0 : Hid (Two2 ((w.alloc (.cells #[.int .i64 0, .int .i64 0] 70)).alloc (.cells #[.int .i64 1, .int .i64 0] 70)) (w.heap.size + 1) (.int .i64 1) (.int .i64 0)) := Two2.of_row (t := 70) (heap_new _ _ _ (by simp))
  have HB0 : Hid (Below w.heap.size w ((w.alloc (.cells #[.int .i64 0, .int .i64 0] 70)).alloc (.cells #[.int .i64 1, .int .i64 0] 70))) := ((Below.refl _ _).alloc (Nat.le_refl _) _).alloc (by simp) _
  have k2 : ((w.alloc (.cells #[.int .i64 0, .int .i64 0] 70)).alloc (.cells #[.int .i64 1, .int .i64 0] 70)).heap.size = w.heap.size + 2 := by simp
  generalize (w.alloc (.cells #[.int .i64 0, .int .i64 0] 70)).alloc (.cells #[.int .i64 1, .int .i64 0] 70) = w2 at *
  clear q1 q2
  go_loopw [5] (fun i wr => ∃ k : Nat, k ≤ n ∧ i = .int .i64 k ∧ Hid (Two2 wr (w.heap.size + 1) (.int .i64 (bE k).1) (.int .i64 (bE k).2) ∧ Turn (fun q => q = w.heap.size + 1) w2 wr)) (fun i _ => n - (intOf i).toNat)
  case atStart => exact ⟨0, by omega, rfl, C0.out, Turn.refl _ _⟩
  case round =>
    obtain ⟨k, hk, rfl, HI⟩ := hrel
    have hTri := HI.out.1
    have hturn := HI.out.2
    have hsz := hturn.2.2.2.1
    have HT := Lib.hid (T0.out.turn hturn (by omega) (by omega))
    have HBR : Hid (Below w.heap.size w wr) := HB0.out.trans (hturn.below (by omega) fun q hq e => by omega)
    have HTU := Lib.hid hturn
    have HTR := Lib.hid hTri
    clear hTri hturn HI
    by_cases hkn : k < n
    · have q1 : decide ((k : Int) < (n : Int)) = true := decide_eq_true (by omega)
      have hb1 := bE_sm (show k ≤ 12 by omega)
      have HMU := Lib.hid (rmul_in (bE k) (2, 1) (hb1.mono (by decide)) (by unfold Sm; simp) (by unfold Sm at hb1; unfold Sm mulE; simp only; omega))
      have HDN : Hid (bE (k + 1) = mulE (bE k) (2, 1)) := rfl
      obtain ⟨x, hx⟩ : ∃ x, bE k = x := ⟨_, rfl⟩
      rw [hx] at HMU HTR HDN
      generalize mulE x (2, 1) = m at *
      simp only [vE] at HMU
      obtain ⟨⟨c0, c1⟩, c2, c3⟩ := HTR.out
      clear hb1 hx
      go_wp2_with fail
      refine (HMU.out _).mono ?_
      rintro e w5 ⟨rfl, hb5⟩
      have hz5 := hb5.size
      have h5 := HTR.out.later (by omega) hb5
      have HP := Lib.hid (h5.put (.int .i64 m.1) (.int .i64 m.2))
      have HFI : Hid (Two2 ((w5.setCell ⟨w.heap.size + 1, 0, none⟩ (.int .i64 m.1)).setCell ⟨w.heap.size + 1, 1, none⟩ (.int .i64 m.2)) (w.heap.size + 1) (.int .i64 (bE (k + 1)).1) (.int .i64 (bE (k + 1)).2) ∧ Turn (fun q => q = w.heap.size + 1) w2 ((w5.setCell ⟨w.heap.size + 1, 0, none⟩ (.int .i64 m.1)).setCell ⟨w.heap.size + 1, 1, none⟩ (.int .i64 m.2))) := ⟨by rw [HDN.out]; exact HP.out.1, (HTU.out.trans (Turn.of_below hb5) fun _ _ h => h).trans HP.out.2 fun _ _ h => h⟩
      obtain ⟨⟨e0, e1⟩, e2, e3⟩ := h5
      clear hb5 c0 c1 c2 c3 HTR HT HTU HMU HBR HP HDN
      go_wp2
      go_roundw
      case rel => exact ⟨k + 1, by omega, by go_num, HFI.out⟩
      case measure => simp [intOf]; omega
    · obtain rfl : k = n := by omega
      have q1 : decide ((k : Int) < (k : Int)) = false := decide_eq_false (by omega)
      obtain ⟨x, hx⟩ : ∃ x, bE k = x := ⟨_, rfl⟩
      rw [hx] at HTR
      obtain ⟨⟨c0, c1⟩, c2, c3⟩ := HTR.out
      obtain ⟨⟨t0, t1⟩, t2, t3⟩ := HT.out
      have HX := Lib.hid hx
      clear HTR HT hx
      go_wp2
      exact bodyPost_ret (v := .tuple #[.agg #[.int .i64 x.1, .int .i64 x.2], .bool true]) (by simp [results, Tryz.results75, go_sem, *]) rfl ⟨by rw [HX.out], (HBR.out.setCell (p := ⟨w.heap.size, 0, none⟩) (Nat.le_refl _) _).setCell (p := ⟨w.heap.size, 1, none⟩) (Nat.le_refl _) _⟩
set_option maxRecDepth 100000 in
set_option maxHeartbeats 4000000 in
theorem rpow_in (n : Nat) (hn : n ≤ 12) (w : World) :
    Calls Tryz.prog 67 #[.int .i64 7, .int .i64 n] w fun e w' => e = .returned (.tuple #[.int .i64 (7 ^ n), .bool true]) ∧ Below w.heap.size w w' := by
  have q1 : decide ((n : Int) < 0) = false := decide_eq_false (by omega)
  go_enter Tryz.func67, Tryz.ntmps67
  go_wp2
  clear q1
  go_loopw [6, 7] (fun x i wr => ∃ k : Nat, k ≤ n ∧ i = .int .i64 k ∧ x = .int .i64 (7 ^ k) ∧ Below w.heap.size w wr) (fun _ i _ => n - (intOf i).toNat)
  case atStart => exact ⟨0, by omega, rfl, rfl, Below.refl _ _⟩
  case round =>
    obtain ⟨k, hk, rfl, rfl, hbr⟩ := hrel
    have HBR := Lib.hid hbr
    clear hbr
    by_cases hkn : k < n
    · have q1 : decide ((k : Int) < (n : Int)) = true := decide_eq_true (by omega)
      obtain ⟨hp1, hp2⟩ := pow7_in (show k ≤ 12 by omega)
      obtain ⟨hp3, hp4⟩ := pow7_in (show k + 1 ≤ 12 by omega)
      have HDN : Hid ((7 : Int) ^ (k + 1) = 7 ^ k * 7) := Int.pow_succ _ _
      rw [HDN.out] at hp3 hp4
      have HTI := Lib.hid (times_x (7 ^ k) 7 (by omega) (by omega))
      have HSM := Lib.hid (small_x (7 ^ k * 7) (by omega))
      obtain ⟨x, hx⟩ : ∃ x, (7 : Int) ^ k = x := ⟨_, rfl⟩
      rw [hx] at hp1 hp3 hp4 HDN HTI HSM ⊢
      obtain ⟨y, hy⟩ : ∃ y, x * 7 = y := ⟨_, rfl⟩
      rw [hy] at hp3 hp4 HDN HTI HSM
      have q2 : (x == 0) = false := by simp; omega
      simp only [vU] at HTI HSM
      clear hx hy
      obtain ⟨b, hb⟩ : ∃ b, (x == 1) = b := ⟨_, rfl⟩
      cases b
      all_goals
        go_wp2_with fail
        refine (HTI.out _).mono ?_
        rintro e w5 ⟨rfl, hb5⟩
        have HB5 : Hid (Below w.heap.size w w5) := HBR.out.trans (hb5.mono HBR.out.size)
        clear hb5
        go_wp2_with fail
        refine (HSM.out _).mono ?_
        rintro e w6 ⟨rfl, hb6⟩
        have HB6 : Hid (Below w.heap.size w w6) := HB5.out.trans (hb6.mono HB5.out.size)
        clear hb6
        go_wp2
        go_roundw
        case rel => exact ⟨k + 1, by omega, by go_num, by rw [HDN.out], HB6.out⟩
        case measure => simp [intOf]; omega
    · obtain rfl : k = n := by omega
      have q1 : decide ((k : Int) < (k : Int)) = false := decide_eq_false (by omega)
      obtain ⟨x, hx⟩ : ∃ x, (7 : Int) ^ k = x := ⟨_, rfl⟩
      have HX := Lib.hid hx
      rw [hx]
      clear hx
      go_wp2
      exact bodyPost_ret (v := .tuple #[.int .i64 x, .bool true]) (by simp [results, Tryz.results67, go_sem, *]) rfl ⟨by rw [HX.out], HBR.out⟩
theorem rseven_in (n : Nat) (hn : n ≤ 12) (w : World) :
    Calls Tryz.prog 42 #[.int .i64 n] w fun e w' => e = .returned (.int .i64 (7 ^ n)) ∧ Below w.heap.size w w' := by
  have HP := Lib.hid (rpow_in n hn)
  generalize (7 : Int) ^ n = x at *
  go_enter Tryz.func42, Tryz.ntmps42
  go_wp2_with fail
  refine (HP.out _).mono ?_
  rintro e w1 ⟨rfl, hb1⟩
  go_wp2
  exact bodyPost_ret (v := .int .i64 x) (by simp [results, Tryz.results42, go_sem]) rfl ⟨rfl, hb1⟩
set_option maxHeartbeats 1000000 in
theorem rconj_in (n : Nat) (hn : n ≤ 12) (w : World) :
    Calls Tryz.prog 58 #[.int .i64 n] w fun e w' => e = .returned (vE (conjE (bE n))) ∧ Below w.heap.size w w' := by
  have HP := Lib.hid (rbeta_in n hn)
  have hs := bE_sm hn
  unfold conjE
  unfold Sm at hs
  simp only [vE] at *
  generalize bE n = x at *
  obtain ⟨hs1, hs2, hs3, hs4⟩ := hs
  go_enter Tryz.func58, Tryz.ntmps58
  go_wp2_with fail
  refine (HP.out _).mono ?_
  rintro e w1 ⟨rfl, hb1⟩
  have hz := hb1.size
  simp at hz
  have H2 : Two2 w1 w.heap.size (.int .i64 0) (.int .i64 0) := (Two2.of_row (t := 70) (heap_new _ _ _ rfl)).later (by simp) hb1
  have HQ : Hid (Below w.heap.size w w1) := ((Below.refl _ _).alloc (Nat.le_refl _) _).trans (hb1.mono (by simp))
  have hT : Two (w1.alloc (.cells #[.int .i64 x.1, .int .i64 x.2] 70)) w1.heap.size (.int .i64 x.1) (.int .i64 x.2) := Two.of_row (t := 70) (f := _) (heap_new _ _ _ rfl)
  have H2 := H2.alloc (by omega) (.cells #[.int .i64 x.1, .int .i64 x.2] 70)
  have HQ : Hid (Below w.heap.size w (w1.alloc (.cells #[.int .i64 x.1, .int .i64 x.2] 70))) := HQ.out.alloc (by omega) _
  have hs : w1.heap.size < (w1.alloc (.cells #[.int .i64 x.1, .int .i64 x.2] 70)).heap.size := by simp
  clear hb1
  go_upto_region 2 with (fail)
  generalize w1.alloc (.cells #[.int .i64 x.1, .int .i64 x.2] 70) = w2 at *
  obtain ⟨c0, c1⟩ := hT
  obtain ⟨⟨t0, t1⟩, t2, t3⟩ := H2
  go_wp2
  exact bodyPost_ret (v := .agg #[.int .i64 (x.1 + x.2), .int .i64 (-x.2)]) (by simp [results, Tryz.results58, go_sem, *]) rfl ⟨rfl, (HQ.out.setCell (p := ⟨w.heap.size, 0, none⟩) (Nat.le_refl _) _).setCell (p := ⟨w.heap.size, 1, none⟩) (Nat.le_refl _) _⟩
theorem rworld_in (x y : Int) (hx : 0 ≤ x ∧ x < 1073741824) (hy : 0 ≤ y ∧ y < 1073741824) (w : World) : Calls Tryz.prog 57 #[.int .i64 x, .int .i64 y] w fun e w' => e = .returned (.bool true) ∧ w' = w := by
  have q1 : decide (0 ≤ x) = true := decide_eq_true (by omega)
  have q2 : decide (x < 1073741824) = true := decide_eq_true (by omega)
  have q3 : decide (0 ≤ y) = true := decide_eq_true (by omega)
  have q4 : decide (y < 1073741824) = true := decide_eq_true (by omega)
  clear hx hy
  go_enter Tryz.func57, Tryz.ntmps57
  go_wp2
  go_ret
  exact ⟨rfl, rfl⟩
end Go.Proofs.YtjimcjhgjfhbiaaGreat
/- Contracts of apiaryref1: parent, Ok. -/
namespace Go.Proofs.YtjimcjhgjfhbiaaGreat
open Go.RowKit Go.Lib Wd

set_option maxRecDepth 100000 in
set_option maxHeartbeats 4000000 in
theorem parent_in (z : E2) (hz : Sm 1099511627776 z) (w : World) :
    Calls Tryz.prog 60 #[vE z] w fun e w' => e = .returned (.tuple #[vE (upE z), .int .i64 (digE z)]) ∧ Below w.heap.size w w' := by
  have hup := up_sm (by omega) hz
  have M1 := Lib.hid (rmul_in z (3, -1) (by unfold Sm at *; omega) (by unfold Sm; simp) (by unfold Sm mulE at *; simp only; omega))
  have R1 := Lib.hid (rround_in (mulE z (3, -1)) 7 (by omega) (by omega) (by unfold Sm mulE at *; simp only; omega))
  rw [round_up] at R1
  have M2 := Lib.hid (rmul_in (upE z) (2, 1) (by unfold Sm at *; omega) (by unfold Sm; simp) (by unfold Sm mulE at *; simp only; omega))
  have hleft := left_of z
  have hd7 := digE_lt z
  have HU := Lib.hid (fun k (hk : k < 6) => unit_left hk hd7)
  have hls := left_sm (digE z)
  obtain ⟨a, b⟩ := z
  simp only [vE] at *
  generalize upE (a, b) = p at *
  generalize mulE (a, b) (3, -1) = q at *
  generalize mulE p (2, 1) = m at *
  generalize leftE (digE (a, b)) = l at *
  generalize digE (a, b) = dg at *
  obtain ⟨p1, p2⟩ := p
  obtain ⟨q1, q2⟩ := q
  obtain ⟨m1, m2⟩ := m
  obtain ⟨l1, l2⟩ := l
  have hl1 : a - m1 = l1 := congrArg Prod.fst hleft
  have hl2 : b - m2 = l2 := congrArg Prod.snd hleft
  unfold Sm at hls
  simp only at hls
  obtain ⟨hls1, hls2, hls3, hls4⟩ := hls
  clear hup hz hleft
  simp only at *
  go_enter Tryz.func60, Tryz.ntmps60
  go_wp2_with fail
  refine (M1.out _).mono ?_
  rintro e w1 ⟨rfl, hb1⟩
  have hz1 := hb1.size
  simp at hz1
  have z0 : Two w1 w.heap.size (.int .i64 a) (.int .i64 b) := (Two.of_row (t := 70) (f := _) (by rw [Below.heap_alloc _ _ _ (by simp)]; exact heap_new _ _ _ rfl)).later (by simp; omega) hb1
  have u0 : Two2 w1 (w.heap.size + 1) (.int .i64 0) (.int .i64 0) := (Two2.of_row (t := 70) (heap_new _ _ _ (by simp))).later (by simp) hb1
  have hB1 : Below w.heap.size w w1 := ((Below.refl _ _).alloc (Nat.le_refl _) _).alloc (by simp) _ |>.trans (hb1.mono (by simp; omega))
  have U1 := Lib.hid (u0.alloc (by omega) (.cells #[.int .i64 q1, .int .i64 q2] 70))
  have Z1 := Lib.hid (z0.alloc (by omega) (.cells #[.int .i64 q1, .int .i64 q2] 70))
  have B2 := Lib.hid (hB1.alloc (by omega) (.cells #[.int .i64 q1, .int .i64 q2] 70))
  have hz2 := World.size_alloc w1 (.cells #[.int .i64 q1, .int .i64 q2] 70)
  clear u0 z0 hb1 hB1
  go_wp2_with fail
  refine (R1.out _).mono ?_
  rintro e w2 ⟨rfl, hb2⟩
  have hz3 := hb2.size
  have U2 := Lib.hid ((U1.out.later (by omega) hb2).alloc (by omega) (.cells #[.int .i64 p1, .int .i64 p2] 70))
  have Z2 := Lib.hid ((Z1.out.later (by omega) hb2).alloc (by omega) (.cells #[.int .i64 p1, .int .i64 p2] 70))
  have B3 := Lib.hid ((B2.out.trans (hb2.mono (by omega))).alloc (by omega) (.cells #[.int .i64 p1, .int .i64 p2] 70))
  have P2 : Hid (Two (w2.alloc (.cells #[.int .i64 p1, .int .i64 p2] 70)) w2.heap.size (.int .i64 p1) (.int .i64 p2)) := Two.of_row (t := 70) (f := _) (heap_new _ _ _ rfl)
  have hz4 := World.size_alloc w2 (.cells #[.int .i64 p1, .int .i64 p2] 70)
  clear U1 Z1 B2 hb2
  go_wp2_with fail
  refine (M2.out _).mono ?_
  rintro e w3 ⟨rfl, hb3⟩
  have hz5 := hb3.size
  have hal : Below w3.heap.size w3 (w3.alloc (.cells #[.int .i64 m1, .int .i64 m2] 70)) := (Below.refl _ _).alloc (Nat.le_refl _) _
  have hz6 := World.size_alloc w3 (.cells #[.int .i64 m1, .int .i64 m2] 70)
  have U3 := Lib.hid ((U2.out.later (by omega) hb3).later (by omega) hal)
  have Z3 := Lib.hid ((Z2.out.later (by omega) hb3).later (by omega) hal)
  have P3 := Lib.hid ((P2.out.later (by omega) hb3).later (by omega) hal)
  have B4 := Lib.hid ((B3.out.trans (hb3.mono (by omega))).trans (hal.mono (by omega)))
  obtain ⟨qb, hqb⟩ : ∃ qb, w2.heap.size = qb := ⟨_, rfl⟩
  have hM : Two (w3.alloc (.cells #[.int .i64 m1, .int .i64 m2] 70)) w3.heap.size (.int .i64 m1) (.int .i64 m2) := Two.of_row (t := 70) (f := _) (heap_new _ _ _ rfl)
  clear U2 Z2 P2 B3 hb3 hal
  go_upto_region 4 with (fail)
  generalize w3.alloc (.cells #[.int .i64 m1, .int .i64 m2] 70) = w4 at *
  obtain ⟨k0, k1⟩ := hM
  obtain ⟨k2, k3⟩ := Z3.out
  have hml : w3.heap.size < w4.heap.size := by omega
  have hzl : w.heap.size < w4.heap.size := by omega
  have hal2 : Below w4.heap.size w4 (w4.alloc (.cells #[.int .i64 l1, .int .i64 l2] 70)) := (Below.refl _ _).alloc (Nat.le_refl _) _
  have hz7 := World.size_alloc w4 (.cells #[.int .i64 l1, .int .i64 l2] 70)
  rw [hqb] at P3 hz4
  have U4 := Lib.hid (U3.out.later (by omega) hal2)
  have P4 := Lib.hid (P3.out.later (by omega) hal2)
  have B5 := Lib.hid (B4.out.trans (hal2.mono (by omega)))
  have L4 : Hid (Two (w4.alloc (.cells #[.int .i64 l1, .int .i64 l2] 70)) w4.heap.size (.int .i64 l1) (.int .i64 l2)) := Two.of_row (t := 70) (f := _) (heap_new _ _ _ rfl)
  have hqs : qb < w4.heap.size := by omega
  have hws : w.heap.size + 1 < w4.heap.size := by omega
  clear hal2 U3 P3 B4 Z3 hqb
  go_upto_region 5 with (fail)
  generalize w4.alloc (.cells #[.int .i64 l1, .int .i64 l2] 70) = w5 at *
  obtain ⟨lb, hlb⟩ : ∃ lb, w4.heap.size = lb := ⟨_, rfl⟩
  have hlb2 : w3.heap.size + 1 = lb := by omega
  rw [hlb] at L4 hz7 hqs hws
  rw [hlb2]
  clear hlb hlb2 k0 k1 k2 k3 hml hzl hz1 hz2 hz3 hz4 hz5 hz6 hl1 hl2 M1 M2 R1
  go_wp2
  go_loopw [11] (fun i wr => ∃ k : Nat, k ≤ 6 ∧ i = .int .i64 k ∧ (dg = 0 ∨ k < dg) ∧ Below w5.heap.size w5 wr) (fun i _ => 6 - (intOf i).toNat)
  case atStart => exact ⟨0, by omega, rfl, by omega, Below.refl _ _⟩
  case round =>
    obtain ⟨k, hk, rfl, hd0, hbw⟩ := hrel
    have hsz := hbw.size
    have HB := Lib.hid hbw
    have HFIN : Hid (∀ wx, Below w5.heap.size w5 wx → Two wx qb (.int .i64 p1) (.int .i64 p2) ∧ Two2 wx (w.heap.size + 1) (.int .i64 0) (.int .i64 0) ∧ Two wx lb (.int .i64 l1) (.int .i64 l2) ∧ Below w.heap.size w wx) := fun wx hx => ⟨P4.out.later (by omega) hx, U4.out.later (by omega) hx, L4.out.later (by omega) hx, B5.out.trans (hx.mono (by omega))⟩
    by_cases hk6 : k < 6
    · have U := Lib.hid (runit_in k hk6)
      have HQ := Lib.hid (HU.out k hk6)
      simp only [vE] at U
      generalize unitE k = u at *
      obtain ⟨u1, u2⟩ := u
      simp only at U HQ
      obtain ⟨b, hb⟩ : ∃ b, decide (dg = k + 1) = b := ⟨_, rfl⟩
      rw [hb] at HQ
      have HD : Hid (decide (dg = k + 1) = b) := hb
      have HK : Hid (dg = 0 ∨ k < dg) := hd0
      have q6 : decide ((k : Int) < 6) = true := decide_eq_true (by omega)
      clear hb hbw hd0 P4 U4 L4 B5
      go_upto_region 8 with (fail)
      refine wp_region_inw ([.inl (.int .i64 (k : Int)), .inl (.agg #[.int .i64 u1, .int .i64 u2]), .inl (.agg #[.int .i64 l1, .int .i64 l2]), .inl (.bool b)] : List Want) [] (by kernel_rfl) (by kernel_rfl) (by kernel_rfl) ?_
      refine inw_cons (fun wx hg hd => ?_) (fun v0 => ?_)
      · have hx := ((Below.refl wr.heap.size wr).drew).trans hg
        clear hd hg
        go_wp2
        exact ⟨_, rfl, Below.refl _ _, rfl⟩
      (try simp only [List.nil_append, Act.put, List.setIfInBounds_toArray, List.set_cons_zero, List.set_cons_succ])
      refine inw_cons (fun wx hg hd => ?_) (fun v1 => ?_)
      · have hx := ((Below.refl wr.heap.size wr).drew).trans hg
        (try (have ee : v0 = (.int .i64 (k : Int) : Value) := hd 0 (by simp) (by decide); subst ee))
        clear hd hg
        go_wp2_with fail
        refine (U.out _).mono ?_
        rintro e w' ⟨rfl, hb⟩
        go_wp2
        exact ⟨_, rfl, hb, rfl⟩
      (try simp only [List.cons_append, List.nil_append, Act.put, List.setIfInBounds_toArray, List.set_cons_zero, List.set_cons_succ])
      refine inw_cons (fun wx hg hd => ?_) (fun v2 => ?_)
      · have hx := ((Below.refl wr.heap.size wr).drew).trans hg
        clear hd hg
        obtain ⟨_, _, ⟨k1, k2⟩, _⟩ := HFIN.out _ (HB.out.trans (hx.mono hsz))
        go_wp2
        exact ⟨_, rfl, Below.refl _ _, rfl⟩
      (try simp only [List.cons_append, List.nil_append, Act.put, List.setIfInBounds_toArray, List.set_cons_zero, List.set_cons_succ])
      refine inw_cons (fun wx hg hd => ?_) (fun v3 => ?_)
      · have hx := ((Below.refl wr.heap.size wr).drew).trans hg
        (try (have ee : v1 = (.agg #[.int .i64 u1, .int .i64 u2] : Value) := hd 1 (by simp) (by decide); subst ee))
        (try (have ee : v2 = (.agg #[.int .i64 l1, .int .i64 l2] : Value) := hd 2 (by simp) (by decide); subst ee))
        clear hd hg
        go_wp2
        all_goals (refine ⟨_, rfl, Below.refl _ _, ?_⟩)
        all_goals (show Value.bool _ = Value.bool b)
        all_goals (rw [← HQ.out])
        all_goals (simp [*])
      (try simp only [List.cons_append, List.nil_append, Act.put, List.setIfInBounds_toArray, List.set_cons_zero, List.set_cons_succ])
      refine inw_done (fun wx hg hd => ?_)
      have hx := ((Below.refl wr.heap.size wr).drew).trans hg
      (have ee : v0 = (.int .i64 (k : Int) : Value) := hd 0 (by simp) (by kernel_rfl); subst ee)
      (have ee : v1 = (.agg #[.int .i64 u1, .int .i64 u2] : Value) := hd 1 (by simp) (by kernel_rfl); subst ee)
      (have ee : v2 = (.agg #[.int .i64 l1, .int .i64 l2] : Value) := hd 2 (by simp) (by kernel_rfl); subst ee)
      (have ee : v3 = (.bool b : Value) := hd 3 (by simp) (by kernel_rfl); subst ee)
      clear hd hg
      (try go_simp)
      have HX : Hid (Below w5.heap.size w5 wx) := HB.out.trans (hx.mono HB.out.size)
      obtain ⟨⟨t0, t1⟩, ⟨⟨s0, s1⟩, s2, s3⟩, -, hbx⟩ := HFIN.out wx HX.out
      have HBX := Lib.hid hbx
      have hqx : qb < wx.heap.size := by have := HX.out.size; omega
      clear hbx
      cases b
      · have hne : dg ≠ k + 1 := by simpa using HD.out
        clear HFIN
        go_wp2
        go_roundw
        case rel => exact ⟨k + 1, by omega, by go_num, by have := HK.out; omega, HX.out⟩
        case measure => simp [intOf]; omega
      · have hne : dg = k + 1 := by simpa using HD.out
        have HV : Hid ((dg : Int) = (k : Int) + 1) := by show _ = _; omega
        clear hne HK HD HFIN
        go_wp2
        exact bodyPost_ret (v := .tuple #[.agg #[.int .i64 p1, .int .i64 p2], .int .i64 ((k : Int) + 1)]) (by simp [results, Tryz.results60, go_sem, *]) rfl ⟨by rw [HV.out], (HBX.out.setCell (p := ⟨w.heap.size + 1, 0, none⟩) (by simp) _).setCell (p := ⟨w.heap.size + 1, 1, none⟩) (by simp) _⟩
    · have h0 : dg = 0 := by omega
      obtain rfl : k = 6 := by omega
      subst h0
      obtain ⟨⟨t0, t1⟩, ⟨⟨s0, s1⟩, s2, s3⟩, -, hbx⟩ := HFIN.out wr hbw
      have HBX := Lib.hid hbx
      have hqx : qb < wr.heap.size := by omega
      clear hbx hbw hk6 HFIN
      go_wp2
      exact bodyPost_ret (v := .tuple #[.agg #[.int .i64 p1, .int .i64 p2], .int .i64 0]) (by simp [results, Tryz.results60, go_sem, *]) rfl ⟨rfl, (HBX.out.setCell (p := ⟨w.heap.size + 1, 0, none⟩) (by simp) _).setCell (p := ⟨w.heap.size + 1, 1, none⟩) (by simp) _⟩
set_option maxRecDepth 100000 in
set_option maxHeartbeats 8000000 in
theorem rok_any (r : Int) (z : E2) (w : World) : Calls Tryz.prog 53 #[vC r z] w fun e w' => e = .returned (.bool (okB r z)) ∧ Below w.heap.size w w' := by
  obtain ⟨a, b⟩ := z
  have HNO : Hid (shapeB r (a, b) = false → okB r (a, b) = false) := fun h => by unfold okB; rw [h]; rfl
  have hsh : shapeB r (a, b) = true ↔ 0 ≤ r ∧ r ≤ 12 ∧ -1073741824 ≤ a ∧ a ≤ 1073741824 ∧ -1073741824 ≤ b ∧ b ≤ 1073741824 := shapeB_iff r (a, b)
  have HB0 : Hid (Below w.heap.size w (w.alloc (.cells #[.int .i64 r, .int .i64 a, .int .i64 b] 72))) := (Below.refl _ _).alloc (Nat.le_refl _) _
  simp only [vC]
  by_cases h0 : r < 0
  · have HV := Lib.hid (HNO.out (by rw [← Bool.not_eq_true, hsh]; omega))
    rw [HV.out]
    have p0 : decide (r < 0) = true := decide_eq_true h0
    clear hsh HNO h0
    go_enter Tryz.func53, Tryz.ntmps53
    go_wp2
    go_ret
    exact ⟨rfl, HB0.out⟩
  have p0 : decide (r < 0) = false := decide_eq_false h0
  by_cases h1 : 12 < r
  · have HV := Lib.hid (HNO.out (by rw [← Bool.not_eq_true, hsh]; omega))
    rw [HV.out]
    have p1 : decide (12 < r) = true := decide_eq_true h1
    clear hsh HNO h0 h1
    go_enter Tryz.func53, Tryz.ntmps53
    go_wp2
    go_ret
    exact ⟨rfl, HB0.out⟩
  have p1 : decide (12 < r) = false := decide_eq_false h1
  by_cases h2 : a < -1073741824
  · have HV := Lib.hid (HNO.out (by rw [← Bool.not_eq_true, hsh]; omega))
    rw [HV.out]
    have p2 : decide (a < -1073741824) = true := decide_eq_true h2
    clear hsh HNO h0 h1 h2
    go_enter Tryz.func53, Tryz.ntmps53
    go_wp2
    go_ret
    exact ⟨rfl, HB0.out⟩
  have p2 : decide (a < -1073741824) = false := decide_eq_false h2
  by_cases h3 : 1073741824 < a
  · have HV := Lib.hid (HNO.out (by rw [← Bool.not_eq_true, hsh]; omega))
    rw [HV.out]
    have p3 : decide (1073741824 < a) = true := decide_eq_true h3
    clear hsh HNO h0 h1 h2 h3
    go_enter Tryz.func53, Tryz.ntmps53
    go_wp2
    go_ret
    exact ⟨rfl, HB0.out⟩
  have p3 : decide (1073741824 < a) = false := decide_eq_false h3
  by_cases h4 : b < -1073741824
  · have HV := Lib.hid (HNO.out (by rw [← Bool.not_eq_true, hsh]; omega))
    rw [HV.out]
    have p4 : decide (b < -1073741824) = true := decide_eq_true h4
    clear hsh HNO h0 h1 h2 h3 h4
    go_enter Tryz.func53, Tryz.ntmps53
    go_wp2
    go_ret
    exact ⟨rfl, HB0.out⟩
  have p4 : decide (b < -1073741824) = false := decide_eq_false h4
  by_cases h5 : 1073741824 < b
  · have HV := Lib.hid (HNO.out (by rw [← Bool.not_eq_true, hsh]; omega))
    rw [HV.out]
    have p5 : decide (1073741824 < b) = true := decide_eq_true h5
    clear hsh HNO h0 h1 h2 h3 h4 h5
    go_enter Tryz.func53, Tryz.ntmps53
    go_wp2
    go_ret
    exact ⟨rfl, HB0.out⟩
  have p5 : decide (1073741824 < b) = false := decide_eq_false h5
  obtain ⟨R, rfl⟩ : ∃ R : Nat, r = R := ⟨r.toNat, by omega⟩
  have hR : R ≤ 12 := by omega
  have HOK : Hid (okB R (a, b) = baseB (upN R (a, b))) := by show _ = _; unfold okB; rw [hsh.2 ⟨by omega, by omega, by omega, by omega, by omega, by omega⟩]; rfl
  have HSM : Hid (Sm 1099511627776 (a, b)) := by show Sm _ _; unfold Sm; simp only; omega
  obtain ⟨bv, hbv⟩ : ∃ bv, baseB (upN R (a, b)) = bv := ⟨_, rfl⟩
  rw [HOK.out, hbv]
  have HBV0 := Lib.hid hbv
  clear hbv
  clear hsh HNO HOK h0 h1 h2 h3 h4 h5
  have hr := heap_new w (.cells #[.int .i64 R, .int .i64 a, .int .i64 b] 72) _ rfl
  have C0 : Hid ((w.alloc (.cells #[.int .i64 R, .int .i64 a, .int .i64 b] 72)).cell? ⟨w.heap.size, 0, none⟩ = some (.int .i64 R)) := cell_of_row _ _ 0 _ _ _ hr
  have hal : Below (w.alloc (.cells #[.int .i64 R, .int .i64 a, .int .i64 b] 72)).heap.size (w.alloc (.cells #[.int .i64 R, .int .i64 a, .int .i64 b] 72)) ((w.alloc (.cells #[.int .i64 R, .int .i64 a, .int .i64 b] 72)).alloc (.cells #[.int .i64 a, .int .i64 b] 70)) := (Below.refl _ _).alloc (Nat.le_refl _) _
  have k1 : ((w.alloc (.cells #[.int .i64 R, .int .i64 a, .int .i64 b] 72)).alloc (.cells #[.int .i64 a, .int .i64 b] 70)).heap.size = w.heap.size + 2 := by simp
  have C1 : Hid (((w.alloc (.cells #[.int .i64 R, .int .i64 a, .int .i64 b] 72)).alloc (.cells #[.int .i64 a, .int .i64 b] 70)).cell? ⟨w.heap.size, 0, none⟩ = some (.int .i64 R)) := (hal.cell (p := ⟨w.heap.size, 0, none⟩) (by simp)).trans C0.out
  have Z1 : Hid (Two2 ((w.alloc (.cells #[.int .i64 R, .int .i64 a, .int .i64 b] 72)).alloc (.cells #[.int .i64 a, .int .i64 b] 70)) (w.heap.size + 1) (.int .i64 a) (.int .i64 b)) := Two2.of_row (t := 70) (heap_new _ _ _ (by simp))
  have HB1 : Hid (Below w.heap.size w ((w.alloc (.cells #[.int .i64 R, .int .i64 a, .int .i64 b] 72)).alloc (.cells #[.int .i64 a, .int .i64 b] 70))) := HB0.out.trans (hal.mono (by simp))
  clear hal hr C0 HB0
  go_enter Tryz.func53, Tryz.ntmps53
  go_upto_region 4 with (fail)
  generalize (w.alloc (.cells #[.int .i64 R, .int .i64 a, .int .i64 b] 72)).alloc (.cells #[.int .i64 a, .int .i64 b] 70) = w2 at *
  obtain ⟨y, hy⟩ : ∃ y : E2, y = (a, b) := ⟨_, rfl⟩
  rw [← hy] at HSM
  have Z1 : Hid (Two2 w2 (w.heap.size + 1) (.int .i64 (upN 0 y).1) (.int .i64 (upN 0 y).2)) := by rw [hy]; exact Z1.out
  have HBV : Hid (baseB (upN R y) = bv) := by show _ = _; rw [hy]; exact HBV0.out
  clear hy HBV0
  go_wp2
  go_loopw [4] (fun i wr => ∃ j : Nat, j ≤ R ∧ i = .int .i64 j ∧ Hid (Two2 wr (w.heap.size + 1) (.int .i64 (upN j y).1) (.int .i64 (upN j y).2) ∧ Turn (fun q => q = w.heap.size + 1) w2 wr)) (fun i _ => R - (intOf i).toNat)
  case atStart => exact ⟨0, by omega, rfl, Z1.out, Turn.refl _ _⟩
  case round =>
    obtain ⟨j, hj, rfl, HI⟩ := hrel
    have c0 : wr.cell? ⟨w.heap.size, 0, none⟩ = some (.int .i64 R) := (HI.out.2.cell (p := ⟨w.heap.size, 0, none⟩) (by show w.heap.size < w2.heap.size; omega) (by show ¬ w.heap.size = w.heap.size + 1; omega)).trans C1.out
    have hsz := HI.out.2.2.2.2.1
    have hwl : w.heap.size < wr.heap.size := by omega
    have HBR : Hid (Below w.heap.size w wr) := HB1.out.trans (HI.out.2.below (by omega) fun q hq e => by omega)
    obtain ⟨⟨z0, z1⟩, z2, z3⟩ := HI.out.1
    have HT := Lib.hid HI.out.2
    by_cases hjR : j < R
    · have hpa := parent_in (upN j y) (upN_sm (by omega) HSM.out j)
      have hup := upN_up j y
      rw [← hup] at hpa
      simp only [vE] at hpa
      have HP := Lib.hid hpa
      clear hpa hup
      obtain ⟨x', hx'⟩ : ∃ x', upN (j + 1) y = x' := ⟨_, rfl⟩
      rw [hx'] at HP
      have HXE := Lib.hid hx'
      clear hx'
      have HZ := Lib.hid HI.out.1
      clear HI
      go_wp2_with fail
      refine (HP.out _).mono ?_
      rintro e w4 ⟨rfl, hb4⟩
      have h4 := HZ.out.later (by omega) hb4
      have hp := h4.put (.int .i64 x'.1) (.int .i64 x'.2)
      have HN : Hid (Two2 ((w4.setCell ⟨w.heap.size + 1, 0, none⟩ (.int .i64 x'.1)).setCell ⟨w.heap.size + 1, 1, none⟩ (.int .i64 x'.2)) (w.heap.size + 1) (.int .i64 x'.1) (.int .i64 x'.2) ∧ Turn (fun q => q = w.heap.size + 1) w2 ((w4.setCell ⟨w.heap.size + 1, 0, none⟩ (.int .i64 x'.1)).setCell ⟨w.heap.size + 1, 1, none⟩ (.int .i64 x'.2))) := ⟨hp.1, (HT.out.trans (Turn.of_below hb4) fun _ _ h => h).trans hp.2 fun _ _ h => h⟩
      obtain ⟨⟨y0, y1⟩, y2, y3⟩ := h4
      clear hp hb4 z0 z1 z2 z3 c0
      go_wp2
      go_roundw
      case rel => exact ⟨j + 1, by omega, by go_num, by rw [HXE.out]; exact HN.out⟩
      case measure => simp [intOf]; omega
    · obtain rfl : j = R := by omega
      have HBS : Hid (baseB (upN j y) = (decide (-512 ≤ (upN j y).1) && decide ((upN j y).1 < 512) && (decide (-512 ≤ (upN j y).2) && decide ((upN j y).2 < 512)))) := rfl
      generalize upN j y = x at *
      clear HI HT
      obtain ⟨x1, x2⟩ := x
      simp only at *
      by_cases g0 : -512 ≤ x1
      · have p0 : decide (-512 ≤ x1) = true := decide_eq_true g0
        by_cases g1 : x1 ≤ 511
        · have p1 : decide (x1 ≤ 511) = true := decide_eq_true g1
          by_cases g2 : -512 ≤ x2
          · have p2 : decide (-512 ≤ x2) = true := decide_eq_true g2
            have HV : Hid (baseB (x1, x2) = decide (x2 ≤ 511)) := by show _ = _; rw [HBS.out, p0, p2, decide_eq_true (show x1 < 512 by omega)]; simp; omega
            have HEV := Lib.hid (HBV.out.symm.trans HV.out)
            obtain ⟨bb, hbb⟩ : ∃ bb, decide (x2 ≤ 511) = bb := ⟨_, rfl⟩
            rw [hbb] at HEV
            clear HV HBS g0 g1 g2
            go_wp2
            go_ret
            exact ⟨by rw [HEV.out]; rfl, HBR.out⟩
          · have p2 : decide (-512 ≤ x2) = false := decide_eq_false g2
            have HV : Hid (baseB (x1, x2) = false) := by show _ = _; rw [HBS.out, p2]; simp
            have HEV := Lib.hid (HBV.out.symm.trans HV.out)
            clear HV HBS g0 g1 g2
            go_wp2
            go_ret
            exact ⟨by rw [HEV.out]; rfl, HBR.out⟩
        · have p1 : decide (x1 ≤ 511) = false := decide_eq_false g1
          have HV : Hid (baseB (x1, x2) = false) := by show _ = _; rw [HBS.out, decide_eq_false (show ¬ x1 < 512 by omega)]; simp
          have HEV := Lib.hid (HBV.out.symm.trans HV.out)
          clear HV HBS g0 g1
          go_wp2
          go_ret
          exact ⟨by rw [HEV.out]; rfl, HBR.out⟩
      · have p0 : decide (-512 ≤ x1) = false := decide_eq_false g0
        have HV : Hid (baseB (x1, x2) = false) := by show _ = _; rw [HBS.out, p0]; simp
        have HEV := Lib.hid (HBV.out.symm.trans HV.out)
        clear HV HBS g0
        go_wp2
        go_ret
        exact ⟨by rw [HEV.out]; rfl, HBR.out⟩
end Go.Proofs.YtjimcjhgjfhbiaaGreat
/- The contract of apiaryref1.Word. -/
namespace Go.Proofs.YtjimcjhgjfhbiaaGreat
open Go.RowKit Go.Lib Wd

theorem hd_app (f : Nat → Nat) (j m : Nat) : hd f (j + m) = hd f j * 8 ^ m + hd (fun k => f (j + k)) m := by
  induction m with
  | zero => simp [hd]
  | succ m ih =>
    show hd f (j + m) * 8 + f (j + m + 1) = _ + (hd (fun k => f (j + k)) m * 8 + f (j + (m + 1)))
    rw [ih, Nat.pow_succ, ← Nat.mul_assoc, Nat.add_mul, Nat.add_assoc, Nat.add_assoc]
theorem or_parts {A d m B : Nat} (hd : d < 8) (hB : B < 2 ^ (3 * m)) : (A * 8 + d) * 2 ^ (3 * m) + B = A * 2 ^ (3 * m + 3) ||| (d * 2 ^ (3 * m) ||| B) := by
  have hp : 0 < 2 ^ (3 * m) := Nat.pow_pos (by decide)
  have e1 : d * 2 ^ (3 * m) ||| B = d * 2 ^ (3 * m) + B := nat_join (3 * m) _ _ (Nat.mul_mod_left _ _) hB
  have h2 : d * 2 ^ (3 * m) + B < 2 ^ (3 * m + 3) := by
    rw [Nat.pow_add]
    have : d * 2 ^ (3 * m) ≤ 7 * 2 ^ (3 * m) := Nat.mul_le_mul_right _ (by omega)
    omega
  rw [e1, nat_join (3 * m + 3) _ _ (Nat.mul_mod_left _ _) h2, Nat.add_mul, Nat.pow_add, ← Nat.add_assoc, Nat.mul_assoc A 8, Nat.mul_comm 8]
theorem clear_digit {A m B : Nat} (hB : B < 2 ^ (3 * m)) (hA : (A * 8 + 7) * 2 ^ (3 * m) + B < 2 ^ 64) :
    ((A * 8 + 7) * 2 ^ (3 * m) + B) &&& (2 ^ 64 - (7 * 2 ^ (3 * m) + 1)) = A * 2 ^ (3 * m + 3) ||| B := by
  have hb : 7 * 2 ^ (3 * m) < 2 ^ 64 := by
    have : 7 * 2 ^ (3 * m) ≤ (A * 8 + 7) * 2 ^ (3 * m) := Nat.mul_le_mul_right _ (by omega)
    omega
  have hlt : ∀ i, 64 ≤ i → ((A * 8 + 7) * 2 ^ (3 * m) + B).testBit i = false := fun i hi => Nat.testBit_lt_two_pow (Nat.lt_of_lt_of_le hA (Nat.pow_le_pow_right (by decide) hi))
  rw [or_parts (d := 7) (by decide) hB] at hlt ⊢
  apply Nat.eq_of_testBit_eq
  intro i
  have hl := hlt i
  rw [Nat.testBit_and, Nat.testBit_two_pow_sub_succ hb]
  rw [Nat.testBit_or, Nat.testBit_or, Nat.testBit_mul_two_pow, Nat.testBit_mul_two_pow] at hl ⊢
  rw [Nat.testBit_or, Nat.testBit_mul_two_pow]
  by_cases h1 : 3 * m ≤ i
  · have hBi : B.testBit i = false := Nat.testBit_lt_two_pow (Nat.lt_of_lt_of_le hB (Nat.pow_le_pow_right (by decide) h1))
    rw [hBi] at hl ⊢
    by_cases h2 : 3 * m + 3 ≤ i
    · have h7 : (7 : Nat).testBit (i - 3 * m) = false := Nat.testBit_lt_two_pow (Nat.lt_of_lt_of_le (show 7 < 2 ^ 3 by decide) (Nat.pow_le_pow_right (by decide) (by omega)))
      rw [h7] at hl ⊢
      by_cases h64 : i < 64
      · simp [h64]
      · have := hl (by omega)
        simp [h64] at this ⊢
        simpa [h2] using this
    · have h7 : (7 : Nat).testBit (i - 3 * m) = true := by
        rcases (show i - 3 * m = 0 ∨ i - 3 * m = 1 ∨ i - 3 * m = 2 by omega) with e | e | e <;> rw [e] <;> decide
      rw [h7]
      simp [h1, h2]
  · have h2 : ¬ 3 * m + 3 ≤ i := by omega
    by_cases h64 : i < 64
    · simp [h1, h2, h64]
    · have := hl (by omega)
      simp [h1, h2, h64] at this ⊢
      exact this
/-- The digits set so far, from the last on. -/
def lowD (R : Nat) (z : E2) (j k : Nat) : Nat := if k ≤ j then 7 else dgt R z k
def lowV (R : Nat) (z : E2) (j : Nat) : Nat := hd (lowD R z j) 12
theorem lowD_lt (R : Nat) (z : E2) (j k : Nat) : lowD R z j k < 8 := by
  unfold lowD
  split
  · decide
  · exact dgt_lt R z k
theorem lowV_lt (R : Nat) (z : E2) (j : Nat) : lowV R z j < 68719476736 := hd12_lt (lowD_lt R z j)
theorem lowV_first {R : Nat} (z : E2) : lowV R z R = 68719476735 := by
  unfold lowV
  rw [hd_congr (g := fun _ => 7) (fun k _ _ => ?_)]
  · decide
  · unfold lowD dgt
    split
    · rfl
    · rfl
theorem lowV_last (R : Nat) (z : E2) : lowV R z 0 = hd (dgt R z) 12 := hd_congr fun k h _ => by unfold lowD; rw [if_neg (by omega)]
theorem lowV_step {R : Nat} {z : E2} {j : Nat} (hj : j < 12) : ∃ A B : Nat, B < 2 ^ (3 * (12 - (j + 1))) ∧ lowV R z (j + 1) = (A * 8 + 7) * 2 ^ (3 * (12 - (j + 1))) + B ∧ lowV R z j = (A * 8 + dgt R z (j + 1)) * 2 ^ (3 * (12 - (j + 1))) + B := by
  obtain ⟨m, hm⟩ : ∃ m, 12 - (j + 1) = m := ⟨_, rfl⟩
  have h12 : 12 = (j + 1) + m := by omega
  have e8 : ∀ m, (8 : Nat) ^ m = 2 ^ (3 * m) := fun m => by rw [Nat.pow_mul]
  rw [hm]
  refine ⟨hd (lowD R z (j + 1)) j, hd (fun k => lowD R z (j + 1) (j + 1 + k)) m, ?_, ?_, ?_⟩
  · rw [← e8]; exact hd_lt (fun k => lowD_lt R z _ _) m
  · unfold lowV
    rw [h12, hd_app, e8]
    show (hd (lowD R z (j + 1)) j * 8 + lowD R z (j + 1) (j + 1)) * _ + _ = _
    rw [show lowD R z (j + 1) (j + 1) = 7 by unfold lowD; rw [if_pos (Nat.le_refl _)]]
  · unfold lowV
    rw [h12, hd_app, e8]
    show (hd (lowD R z j) j * 8 + lowD R z j (j + 1)) * _ + _ = _
    rw [show lowD R z j (j + 1) = dgt R z (j + 1) by unfold lowD; rw [if_neg (by omega)]]
    rw [hd_congr (f := lowD R z j) (g := lowD R z (j + 1)) (n := j) (fun k h1 h2 => by unfold lowD; rw [if_pos h2, if_pos (by omega)])]
    rw [hd_congr (f := fun k => lowD R z j (j + 1 + k)) (g := fun k => lowD R z (j + 1) (j + 1 + k)) (n := m) (fun k h1 h2 => by show lowD R z j _ = lowD R z (j + 1) _; unfold lowD; rw [if_neg (by omega), if_neg (by omega)])]
theorem word_put {A d B j V1 V0 : Nat} (hj : j < 12) (hd : d < 8) (hB : B < 2 ^ (3 * (12 - (j + 1)))) (h1 : V1 = (A * 8 + 7) * 2 ^ (3 * (12 - (j + 1))) + B) (h0 : V0 = (A * 8 + d) * 2 ^ (3 * (12 - (j + 1))) + B) (hV : V1 < 68719476736) :
    bits .or .u64 (bits .andNot .u64 (V1 : Int) (IntKind.u64.wrap (7 * 2 ^ (36 - 3 * (j + 1))))) (IntKind.u64.wrap ((d : Int) * 2 ^ (36 - 3 * (j + 1)))) = ((V0 : Nat) : Int) := by
  obtain ⟨m, hm⟩ : ∃ m, 12 - (j + 1) = m := ⟨_, rfl⟩
  rw [show 36 - 3 * (j + 1) = 3 * m by omega]
  rw [hm] at hB h1 h0
  have hp : 2 ^ (3 * m) ≤ 2 ^ 33 := Nat.pow_le_pow_right (by decide) (by omega)
  have hp2 : (2 : Nat) ^ 33 = 8589934592 := by decide
  have e7 : (7 * 2 ^ (3 * m) : Int) = ((7 * 2 ^ (3 * m) : Nat) : Int) := by simp
  have ed : ((d : Int) * 2 ^ (3 * m)) = ((d * 2 ^ (3 * m) : Nat) : Int) := by simp
  have hdl : d * 2 ^ (3 * m) ≤ 7 * 2 ^ (3 * m) := Nat.mul_le_mul_right _ (by omega)
  have w7 : IntKind.u64.wrap ((7 * 2 ^ (3 * m) : Nat) : Int) = ((7 * 2 ^ (3 * m) : Nat) : Int) := by rw [IntKind.wrap_u64]; omega
  have wd : IntKind.u64.wrap ((d * 2 ^ (3 * m) : Nat) : Int) = ((d * 2 ^ (3 * m) : Nat) : Int) := by rw [IntKind.wrap_u64]; omega
  have hlt : A * 2 ^ (3 * m + 3) ||| B < 18446744073709551616 := by
    refine Nat.lt_of_le_of_lt ?_ (show V1 < 18446744073709551616 by omega)
    rw [h1, or_parts (by decide) hB, Nat.or_comm (7 * 2 ^ (3 * m)) B, ← Nat.or_assoc]
    exact Nat.left_le_or
  rw [e7, ed, w7, wd, u64_andNot_nat _ _ (by omega) (by omega)]
  rw [show 18446744073709551615 - 7 * 2 ^ (3 * m) = 2 ^ 64 - (7 * 2 ^ (3 * m) + 1) by rw [show (2 : Nat) ^ 64 = 18446744073709551616 by decide]; omega]
  rw [h1, clear_digit hB (by rw [← h1, show (2 : Nat) ^ 64 = 18446744073709551616 by decide]; omega), bits_or_u64_nat _ _ hlt (by omega)]
  rw [h0, or_parts hd hB, Nat.or_assoc, Nat.or_comm B]
theorem top_val2 {R V : Nat} {b : E2} (hR : R ≤ 12) (hb : baseB b = true) (hV : V < 68719476736) : bits .or .u64 (bits .or .u64 (bits .or .u64 (bits .or .u64 (V : Int) 1152921504606846976) ((R : Int) * 72057594037927936)) (IntKind.u64.wrap (IntKind.u64.wrap (wrap64 (b.1 + 512)) * 70368744177664))) (IntKind.u64.wrap (IntKind.u64.wrap (wrap64 (b.2 + 512)) * 68719476736)) = ((topN R b + V : Nat) : Int) := by
  obtain ⟨h1, h2, h3, h4⟩ := (baseB_iff b).1 hb
  obtain ⟨A, hA⟩ : ∃ A : Nat, b.1 + 512 = A := ⟨(b.1 + 512).toNat, by omega⟩
  obtain ⟨B, hB⟩ : ∃ A : Nat, b.2 + 512 = A := ⟨(b.2 + 512).toNat, by omega⟩
  have wA : IntKind.u64.wrap (wrap64 (b.1 + 512)) = (A : Int) := by rw [hA, show wrap64 (A : Int) = A by unfold wrap64; omega, IntKind.wrap_u64]; omega
  have wB : IntKind.u64.wrap (wrap64 (b.2 + 512)) = (B : Int) := by rw [hB, show wrap64 (B : Int) = B by unfold wrap64; omega, IntKind.wrap_u64]; omega
  rw [wA, wB]
  have e1 : IntKind.u64.wrap ((A : Int) * 70368744177664) = ((A * 70368744177664 : Nat) : Int) := by rw [IntKind.wrap_u64]; omega
  have e2 : IntKind.u64.wrap ((B : Int) * 68719476736) = ((B * 68719476736 : Nat) : Int) := by rw [IntKind.wrap_u64]; omega
  have e3 : ((R : Int) * 72057594037927936) = ((R * 72057594037927936 : Nat) : Int) := by omega
  rw [e1, e2, e3, show (1152921504606846976 : Int) = ((1152921504606846976 : Nat) : Int) by rfl]
  rw [bits_or_u64_nat _ _ (by omega) (by decide), Nat.or_comm V, nat_join 60 _ _ (by decide) (by omega)]
  have j1 : 1152921504606846976 + V ||| R * 72057594037927936 = 1152921504606846976 + R * 72057594037927936 + V := by
    rw [← nat_join 60 1152921504606846976 V (by decide) (by omega), Nat.or_assoc, Nat.or_comm V, nat_join 56 (R * 72057594037927936) V (by omega) (by omega), nat_join 60 _ _ (by decide) (by omega)]; omega
  rw [bits_or_u64_nat _ _ (by omega) (by omega), j1]
  have j2 : 1152921504606846976 + R * 72057594037927936 + V ||| A * 70368744177664 = 1152921504606846976 + R * 72057594037927936 + A * 70368744177664 + V := by
    rw [← nat_join 56 (1152921504606846976 + R * 72057594037927936) V (by omega) (by omega), Nat.or_assoc, Nat.or_comm V, nat_join 46 (A * 70368744177664) V (by omega) (by omega), nat_join 56 _ _ (by omega) (by omega)]; omega
  rw [bits_or_u64_nat _ _ (by omega) (by omega), j2]
  have j3 : 1152921504606846976 + R * 72057594037927936 + A * 70368744177664 + V ||| B * 68719476736 = 1152921504606846976 + R * 72057594037927936 + A * 70368744177664 + B * 68719476736 + V := by
    rw [← nat_join 46 (1152921504606846976 + R * 72057594037927936 + A * 70368744177664) V (by omega) (by omega), Nat.or_assoc, Nat.or_comm V, nat_join 36 (B * 68719476736) V (by omega) (by omega), nat_join 46 _ _ (by omega) (by omega)]; omega
  rw [bits_or_u64_nat _ _ (by omega) (by omega), j3]
  unfold topN
  omega
set_option maxRecDepth 100000 in
set_option maxHeartbeats 8000000 in
theorem word_any (r : Int) (z : E2) (w : World) : Calls Tryz.prog 31 #[vC r z] w fun e w' => e = .returned (.tuple #[.int .u64 (ofW r z : Nat), .int .i64 (ofE r z)]) ∧ Below w.heap.size w w' := by
  have HW := Lib.hid (rok_any r z)
  have HO : Hid (ofW r z = if okB r z = true then wordN r.toNat z else 0) := rfl
  have HE : Hid (ofE r z = if okB r z = true then 0 else 2) := rfl
  by_cases hok : okB r z = true
  · obtain ⟨R, rfl, hR⟩ := okB_nat hok
    have HBB := Lib.hid (okB_parts hok).2
    have HSM : Hid (Sm 1099511627776 z) := by
      have := (shapeB_iff _ _).1 ((okB_iff _ _).1 hok).1
      show Sm _ _; unfold Sm; omega
    simp only [hok, if_pos] at HO HE HW
    rw [HO.out, HE.out]
    have HSZ : Hid (wordN (R : Int).toNat z = topN R (upN R z) + lowV R z 0) := by show _ = _; rw [lowV_last]; rfl
    rw [HSZ.out]
    clear hok HO HE HSZ
    obtain ⟨res, hres⟩ : ∃ x, topN R (upN R z) + lowV R z 0 = x := ⟨_, rfl⟩
    rw [hres]
    have HRES := Lib.hid hres
    clear hres
    have HLF := Lib.hid (lowV_first (R := R) z)
    obtain ⟨a, b⟩ := z
    simp only [vC] at *
    go_enter Tryz.func31, Tryz.ntmps31
    go_wp2_with fail
    refine (HW.out _).mono ?_
    rintro e w1 ⟨rfl, hb⟩
    have hz1 := hb.size
    simp at hz1
    have hr := hb.block w.heap.size (by simp)
    rw [heap_new _ _ _ rfl] at hr
    obtain ⟨c0, c1, c2⟩ : w1.cell? ⟨w.heap.size, 0, none⟩ = some (.int .i64 R) ∧ w1.cell? ⟨w.heap.size, 1, none⟩ = some (.int .i64 a) ∧ w1.cell? ⟨w.heap.size, 2, none⟩ = some (.int .i64 b) := ⟨cell_of_row _ _ 0 _ _ _ hr, cell_of_row _ _ 1 _ _ _ hr, cell_of_row _ _ 2 _ _ _ hr⟩
    have hal : Below w1.heap.size w1 (w1.alloc (.cells #[.int .i64 a, .int .i64 b] 70)) := (Below.refl _ _).alloc (Nat.le_refl _) _
    have hB : Hid (Below w.heap.size w (w1.alloc (.cells #[.int .i64 a, .int .i64 b] 70))) := (((Below.refl _ _).alloc (Nat.le_refl _) _).trans (hb.mono (by simp))).trans (hal.mono (by omega))
    have C0 : Hid ((w1.alloc (.cells #[.int .i64 a, .int .i64 b] 70)).cell? ⟨w.heap.size, 0, none⟩ = some (.int .i64 R)) := (hal.cell (p := ⟨w.heap.size, 0, none⟩) (by show w.heap.size < w1.heap.size; omega)).trans c0
    have Z0 : Hid (Two2 (w1.alloc (.cells #[.int .i64 a, .int .i64 b] 70)) w1.heap.size (.int .i64 a) (.int .i64 b)) := Two2.of_row (t := 70) (heap_new _ _ _ rfl)
    have hsz := World.size_alloc w1 (.cells #[.int .i64 a, .int .i64 b] 70)
    clear hal hb HW
    go_upto_region 4 with (fail)
    generalize w1.alloc (.cells #[.int .i64 a, .int .i64 b] 70) = w2 at *
    obtain ⟨zb, hzb⟩ : ∃ zb, w1.heap.size = zb := ⟨_, rfl⟩
    rw [hzb] at Z0 hsz hz1 ⊢
    clear hzb c0 c1 c2 hr
    have c0 := C0.out
    obtain ⟨y, hy⟩ : ∃ y : E2, y = (a, b) := ⟨_, rfl⟩
    have Z0 : Hid (Two2 w2 zb (.int .i64 (upN (R - R) y).1) (.int .i64 (upN (R - R) y).2)) := by rw [Nat.sub_self, hy]; exact Z0.out
    rw [← hy] at HBB HSM HRES HLF
    have HL0 : Hid ((68719476735 : Int) = ((lowV R y R : Nat) : Int)) := by show _ = _; rw [HLF.out]; rfl
    clear hy
    go_upto_region 6 with (fail)
    go_loopw [5, 6] (fun v i wr => ∃ j : Nat, j ≤ R ∧ i = .int .i64 j ∧ v = .int .u64 (lowV R y j : Nat) ∧ Hid (Two2 wr zb (.int .i64 (upN (R - j) y).1) (.int .i64 (upN (R - j) y).2) ∧ Turn (fun q => q = zb) w2 wr)) (fun _ i _ => (intOf i).toNat)
    case atStart => exact ⟨R, by omega, rfl, by rw [HL0.out], Z0.out, Turn.refl _ _⟩
    case round =>
      obtain ⟨j', hj, rfl, rfl, HI⟩ := hrel
      have hturn := HI.out.2
      have hsz2 := hturn.2.2.2.1
      have HBR : Hid (Below w.heap.size w wr) := hB.out.trans (hturn.below (by omega) fun q hq e => by omega)
      have HTU := Lib.hid hturn
      have HZ := Lib.hid HI.out.1
      clear hturn HI c0
      by_cases hj0 : j' = 0
      · subst hj0
        have c0 : wr.cell? ⟨w.heap.size, 0, none⟩ = some (.int .i64 R) := (HTU.out.cell (p := ⟨w.heap.size, 0, none⟩) (by show w.heap.size < w2.heap.size; omega) (by show ¬ w.heap.size = zb; omega)).trans C0.out
        have HTV := Lib.hid (top_val2 hR HBB.out (lowV_lt R y 0))
        obtain ⟨⟨z0, z1⟩, z2, z3⟩ := HZ.out
        rw [Nat.sub_zero] at z0 z1
        have hwl : w.heap.size < wr.heap.size := by omega
        have hzl : zb < wr.heap.size := by omega
        generalize upN R y = x at *
        generalize lowV R y 0 = V at *
        clear HZ HTU
        go_wp2
        rw [HTV.out]
        go_ret2
        exact ⟨by rw [← HRES.out]; rfl, HBR.out⟩
      · obtain ⟨j, rfl⟩ : ∃ j, j' = j + 1 := ⟨j' - 1, by omega⟩
        have hpa := parent_in (upN (R - (j + 1)) y) (upN_sm (by omega) HSM.out _)
        have hup : upN (R - j) y = upE (upN (R - (j + 1)) y) := by rw [show R - j = (R - (j + 1)) + 1 by omega, upN_up]
        have hdg : dgt R y (j + 1) = digE (upN (R - (j + 1)) y) := by unfold dgt; rw [if_pos hj]
        rw [← hup, ← hdg] at hpa
        obtain ⟨x', hx'⟩ : ∃ x', upN (R - j) y = x' := ⟨_, rfl⟩
        rw [hx'] at hpa
        have HXE := Lib.hid hx'
        obtain ⟨A, B, hB1, hv1, hv2⟩ := lowV_step (R := R) (z := y) (j := j) (by omega)
        have hdl := dgt_lt R y (j + 1)
        have hlv := lowV_lt R y (j + 1)
        simp only [vE] at hpa
        have HP := Lib.hid hpa
        have HV1 := Lib.hid hv1
        have HV2 := Lib.hid hv2
        clear hv1 hv2
        generalize dgt R y (j + 1) = d at *
        obtain ⟨V1, hV1⟩ : ∃ V, lowV R y (j + 1) = V := ⟨_, rfl⟩
        obtain ⟨V0, hV0⟩ : ∃ V, lowV R y j = V := ⟨_, rfl⟩
        rw [hV1] at HV1 hlv ⊢
        rw [hV0] at HV2
        have HV0E := Lib.hid hV0
        clear hV1 hV0
        clear hpa hup hdg hx'
        obtain ⟨⟨z0, z1⟩, z2, z3⟩ := HZ.out
        have q0 : decide (0 < (j : Int) + 1) = true := decide_eq_true (by omega)
        go_wp2_with fail
        refine (HP.out _).mono ?_
        rintro e w3 ⟨rfl, hb3⟩
        have qs : decide (36 - 3 * ((j : Int) + 1) < 0) = false := decide_eq_false (by omega)
        go_upto_region 10 with (fail)
        go_quiet (fail)
        have HPUT := Lib.hid (word_put (show j < 12 by omega) hdl hB1 HV1.out HV2.out hlv)
        rw [HPUT.out]
        have hz3 := hb3.size
        have hal : Below w3.heap.size w3 (w3.alloc (.cells #[.int .i64 x'.1, .int .i64 x'.2] 70)) := (Below.refl _ _).alloc (Nat.le_refl _) _
        have k3 := World.size_alloc w3 (.cells #[.int .i64 x'.1, .int .i64 x'.2] 70)
        have hX : Two (w3.alloc (.cells #[.int .i64 x'.1, .int .i64 x'.2] 70)) w3.heap.size (.int .i64 x'.1) (.int .i64 x'.2) := Two.of_row (t := 70) (f := _) (heap_new _ _ _ rfl)
        have h4 := (HZ.out.later (by omega) hb3).later (by omega) hal
        have HT4 : Hid (Turn (fun q => q = zb) w2 (w3.alloc (.cells #[.int .i64 x'.1, .int .i64 x'.2] 70))) := (HTU.out.trans (Turn.of_below hb3) fun _ _ h => h).trans (Turn.of_below hal) fun _ _ h => h
        clear hal hb3 z0 z1 z2 z3 HZ HTU
        have hdn := below_dn (w3.alloc (.cells #[.int .i64 x'.1, .int .i64 x'.2] 70)) nq
        have h4 := h4.later (by omega) hdn
        have hX := hX.later (by omega) hdn
        have HT4 : Hid (Turn (fun q => q = zb) w2 ((w3.alloc (.cells #[.int .i64 x'.1, .int .i64 x'.2] 70)).drewN nq)) := HT4.out.trans (Turn.of_below hdn) fun _ _ h => h
        have k4 := hdn.size
        clear hdn
        generalize (w3.alloc (.cells #[.int .i64 x'.1, .int .i64 x'.2] 70)).drewN nq = w4 at *
        have hp := h4.put (.int .i64 x'.1) (.int .i64 x'.2)
        have HN : Hid (Two2 ((w4.setCell ⟨zb, 0, none⟩ (.int .i64 x'.1)).setCell ⟨zb, 1, none⟩ (.int .i64 x'.2)) zb (.int .i64 x'.1) (.int .i64 x'.2) ∧ Turn (fun q => q = zb) w2 ((w4.setCell ⟨zb, 0, none⟩ (.int .i64 x'.1)).setCell ⟨zb, 1, none⟩ (.int .i64 x'.2))) := ⟨hp.1, HT4.out.trans hp.2 fun _ _ h => h⟩
        obtain ⟨⟨z0, z1⟩, z2, z3⟩ := h4
        obtain ⟨x0, x1⟩ := hX
        have hxl : w3.heap.size < w4.heap.size := by omega
        have hzl : zb < w4.heap.size := by omega
        clear hp k3
        go_wp2
        go_roundw
        case rel => exact ⟨j, by omega, by go_num, by rw [HV0E.out], by rw [HXE.out]; exact HN.out⟩
        case measure => simp [intOf]
  · have hok0 : okB r z = false := by simpa using hok
    rw [hok0] at HW
    simp only [hok0, Bool.false_eq_true, if_false] at HO HE
    rw [HO.out, HE.out]
    clear hok hok0 HO HE
    simp only [vC] at *
    go_enter Tryz.func31, Tryz.ntmps31
    go_wp2_with fail
    refine (HW.out _).mono ?_
    rintro e w1 ⟨rfl, hb⟩
    have HB : Hid (Below w.heap.size w w1) := ((Below.refl _ _).alloc (Nat.le_refl _) _).trans (hb.mono (by simp))
    clear hb HW
    go_wp2
    go_ret2
    exact ⟨rfl, HB.out⟩
end Go.Proofs.YtjimcjhgjfhbiaaGreat
/- The contract of apiaryref1.Near. -/
namespace Go.Proofs.YtjimcjhgjfhbiaaGreat
open Go.RowKit Go.Lib Wd

theorem near_mul_sm {x y : Int} (hx : 0 ≤ x ∧ x < 1073741824) (hy : 0 ≤ y ∧ y < 1073741824) {m : Nat} (hm : m ≤ 12) : Sm 1152921504606846976 (mulE (ptE x y) (conjE (bE m))) := by
  obtain ⟨q0, q1, q2, q3, q4, q5, q6, q7, q8, q9, q10, q11, q12⟩ := bE_tab
  unfold Sm mulE ptE conjE
  rcases upto12 hm with rfl | rfl | rfl | rfl | rfl | rfl | rfl | rfl | rfl | rfl | rfl | rfl | rfl <;> simp only [q0, q1, q2, q3, q4, q5, q6, q7, q8, q9, q10, q11, q12] <;> omega
theorem conj_sm {m : Nat} (hm : m ≤ 12) : Sm 4194304 (conjE (bE m)) := by
  have := bE_sm hm
  unfold Sm at this
  unfold Sm conjE
  simp only
  omega
set_option maxRecDepth 100000 in
set_option maxHeartbeats 4000000 in
theorem rnear_in (x y : Int) (hx : 0 ≤ x ∧ x < 1073741824) (hy : 0 ≤ y ∧ y < 1073741824) (r : Nat) (hr : r ≤ 12) (w : World) :
    Calls Tryz.prog 30 #[.int .i64 x, .int .i64 y, .int .i64 r] w fun e w' => e = .returned (.tuple #[vE (nearE x y r), .bool true]) ∧ Below w.heap.size w w' := by
  have HWO := Lib.hid (rworld_in x y hx hy)
  have q1 : decide ((r : Int) < 0) = false := decide_eq_false (by omega)
  have q2 : decide (12 < (r : Int)) = false := decide_eq_false (by omega)
  have hm : (12 : Int) - (r : Int) = ((12 - r : Nat) : Int) := by omega
  have hm12 : 12 - r ≤ 12 := by omega
  have HN : Hid (nearE x y r = roundE (mulE (ptE x y) (conjE (bE (12 - r)))) (dN (12 - r))) := rfl
  have hms := near_mul_sm hx hy hm12
  have HCO := Lib.hid (rconj_in (12 - r) hm12)
  have HMU := Lib.hid (rmul_in (ptE x y) (conjE (bE (12 - r))) (by unfold Sm ptE; simp only; omega) ((conj_sm hm12).mono (by decide)) (hms.mono (by decide)))
  have HSE := Lib.hid (rseven_in (12 - r) hm12)
  obtain ⟨hp1, hp2⟩ := pow7_in hm12
  have HRO := Lib.hid (rround_in (mulE (ptE x y) (conjE (bE (12 - r)))) (dN (12 - r)) (by unfold dN; omega) (by unfold dN; omega) hms)
  rw [← HN.out] at HRO
  have hdn : dN (12 - r) = 2340 * 7 ^ (12 - r) := rfl
  rw [hdn] at HRO
  have hpt : ptE x y = (45 * x - 26 * y, 52 * y) := rfl
  clear HN hdn hms
  generalize (7 : Int) ^ (12 - r) = s at *
  generalize nearE x y r = z at *
  generalize 12 - r = m at *
  generalize mulE (ptE x y) (conjE (bE m)) = u at *
  generalize conjE (bE m) = c at *
  rw [hpt] at HMU
  simp only [vE] at *
  clear hpt
  obtain ⟨hx1, hx2⟩ := hx
  obtain ⟨hy1, hy2⟩ := hy
  go_enter Tryz.func30, Tryz.ntmps30
  go_wp2_with fail
  refine (HWO.out _).mono ?_
  rintro e w0 ⟨rfl, rfl⟩
  go_wp2_with fail
  refine (HCO.out _).mono ?_
  rintro e w1 ⟨rfl, hb1⟩
  have hz := hb1.size
  simp at hz
  have H1 : Hid (Two2 w1 w.heap.size (.int .i64 0) (.int .i64 0)) := (Two2.of_row (t := 70) (heap_new _ _ _ rfl)).later (by simp) hb1
  have HQ : Hid (Below w.heap.size w w1) := ((Below.refl _ _).alloc (Nat.le_refl _) _).trans (hb1.mono (by simp))
  clear hb1
  go_wp2_with fail
  refine (HMU.out _).mono ?_
  rintro e w2 ⟨rfl, hb2⟩
  have hz2 := hb2.size
  have H2 := H1.out.later (by omega) hb2
  have HQ2 : Hid (Below w.heap.size w w2) := HQ.out.trans (hb2.mono (by omega))
  have HT : Hid (Two (w2.alloc (.cells #[.int .i64 u.1, .int .i64 u.2] 70)) w2.heap.size (.int .i64 u.1) (.int .i64 u.2)) := Two.of_row (t := 70) (f := _) (heap_new _ _ _ rfl)
  have H2 := Lib.hid (H2.alloc (by omega) (.cells #[.int .i64 u.1, .int .i64 u.2] 70))
  have HQ3 : Hid (Below w.heap.size w (w2.alloc (.cells #[.int .i64 u.1, .int .i64 u.2] 70))) := HQ2.out.alloc (by omega) _
  have hs : w2.heap.size < (w2.alloc (.cells #[.int .i64 u.1, .int .i64 u.2] 70)).heap.size := by simp
  clear hb2 HQ HQ2 H1
  go_upto_region 4 with (fail)
  generalize w2.alloc (.cells #[.int .i64 u.1, .int .i64 u.2] 70) = w4 at *
  have HC : Hid (∀ wx, Below w4.heap.size w4 wx → Two wx w2.heap.size (.int .i64 u.1) (.int .i64 u.2) ∧ Two2 wx w.heap.size (.int .i64 0) (.int .i64 0)) := fun wx hx => ⟨HT.out.later (by omega) hx, H2.out.later (by omega) hx⟩
  clear HT H2
  refine wp_region_part 6 4 #[true, true, true, true, true, true, false, false, false, false] (fun w w' => Below w.heap.size w w') (fun qi_ qv_ _ => qv_ = ([.agg #[.int .i64 u.1, .int .i64 u.2], .int .i64 r, .int .i64 m, .int .i64 s, .int .i64 (2340 * s), .tuple #[.agg #[.int .i64 z.1, .int .i64 z.2], .bool true]] : List Value).getD qi_ undef) rfl rfl (by kernel_rfl) (by kernel_rfl) (by kernel_rfl) (fun _ => Below.refl _ _) (fun _ _ _ h1 h2 => below_later h1 h1.size h2) (fun _ _ _ _ _ _ h => h) ?_
  simp only [List.take_succ_cons, List.take_zero]
  refine inv_cons (fun wx hg hd => ?_) (fun v0 => ?_)
  · have hx := ((Below.refl w4.heap.size w4).drew).trans hg
    clear hd hg
    obtain ⟨⟨k1, k2⟩, _⟩ := HC.out _ hx
    go_wp2
    exact ⟨_, rfl, Below.refl _ _, rfl⟩
  (try simp only [List.nil_append, Act.put, List.setIfInBounds_toArray, List.set_cons_zero, List.set_cons_succ])
  refine inv_cons (fun wx hg hd => ?_) (fun v1 => ?_)
  · have hx := ((Below.refl w4.heap.size w4).drew).trans hg
    clear hd hg
    go_wp2
    exact ⟨_, rfl, Below.refl _ _, rfl⟩
  (try simp only [List.cons_append, List.nil_append, Act.put, List.setIfInBounds_toArray, List.set_cons_zero, List.set_cons_succ])
  refine inv_cons (fun wx hg hd => ?_) (fun v2 => ?_)
  · have hx := ((Below.refl w4.heap.size w4).drew).trans hg
    (try (have ee : v1 = (.int .i64 r : Value) := hd 1 (by simp) (by decide); subst ee))
    clear hd hg
    go_wp2
    exact ⟨_, rfl, Below.refl _ _, rfl⟩
  (try simp only [List.cons_append, List.nil_append, Act.put, List.setIfInBounds_toArray, List.set_cons_zero, List.set_cons_succ])
  refine inv_cons (fun wx hg hd => ?_) (fun v3 => ?_)
  · have hx := ((Below.refl w4.heap.size w4).drew).trans hg
    (try (have ee : v2 = (.int .i64 m : Value) := hd 2 (by simp) (by decide); subst ee))
    clear hd hg
    go_wp2_with fail
    refine (HSE.out _).mono ?_
    rintro e w' ⟨rfl, hb⟩
    go_wp2
    exact ⟨_, rfl, hb, rfl⟩
  (try simp only [List.cons_append, List.nil_append, Act.put, List.setIfInBounds_toArray, List.set_cons_zero, List.set_cons_succ])
  refine inv_cons (fun wx hg hd => ?_) (fun v4 => ?_)
  · have hx := ((Below.refl w4.heap.size w4).drew).trans hg
    (try (have ee : v3 = (.int .i64 s : Value) := hd 3 (by simp) (by decide); subst ee))
    clear hd hg
    go_wp2
    exact ⟨_, rfl, Below.refl _ _, rfl⟩
  (try simp only [List.cons_append, List.nil_append, Act.put, List.setIfInBounds_toArray, List.set_cons_zero, List.set_cons_succ])
  refine inv_cons (fun wx hg hd => ?_) (fun v5 => ?_)
  · have hx := ((Below.refl w4.heap.size w4).drew).trans hg
    (try (have ee : v0 = (.agg #[.int .i64 u.1, .int .i64 u.2] : Value) := hd 0 (by simp) (by decide); subst ee))
    (try (have ee : v4 = (.int .i64 (2340 * s) : Value) := hd 4 (by simp) (by decide); subst ee))
    clear hd hg
    go_wp2_with fail
    refine (HRO.out _).mono ?_
    rintro e w' ⟨rfl, hb⟩
    go_wp2
    exact ⟨_, rfl, hb, rfl⟩
  (try simp only [List.cons_append, List.nil_append, Act.put, List.setIfInBounds_toArray, List.set_cons_zero, List.set_cons_succ])
  refine inv_done (fun wx hg hd => ?_)
  have hx := ((Below.refl w4.heap.size w4).drew).trans hg
  (have ee : v0 = (.agg #[.int .i64 u.1, .int .i64 u.2] : Value) := hd 0 (by simp); subst ee)
  (have ee : v1 = (.int .i64 r : Value) := hd 1 (by simp); subst ee)
  (have ee : v2 = (.int .i64 m : Value) := hd 2 (by simp); subst ee)
  (have ee : v3 = (.int .i64 s : Value) := hd 3 (by simp); subst ee)
  (have ee : v4 = (.int .i64 (2340 * s) : Value) := hd 4 (by simp); subst ee)
  (have ee : v5 = (.tuple #[.agg #[.int .i64 z.1, .int .i64 z.2], .bool true] : Value) := hd 5 (by simp); subst ee)
  clear hd hg
  have HF : Hid (Below w.heap.size w wx) := HQ3.out.trans (hx.mono HQ3.out.size)
  obtain ⟨-, ⟨c0, c1⟩, f0, f1⟩ := HC.out _ hx
  have hzx := hx.size
  clear hx HC
  refine wpAny_take (i := 6) (v := .agg #[.int .i64 z.1, .int .i64 z.2]) rfl (by kernel_rfl) (by kernel_rfl) (by kernel_rfl) (fun _ _ _ h => h) (Or.inl ⟨by rfl, ?_⟩) ?_
  · intro w
    go_simp
  (try simp only [Act.put, List.setIfInBounds_toArray, List.set_cons_zero, List.set_cons_succ])
  refine wpAny_take (i := 7) (v := .bool true) rfl (by kernel_rfl) (by kernel_rfl) (by kernel_rfl) (fun _ _ _ h => h) (Or.inl ⟨by rfl, ?_⟩) ?_
  · intro w
    go_simp
  (try simp only [Act.put, List.setIfInBounds_toArray, List.set_cons_zero, List.set_cons_succ])
  refine wpAny_ready (rs := [8]) (by kernel_rfl) (by simp) ?_
  refine AllReady.cons rfl (fun K hK => ?_) AllReady.nil
  go_simp
  refine hK _ _ ?_
  clear hK K
  refine wpAny_ready (rs := [9]) (by kernel_rfl) (by simp) ?_
  refine AllReady.cons rfl (fun K hK => ?_) AllReady.nil
  go_simp
  refine hK _ _ ?_
  clear hK K
  refine wpAny_done (by kernel_rfl) ?_ _
  refine only_done ?_
  go_wp2
  exact bodyPost_ret (v := .tuple #[.agg #[.int .i64 z.1, .int .i64 z.2], .bool true]) (by simp [results, Tryz.results30, go_sem, *]) rfl ⟨rfl, (HF.out.setCell (p := ⟨w.heap.size, 0, none⟩) (Nat.le_refl _) _).setCell (p := ⟨w.heap.size, 1, none⟩) (Nat.le_refl _) _⟩
end Go.Proofs.YtjimcjhgjfhbiaaGreat
/- Plain geometry of hexagons and boxes over fractions: what no row parts has a point in common; from a cell that touches a box on to one nearer to its corner. -/
namespace Go.Proofs.YtjimcjhgjfhbiaaGreat.Cv
theorem div_le {a b c : Rat} (hb : 0 < b) : a / b ≤ c ↔ a ≤ c * b := by
  have := Rat.lt_div_iff (a := c) (b := a) hb
  grind
theorem le_div {a b c : Rat} (hc : 0 < c) : a ≤ b / c ↔ a * c ≤ b := by
  have := Rat.div_lt_iff (a := b) (c := a) hc
  grind
theorem helly1 : ∀ (L : List (Rat × Rat)), (∀ p ∈ L, ∀ q ∈ L, p.1 ≤ q.2) → ∃ x, ∀ p ∈ L, p.1 ≤ x ∧ x ≤ p.2 := by
  have hm : ∀ (L : List (Rat × Rat)) (a : Rat × Rat), ∃ p, (p = a ∨ p ∈ L) ∧ a.1 ≤ p.1 ∧ ∀ q ∈ L, q.1 ≤ p.1 := by
    intro L
    induction L with
    | nil => intro a; exact ⟨a, .inl rfl, Rat.le_refl, fun q hq => by cases hq⟩
    | cons b L ih =>
      intro a
      by_cases h : a.1 ≤ b.1
      · obtain ⟨p, hp, h1, h2⟩ := ih b
        refine ⟨p, ?_, by grind, ?_⟩
        · rcases hp with rfl | hp
          · exact .inr (by simp)
          · exact .inr (by simp [hp])
        · intro q hq
          rcases List.mem_cons.1 hq with rfl | hq
          · exact h1
          · exact h2 q hq
      · obtain ⟨p, hp, h1, h2⟩ := ih a
        refine ⟨p, ?_, h1, ?_⟩
        · rcases hp with rfl | hp
          · exact .inl rfl
          · exact .inr (by simp [hp])
        · intro q hq
          rcases List.mem_cons.1 hq with rfl | hq
          · grind
          · exact h2 q hq
  intro L h
  cases L with
  | nil => exact ⟨0, fun p hp => by cases hp⟩
  | cons a L =>
    obtain ⟨p, hp, h1, h2⟩ := hm L a
    have hp' : p ∈ a :: L := by rcases hp with rfl | hp <;> simp [*]
    refine ⟨p.1, fun q hq => ⟨?_, h p hp' q hq⟩⟩
    rcases List.mem_cons.1 hq with rfl | hq
    · exact h1
    · exact h2 q hq
/-- t within [-1, 1] such that all of some strips hold. -/
theorem peel0 (L : List (Rat × Rat × Rat)) (h0 : ∀ p ∈ L, 0 ≤ p.2.2) (h1 : ∀ p ∈ L, -(p.2.1 + p.2.2) ≤ p.1 ∧ p.1 ≤ p.2.1 + p.2.2)
    (h2 : ∀ p ∈ L, ∀ q ∈ L, p.1 * q.2.2 - q.1 * p.2.2 ≤ p.2.1 * q.2.2 + q.2.1 * p.2.2) :
    ∃ t : Rat, -1 ≤ t ∧ t ≤ 1 ∧ ∀ p ∈ L, -p.2.1 ≤ p.1 - t * p.2.2 ∧ p.1 - t * p.2.2 ≤ p.2.1 := by
  obtain ⟨t, ht⟩ := helly1 ((-1, 1) :: (L.filter fun p => decide (0 < p.2.2)).map fun p => ((p.1 - p.2.1) / p.2.2, (p.1 + p.2.1) / p.2.2)) (by
    intro p hp q hq
    rcases List.mem_cons.1 hp with rfl | hp <;> rcases List.mem_cons.1 hq with rfl | hq
    · decide
    · obtain ⟨b, hb, rfl⟩ := List.mem_map.1 hq
      obtain ⟨hb, hb2⟩ := List.mem_filter.1 hb
      have hb2 := of_decide_eq_true hb2
      have := h1 b hb
      simp only
      rw [le_div hb2]
      grind
    · obtain ⟨a, ha, rfl⟩ := List.mem_map.1 hp
      obtain ⟨ha, ha2⟩ := List.mem_filter.1 ha
      have ha2 := of_decide_eq_true ha2
      have := h1 a ha
      simp only
      rw [div_le ha2]
      grind
    · obtain ⟨a, ha, rfl⟩ := List.mem_map.1 hp
      obtain ⟨ha, ha2⟩ := List.mem_filter.1 ha
      have ha2 := of_decide_eq_true ha2
      obtain ⟨b, hb, rfl⟩ := List.mem_map.1 hq
      obtain ⟨hb, hb2⟩ := List.mem_filter.1 hb
      have hb2 := of_decide_eq_true hb2
      have := h2 a ha b hb
      simp only
      rw [div_le ha2]
      have e : (b.1 + b.2.1) / b.2.2 * a.2.2 = ((b.1 + b.2.1) * a.2.2) / b.2.2 := by grind
      rw [e, le_div hb2]
      grind)
  have hb := ht (-1, 1) (by simp)
  refine ⟨t, hb.1, hb.2, fun p hp => ?_⟩
  by_cases hd : 0 < p.2.2
  · have := ht ((p.1 - p.2.1) / p.2.2, (p.1 + p.2.1) / p.2.2) (by
      refine List.mem_cons_of_mem _ (List.mem_map.2 ⟨p, List.mem_filter.2 ⟨hp, decide_eq_true hd⟩, rfl⟩))
    simp only at this
    rw [div_le hd, le_div hd] at this
    grind
  · have e : p.2.2 = 0 := by have := h0 p hp; grind
    have := h1 p hp
    rw [e] at this ⊢
    grind
def ab (x : Rat) : Rat := if 0 ≤ x then x else -x
theorem ab_le {a b : Rat} : ab a ≤ b ↔ -b ≤ a ∧ a ≤ b := by unfold ab; grind
theorem ab_nonneg (a : Rat) : 0 ≤ ab a := by unfold ab; grind
theorem ab_neg (a : Rat) : ab (-a) = ab a := by unfold ab; grind
theorem ab_of {a : Rat} (h : 0 ≤ a) : ab a = a := by unfold ab; grind
theorem ab_neg_of {a : Rat} (h : a ≤ 0) : ab a = -a := by unfold ab; grind
theorem ab_mul (a b : Rat) : ab (a * b) = ab a * ab b := by
  by_cases ha : 0 ≤ a <;> by_cases hb : 0 ≤ b
  · rw [ab_of ha, ab_of hb, ab_of (Rat.mul_nonneg ha hb)]
  · have := Rat.mul_nonneg ha (show 0 ≤ -b by grind)
    rw [ab_of ha, ab_neg_of (a := b) (by grind), ab_neg_of (by grind)]; grind
  · have := Rat.mul_nonneg (show 0 ≤ -a by grind) hb
    rw [ab_of hb, ab_neg_of (a := a) (by grind), ab_neg_of (by grind)]; grind
  · have := Rat.mul_nonneg (show 0 ≤ -a by grind) (show 0 ≤ -b by grind)
    rw [ab_neg_of (a := a) (by grind), ab_neg_of (a := b) (by grind), ab_of (by grind)]; grind
theorem ab_sub (a b : Rat) : ab (a - b) ≤ ab a + ab b := by unfold ab; grind
theorem peel (L : List (Rat × Rat × Rat)) (h1 : ∀ p ∈ L, ab p.1 ≤ p.2.1 + ab p.2.2)
    (h2 : ∀ p ∈ L, ∀ q ∈ L, ab (p.1 * q.2.2 - q.1 * p.2.2) ≤ p.2.1 * ab q.2.2 + q.2.1 * ab p.2.2) :
    ∃ t : Rat, -1 ≤ t ∧ t ≤ 1 ∧ ∀ p ∈ L, ab (p.1 - t * p.2.2) ≤ p.2.1 := by
  obtain ⟨t, ht1, ht2, ht⟩ := peel0 (L.map fun p => if 0 ≤ p.2.2 then p else (-p.1, p.2.1, -p.2.2)) (by
    intro p hp
    obtain ⟨a, ha, rfl⟩ := List.mem_map.1 hp
    split <;> grind) (by
    intro p hp
    obtain ⟨a, ha, rfl⟩ := List.mem_map.1 hp
    have := ab_le.1 (h1 a ha)
    split <;> rename_i h
    · rw [ab_of h] at this; exact this
    · unfold ab at this; rw [if_neg h] at this; simp only; grind) (by
    intro p hp q hq
    obtain ⟨a, ha, rfl⟩ := List.mem_map.1 hp
    obtain ⟨b, hb, rfl⟩ := List.mem_map.1 hq
    have := h2 a ha b hb
    rw [ab_le] at this
    by_cases ca : 0 ≤ a.2.2 <;> by_cases cb : 0 ≤ b.2.2 <;> simp only [ab, ca, cb, if_true, if_false] at this ⊢ <;> grind)
  refine ⟨t, ht1, ht2, fun p hp => ?_⟩
  have := ht _ (List.mem_map.2 ⟨p, hp, rfl⟩)
  rw [ab_le]
  split at this
  · exact this
  · simp only at this; grind

/-- two sides of a triangle bear the half sum. -/
theorem pair_ok {hy py px hx Mx D ai bi aj bj : Rat} {dj di ej ei : Rat} (hD : 0 ≤ D) (hhx : 0 ≤ hx)
    (ea : ab dj = aj) (eb : ab ej = bj) (ec : ab di = ai) (ed : ab ei = bi)
    (hdet : ab (dj * ei - ej * di) = D ∨ ab (dj * ei - ej * di) = 0) (h1 : ab px ≤ hx + Mx) (hM : Mx ≤ aj + ai) (Fj Fi : Rat) (hFj : Fj = dj * py - ej * px) (hFi : Fi = di * py - ei * px) :
    ab (Fj * (di * hy) - Fi * (dj * hy)) ≤ (D + hx * bj) * ab (di * hy) + (D + hx * bi) * ab (dj * hy) := by
  subst hFj hFi
  rw [show (dj * py - ej * px) * (di * hy) - (di * py - ei * px) * (dj * hy) = (hy * px) * (dj * ei - ej * di) by grind, ab_mul, ab_mul, ab_mul, ab_mul, ea, ec]
  have hb := ab_nonneg hy
  have n1 := ab_nonneg dj
  have n2 := ab_nonneg di
  have n3 := ab_nonneg ej
  have n4 := ab_nonneg ei
  rw [ea] at n1; rw [ec] at n2; rw [eb] at n3; rw [ed] at n4
  have c1 := Rat.mul_nonneg hhx (Rat.mul_nonneg n3 n2)
  have c2 := Rat.mul_nonneg hhx (Rat.mul_nonneg n4 n1)
  have c3 := Rat.mul_nonneg hD n1
  have c4 := Rat.mul_nonneg hD n2
  rcases hdet with e | e
  · rw [e]
    have h3 : D ≤ aj * bi + bj * ai := by
      have := ab_sub (dj * ei) (ej * di)
      rw [e, ab_mul, ab_mul, ea, eb, ec, ed] at this
      exact this
    have h4 := Rat.mul_le_mul_of_nonneg_left h1 hD
    have h5 := Rat.mul_le_mul_of_nonneg_left hM hD
    have h6 := Rat.mul_le_mul_of_nonneg_left h3 hhx
    have h7 : D * ab px ≤ (D + hx * bj) * ai + (D + hx * bi) * aj := by grind
    have h8 := Rat.mul_le_mul_of_nonneg_left h7 hb
    grind
  · rw [e]
    have h7 : 0 ≤ (D + hx * bj) * ai + (D + hx * bi) * aj := by grind
    have h8 := Rat.mul_nonneg hb h7
    grind
theorem two_mul' (a : Rat) : 2 * a = a + a := by grind
theorem tri2 (a b : Rat) : ab a ≤ ab b + ab (b - a) := by unfold ab; grind
theorem half_sum (x y : Rat) : (ab x + ab y + ab (y - x)) / 2 ≤ ab x + ab y ∧ (ab x + ab y + ab (y - x)) / 2 ≤ ab x + ab (y - x) ∧ (ab x + ab y + ab (y - x)) / 2 ≤ ab y + ab (y - x) := by
  unfold ab; grind
theorem peel_y {d0x d0y d1x d1y hx hy px py D Mx My : Rat} (hhx : 0 ≤ hx) (hhy : 0 ≤ hy) (hD : D = d0x * d1y - d0y * d1x) (hD0 : 0 ≤ D)
    (hMx : Mx = (ab d0x + ab d1x + ab (d1x - d0x)) / 2) (hMy : My = (ab d0y + ab d1y + ab (d1y - d0y)) / 2)
    (h1 : ab px ≤ hx + Mx) (h2 : ab py ≤ hy + My)
    (e0 : ab (d0x * py - d0y * px) ≤ D + hx * ab d0y + hy * ab d0x)
    (e1 : ab (d1x * py - d1y * px) ≤ D + hx * ab d1y + hy * ab d1x)
    (e2 : ab ((d1x - d0x) * py - (d1y - d0y) * px) ≤ D + hx * ab (d1y - d0y) + hy * ab (d1x - d0x)) :
    ∃ t : Rat, -1 ≤ t ∧ t ≤ 1 ∧ ab (py - t * hy) ≤ My ∧ ab (d0x * (py - t * hy) - d0y * px) ≤ D + hx * ab d0y ∧ ab (d1x * (py - t * hy) - d1y * px) ≤ D + hx * ab d1y ∧
      ab ((d1x - d0x) * (py - t * hy) - (d1y - d0y) * px) ≤ D + hx * ab (d1y - d0y) := by
  have hX := half_sum d0x d1x
  have hY := half_sum d0y d1y
  rw [← hMx] at hX
  rw [← hMy] at hY
  obtain ⟨d2x, g2x⟩ : ∃ d2x, d1x - d0x = d2x := ⟨_, rfl⟩
  obtain ⟨d2y, g2y⟩ : ∃ d2y, d1y - d0y = d2y := ⟨_, rfl⟩
  rw [g2x] at hX hMx e2 ⊢
  rw [g2y] at hY hMy e2 ⊢
  have D01 : ab (d0x * d1y - d0y * d1x) = D := by rw [← hD, ab_of hD0]
  have D02 : ab (d0x * d2y - d0y * d2x) = D := by rw [show d0x * d2y - d0y * d2x = D by grind, ab_of hD0]
  have D12 : ab (d1x * d2y - d1y * d2x) = D := by rw [show d1x * d2y - d1y * d2x = D by grind, ab_of hD0]
  have D10 : ab (d1x * d0y - d1y * d0x) = D := by rw [show d1x * d0y - d1y * d0x = -D by grind, ab_neg, ab_of hD0]
  have D20 : ab (d2x * d0y - d2y * d0x) = D := by rw [show d2x * d0y - d2y * d0x = -D by grind, ab_neg, ab_of hD0]
  have D21 : ab (d2x * d1y - d2y * d1x) = D := by rw [show d2x * d1y - d2y * d1x = -D by grind, ab_neg, ab_of hD0]
  have Z : ∀ a b : Rat, ab (a * b - b * a) = 0 := fun a b => by rw [show a * b - b * a = 0 by grind]; rfl
  -- the row's own form with each of the three
  have hself : ∀ {dx dy : Rat}, ab dx * My + D ≥ ab dy * Mx → ab (py * (dx * hy) - (dx * py - dy * px) * hy) ≤ My * ab (dx * hy) + (D + hx * ab dy) * ab hy := by
    intro dx dy hh
    rw [show py * (dx * hy) - (dx * py - dy * px) * hy = hy * (dy * px) by grind, ab_mul, ab_mul, ab_mul]
    have c1 := Rat.mul_le_mul_of_nonneg_left h1 (ab_nonneg dy)
    have c2 := Rat.mul_le_mul_of_nonneg_left (show ab dy * ab px ≤ ab dx * My + D + hx * ab dy by grind) (ab_nonneg hy)
    grind
  have hs : ∀ {dx dy a0 b0 a1 b1 a2 b2 : Rat}, ab (dx * b0 - dy * a0) ≤ D → ab (dx * b1 - dy * a1) ≤ D → ab (dx * b2 - dy * a2) ≤ D → ab (dx * b0 - dy * a0) + ab (dx * b1 - dy * a1) + ab (dx * b2 - dy * a2) ≤ 2 * D → ab dx * ((ab b0 + ab b1 + ab b2) / 2) + D ≥ ab dy * ((ab a0 + ab a1 + ab a2) / 2) := by
    intro dx dy a0 b0 a1 b1 a2 b2 k0 k1 k2 k
    have q : ∀ a b : Rat, ab dy * ab a ≤ ab dx * ab b + ab (dx * b - dy * a) := fun a b => by
      have := tri2 (dy * a) (dx * b)
      rw [ab_mul, ab_mul] at this
      exact this
    have := q a0 b0
    have := q a1 b1
    have := q a2 b2
    grind
  have s0 : ab d0x * My + D ≥ ab d0y * Mx := by rw [hMx, hMy]; exact hs (by rw [Z]; exact hD0) (by rw [D01]; exact Rat.le_refl) (by rw [D02]; exact Rat.le_refl) (by rw [Z, D01, D02, Rat.zero_add, ← two_mul']; exact Rat.le_refl)
  have s1 : ab d1x * My + D ≥ ab d1y * Mx := by rw [hMx, hMy]; exact hs (by rw [D10]; exact Rat.le_refl) (by rw [Z]; exact hD0) (by rw [D12]; exact Rat.le_refl) (by rw [Z, D10, D12, Rat.add_zero, ← two_mul']; exact Rat.le_refl)
  have s2 : ab d2x * My + D ≥ ab d2y * Mx := by rw [hMx, hMy]; exact hs (by rw [D20]; exact Rat.le_refl) (by rw [D21]; exact Rat.le_refl) (by rw [Z]; exact hD0) (by rw [Z, D20, D21, Rat.add_zero, ← two_mul']; exact Rat.le_refl)
  have t0 := hself s0
  have t1 := hself s1
  have t2 := hself s2
  have sw : ∀ {a b : Rat} {c : Rat}, ab (a - b) ≤ c → ab (b - a) ≤ c := fun {a b c} h => by rw [show b - a = -(a - b) by grind, ab_neg]; exact h
  have hMy0 : 0 ≤ My := by have n0 := ab_nonneg d0y; have n1 := ab_nonneg d1y; have n2 := ab_nonneg d2y; clear hs hself sw Z; grind
  have f0 : 0 ≤ D + hx * ab d0y := by have := Rat.mul_nonneg hhx (ab_nonneg d0y); clear hs hself sw Z; grind
  have f1 : 0 ≤ D + hx * ab d1y := by have := Rat.mul_nonneg hhx (ab_nonneg d1y); clear hs hself sw Z; grind
  have f2 : 0 ≤ D + hx * ab d2y := by have := Rat.mul_nonneg hhx (ab_nonneg d2y); clear hs hself sw Z; grind
  have sf : ∀ {F S d : Rat}, 0 ≤ S → ab (F * d - F * d) ≤ S * ab d + S * ab d := fun {F S d} h => by
    rw [Rat.sub_self]
    have := Rat.mul_nonneg h (ab_nonneg d)
    show (0 : Rat) ≤ _
    clear hs hself sw Z; grind
  have sw2 : ∀ {a b c d : Rat}, ab (a - b) ≤ c + d → ab (b - a) ≤ d + c := fun {a b c d} h => by rw [Rat.add_comm]; exact sw h
  obtain ⟨t, ht1, ht2, ht⟩ := peel [(py, My, hy), (d0x * py - d0y * px, D + hx * ab d0y, d0x * hy), (d1x * py - d1y * px, D + hx * ab d1y, d1x * hy), (d2x * py - d2y * px, D + hx * ab d2y, d2x * hy)] (by
    intro p hp
    simp only [List.mem_cons, List.not_mem_nil, or_false] at hp
    clear hs hself sw Z sf sw2
    rcases hp with rfl | rfl | rfl | rfl <;> simp only [ab_mul, ab_of hhy] <;> grind) (by
    intro p hp q hq
    simp only [List.mem_cons, List.not_mem_nil, or_false] at hp hq
    rcases hp with rfl | rfl | rfl | rfl <;> rcases hq with rfl | rfl | rfl | rfl <;> simp only
    · exact sf hMy0
    · exact t0
    · exact t1
    · exact t2
    · exact sw2 t0
    · exact sf f0
    · exact pair_ok hD0 hhx rfl rfl rfl rfl (.inl D01) h1 hX.1 _ _ rfl rfl
    · exact pair_ok hD0 hhx rfl rfl rfl rfl (.inl D02) h1 hX.2.1 _ _ rfl rfl
    · exact sw2 t1
    · exact sw2 (pair_ok hD0 hhx rfl rfl rfl rfl (.inl D01) h1 hX.1 _ _ rfl rfl)
    · exact sf f1
    · exact pair_ok hD0 hhx rfl rfl rfl rfl (.inl D12) h1 hX.2.2 _ _ rfl rfl
    · exact sw2 t2
    · exact sw2 (pair_ok hD0 hhx rfl rfl rfl rfl (.inl D02) h1 hX.2.1 _ _ rfl rfl)
    · exact sw2 (pair_ok hD0 hhx rfl rfl rfl rfl (.inl D12) h1 hX.2.2 _ _ rfl rfl)
    · exact sf f2)
  refine ⟨t, ht1, ht2, ?_, ?_, ?_, ?_⟩
  · exact ht (py, My, hy) (by simp)
  · clear hs hself sw Z sf sw2
    have := ht (d0x * py - d0y * px, D + hx * ab d0y, d0x * hy) (by simp)
    rw [show d0x * (py - t * hy) - d0y * px = d0x * py - d0y * px - t * (d0x * hy) by grind]; exact this
  · clear hs hself sw Z sf sw2
    have := ht (d1x * py - d1y * px, D + hx * ab d1y, d1x * hy) (by simp)
    rw [show d1x * (py - t * hy) - d1y * px = d1x * py - d1y * px - t * (d1x * hy) by grind]; exact this
  · clear hs hself sw Z sf sw2
    have := ht (d2x * py - d2y * px, D + hx * ab d2y, d2x * hy) (by simp)
    rw [show d2x * (py - t * hy) - d2y * px = d2x * py - d2y * px - t * (d2x * hy) by grind]; exact this
theorem peel_x {d0x d0y d1x d1y hx px py D My : Rat} (hhx : 0 ≤ hx) (hD : D = d0x * d1y - d0y * d1x) (hD0 : 0 ≤ D)
    (hMy : My = (ab d0y + ab d1y + ab (d1y - d0y)) / 2)
    (h2 : ab py ≤ My)
    (e0 : ab (d0x * py - d0y * px) ≤ D + hx * ab d0y)
    (e1 : ab (d1x * py - d1y * px) ≤ D + hx * ab d1y)
    (e2 : ab ((d1x - d0x) * py - (d1y - d0y) * px) ≤ D + hx * ab (d1y - d0y)) :
    ∃ s : Rat, -1 ≤ s ∧ s ≤ 1 ∧ ab (d0x * py - d0y * (px - s * hx)) ≤ D ∧ ab (d1x * py - d1y * (px - s * hx)) ≤ D ∧
      ab ((d1x - d0x) * py - (d1y - d0y) * (px - s * hx)) ≤ D := by
  have hY := half_sum d0y d1y
  rw [← hMy] at hY
  obtain ⟨d2x, g2x⟩ : ∃ d2x, d1x - d0x = d2x := ⟨_, rfl⟩
  obtain ⟨d2y, g2y⟩ : ∃ d2y, d1y - d0y = d2y := ⟨_, rfl⟩
  rw [g2x] at e2 ⊢
  rw [g2y] at hY hMy e2 ⊢
  have sw2 : ∀ {a b c d : Rat}, ab (a - b) ≤ c + d → ab (b - a) ≤ d + c := fun {a b c d} h => by rw [show b - a = -(a - b) by grind, ab_neg, Rat.add_comm]; exact h
  have sf : ∀ {F d : Rat}, ab (F * d - F * d) ≤ D * ab d + D * ab d := fun {F d} => by
    rw [Rat.sub_self]
    have := Rat.mul_nonneg hD0 (ab_nonneg d)
    show (0 : Rat) ≤ _
    clear sw2; grind
  have pr : ∀ {ax ay bx b : Rat}, ax * b - ay * bx = D → My ≤ ab ay + ab b → ab ((ax * py - ay * px) * (-(b * hx)) - (bx * py - b * px) * (-(ay * hx))) ≤ D * ab (-(b * hx)) + D * ab (-(ay * hx)) := by
    intro ax ay bx b hd hm
    clear sw2 sf
    rw [show (ax * py - ay * px) * (-(b * hx)) - (bx * py - b * px) * (-(ay * hx)) = -((ax * b - ay * bx) * hx * py) by grind, hd, ab_neg, ab_neg, ab_neg, ab_mul, ab_mul, ab_mul, ab_mul, ab_of hD0, ab_of hhx]
    have c1 := Rat.mul_le_mul_of_nonneg_left (show ab py ≤ ab ay + ab b by grind) (Rat.mul_nonneg hD0 hhx)
    grind
  have p01 := pr (ax := d0x) (ay := d0y) (bx := d1x) (b := d1y) hD.symm hY.1
  have p02 := pr (ax := d0x) (ay := d0y) (bx := d2x) (b := d2y) (by clear pr sw2 sf; grind) hY.2.1
  have p12 := pr (ax := d1x) (ay := d1y) (bx := d2x) (b := d2y) (by clear pr sw2 sf; grind) hY.2.2
  obtain ⟨t, ht1, ht2, ht⟩ := peel [(d0x * py - d0y * px, D, -(d0y * hx)), (d1x * py - d1y * px, D, -(d1y * hx)), (d2x * py - d2y * px, D, -(d2y * hx))] (by
    intro p hp
    simp only [List.mem_cons, List.not_mem_nil, or_false] at hp
    clear pr sw2 sf p01 p02 p12
    rcases hp with rfl | rfl | rfl <;> simp only [ab_neg, ab_mul, ab_of hhx] <;> grind) (by
    intro p hp q hq
    simp only [List.mem_cons, List.not_mem_nil, or_false] at hp hq
    rcases hp with rfl | rfl | rfl <;> rcases hq with rfl | rfl | rfl <;> simp only
    · exact sf
    · exact p01
    · exact p02
    · exact sw2 p01
    · exact sf
    · exact p12
    · exact sw2 p02
    · exact sw2 p12
    · exact sf)
  refine ⟨t, ht1, ht2, ?_, ?_, ?_⟩
  · clear pr sw2 sf p01 p02 p12
    have := ht (d0x * py - d0y * px, D, -(d0y * hx)) (by simp)
    rw [show d0x * py - d0y * (px - t * hx) = d0x * py - d0y * px - t * -(d0y * hx) by grind]; exact this
  · clear pr sw2 sf p01 p02 p12
    have := ht (d1x * py - d1y * px, D, -(d1y * hx)) (by simp)
    rw [show d1x * py - d1y * (px - t * hx) = d1x * py - d1y * px - t * -(d1y * hx) by grind]; exact this
  · clear pr sw2 sf p01 p02 p12
    have := ht (d2x * py - d2y * px, D, -(d2y * hx)) (by simp)
    rw [show d2x * py - d2y * (px - t * hx) = d2x * py - d2y * px - t * -(d2y * hx) by grind]; exact this
/-- Within the hexagon about the point c whose corners are d0, d1, d1 - d0 and their opposites, D the area of two. -/
def inH (d0x d0y d1x d1y D cx cy X Y : Rat) : Prop :=
  ab (d0x * (Y - cy) - d0y * (X - cx)) ≤ D ∧ ab (d1x * (Y - cy) - d1y * (X - cx)) ≤ D ∧ ab ((d1x - d0x) * (Y - cy) - (d1y - d0y) * (X - cx)) ≤ D
theorem ab_max {a b M : Rat} (hM : M = (ab a + ab b + ab (b - a)) / 2) : ab a ≤ M ∧ ab b ≤ M ∧ ab (b - a) ≤ M := by
  subst hM; unfold ab; grind
/-- What no row parts has a point in common. -/
theorem common {d0x d0y d1x d1y D cx cy lx ly ux uy : Rat} (hD : D = d0x * d1y - d0y * d1x) (hD0 : 0 ≤ D) (hx : lx ≤ ux) (hy : ly ≤ uy)
    (x1 : lx - cx ≤ ab d0x ∨ lx - cx ≤ ab d1x ∨ lx - cx ≤ ab (d1x - d0x)) (x2 : cx - ux ≤ ab d0x ∨ cx - ux ≤ ab d1x ∨ cx - ux ≤ ab (d1x - d0x))
    (y1 : ly - cy ≤ ab d0y ∨ ly - cy ≤ ab d1y ∨ ly - cy ≤ ab (d1y - d0y)) (y2 : cy - uy ≤ ab d0y ∨ cy - uy ≤ ab d1y ∨ cy - uy ≤ ab (d1y - d0y))
    (e : ∀ dx dy, (dx = d0x ∧ dy = d0y) ∨ (dx = d1x ∧ dy = d1y) ∨ (dx = d1x - d0x ∧ dy = d1y - d0y) → (∃ X Y, (X = lx ∨ X = ux) ∧ (Y = ly ∨ Y = uy) ∧ dx * (Y - cy) - dy * (X - cx) ≤ D) ∧ ∃ X Y, (X = lx ∨ X = ux) ∧ (Y = ly ∨ Y = uy) ∧ -D ≤ dx * (Y - cy) - dy * (X - cx)) :
    ∃ X Y, lx ≤ X ∧ X ≤ ux ∧ ly ≤ Y ∧ Y ≤ uy ∧ inH d0x d0y d1x d1y D cx cy X Y := by
  have hE : ∀ dx dy, (dx = d0x ∧ dy = d0y) ∨ (dx = d1x ∧ dy = d1y) ∨ (dx = d1x - d0x ∧ dy = d1y - d0y) → ab (dx * ((ly + uy) / 2 - cy) - dy * ((lx + ux) / 2 - cx)) ≤ D + (ux - lx) / 2 * ab dy + (uy - ly) / 2 * ab dx := by
    intro dx dy hd
    obtain ⟨⟨X, Y, hX, hY, h⟩, X', Y', hX', hY', h'⟩ := e dx dy hd
    have bX : ab (X - (lx + ux) / 2) = (ux - lx) / 2 := by clear e h h' hd x1 x2 y1 y2; unfold ab; grind
    have bY : ab (Y - (ly + uy) / 2) = (uy - ly) / 2 := by clear e h h' hd x1 x2 y1 y2; unfold ab; grind
    have bX' : ab (X' - (lx + ux) / 2) = (ux - lx) / 2 := by clear e h h' hd x1 x2 y1 y2; unfold ab; grind
    have bY' : ab (Y' - (ly + uy) / 2) = (uy - ly) / 2 := by clear e h h' hd x1 x2 y1 y2; unfold ab; grind
    have c1 := ab_le.1 (ab_sub (dx * (Y - (ly + uy) / 2)) (dy * (X - (lx + ux) / 2)))
    have c2 := ab_le.1 (ab_sub (dx * (Y' - (ly + uy) / 2)) (dy * (X' - (lx + ux) / 2)))
    rw [ab_mul, ab_mul, bX, bY] at c1
    rw [ab_mul, ab_mul, bX', bY'] at c2
    rw [ab_le]
    clear bX bY bX' bY' e hd hX hY hX' hY' x1 x2 y1 y2
    constructor <;> grind
  obtain ⟨Mx, hMx⟩ : ∃ Mx, Mx = (ab d0x + ab d1x + ab (d1x - d0x)) / 2 := ⟨_, rfl⟩
  obtain ⟨My, hMy⟩ : ∃ My, My = (ab d0y + ab d1y + ab (d1y - d0y)) / 2 := ⟨_, rfl⟩
  have mx := ab_max hMx
  have my := ab_max hMy
  obtain ⟨t, t1, t2, k0, k1, k2, k3⟩ := peel_y (px := (lx + ux) / 2 - cx) (py := (ly + uy) / 2 - cy) (hx := (ux - lx) / 2) (hy := (uy - ly) / 2) (by clear e hE; grind) (by clear e hE; grind) hD hD0 hMx hMy
    (by rw [ab_le]; clear e hE; grind) (by rw [ab_le]; clear e hE; grind) (hE _ _ (.inl ⟨rfl, rfl⟩)) (hE _ _ (.inr (.inl ⟨rfl, rfl⟩))) (hE _ _ (.inr (.inr ⟨rfl, rfl⟩)))
  obtain ⟨s, s1, s2, l0, l1, l2⟩ := peel_x (hx := (ux - lx) / 2) (by clear e hE; grind) hD hD0 hMy k0 k1 k2 k3
  have q1 := Rat.mul_le_mul_of_nonneg_right t1 (show 0 ≤ (uy - ly) / 2 by clear e hE; grind)
  have q2 := Rat.mul_le_mul_of_nonneg_right t2 (show 0 ≤ (uy - ly) / 2 by clear e hE; grind)
  have q3 := Rat.mul_le_mul_of_nonneg_right s1 (show 0 ≤ (ux - lx) / 2 by clear e hE; grind)
  have q4 := Rat.mul_le_mul_of_nonneg_right s2 (show 0 ≤ (ux - lx) / 2 by clear e hE; grind)
  clear e hE x1 x2 y1 y2 mx my hMx hMy k0 k1 k2 k3
  refine ⟨(lx + ux) / 2 - s * ((ux - lx) / 2), (ly + uy) / 2 - t * ((uy - ly) / 2), by grind, by grind, by grind, by grind, ?_⟩
  rw [show (ly + uy) / 2 - cy - t * ((uy - ly) / 2) = (ly + uy) / 2 - t * ((uy - ly) / 2) - cy by grind, show (lx + ux) / 2 - cx - s * ((ux - lx) / 2) = (lx + ux) / 2 - s * ((ux - lx) / 2) - cx by grind] at l0 l1 l2
  exact ⟨l0, l1, l2⟩
theorem reach_x {a b D d0 d1 U : Rat} (hD : 0 < D) (ha : ab a ≤ D) (hb : ab b ≤ D) (hc : ab (b - a) ≤ D) (h : U * D = a * d1 - b * d0) : ab U ≤ ab d0 ∨ ab U ≤ ab d1 ∨ ab U ≤ ab (d1 - d0) := by
  obtain ⟨a1, a2⟩ := ab_le.1 ha
  obtain ⟨b1, b2⟩ := ab_le.1 hb
  obtain ⟨c1, c2⟩ := ab_le.1 hc
  have key : ∀ {x : Rat}, ab (U * D) ≤ D * ab x → ab U ≤ ab x := fun {x} hh => by
    rw [ab_mul, ab_of (show (0 : Rat) ≤ D by grind), Rat.mul_comm] at hh
    exact Rat.le_of_mul_le_mul_left hh hD
  have fin : (ab (U * D) ≤ D * ab d0 ∨ ab (U * D) ≤ D * ab d1 ∨ ab (U * D) ≤ D * ab (d1 - d0)) → ab U ≤ ab d0 ∨ ab U ≤ ab d1 ∨ ab U ≤ ab (d1 - d0) := by
    rintro (h | h | h)
    · exact .inl (key h)
    · exact .inr (.inl (key h))
    · exact .inr (.inr (key h))
  apply fin
  clear fin key ha hb hc
  rw [h]
  have p : ∀ {x y : Rat}, x ≤ y → ∀ {z : Rat}, 0 ≤ z → 0 ≤ (y - x) * z := fun {x y} hxy {z} hz => Rat.mul_nonneg (by grind) hz
  rcases (show 0 ≤ d0 ∨ 0 ≤ -d0 by grind) with s0 | s0 <;> rcases (show 0 ≤ d1 ∨ 0 ≤ -d1 by grind) with s1 | s1
  · rcases (show 0 ≤ d1 - d0 ∨ 0 ≤ d0 - d1 by grind) with s2 | s2
    · have q1 := p a2 s2
      have q2 := p a1 s2
      have q3 := p c2 s0
      have q4 := p c1 s0
      right; left
      rw [ab_of s1, ab_le]
      clear p; constructor <;> grind
    · have q1 := p b2 s2
      have q2 := p b1 s2
      have q3 := p c2 s1
      have q4 := p c1 s1
      left
      rw [ab_of s0, ab_le]
      clear p; constructor <;> grind
  · have q1 := p a2 s1
    have q2 := p a1 s1
    have q3 := p b2 s0
    have q4 := p b1 s0
    right; right
    rw [ab_neg_of (show d1 - d0 ≤ 0 by clear p; grind), ab_le]
    clear p; constructor <;> grind
  · have q1 := p a2 s1
    have q2 := p a1 s1
    have q3 := p b2 s0
    have q4 := p b1 s0
    right; right
    rw [ab_of (show 0 ≤ d1 - d0 by clear p; grind), ab_le]
    clear p; constructor <;> grind
  · rcases (show 0 ≤ d1 - d0 ∨ 0 ≤ d0 - d1 by grind) with s2 | s2
    · have q1 := p b2 s2
      have q2 := p b1 s2
      have q3 := p c2 s1
      have q4 := p c1 s1
      left
      rw [ab_neg_of (show d0 ≤ 0 by clear p; grind), ab_le]
      clear p; constructor <;> grind
    · have q1 := p a2 s2
      have q2 := p a1 s2
      have q3 := p c2 s0
      have q4 := p c1 s0
      right; left
      rw [ab_neg_of (show d1 ≤ 0 by clear p; grind), ab_le]
      clear p; constructor <;> grind
/-- A point that both have is parted by no row. -/
theorem parts {d0x d0y d1x d1y D cx cy lx ly ux uy X Y : Rat} (hD : D = d0x * d1y - d0y * d1x) (hD0 : 0 < D) (h1 : lx ≤ X) (h2 : X ≤ ux) (h3 : ly ≤ Y) (h4 : Y ≤ uy) (h : inH d0x d0y d1x d1y D cx cy X Y) :
    (lx - cx ≤ ab d0x ∨ lx - cx ≤ ab d1x ∨ lx - cx ≤ ab (d1x - d0x)) ∧ (cx - ux ≤ ab d0x ∨ cx - ux ≤ ab d1x ∨ cx - ux ≤ ab (d1x - d0x)) ∧
    (ly - cy ≤ ab d0y ∨ ly - cy ≤ ab d1y ∨ ly - cy ≤ ab (d1y - d0y)) ∧ (cy - uy ≤ ab d0y ∨ cy - uy ≤ ab d1y ∨ cy - uy ≤ ab (d1y - d0y)) ∧
    (∀ dx dy, (dx = d0x ∧ dy = d0y) ∨ (dx = d1x ∧ dy = d1y) ∨ (dx = d1x - d0x ∧ dy = d1y - d0y) → (∃ X Y, (X = lx ∨ X = ux) ∧ (Y = ly ∨ Y = uy) ∧ dx * (Y - cy) - dy * (X - cx) ≤ D) ∧ ∃ X Y, (X = lx ∨ X = ux) ∧ (Y = ly ∨ Y = uy) ∧ -D ≤ dx * (Y - cy) - dy * (X - cx)) := by
  obtain ⟨ha, hb, hc⟩ := h
  have hc' : ab ((d1x * (Y - cy) - d1y * (X - cx)) - (d0x * (Y - cy) - d0y * (X - cx))) ≤ D := by
    rw [show (d1x * (Y - cy) - d1y * (X - cx)) - (d0x * (Y - cy) - d0y * (X - cx)) = (d1x - d0x) * (Y - cy) - (d1y - d0y) * (X - cx) by grind]; exact hc
  have rx := reach_x (U := X - cx) (d0 := d0x) (d1 := d1x) hD0 ha hb hc' (by rw [hD]; grind)
  have ry := reach_x (U := Y - cy) (d0 := d0y) (d1 := d1y) hD0 ha hb hc' (by rw [hD]; grind)
  have mono : ∀ {u v U : Rat}, (U ≤ v) → ab v ≤ u → U ≤ u := fun {u v U} h1 h2 => by have := (ab_le.1 h2).2; grind
  have mono2 : ∀ {u v U : Rat}, (U ≤ -v) → ab v ≤ u → U ≤ u := fun {u v U} h1 h2 => by have := (ab_le.1 h2).1; grind
  refine ⟨?_, ?_, ?_, ?_, ?_⟩
  · rcases rx with r | r | r
    · exact .inl (mono (by clear mono mono2; grind) r)
    · exact .inr (.inl (mono (by clear mono mono2; grind) r))
    · exact .inr (.inr (mono (by clear mono mono2; grind) r))
  · rcases rx with r | r | r
    · exact .inl (mono2 (by clear mono mono2; grind) r)
    · exact .inr (.inl (mono2 (by clear mono mono2; grind) r))
    · exact .inr (.inr (mono2 (by clear mono mono2; grind) r))
  · rcases ry with r | r | r
    · exact .inl (mono (by clear mono mono2; grind) r)
    · exact .inr (.inl (mono (by clear mono mono2; grind) r))
    · exact .inr (.inr (mono (by clear mono mono2; grind) r))
  · rcases ry with r | r | r
    · exact .inl (mono2 (by clear mono mono2; grind) r)
    · exact .inr (.inl (mono2 (by clear mono mono2; grind) r))
    · exact .inr (.inr (mono2 (by clear mono mono2; grind) r))
  · intro dx dy hd
    have hf : ab (dx * (Y - cy) - dy * (X - cx)) ≤ D := by
      rcases hd with ⟨rfl, rfl⟩ | ⟨rfl, rfl⟩ | ⟨rfl, rfl⟩
      · exact ha
      · exact hb
      · exact hc
    obtain ⟨f1, f2⟩ := ab_le.1 hf
    clear mono mono2 rx ry hf ha hb hc hc' hd hD
    have p : ∀ {x y : Rat}, x ≤ y → ∀ {z : Rat}, 0 ≤ z → 0 ≤ (y - x) * z := fun {x y} hxy {z} hz => Rat.mul_nonneg (by grind) hz
    rcases (show 0 ≤ dx ∨ 0 ≤ -dx by grind) with s | s <;> rcases (show 0 ≤ dy ∨ 0 ≤ -dy by grind) with s' | s'
    · have q1 := p h3 s
      have q2 := p h4 s
      have q3 := p h1 s'
      have q4 := p h2 s'
      exact ⟨⟨ux, ly, .inr rfl, .inl rfl, by clear p; grind⟩, lx, uy, .inl rfl, .inr rfl, by clear p; grind⟩
    · have q1 := p h3 s
      have q2 := p h4 s
      have q3 := p h1 s'
      have q4 := p h2 s'
      exact ⟨⟨lx, ly, .inl rfl, .inl rfl, by clear p; grind⟩, ux, uy, .inr rfl, .inr rfl, by clear p; grind⟩
    · have q1 := p h3 s
      have q2 := p h4 s
      have q3 := p h1 s'
      have q4 := p h2 s'
      exact ⟨⟨ux, uy, .inr rfl, .inr rfl, by clear p; grind⟩, lx, ly, .inl rfl, .inl rfl, by clear p; grind⟩
    · have q1 := p h3 s
      have q2 := p h4 s
      have q3 := p h1 s'
      have q4 := p h2 s'
      exact ⟨⟨lx, uy, .inl rfl, .inr rfl, by clear p; grind⟩, ux, ly, .inr rfl, .inl rfl, by clear p; grind⟩
end Go.Proofs.YtjimcjhgjfhbiaaGreat.Cv
