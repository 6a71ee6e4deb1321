/- Joined: CvB, CvC, PnA, HxA, CvD, CvE, CvF, VwB: contracts and plain laws, each with its own heading below. -/
import Derived.Test.YtjimcjhgjfhbiaaGreatPackBG
import Derived.Test.YtjimcjhgjfhbiaaGreatPackBE
import Derived.Test.YtjimcjhgjfhbiaaGreatPackBF
import Derived.Lib.MinMax
import Derived.Laws.Rows
/- Plain laws: hexagons of cells in thirds of the world's steps, and which of them touch a box. -/
namespace Go.Proofs.YtjimcjhgjfhbiaaGreat.Wd
open Go.Proofs.YtjimcjhgjfhbiaaGreat.Cv

/-- The six corners' numbers, in thirds. -/
def kapE : Nat → E2
  | 0 => (1, 1)
  | 1 => (-1, 2)
  | 2 => (-2, 1)
  | 3 => (-1, -1)
  | 4 => (1, -2)
  | _ => (2, -1)
/-- Where a number of the finest lattice lies. -/
def spotE (c : E2) : E2 := (52 * c.1 + 26 * c.2, 45 * c.2)
/-- A centre, in thirds. -/
def midE (m : Nat) (z : E2) : E2 := mulE (bE m) (3 * z.1, 3 * z.2)
def cenE (m : Nat) (z : E2) : E2 := spotE (midE m z)
/-- A corner, in thirds. -/
def hexC (m : Nat) (z : E2) (k : Nat) : E2 := spotE (addE (midE m z) (mulE (bE m) (kapE k)))
def d0E (m : Nat) : E2 := spotE (mulE (bE m) (1, 1))
def d1E (m : Nat) : E2 := spotE (mulE (bE m) (-1, 2))
def aN (m : Nat) : Int := 7020 * 7 ^ m
theorem aN_pos (m : Nat) : 0 < aN m := by
  have : (0 : Int) < 7 ^ m := Int.pow_pos (by decide)
  unfold aN; omega
theorem det_d {m : Nat} (hm : m ≤ 12) : (d0E m).1 * (d1E m).2 - (d0E m).2 * (d1E m).1 = aN m := by
  rcases upto12 hm with rfl | rfl | rfl | rfl | rfl | rfl | rfl | rfl | rfl | rfl | rfl | rfl | rfl <;> decide
theorem hexC_eq (m : Nat) (z : E2) : hexC m z 0 = addE (cenE m z) (d0E m) ∧ hexC m z 1 = addE (cenE m z) (d1E m) ∧ hexC m z 2 = addE (cenE m z) (subE (d1E m) (d0E m)) ∧
    hexC m z 3 = subE (cenE m z) (d0E m) ∧ hexC m z 4 = subE (cenE m z) (d1E m) ∧ hexC m z 5 = subE (cenE m z) (subE (d1E m) (d0E m)) := by
  unfold hexC cenE d0E d1E spotE
  generalize midE m z = c
  refine ⟨?_, ?_, ?_, ?_, ?_, ?_⟩ <;> ext <;> simp only [addE, subE, mulE, kapE] <;> omega
/-- Which side of the way from p to q a point lies on. -/
def crossE (p q c : E2) : Int := (q.1 - p.1) * (c.2 - p.2) - (q.2 - p.2) * (c.1 - p.1)
/-- A box's corners. -/
def boxC (lo hi : E2) : List E2 := [lo, (hi.1, lo.2), hi, (lo.1, hi.2)]
/-- No row parts a hexagon and a box. -/
def TouchP (v : Nat → E2) (lo hi : E2) : Prop :=
  ((∃ k, k < 6 ∧ lo.1 ≤ (v k).1) ∧ ∃ k, k < 6 ∧ (v k).1 ≤ hi.1) ∧ ((∃ k, k < 6 ∧ lo.2 ≤ (v k).2) ∧ ∃ k, k < 6 ∧ (v k).2 ≤ hi.2) ∧
    ∀ k, k < 6 → ∃ c ∈ boxC lo hi, 0 ≤ crossE (v k) (v ((k + 1) % 6)) c
/-- A point that a cell has, in thirds. -/
def InZ (m : Nat) (z : E2) (X Y : Rat) : Prop := inH (d0E m).1 (d0E m).2 (d1E m).1 (d1E m).2 (aN m) (cenE m z).1 (cenE m z).2 X Y
theorem six_ex {p : Nat → Prop} : (∃ k, k < 6 ∧ p k) ↔ p 0 ∨ p 1 ∨ p 2 ∨ p 3 ∨ p 4 ∨ p 5 := by
  constructor
  · rintro ⟨k, hk, h⟩
    rcases (show k = 0 ∨ k = 1 ∨ k = 2 ∨ k = 3 ∨ k = 4 ∨ k = 5 by omega) with rfl | rfl | rfl | rfl | rfl | rfl <;> simp [h]
  · rintro (h | h | h | h | h | h)
    · exact ⟨0, by decide, h⟩
    · exact ⟨1, by decide, h⟩
    · exact ⟨2, by decide, h⟩
    · exact ⟨3, by decide, h⟩
    · exact ⟨4, by decide, h⟩
    · exact ⟨5, by decide, h⟩
theorem six_all {p : Nat → Prop} : (∀ k, k < 6 → p k) ↔ p 0 ∧ p 1 ∧ p 2 ∧ p 3 ∧ p 4 ∧ p 5 := by
  constructor
  · intro h
    exact ⟨h 0 (by decide), h 1 (by decide), h 2 (by decide), h 3 (by decide), h 4 (by decide), h 5 (by decide)⟩
  · rintro ⟨h0, h1, h2, h3, h4, h5⟩ k hk
    rcases (show k = 0 ∨ k = 1 ∨ k = 2 ∨ k = 3 ∨ k = 4 ∨ k = 5 by omega) with rfl | rfl | rfl | rfl | rfl | rfl <;> assumption
/-- One axis of the look, from the corners to their steps. -/
theorem axis_iff {c d e l : Int} : (l ≤ c + d ∨ l ≤ c + e ∨ l ≤ c + (e - d) ∨ l ≤ c - d ∨ l ≤ c - e ∨ l ≤ c - (e - d)) ↔ ((l : Rat) - c ≤ ab d ∨ (l : Rat) - c ≤ ab e ∨ (l : Rat) - c ≤ ab ((e : Rat) - d)) := by
  have key : ∀ x : Int, (l : Rat) - c ≤ ab x ↔ l ≤ c + x ∨ l ≤ c - x := fun x => by
    have h0 : (l : Rat) - c ≤ ab x ↔ (l : Rat) ≤ (c : Rat) + x ∨ (l : Rat) ≤ (c : Rat) - x := by
      unfold ab
      constructor <;> grind
    rw [h0]
    have e1 : (l : Rat) ≤ (c : Rat) + x ↔ l ≤ c + x := by exact_mod_cast Iff.rfl
    have e2 : (l : Rat) ≤ (c : Rat) - x ↔ l ≤ c - x := by exact_mod_cast Iff.rfl
    rw [e1, e2]
  have k3 := key (e - d)
  rw [show (((e - d : Int) : Rat)) = (e : Rat) - d by push_cast; rfl] at k3
  rw [key d, key e, k3]
  constructor
  · rintro (h | h | h | h | h | h) <;> simp [h]
  · rintro ((h | h) | (h | h) | (h | h)) <;> simp [h]
theorem axis_iff2 {c d e u : Int} : (c + d ≤ u ∨ c + e ≤ u ∨ c + (e - d) ≤ u ∨ c - d ≤ u ∨ c - e ≤ u ∨ c - (e - d) ≤ u) ↔ ((c : Rat) - u ≤ ab d ∨ (c : Rat) - u ≤ ab e ∨ (c : Rat) - u ≤ ab ((e : Rat) - d)) := by
  have key : ∀ x : Int, (c : Rat) - u ≤ ab x ↔ c + x ≤ u ∨ c - x ≤ u := fun x => by
    have h0 : (c : Rat) - u ≤ ab x ↔ (c : Rat) + x ≤ u ∨ (c : Rat) - x ≤ u := by
      unfold ab
      constructor <;> grind
    rw [h0]
    have e1 : (c : Rat) + x ≤ u ↔ c + x ≤ u := by exact_mod_cast Iff.rfl
    have e2 : (c : Rat) - x ≤ u ↔ c - x ≤ u := by exact_mod_cast Iff.rfl
    rw [e1, e2]
  have k3 := key (e - d)
  rw [show (((e - d : Int) : Rat)) = (e : Rat) - d by push_cast; rfl] at k3
  rw [key d, key e, k3]
  constructor
  · rintro (h | h | h | h | h | h) <;> simp [h]
  · rintro ((h | h) | (h | h) | (h | h)) <;> simp [h]
theorem corner_ex {lo hi : E2} {p : Int → Int → Prop} : (∃ c ∈ boxC lo hi, p c.1 c.2) ↔ ∃ X Y, (X = lo.1 ∨ X = hi.1) ∧ (Y = lo.2 ∨ Y = hi.2) ∧ p X Y := by
  unfold boxC
  constructor
  · rintro ⟨c, hc, h⟩
    simp only [List.mem_cons, List.not_mem_nil, or_false] at hc
    rcases hc with rfl | rfl | rfl | rfl
    · exact ⟨_, _, .inl rfl, .inl rfl, h⟩
    · exact ⟨_, _, .inr rfl, .inl rfl, h⟩
    · exact ⟨_, _, .inr rfl, .inr rfl, h⟩
    · exact ⟨_, _, .inl rfl, .inr rfl, h⟩
  · rintro ⟨X, Y, rfl | rfl, rfl | rfl, h⟩
    · exact ⟨lo, by simp, h⟩
    · exact ⟨(lo.1, hi.2), by simp, h⟩
    · exact ⟨(hi.1, lo.2), by simp, h⟩
    · exact ⟨hi, by simp, h⟩
theorem rat_corner {a b c d : Int} {p : Rat → Rat → Prop} : (∃ X Y : Rat, (X = (a : Rat) ∨ X = (b : Rat)) ∧ (Y = (c : Rat) ∨ Y = (d : Rat)) ∧ p X Y) ↔ ∃ X Y : Int, (X = a ∨ X = b) ∧ (Y = c ∨ Y = d) ∧ p X Y := by
  constructor
  · rintro ⟨X, Y, rfl | rfl, rfl | rfl, h⟩
    · exact ⟨a, c, .inl rfl, .inl rfl, h⟩
    · exact ⟨a, d, .inl rfl, .inr rfl, h⟩
    · exact ⟨b, c, .inr rfl, .inl rfl, h⟩
    · exact ⟨b, d, .inr rfl, .inr rfl, h⟩
  · rintro ⟨X, Y, rfl | rfl, rfl | rfl, h⟩
    · exact ⟨_, _, .inl rfl, .inl rfl, h⟩
    · exact ⟨_, _, .inl rfl, .inr rfl, h⟩
    · exact ⟨_, _, .inr rfl, .inl rfl, h⟩
    · exact ⟨_, _, .inr rfl, .inr rfl, h⟩
/-- The sides of a hexagon, from its middle. -/
theorem cross_six {m : Nat} (hm : m ≤ 12) (z c : E2) :
    crossE (hexC m z 0) (hexC m z 1) c = ((d1E m).1 - (d0E m).1) * (c.2 - (cenE m z).2) - ((d1E m).2 - (d0E m).2) * (c.1 - (cenE m z).1) + aN m ∧
    crossE (hexC m z 1) (hexC m z 2) c = aN m - ((d0E m).1 * (c.2 - (cenE m z).2) - (d0E m).2 * (c.1 - (cenE m z).1)) ∧
    crossE (hexC m z 2) (hexC m z 3) c = aN m - ((d1E m).1 * (c.2 - (cenE m z).2) - (d1E m).2 * (c.1 - (cenE m z).1)) ∧
    crossE (hexC m z 3) (hexC m z 4) c = aN m - (((d1E m).1 - (d0E m).1) * (c.2 - (cenE m z).2) - ((d1E m).2 - (d0E m).2) * (c.1 - (cenE m z).1)) ∧
    crossE (hexC m z 4) (hexC m z 5) c = (d0E m).1 * (c.2 - (cenE m z).2) - (d0E m).2 * (c.1 - (cenE m z).1) + aN m ∧
    crossE (hexC m z 5) (hexC m z 0) c = (d1E m).1 * (c.2 - (cenE m z).2) - (d1E m).2 * (c.1 - (cenE m z).1) + aN m := by
  obtain ⟨h0, h1, h2, h3, h4, h5⟩ := hexC_eq m z
  rw [h0, h1, h2, h3, h4, h5]
  have hd := det_d hm
  generalize d0E m = d at *
  generalize d1E m = e at *
  generalize cenE m z = o at *
  generalize aN m = A at *
  unfold crossE addE subE
  refine ⟨?_, ?_, ?_, ?_, ?_, ?_⟩ <;> simp only <;> grind
/-- What no row parts is what has a point in common. -/
theorem touch_iff {m : Nat} (hm : m ≤ 12) (z lo hi : E2) (hx : lo.1 ≤ hi.1) (hy : lo.2 ≤ hi.2) :
    TouchP (hexC m z) lo hi ↔ ∃ X Y : Rat, (lo.1 : Rat) ≤ X ∧ X ≤ (hi.1 : Rat) ∧ (lo.2 : Rat) ≤ Y ∧ Y ≤ (hi.2 : Rat) ∧ InZ m z X Y := by
  have hD : (aN m : Rat) = ((d0E m).1 : Rat) * (d1E m).2 - (d0E m).2 * (d1E m).1 := by have := det_d hm; exact_mod_cast this.symm
  have hD0 : (0 : Rat) < aN m := by exact_mod_cast aN_pos m
  have hxr : (lo.1 : Rat) ≤ hi.1 := by exact_mod_cast hx
  have hyr : (lo.2 : Rat) ≤ hi.2 := by exact_mod_cast hy
  have key : TouchP (hexC m z) lo hi ↔ ((((lo.1 : Rat) - (cenE m z).1 ≤ ab (d0E m).1 ∨ (lo.1 : Rat) - (cenE m z).1 ≤ ab (d1E m).1 ∨ (lo.1 : Rat) - (cenE m z).1 ≤ ab (((d1E m).1 : Rat) - (d0E m).1)) ∧
      (((cenE m z).1 : Rat) - hi.1 ≤ ab (d0E m).1 ∨ ((cenE m z).1 : Rat) - hi.1 ≤ ab (d1E m).1 ∨ ((cenE m z).1 : Rat) - hi.1 ≤ ab (((d1E m).1 : Rat) - (d0E m).1))) ∧
      (((lo.2 : Rat) - (cenE m z).2 ≤ ab (d0E m).2 ∨ (lo.2 : Rat) - (cenE m z).2 ≤ ab (d1E m).2 ∨ (lo.2 : Rat) - (cenE m z).2 ≤ ab (((d1E m).2 : Rat) - (d0E m).2)) ∧
      (((cenE m z).2 : Rat) - hi.2 ≤ ab (d0E m).2 ∨ ((cenE m z).2 : Rat) - hi.2 ≤ ab (d1E m).2 ∨ ((cenE m z).2 : Rat) - hi.2 ≤ ab (((d1E m).2 : Rat) - (d0E m).2))) ∧
      (∀ dx dy : Rat, (dx = (d0E m).1 ∧ dy = (d0E m).2) ∨ (dx = (d1E m).1 ∧ dy = (d1E m).2) ∨ (dx = ((d1E m).1 : Rat) - (d0E m).1 ∧ dy = ((d1E m).2 : Rat) - (d0E m).2) → (∃ X Y : Rat, (X = lo.1 ∨ X = hi.1) ∧ (Y = lo.2 ∨ Y = hi.2) ∧ dx * (Y - (cenE m z).2) - dy * (X - (cenE m z).1) ≤ aN m) ∧ ∃ X Y : Rat, (X = lo.1 ∨ X = hi.1) ∧ (Y = lo.2 ∨ Y = hi.2) ∧ -(aN m : Rat) ≤ dx * (Y - (cenE m z).2) - dy * (X - (cenE m z).1))) := by
    unfold TouchP
    have hh := hexC_eq m z
    have h6 : ∀ p : E2 → Prop, (∃ k, k < 6 ∧ p (hexC m z k)) ↔ p (addE (cenE m z) (d0E m)) ∨ p (addE (cenE m z) (d1E m)) ∨ p (addE (cenE m z) (subE (d1E m) (d0E m))) ∨ p (subE (cenE m z) (d0E m)) ∨ p (subE (cenE m z) (d1E m)) ∨ p (subE (cenE m z) (subE (d1E m) (d0E m))) := fun p => by
      rw [six_ex, hh.1, hh.2.1, hh.2.2.1, hh.2.2.2.1, hh.2.2.2.2.1, hh.2.2.2.2.2]
    rw [h6 fun v => lo.1 ≤ v.1, h6 fun v => v.1 ≤ hi.1, h6 fun v => lo.2 ≤ v.2, h6 fun v => v.2 ≤ hi.2, six_all]
    have e1 := axis_iff (l := lo.1) (c := (cenE m z).1) (d := (d0E m).1) (e := (d1E m).1)
    have e2 := axis_iff2 (u := hi.1) (c := (cenE m z).1) (d := (d0E m).1) (e := (d1E m).1)
    have e3 := axis_iff (l := lo.2) (c := (cenE m z).2) (d := (d0E m).2) (e := (d1E m).2)
    have e4 := axis_iff2 (u := hi.2) (c := (cenE m z).2) (d := (d0E m).2) (e := (d1E m).2)
    rw [← e1, ← e2, ← e3, ← e4]
    refine and_congr (and_congr Iff.rfl Iff.rfl) (and_congr (and_congr Iff.rfl Iff.rfl) ?_)
    have c6 := fun c => cross_six hm z c
    generalize d0E m = d at *
    generalize d1E m = e at *
    generalize cenE m z = o at *
    generalize aN m = A at *
    -- each side, over whole numbers
    have pos : ∀ (f : Int → Int → Int) (dx dy : Rat), (∀ X Y : Int, ((f X Y : Int) : Rat) = dx * ((Y : Rat) - o.2) - dy * ((X : Rat) - o.1) + A) →
        ((∃ c ∈ boxC lo hi, 0 ≤ f c.1 c.2) ↔ ∃ X Y : Rat, (X = lo.1 ∨ X = hi.1) ∧ (Y = lo.2 ∨ Y = hi.2) ∧ -(A : Rat) ≤ dx * (Y - o.2) - dy * (X - o.1)) := by
      intro f dx dy hf
      rw [corner_ex (p := fun X Y => 0 ≤ f X Y), rat_corner (p := fun X Y => -(A : Rat) ≤ dx * (Y - o.2) - dy * (X - o.1))]
      refine exists_congr fun X => exists_congr fun Y => and_congr Iff.rfl (and_congr Iff.rfl ?_)
      have h0 : (0 : Int) ≤ f X Y ↔ (0 : Rat) ≤ ((f X Y : Int) : Rat) := by exact_mod_cast Iff.rfl
      rw [h0, hf]
      clear c6 e1 e2 e3 e4 h6 hf
      constructor <;> grind
    have neg : ∀ (f : Int → Int → Int) (dx dy : Rat), (∀ X Y : Int, ((f X Y : Int) : Rat) = A - (dx * ((Y : Rat) - o.2) - dy * ((X : Rat) - o.1))) →
        ((∃ c ∈ boxC lo hi, 0 ≤ f c.1 c.2) ↔ ∃ X Y : Rat, (X = lo.1 ∨ X = hi.1) ∧ (Y = lo.2 ∨ Y = hi.2) ∧ dx * (Y - o.2) - dy * (X - o.1) ≤ A) := by
      intro f dx dy hf
      rw [corner_ex (p := fun X Y => 0 ≤ f X Y), rat_corner (p := fun X Y => dx * (Y - o.2) - dy * (X - o.1) ≤ (A : Rat))]
      refine exists_congr fun X => exists_congr fun Y => and_congr Iff.rfl (and_congr Iff.rfl ?_)
      have h0 : (0 : Int) ≤ f X Y ↔ (0 : Rat) ≤ ((f X Y : Int) : Rat) := by exact_mod_cast Iff.rfl
      rw [h0, hf]
      clear c6 e1 e2 e3 e4 h6 hf pos
      constructor <;> grind
    have s0 := pos (fun X Y => (e.1 - d.1) * (Y - o.2) - (e.2 - d.2) * (X - o.1) + A) ((e.1 : Rat) - d.1) ((e.2 : Rat) - d.2) (fun X Y => by push_cast; rfl)
    have s1 := neg (fun X Y => A - (d.1 * (Y - o.2) - d.2 * (X - o.1))) d.1 d.2 (fun X Y => by push_cast; rfl)
    have s2 := neg (fun X Y => A - (e.1 * (Y - o.2) - e.2 * (X - o.1))) e.1 e.2 (fun X Y => by push_cast; rfl)
    have s3 := neg (fun X Y => A - ((e.1 - d.1) * (Y - o.2) - (e.2 - d.2) * (X - o.1))) ((e.1 : Rat) - d.1) ((e.2 : Rat) - d.2) (fun X Y => by push_cast; rfl)
    have s4 := pos (fun X Y => d.1 * (Y - o.2) - d.2 * (X - o.1) + A) d.1 d.2 (fun X Y => by push_cast; rfl)
    have s5 := pos (fun X Y => e.1 * (Y - o.2) - e.2 * (X - o.1) + A) e.1 e.2 (fun X Y => by push_cast; rfl)
    have q0 : ∀ {f : Int → Int → Int} {g : E2 → Int}, (∀ c, g c = f c.1 c.2) → ((∃ c ∈ boxC lo hi, 0 ≤ g c) ↔ ∃ c ∈ boxC lo hi, 0 ≤ f c.1 c.2) := fun {f g} h => exists_congr fun c => and_congr Iff.rfl (by rw [h])
    simp only [show (0 + 1) % 6 = 1 from rfl, show (1 + 1) % 6 = 2 from rfl, show (2 + 1) % 6 = 3 from rfl, show (3 + 1) % 6 = 4 from rfl, show (4 + 1) % 6 = 5 from rfl, show (5 + 1) % 6 = 0 from rfl]
    have t0 := (q0 (f := fun X Y => (e.1 - d.1) * (Y - o.2) - (e.2 - d.2) * (X - o.1) + A) fun c => (c6 c).1).trans s0
    have t1 := (q0 (f := fun X Y => A - (d.1 * (Y - o.2) - d.2 * (X - o.1))) fun c => (c6 c).2.1).trans s1
    have t2 := (q0 (f := fun X Y => A - (e.1 * (Y - o.2) - e.2 * (X - o.1))) fun c => (c6 c).2.2.1).trans s2
    have t3 := (q0 (f := fun X Y => A - ((e.1 - d.1) * (Y - o.2) - (e.2 - d.2) * (X - o.1))) fun c => (c6 c).2.2.2.1).trans s3
    have t4 := (q0 (f := fun X Y => d.1 * (Y - o.2) - d.2 * (X - o.1) + A) fun c => (c6 c).2.2.2.2.1).trans s4
    have t5 := (q0 (f := fun X Y => e.1 * (Y - o.2) - e.2 * (X - o.1) + A) fun c => (c6 c).2.2.2.2.2).trans s5
    rw [t0, t1, t2, t3, t4, t5]
    constructor
    · rintro ⟨k0, k1, k2, k3, k4, k5⟩ dx dy (⟨rfl, rfl⟩ | ⟨rfl, rfl⟩ | ⟨rfl, rfl⟩)
      · exact ⟨k1, k4⟩
      · exact ⟨k2, k5⟩
      · exact ⟨k3, k0⟩
    · intro h
      have a0 := h _ _ (.inl ⟨rfl, rfl⟩)
      have a1 := h _ _ (.inr (.inl ⟨rfl, rfl⟩))
      have a2 := h _ _ (.inr (.inr ⟨rfl, rfl⟩))
      exact ⟨a2.2, a0.1, a1.1, a2.1, a0.2, a1.2⟩
  rw [key]
  unfold InZ
  constructor
  · rintro ⟨⟨x1, x2⟩, ⟨y1, y2⟩, e⟩
    exact common hD (Rat.le_of_lt hD0) hxr hyr x1 x2 y1 y2 e
  · rintro ⟨X, Y, h1, h2, h3, h4, h⟩
    obtain ⟨x1, x2, y1, y2, e⟩ := parts hD hD0 h1 h2 h3 h4 h
    exact ⟨⟨x1, x2⟩, ⟨y1, y2⟩, e⟩
end Go.Proofs.YtjimcjhgjfhbiaaGreat.Wd
/- Plain laws: whatever touches a box is reached from the cell of its corner, from neighbour to neighbour. -/
namespace Go.Proofs.YtjimcjhgjfhbiaaGreat.Wd
open Go.Proofs.YtjimcjhgjfhbiaaGreat.Cv

def fA (m : Nat) (z : E2) (X Y : Int) : Int := (d0E m).1 * (Y - (cenE m z).2) - (d0E m).2 * (X - (cenE m z).1)
def fB (m : Nat) (z : E2) (X Y : Int) : Int := (d1E m).1 * (Y - (cenE m z).2) - (d1E m).2 * (X - (cenE m z).1)
theorem inZ_int (m : Nat) (z : E2) (X Y : Int) : InZ m z X Y ↔ (-aN m ≤ fA m z X Y ∧ fA m z X Y ≤ aN m) ∧ (-aN m ≤ fB m z X Y ∧ fB m z X Y ≤ aN m) ∧ (-aN m ≤ fB m z X Y - fA m z X Y ∧ fB m z X Y - fA m z X Y ≤ aN m) := by
  have e1 : (fA m z X Y : Rat) = ((d0E m).1 : Rat) * ((Y : Rat) - (cenE m z).2) - (d0E m).2 * ((X : Rat) - (cenE m z).1) := by unfold fA; push_cast; rfl
  have e2 : (fB m z X Y : Rat) = ((d1E m).1 : Rat) * ((Y : Rat) - (cenE m z).2) - (d1E m).2 * ((X : Rat) - (cenE m z).1) := by unfold fB; push_cast; rfl
  unfold InZ inH
  rw [show (((d1E m).1 : Rat) - (d0E m).1) * ((Y : Rat) - (cenE m z).2) - (((d1E m).2 : Rat) - (d0E m).2) * ((X : Rat) - (cenE m z).1) = (fB m z X Y : Rat) - fA m z X Y by rw [e1, e2]; grind]
  rw [← e1, ← e2, ab_le, ab_le, ab_le]
  refine and_congr ?_ (and_congr ?_ ?_)
  · exact_mod_cast Iff.rfl
  · exact_mod_cast Iff.rfl
  · exact_mod_cast Iff.rfl
theorem inZ_near {x y : Int} {r : Nat} (hr : r ≤ 12) : InZ (12 - r) (nearE x y r) ((3 * x : Int) : Rat) ((3 * y : Int) : Rat) := by
  rw [inZ_int]
  unfold nearE
  generalize hm : 12 - r = m
  have hm : m ≤ 12 := by omega
  obtain ⟨q0, q1, q2, q3, q4, q5, q6, q7, q8, q9, q10, q11, q12⟩ := bE_tab
  obtain ⟨s, t, h1, h2, h3⟩ := round_rest (v := mulE (ptE x y) (conjE (bE m))) (d := dN m) (by rcases upto12 hm with rfl | rfl | rfl | rfl | rfl | rfl | rfl | rfl | rfl | rfl | rfl | rfl | rfl <;> decide)
  generalize roundE (mulE (ptE x y) (conjE (bE m))) (dN m) = z at *
  obtain ⟨z1, z2⟩ := z
  rcases upto12 hm with rfl | rfl | rfl | rfl | rfl | rfl | rfl | rfl | rfl | rfl | rfl | rfl | rfl <;>
    simp only [fA, fB, d0E, d1E, cenE, midE, spotE, aN, mulE, conjE, ptE, q0, q1, q2, q3, q4, q5, q6, q7, q8, q9, q10, q11, q12] at h1 h2 ⊢ <;> simp only [dN, Int.reducePow, Int.reduceMul] at h1 h2 h3 ⊢ <;> omega
end Go.Proofs.YtjimcjhgjfhbiaaGreat.Wd
/- Contracts of eisen.Beta and of package plane: Ok, isRes, Axial, Near, spot; cell.Of at points of the world. -/
namespace Go.Proofs.YtjimcjhgjfhbiaaGreat
open Go.RowKit Go.Lib Wd

theorem emul_in (y z : E2) (hy : Sm 1152921504606846976 y) (hz : Sm 1152921504606846976 z) (h : Sm 4611686018427387904 (mulE y z)) (w : World) :
    Calls Tryz.prog 84 #[vE y, vE z] w fun e w' => e = .returned (.tuple #[vE (mulE y z), .bool true]) ∧ Below w.heap.size w w' := by
  obtain ⟨a, b⟩ := y
  obtain ⟨c, d⟩ := z
  unfold Sm at hy hz
  unfold Sm mulE at h
  simp only at hy hz h
  exact mul_in a b c d ⟨hy.1, hy.2.1⟩ ⟨hy.2.2.1, hy.2.2.2⟩ ⟨hz.1, hz.2.1⟩ ⟨hz.2.2.1, hz.2.2.2⟩ ⟨h.1, h.2.1⟩ ⟨h.2.2.1, h.2.2.2⟩ w
set_option maxRecDepth 100000 in
set_option maxHeartbeats 4000000 in
theorem beta_in (n : Nat) (hn : n ≤ 12) (w : World) :
    Calls Tryz.prog 81 #[.int .i64 n] w fun e w' => e = .returned (.tuple #[vE (bE n), .bool true]) ∧ Below w.heap.size w w' := by
  have q1 : decide ((n : Int) < 0) = false := decide_eq_false (by omega)
  have q2 : decide (20 < (n : Int)) = false := decide_eq_false (by omega)
  go_enter Tryz.func81, Tryz.ntmps81
  go_wp2
  have T0 : Hid (Two2 ((w.alloc (.cells #[.int .i64 0, .int .i64 0] 70)).alloc (.cells #[.int .i64 1, .int .i64 0] 70)) w.heap.size (.int .i64 0) (.int .i64 0)) := Two2.of_row (t := 70) (by rw [Below.heap_alloc _ _ _ (by simp)]; exact heap_new _ _ _ rfl)
  have C0 : Hid (Two2 ((w.alloc (.cells #[.int .i64 0, .int .i64 0] 70)).alloc (.cells #[.int .i64 1, .int .i64 0] 70)) (w.heap.size + 1) (.int .i64 1) (.int .i64 0)) := Two2.of_row (t := 70) (heap_new _ _ _ (by simp))
  have HB0 : Hid (Below w.heap.size w ((w.alloc (.cells #[.int .i64 0, .int .i64 0] 70)).alloc (.cells #[.int .i64 1, .int .i64 0] 70))) := ((Below.refl _ _).alloc (Nat.le_refl _) _).alloc (by simp) _
  have k2 : ((w.alloc (.cells #[.int .i64 0, .int .i64 0] 70)).alloc (.cells #[.int .i64 1, .int .i64 0] 70)).heap.size = w.heap.size + 2 := by simp
  generalize (w.alloc (.cells #[.int .i64 0, .int .i64 0] 70)).alloc (.cells #[.int .i64 1, .int .i64 0] 70) = w2 at *
  clear q1 q2
  go_loopw [15] (fun i wr => ∃ k : Nat, k ≤ n ∧ i = .int .i64 k ∧ Hid (Two2 wr (w.heap.size + 1) (.int .i64 (bE k).1) (.int .i64 (bE k).2) ∧ Turn (fun q => q = w.heap.size + 1) w2 wr)) (fun i _ => n - (intOf i).toNat)
  case atStart => exact ⟨0, by omega, rfl, C0.out, Turn.refl _ _⟩
  case round =>
    obtain ⟨k, hk, rfl, HI⟩ := hrel
    have hTri := HI.out.1
    have hturn := HI.out.2
    have hsz := hturn.2.2.2.1
    have HT := Lib.hid (T0.out.turn hturn (by omega) (by omega))
    have HBR : Hid (Below w.heap.size w wr) := HB0.out.trans (hturn.below (by omega) fun q hq e => by omega)
    have HTU := Lib.hid hturn
    have HTR := Lib.hid hTri
    clear hTri hturn HI
    by_cases hkn : k < n
    · have q1 : decide ((k : Int) < (n : Int)) = true := decide_eq_true (by omega)
      have hb1 := bE_sm (show k ≤ 12 by omega)
      have HMU := Lib.hid (emul_in (bE k) (2, 1) (hb1.mono (by decide)) (by unfold Sm; simp) (by unfold Sm at hb1; unfold Sm mulE; simp only; omega))
      have HDN : Hid (bE (k + 1) = mulE (bE k) (2, 1)) := rfl
      obtain ⟨x, hx⟩ : ∃ x, bE k = x := ⟨_, rfl⟩
      rw [hx] at HMU HTR HDN
      generalize mulE x (2, 1) = m at *
      simp only [vE] at HMU
      obtain ⟨⟨c0, c1⟩, c2, c3⟩ := HTR.out
      clear hb1 hx
      go_wp2_with fail
      refine (HMU.out _).mono ?_
      rintro e w5 ⟨rfl, hb5⟩
      have hz5 := hb5.size
      have h5 := HTR.out.later (by omega) hb5
      have HP := Lib.hid (h5.put (.int .i64 m.1) (.int .i64 m.2))
      have HFI : Hid (Two2 ((w5.setCell ⟨w.heap.size + 1, 0, none⟩ (.int .i64 m.1)).setCell ⟨w.heap.size + 1, 1, none⟩ (.int .i64 m.2)) (w.heap.size + 1) (.int .i64 (bE (k + 1)).1) (.int .i64 (bE (k + 1)).2) ∧ Turn (fun q => q = w.heap.size + 1) w2 ((w5.setCell ⟨w.heap.size + 1, 0, none⟩ (.int .i64 m.1)).setCell ⟨w.heap.size + 1, 1, none⟩ (.int .i64 m.2))) := ⟨by rw [HDN.out]; exact HP.out.1, (HTU.out.trans (Turn.of_below hb5) fun _ _ h => h).trans HP.out.2 fun _ _ h => h⟩
      obtain ⟨⟨e0, e1⟩, e2, e3⟩ := h5
      clear hb5 c0 c1 c2 c3 HTR HT HTU HMU HBR HP HDN
      go_wp2
      go_roundw
      case rel => exact ⟨k + 1, by omega, by go_num, HFI.out⟩
      case measure => simp [intOf]; omega
    · obtain rfl : k = n := by omega
      have q1 : decide ((k : Int) < (k : Int)) = false := decide_eq_false (by omega)
      obtain ⟨x, hx⟩ : ∃ x, bE k = x := ⟨_, rfl⟩
      rw [hx] at HTR
      obtain ⟨⟨c0, c1⟩, c2, c3⟩ := HTR.out
      obtain ⟨⟨t0, t1⟩, t2, t3⟩ := HT.out
      have HX := Lib.hid hx
      clear HTR HT hx
      go_wp2
      exact bodyPost_ret (v := .tuple #[.agg #[.int .i64 x.1, .int .i64 x.2], .bool true]) (by simp [results, Tryz.results81, go_sem, *]) rfl ⟨by rw [HX.out], (HBR.out.setCell (p := ⟨w.heap.size, 0, none⟩) (Nat.le_refl _) _).setCell (p := ⟨w.heap.size, 1, none⟩) (Nat.le_refl _) _⟩
def worldB (x y : Int) : Bool := decide (0 ≤ x) && decide (x < 1073741824) && (decide (0 ≤ y) && decide (y < 1073741824))
theorem worldB_iff (x y : Int) : worldB x y = true ↔ (0 ≤ x ∧ x < 1073741824) ∧ 0 ≤ y ∧ y < 1073741824 := by unfold worldB; simp
theorem pok_any (x y : Int) (w : World) : Calls Tryz.prog 61 #[.int .i64 x, .int .i64 y] w fun e w' => e = .returned (.bool (worldB x y)) ∧ w' = w := by
  have HF : Hid (worldB x y = (decide (0 ≤ x) && decide (x < 1073741824) && (decide (0 ≤ y) && decide (y < 1073741824)))) := rfl
  obtain ⟨b, hb⟩ : ∃ b, worldB x y = b := ⟨_, rfl⟩
  rw [hb] at HF ⊢
  clear hb
  obtain ⟨b0, h0⟩ : ∃ b, decide (0 ≤ x) = b := ⟨_, rfl⟩
  obtain ⟨b1, h1⟩ : ∃ b, decide (x < 1073741824) = b := ⟨_, rfl⟩
  obtain ⟨b2, h2⟩ : ∃ b, decide (0 ≤ y) = b := ⟨_, rfl⟩
  obtain ⟨b3, h3⟩ : ∃ b, decide (y < 1073741824) = b := ⟨_, rfl⟩
  rw [h0, h1, h2, h3] at HF
  cases b0 <;> cases b1 <;> cases b2 <;> cases b3
  all_goals
    go_enter Tryz.func61, Tryz.ntmps61
    go_wp2
    go_ret
    exact ⟨ret_bool (by rw [HF.out]; rfl), rfl⟩
theorem isres_in (r : Nat) (hr : r ≤ 12) (w : World) : Calls Tryz.prog 80 #[.int .i64 r] w fun e w' => e = .returned (.bool true) ∧ w' = w := by
  have q1 : decide ((0 : Int) ≤ (r : Int)) = true := decide_eq_true (by omega)
  have q2 : decide ((r : Int) ≤ 12) = true := decide_eq_true (by omega)
  go_enter Tryz.func80, Tryz.ntmps80
  go_wp2
  go_ret
  exact ⟨rfl, rfl⟩
set_option maxHeartbeats 1000000 in
theorem axial_in (x y : Int) (h : worldB x y = true) (w : World) :
    Calls Tryz.prog 79 #[.int .i64 x, .int .i64 y] w fun e w' => e = .returned (.tuple #[vE (ptE x y), .bool true]) ∧ Below w.heap.size w w' := by
  have HP := Lib.hid (pok_any x y)
  rw [h] at HP
  obtain ⟨⟨h1, h2⟩, h3, h4⟩ := (worldB_iff x y).1 h
  have hpt : ptE x y = (45 * x - 26 * y, 52 * y) := rfl
  rw [hpt]
  clear h hpt
  go_enter Tryz.func79, Tryz.ntmps79
  go_wp2_with fail
  refine (HP.out _).mono ?_
  rintro e w1 ⟨rfl, rfl⟩
  go_wp2
  exact bodyPost_ret (v := .tuple #[.agg #[.int .i64 (45 * x - 26 * y), .int .i64 (52 * y)], .bool true]) (by simp [results, Tryz.results79, go_sem, *]) rfl ⟨rfl, (Below.refl w.heap.size w).alloc (Nat.le_refl _) _⟩
theorem spot_in (c : E2) (h : Sm 10000000000000000 c) (w : World) :
    Calls Tryz.prog 138 #[vE c] w fun e w' => e = .returned (vE (spotE c)) ∧ Below w.heap.size w w' := by
  obtain ⟨a, b⟩ := c
  unfold Sm at h
  simp only at h
  obtain ⟨h1, h2, h3, h4⟩ := h
  show Calls Tryz.prog 138 #[.agg #[.int .i64 a, .int .i64 b]] w fun e w' => e = .returned (.agg #[.int .i64 (52 * a + 26 * b), .int .i64 (45 * b)]) ∧ Below w.heap.size w w'
  go_enter Tryz.func138, Tryz.ntmps138
  go_wp2
  exact bodyPost_ret (v := .agg #[.int .i64 (52 * a + 26 * b), .int .i64 (45 * b)]) (by simp [results, Tryz.results138, go_sem, *]) rfl ⟨rfl, ((Below.refl w.heap.size w).alloc (Nat.le_refl _) _).alloc (by simp) _⟩
set_option maxRecDepth 100000 in
set_option maxHeartbeats 4000000 in
theorem near_in (x y : Int) (h : worldB x y = true) (r : Nat) (hr : r ≤ 12) (w : World) :
    Calls Tryz.prog 62 #[.int .i64 x, .int .i64 y, .int .i64 r] w fun e w' => e = .returned (.tuple #[vE (nearE x y r), .bool true]) ∧ Below w.heap.size w w' := by
  have HAX := Lib.hid (axial_in x y h)
  have HIR := Lib.hid (isres_in r hr)
  obtain ⟨hx, hy⟩ := (worldB_iff x y).1 h
  have hm : (12 : Int) - (r : Int) = ((12 - r : Nat) : Int) := by omega
  have hm12 : 12 - r ≤ 12 := by omega
  have HN : Hid (nearE x y r = roundE (mulE (ptE x y) (conjE (bE (12 - r)))) (dN (12 - r))) := rfl
  have hms := near_mul_sm hx hy hm12
  have HBE := Lib.hid (beta_in (12 - r) hm12)
  have HCO := Lib.hid (conj_in (bE (12 - r)) ((bE_sm hm12).mono (by decide)))
  have HMU := Lib.hid (emul_in (ptE x y) (conjE (bE (12 - r))) (by unfold Sm ptE; simp only; omega) ((conj_sm hm12).mono (by decide)) (hms.mono (by decide)))
  have HPW := Lib.hid (npow_seven (k := 12 - r) hm12)
  obtain ⟨hp1, hp2⟩ := pow7_in hm12
  have HRO := Lib.hid (round_in (mulE (ptE x y) (conjE (bE (12 - r)))) (dN (12 - r)) (by unfold dN; omega) (by unfold dN; omega) hms)
  rw [← HN.out] at HRO
  have hdn : dN (12 - r) = 2340 * 7 ^ (12 - r) := rfl
  rw [hdn] at HRO
  rw [show (((7 ^ (12 - r) : Nat)) : Int) = (7 : Int) ^ (12 - r) by push_cast; rfl] at HPW
  rw [show Value.agg #[.int .i64 ((bE (12 - r)).1 + (bE (12 - r)).2), .int .i64 (-(bE (12 - r)).2)] = vE (conjE (bE (12 - r))) from rfl] at HCO
  clear HN hdn hms h hx hy
  generalize (7 : Int) ^ (12 - r) = s at *
  generalize nearE x y r = z at *
  generalize 12 - r = m at *
  generalize mulE (ptE x y) (conjE (bE m)) = u at *
  generalize conjE (bE m) = c at *
  generalize bE m = b at *
  generalize ptE x y = p at *
  simp only [vE] at *
  go_enter Tryz.func62, Tryz.ntmps62
  go_wp2_with fail
  refine (HAX.out _).mono ?_
  rintro e w1 ⟨rfl, hb1⟩
  have hs1 := hb1.size
  simp at hs1
  have H1 : Hid (Two2 w1 w.heap.size (.int .i64 0) (.int .i64 0)) := (Two2.of_row (t := 70) (heap_new _ _ _ rfl)).later (by simp) hb1
  have B1 : Hid (Below w.heap.size w (w1.alloc (.cells #[.int .i64 p.1, .int .i64 p.2] 70))) := (((Below.refl w.heap.size w).alloc (Nat.le_refl _) _).trans (hb1.mono (by simp))).alloc (by omega) _
  have P1 : Hid (Two (w1.alloc (.cells #[.int .i64 p.1, .int .i64 p.2] 70)) w1.heap.size (.int .i64 p.1) (.int .i64 p.2)) := Two.of_row (t := 70) (f := _) (heap_new _ _ _ rfl)
  have H1 := Lib.hid (H1.out.later (by omega) ((Below.refl _ _).alloc (Nat.le_refl _) (.cells #[.int .i64 p.1, .int .i64 p.2] 70)))
  have hs2 : w1.heap.size < (w1.alloc (.cells #[.int .i64 p.1, .int .i64 p.2] 70)).heap.size := by simp
  clear hb1
  go_upto_region 2 with (fail)
  generalize w1.alloc (.cells #[.int .i64 p.1, .int .i64 p.2] 70) = w2 at *
  go_wp2_with fail
  refine (HIR.out _).mono ?_
  rintro e wq ⟨rfl, rfl⟩
  go_wp2_with fail
  refine (HBE.out _).mono ?_
  rintro e w3 ⟨rfl, hb3⟩
  have K3 := hb3.alloc hb3.size (.cells #[.int .i64 b.1, .int .i64 b.2] 70)
  have H3 := Lib.hid (H1.out.later (by omega) K3)
  have P3 := Lib.hid (P1.out.later hs2 K3)
  have B3 : Hid (Below w.heap.size w (w3.alloc (.cells #[.int .i64 b.1, .int .i64 b.2] 70))) := B1.out.trans (K3.mono B1.out.size)
  have T3 : Hid (Two (w3.alloc (.cells #[.int .i64 b.1, .int .i64 b.2] 70)) w3.heap.size (.int .i64 b.1) (.int .i64 b.2)) := Two.of_row (t := 70) (f := _) (heap_new _ _ _ rfl)
  have hs3 : w1.heap.size < w3.heap.size ∧ w3.heap.size < (w3.alloc (.cells #[.int .i64 b.1, .int .i64 b.2] 70)).heap.size := ⟨by have := hb3.size; omega, by simp⟩
  clear hb3 K3 H1 P1 B1
  go_upto_region 5 with (fail)
  generalize w3.alloc (.cells #[.int .i64 b.1, .int .i64 b.2] 70) = w4 at *
  obtain ⟨t0, t1⟩ := T3.out
  go_wp2_with fail
  refine (HCO.out _).mono ?_
  rintro e w5 ⟨rfl, hb5⟩
  have K5 := hb5.alloc hb5.size (.cells #[.int .i64 c.1, .int .i64 c.2] 70)
  have H5 := Lib.hid (H3.out.later (by omega) K5)
  have P5 := Lib.hid (P3.out.later (by omega) K5)
  have B5 : Hid (Below w.heap.size w (w5.alloc (.cells #[.int .i64 c.1, .int .i64 c.2] 70))) := B3.out.trans (K5.mono B3.out.size)
  have T5 : Hid (Two (w5.alloc (.cells #[.int .i64 c.1, .int .i64 c.2] 70)) w5.heap.size (.int .i64 c.1) (.int .i64 c.2)) := Two.of_row (t := 70) (f := _) (heap_new _ _ _ rfl)
  have hs5 : w1.heap.size < w5.heap.size ∧ w5.heap.size < (w5.alloc (.cells #[.int .i64 c.1, .int .i64 c.2] 70)).heap.size := ⟨by have := hb5.size; omega, by simp⟩
  clear hb5 K5 H3 P3 B3 T3 t0 t1
  go_upto_region 6 with (fail)
  generalize w5.alloc (.cells #[.int .i64 c.1, .int .i64 c.2] 70) = w6 at *
  go_wp2_with fail
  refine (HPW.out _).mono ?_
  rintro e w7 ⟨rfl, hb7⟩
  have H7 := Lib.hid (H5.out.later (by omega) hb7)
  have B7 := Lib.hid (B5.out.trans (hb7.mono B5.out.size))
  obtain ⟨p0, p1⟩ := P5.out.later (by omega) hb7
  obtain ⟨c0, c1⟩ := T5.out.later (by omega) hb7
  have hs7 := hb7.size
  clear hb7 H5 P5 B5 T5
  go_wp2_with fail
  refine (HMU.out _).mono ?_
  rintro e w8 ⟨rfl, hb8⟩
  have K8 := hb8.alloc hb8.size (.cells #[.int .i64 u.1, .int .i64 u.2] 70)
  have H8 := Lib.hid (H7.out.later (by omega) K8)
  have B8 : Hid (Below w.heap.size w (w8.alloc (.cells #[.int .i64 u.1, .int .i64 u.2] 70))) := B7.out.trans (K8.mono B7.out.size)
  have T8 : Hid (Two (w8.alloc (.cells #[.int .i64 u.1, .int .i64 u.2] 70)) w8.heap.size (.int .i64 u.1) (.int .i64 u.2)) := Two.of_row (t := 70) (f := _) (heap_new _ _ _ rfl)
  have hs8 : w.heap.size < w8.heap.size ∧ w8.heap.size < (w8.alloc (.cells #[.int .i64 u.1, .int .i64 u.2] 70)).heap.size := ⟨by have := hb8.size; omega, by simp⟩
  clear hb8 K8 H7 B7 p0 p1 c0 c1
  go_upto_region 8 with (fail)
  generalize w8.alloc (.cells #[.int .i64 u.1, .int .i64 u.2] 70) = w9 at *
  obtain ⟨t0, t1⟩ := T8.out
  go_wp2_with fail
  refine (HRO.out _).mono ?_
  rintro e w10 ⟨rfl, hb10⟩
  obtain ⟨⟨r0, r1⟩, f0, f1⟩ := H8.out.later (by omega) hb10
  have B10 := Lib.hid (B8.out.trans (hb10.mono B8.out.size))
  have hs10 := hb10.size
  clear hb10 H8 B8 T8 t0 t1
  go_wp2
  exact bodyPost_ret (v := .tuple #[.agg #[.int .i64 z.1, .int .i64 z.2], .bool true]) (by simp [results, Tryz.results62, go_sem, *]) rfl ⟨rfl, (B10.out.setCell (p := ⟨w.heap.size, 0, none⟩) (Nat.le_refl _) _).setCell (p := ⟨w.heap.size, 1, none⟩) (Nat.le_refl _) _⟩
theorem cof_in (x y : Int) (h : worldB x y = true) (r : Nat) (hr : r ≤ 12) (w : World) :
    Calls Tryz.prog 33 #[.int .i64 x, .int .i64 y, .int .i64 r] w fun e w' => e = .returned (.tuple #[vC r (nearE x y r), .int .i64 0]) ∧ Below w.heap.size w w' := by
  have HP := Lib.hid (pok_any x y)
  rw [h] at HP
  have HN := Lib.hid (near_in x y h r hr)
  generalize nearE x y r = z at *
  simp only [vE, vC] at *
  clear h
  go_enter Tryz.func33, Tryz.ntmps33
  go_wp2_with fail
  refine (HP.out _).mono ?_
  rintro e w1 ⟨rfl, rfl⟩
  go_wp2_with fail
  refine (HN.out _).mono ?_
  rintro e w3 ⟨rfl, hb3⟩
  have hs3 := hb3.size
  simp at hs3
  have K3 := hb3.alloc hb3.size (.cells #[.int .i64 z.1, .int .i64 z.2] 70)
  have H3 : Hid (Tri (w3.alloc (.cells #[.int .i64 z.1, .int .i64 z.2] 70)) w.heap.size 0 (0, 0)) := (show Tri (w.alloc (.cells #[.int .i64 0, .int .i64 0, .int .i64 0] 72)) w.heap.size 0 (0, 0) from heap_new _ _ _ rfl).later K3
  have B3 : Hid (Below w.heap.size w (w3.alloc (.cells #[.int .i64 z.1, .int .i64 z.2] 70))) := ((Below.refl w.heap.size w).alloc (Nat.le_refl _) _).trans (K3.mono (by simp))
  have T3 : Hid (Two (w3.alloc (.cells #[.int .i64 z.1, .int .i64 z.2] 70)) w3.heap.size (.int .i64 z.1) (.int .i64 z.2)) := Two.of_row (t := 70) (f := _) (heap_new _ _ _ rfl)
  have hs4 : w3.heap.size < (w3.alloc (.cells #[.int .i64 z.1, .int .i64 z.2] 70)).heap.size := by simp
  clear hb3 K3
  go_upto_region 4 with (fail)
  generalize w3.alloc (.cells #[.int .i64 z.1, .int .i64 z.2] 70) = w4 at *
  obtain ⟨t0, t1⟩ := T3.out
  obtain ⟨r0, r1, r2, f0, f1, f2, l0⟩ := H3.out.cells
  clear T3 H3
  go_wp2
  exact bodyPost_ret (v := .tuple #[.agg #[.int .i64 r, .int .i64 z.1, .int .i64 z.2], .int .i64 0]) (by simp [results, Tryz.results33, go_sem, *]) rfl ⟨rfl, ((B3.out.setCell (p := ⟨w.heap.size, 0, none⟩) (Nat.le_refl _) _).setCell (p := ⟨w.heap.size, 1, none⟩) (Nat.le_refl _) _).setCell (p := ⟨w.heap.size, 2, none⟩) (Nat.le_refl _) _⟩
end Go.Proofs.YtjimcjhgjfhbiaaGreat
/- Rows of pairs in memory; contracts of package plane: place, Centre, corner, Hex. -/
namespace Go.Proofs.YtjimcjhgjfhbiaaGreat
open Go.RowKit Go.Lib Wd

def prV (l : List E2) : List Value := l.flatMap fun p => [.int .i64 p.1, .int .i64 p.2]
/-- One of a list. -/
def prG (l : List E2) (k : Nat) : E2 := l.getD k (0, 0)
theorem prV_append (a b : List E2) : prV (a ++ b) = prV a ++ prV b := by simp [prV]
theorem prV_snoc (l : List E2) (x : E2) : prV (l ++ [x]) = prV l ++ [.int .i64 x.1, .int .i64 x.2] := by rw [prV_append]; rfl
theorem prV_get : ∀ (l : List E2) (k : Nat), k < l.length → (prV l)[k * 2]? = some (.int .i64 (prG l k).1) ∧ (prV l)[k * 2 + 1]? = some (.int .i64 (prG l k).2)
  | [], k, h => by simp at h
  | p :: l, 0, _ => by simp [prV, prG]
  | p :: l, k + 1, h => by
    have ih := prV_get l k (by simpa using h)
    have e : prV (p :: l) = [.int .i64 p.1, .int .i64 p.2] ++ prV l := rfl
    have g : prG (p :: l) (k + 1) = prG l k := rfl
    rw [e, g, List.getElem?_append_right (by simp; omega), List.getElem?_append_right (by simp; omega)]
    simp only [List.length_cons, List.length_nil]
    rw [show (k + 1) * 2 - (0 + 1 + 1) = k * 2 by omega, show (k + 1) * 2 + 1 - (0 + 1 + 1) = k * 2 + 1 by omega]
    exact ih
/-- In w a slice's address leads to pairs. -/
def PrAt (w : World) (ao : Option Addr) (l : List E2) : Prop :=
  0 < l.length → ∃ b off, ao = some ⟨b, off, none⟩ ∧ b < w.heap.size ∧ ∀ k, k < l.length →
    w.cell? ⟨b, off + k * 2, none⟩ = some (.int .i64 (prG l k).1) ∧ w.cell? ⟨b, off + k * 2 + 1, none⟩ = some (.int .i64 (prG l k).2)
theorem PrAt.below {w w' : World} {ao : Option Addr} {l : List E2} (h : PrAt w ao l) (hb : Below w.heap.size w w') : PrAt w' ao l := fun h0 => by
  obtain ⟨b, off, e, hlt, hc⟩ := h h0
  refine ⟨b, off, e, Nat.lt_of_lt_of_le hlt hb.size, fun k hk => ?_⟩
  rw [hb.cell (p := ⟨b, _, none⟩) hlt, hb.cell (p := ⟨b, _, none⟩) hlt]
  exact hc k hk
theorem prAt_own {w : World} {base n c : Nat} {t : TypeId} {ao : Option Addr} {l : List E2} (hn : n = l.length) (h : w.ownsRow base t 2 (.slice ao n c) n (prV l)) : PrAt w ao l := fun h0 => by
  subst hn
  obtain ⟨ao', c', e, _, hh⟩ := own_form h
  cases e
  obtain ⟨g, rfl, _, hlt, hc⟩ := hh h0
  exact ⟨g, 0, rfl, hlt, fun i hi => by
    have := prV_get l i hi
    rw [Nat.zero_add]
    exact ⟨hc _ _ this.1, hc _ _ this.2⟩⟩
theorem prAt_new (w : World) (l : List E2) (t : TypeId) : PrAt (w.alloc (.cells (prV l).toArray t)) (some ⟨w.heap.size, 0, none⟩) l := fun h0 => by
  refine ⟨w.heap.size, 0, rfl, by simp, fun k hk => ?_⟩
  have h := prV_get l k hk
  rw [Nat.zero_add]
  constructor
  · rw [cell_of_row _ w.heap.size (k * 2) _ t (0, 0) (heap_new w _ _ rfl)]; simpa using h.1
  · rw [cell_of_row _ w.heap.size (k * 2 + 1) _ t (0, 0) (heap_new w _ _ rfl)]; simpa using h.2
theorem info_pt : (Tryz.prog.info? 24).map (fun i => (i.zero, i.size, i.bytes)) = some (some (.agg #[.int .i64 0, .int .i64 0]), 2, 16) := by kernel_rfl

theorem mid_sm {m : Nat} (hm : m ≤ 12) {y : E2} (hy : Sm 3221225472 y) : Sm 1000000000000000 (mulE (bE m) y) := by
  obtain ⟨q0, q1, q2, q3, q4, q5, q6, q7, q8, q9, q10, q11, q12⟩ := bE_tab
  obtain ⟨y1, y2⟩ := y
  unfold Sm at hy ⊢
  unfold mulE
  rcases upto12 hm with rfl | rfl | rfl | rfl | rfl | rfl | rfl | rfl | rfl | rfl | rfl | rfl | rfl <;> simp only [q0, q1, q2, q3, q4, q5, q6, q7, q8, q9, q10, q11, q12] at hy ⊢ <;> omega
set_option maxRecDepth 100000 in
set_option maxHeartbeats 4000000 in
theorem place_in (z : E2) (hz : Sm 1073741824 z) (r : Nat) (hr : r ≤ 12) (by_ : Int) (hby : by_ = 1 ∨ by_ = 3) (w : World) :
    Calls Tryz.prog 128 #[vE z, .int .i64 r, .int .i64 by_] w fun e w' => e = .returned (.tuple #[vE (mulE (bE (12 - r)) (by_ * z.1, by_ * z.2)), .bool true]) ∧ Below w.heap.size w w' := by
  have HIR := Lib.hid (isres_in r hr)
  have hm : (12 : Int) - (r : Int) = ((12 - r : Nat) : Int) := by omega
  have hm12 : 12 - r ≤ 12 := by omega
  have HBE := Lib.hid (beta_in (12 - r) hm12)
  have HW1 := Lib.hid (within_any z.1 1073741824 (by decide) (by decide))
  have HW2 := Lib.hid (within_any z.2 1073741824 (by decide) (by decide))
  unfold Sm at hz
  rw [decide_eq_true (show -1073741824 ≤ z.1 by omega), decide_eq_true (show z.1 ≤ 1073741824 by omega), Bool.and_self] at HW1
  rw [decide_eq_true (show -1073741824 ≤ z.2 by omega), decide_eq_true (show z.2 ≤ 1073741824 by omega), Bool.and_self] at HW2
  have hy : Sm 3221225472 (by_ * z.1, by_ * z.2) := by unfold Sm; simp only; rcases hby with rfl | rfl <;> omega
  have HMU := Lib.hid (emul_in (bE (12 - r)) (by_ * z.1, by_ * z.2) ((bE_sm hm12).mono (by decide)) (hy.mono (by decide)) ((mid_sm hm12 hy).mono (by decide)))
  generalize mulE (bE (12 - r)) (by_ * z.1, by_ * z.2) = u at *
  generalize bE (12 - r) = b at *
  generalize 12 - r = m at *
  obtain ⟨z1, z2⟩ := z
  obtain ⟨b1, b2⟩ := b
  simp only [vE] at *
  obtain ⟨h1, h2, h3, h4⟩ := hz
  have k1 : -3221225472 ≤ by_ * z1 ∧ by_ * z1 ≤ 3221225472 ∧ -3221225472 ≤ by_ * z2 ∧ by_ * z2 ≤ 3221225472 := by rcases hby with rfl | rfl <;> omega
  obtain ⟨k1, k2, k3, k4⟩ := k1
  have T0 : Hid (Two ((w.alloc (.cells #[.int .i64 z1, .int .i64 z2] 70)).alloc (.cells #[.int .i64 0, .int .i64 0] 70)) w.heap.size (.int .i64 z1) (.int .i64 z2)) := (Two.of_row (t := 70) (f := _) (heap_new _ _ _ rfl)).later (by simp) ((Below.refl _ _).alloc (Nat.le_refl _) _)
  have R0 : Hid (Two2 ((w.alloc (.cells #[.int .i64 z1, .int .i64 z2] 70)).alloc (.cells #[.int .i64 0, .int .i64 0] 70)) (w.heap.size + 1) (.int .i64 0) (.int .i64 0)) := Two2.of_row (t := 70) (heap_new _ _ _ (by simp))
  have B0 : Hid (Below w.heap.size w ((w.alloc (.cells #[.int .i64 z1, .int .i64 z2] 70)).alloc (.cells #[.int .i64 0, .int .i64 0] 70))) := ((Below.refl _ _).alloc (Nat.le_refl _) _).alloc (by simp) _
  have s0 : w.heap.size + 2 ≤ ((w.alloc (.cells #[.int .i64 z1, .int .i64 z2] 70)).alloc (.cells #[.int .i64 0, .int .i64 0] 70)).heap.size := by simp
  clear hby hy
  go_enter Tryz.func128, Tryz.ntmps128
  go_upto_region 1 with (fail)
  generalize (w.alloc (.cells #[.int .i64 z1, .int .i64 z2] 70)).alloc (.cells #[.int .i64 0, .int .i64 0] 70) = w1 at *
  obtain ⟨t0, t1⟩ := T0.out
  go_wp2_with fail
  refine (HIR.out _).mono ?_
  rintro e wq ⟨rfl, rfl⟩
  go_wp2_with fail
  refine (HW1.out _).mono ?_
  rintro e wq ⟨rfl, rfl⟩
  go_wp2_with fail
  refine (HW2.out _).mono ?_
  rintro e wq ⟨rfl, rfl⟩
  go_wp2_with fail
  refine (HBE.out _).mono ?_
  rintro e w3 ⟨rfl, hb3⟩
  have K3 := hb3.alloc hb3.size (.cells #[.int .i64 b1, .int .i64 b2] 70)
  have H3 := Lib.hid (R0.out.later (by omega) K3)
  have P3 := Lib.hid (T0.out.later (by omega) K3)
  have B3 : Hid (Below w.heap.size w (w3.alloc (.cells #[.int .i64 b1, .int .i64 b2] 70))) := B0.out.trans (K3.mono B0.out.size)
  have T3 : Hid (Two (w3.alloc (.cells #[.int .i64 b1, .int .i64 b2] 70)) w3.heap.size (.int .i64 b1) (.int .i64 b2)) := Two.of_row (t := 70) (f := _) (heap_new _ _ _ rfl)
  have hs3 : w.heap.size + 2 ≤ w3.heap.size ∧ w3.heap.size < (w3.alloc (.cells #[.int .i64 b1, .int .i64 b2] 70)).heap.size := ⟨by have := hb3.size; omega, by simp⟩
  clear hb3 K3 R0 T0 B0 t0 t1
  go_upto_region 4 with (fail)
  generalize w3.alloc (.cells #[.int .i64 b1, .int .i64 b2] 70) = w4 at *
  obtain ⟨t0, t1⟩ := T3.out
  obtain ⟨p0, p1⟩ := P3.out
  go_wp2_with fail
  refine (HMU.out _).mono ?_
  rintro e w5 ⟨rfl, hb5⟩
  obtain ⟨⟨r0, r1⟩, f0, f1⟩ := H3.out.later (by omega) hb5
  have B5 := Lib.hid (B3.out.trans (hb5.mono B3.out.size))
  have hs5 := hb5.size
  clear hb5 H3 P3 B3 T3 t0 t1 p0 p1
  go_wp2
  exact bodyPost_ret (v := .tuple #[.agg #[.int .i64 u.1, .int .i64 u.2], .bool true]) (by simp [results, Tryz.results128, go_sem, *]) rfl ⟨rfl, (B5.out.setCell (p := ⟨w.heap.size + 1, 0, none⟩) (Nat.le_succ _) _).setCell (p := ⟨w.heap.size + 1, 1, none⟩) (Nat.le_succ _) _⟩
/-- Where a cell's middle lies. -/
def atE (m : Nat) (z : E2) : E2 := spotE (mulE (bE m) z)
theorem kap_sm (k : Nat) : Sm 2 (kapE k) := by
  unfold kapE Sm
  split <;> decide
theorem sm_add {a b : Int} {x y : E2} (hx : Sm a x) (hy : Sm b y) : Sm (a + b) (addE x y) := by
  unfold Sm at *
  unfold addE
  simp only
  omega
set_option maxRecDepth 100000 in
set_option maxHeartbeats 4000000 in
theorem hcorner_in (p b k : E2) (hp : Sm 1000000000000000 p) (hb : Sm 1048576 b) (hk : Sm 2 k) (hm : Sm 1000000000000000 (mulE b k)) (w : World) :
    Calls Tryz.prog 129 #[.agg #[.int .i64 p.1, .int .i64 p.2, .int .i64 b.1, .int .i64 b.2], vE k] w fun e w' => e = .returned (vE (spotE (addE p (mulE b k)))) ∧ Below w.heap.size w w' := by
  have HMU := Lib.hid (emul_in b k (hb.mono (by decide)) (hk.mono (by decide)) (hm.mono (by decide)))
  have HAD := Lib.hid (add_in p (mulE b k) (hp.mono (by decide)) (hm.mono (by decide)))
  have HSP := Lib.hid (spot_in (addE p (mulE b k)) ((sm_add hp hm).mono (by decide)))
  clear hp hb hk hm
  generalize spotE (addE p (mulE b k)) = s at *
  generalize addE p (mulE b k) = a at *
  generalize mulE b k = f at *
  obtain ⟨p1, p2⟩ := p
  obtain ⟨b1, b2⟩ := b
  obtain ⟨k1, k2⟩ := k
  simp only [vE] at *
  have N0 : ∀ j u, [Value.int .i64 p1, .int .i64 p2, .int .i64 b1, .int .i64 b2][j]? = some u → (((w.alloc (.cells #[.int .i64 p1, .int .i64 p2, .int .i64 b1, .int .i64 b2] 183)).alloc (.cells #[.int .i64 k1, .int .i64 k2] 70)).alloc (.cells #[.int .i64 0, .int .i64 0] 24)).cell? ⟨w.heap.size, j, none⟩ = some u := fun j u hj => by
    have h1 : (w.alloc (.cells #[.int .i64 p1, .int .i64 p2, .int .i64 b1, .int .i64 b2] 183)).cell? ⟨w.heap.size, j, none⟩ = some u := by
      rw [cell_of_row _ w.heap.size j _ 183 (0, 0) (heap_new w _ _ rfl)]; simpa using hj
    have hb := ((Below.refl (w.alloc (.cells #[.int .i64 p1, .int .i64 p2, .int .i64 b1, .int .i64 b2] 183)).heap.size (w.alloc (.cells #[.int .i64 p1, .int .i64 p2, .int .i64 b1, .int .i64 b2] 183))).alloc (Nat.le_refl _) (.cells #[.int .i64 k1, .int .i64 k2] 70)).alloc (by simp) (.cells #[.int .i64 0, .int .i64 0] 24)
    rw [hb.cell (p := ⟨w.heap.size, j, none⟩) (by simp)]; exact h1
  have T0 : Hid (Two (((w.alloc (.cells #[.int .i64 p1, .int .i64 p2, .int .i64 b1, .int .i64 b2] 183)).alloc (.cells #[.int .i64 k1, .int .i64 k2] 70)).alloc (.cells #[.int .i64 0, .int .i64 0] 24)) (w.heap.size + 1) (.int .i64 k1) (.int .i64 k2)) := (Two.of_row (t := 70) (f := _) (heap_new _ _ _ (by simp))).later (by simp) ((Below.refl _ _).alloc (Nat.le_refl _) _)
  have R0 : Hid (Two2 (((w.alloc (.cells #[.int .i64 p1, .int .i64 p2, .int .i64 b1, .int .i64 b2] 183)).alloc (.cells #[.int .i64 k1, .int .i64 k2] 70)).alloc (.cells #[.int .i64 0, .int .i64 0] 24)) (w.heap.size + 1 + 1) (.int .i64 0) (.int .i64 0)) := Two2.of_row (t := 24) (heap_new _ _ _ (by simp))
  have B0 : Hid (Below w.heap.size w (((w.alloc (.cells #[.int .i64 p1, .int .i64 p2, .int .i64 b1, .int .i64 b2] 183)).alloc (.cells #[.int .i64 k1, .int .i64 k2] 70)).alloc (.cells #[.int .i64 0, .int .i64 0] 24))) := (((Below.refl w.heap.size w).alloc (Nat.le_refl _) _).alloc (by simp) _).alloc (by simp; omega) _
  have s0 : w.heap.size + 3 ≤ (((w.alloc (.cells #[.int .i64 p1, .int .i64 p2, .int .i64 b1, .int .i64 b2] 183)).alloc (.cells #[.int .i64 k1, .int .i64 k2] 70)).alloc (.cells #[.int .i64 0, .int .i64 0] 24)).heap.size := by simp
  go_enter Tryz.func129, Tryz.ntmps129
  go_upto_region 1 with (fail)
  generalize ((w.alloc (.cells #[.int .i64 p1, .int .i64 p2, .int .i64 b1, .int .i64 b2] 183)).alloc (.cells #[.int .i64 k1, .int .i64 k2] 70)).alloc (.cells #[.int .i64 0, .int .i64 0] 24) = w1 at *
  have n0 := N0 0 _ rfl
  have n1 := N0 1 _ rfl
  have n2 := N0 2 _ rfl
  have n3 := N0 3 _ rfl
  have PW : Hid (Two w1 w.heap.size (.int .i64 p1) (.int .i64 p2)) := ⟨n0, n1⟩
  obtain ⟨t0, t1⟩ := T0.out
  clear N0
  go_wp2_with fail
  refine (HMU.out _).mono ?_
  rintro e w3 ⟨rfl, hb3⟩
  have K3 := hb3.alloc hb3.size (.cells #[.int .i64 f.1, .int .i64 f.2] 70)
  have P3 := Lib.hid (PW.out.later (by omega) K3)
  have R3 := Lib.hid (R0.out.later (by omega) K3)
  have B3 : Hid (Below w.heap.size w (w3.alloc (.cells #[.int .i64 f.1, .int .i64 f.2] 70))) := B0.out.trans (K3.mono B0.out.size)
  have T3 : Hid (Two (w3.alloc (.cells #[.int .i64 f.1, .int .i64 f.2] 70)) w3.heap.size (.int .i64 f.1) (.int .i64 f.2)) := Two.of_row (t := 70) (f := _) (heap_new _ _ _ rfl)
  have s3 : w.heap.size + 3 ≤ w3.heap.size ∧ w3.heap.size < (w3.alloc (.cells #[.int .i64 f.1, .int .i64 f.2] 70)).heap.size := ⟨by have := hb3.size; omega, by simp⟩
  clear hb3 K3 T0 R0 B0 PW t0 t1 n0 n1 n2 n3
  go_upto_region 2 with (fail)
  generalize w3.alloc (.cells #[.int .i64 f.1, .int .i64 f.2] 70) = w4 at *
  obtain ⟨t0, t1⟩ := T3.out
  obtain ⟨p0, p1'⟩ := P3.out
  go_wp2_with fail
  refine (HAD.out _).mono ?_
  rintro e w5 ⟨rfl, hb5⟩
  have K5 := hb5.alloc hb5.size (.cells #[.int .i64 a.1, .int .i64 a.2] 70)
  have R5 := Lib.hid (R3.out.later (by omega) K5)
  have B5 : Hid (Below w.heap.size w (w5.alloc (.cells #[.int .i64 a.1, .int .i64 a.2] 70))) := B3.out.trans (K5.mono B3.out.size)
  have T5 : Hid (Two (w5.alloc (.cells #[.int .i64 a.1, .int .i64 a.2] 70)) w5.heap.size (.int .i64 a.1) (.int .i64 a.2)) := Two.of_row (t := 70) (f := _) (heap_new _ _ _ rfl)
  have s5 : w.heap.size + 3 ≤ w5.heap.size ∧ w5.heap.size < (w5.alloc (.cells #[.int .i64 a.1, .int .i64 a.2] 70)).heap.size := ⟨by have := hb5.size; omega, by simp⟩
  clear hb5 K5 T3 R3 B3 P3 t0 t1 p0 p1'
  go_upto_region 3 with (fail)
  generalize w5.alloc (.cells #[.int .i64 a.1, .int .i64 a.2] 70) = w6 at *
  obtain ⟨t0, t1⟩ := T5.out
  go_wp2_with fail
  refine (HSP.out _).mono ?_
  rintro e w7 ⟨rfl, hb7⟩
  obtain ⟨⟨r0, r1⟩, f0, f1⟩ := R5.out.later (by omega) hb7
  have B7 := Lib.hid (B5.out.trans (hb7.mono B5.out.size))
  have s7 := hb7.size
  clear hb7 T5 R5 B5 t0 t1
  go_wp2
  exact bodyPost_ret (v := .agg #[.int .i64 s.1, .int .i64 s.2]) (by simp [results, Tryz.results129, go_sem, *]) rfl ⟨rfl, (B7.out.setCell (p := ⟨w.heap.size + 1 + 1, 0, none⟩) (by simp; omega) _).setCell (p := ⟨w.heap.size + 1 + 1, 1, none⟩) (by simp; omega) _⟩
def hexL (m : Nat) (z : E2) : List E2 := (List.range 6).map (hexC m z)
theorem hexL_get (m : Nat) (z : E2) {k : Nat} (hk : k < 6) : prG (hexL m z) k = hexC m z k := by
  unfold prG hexL
  rw [List.getD_eq_getElem?_getD, List.getElem?_map, List.getElem?_range hk]; rfl
theorem hexL_len (m : Nat) (z : E2) : (hexL m z).length = 6 := by unfold hexL; simp
theorem take_pr (l : List E2) {k : Nat} (h : k < l.length) : l.take (k + 1) = l.take k ++ [prG l k] := by
  rw [List.take_succ_eq_append_getElem h]
  unfold prG
  rw [List.getD_eq_getElem?_getD, List.getElem?_eq_getElem h]; rfl
set_option maxRecDepth 100000 in
set_option maxHeartbeats 4000000 in
theorem hex_in (z : E2) (hz : Sm 1073741824 z) (r : Nat) (hr : r ≤ 12) (w : World) :
    Calls Tryz.prog 116 #[vE z, .int .i64 r] w fun e w' => ∃ ao c, e = .returned (.tuple #[.slice ao 6 c, .bool true]) ∧ w'.ownsRow w.heap.size 24 2 (.slice ao 6 c) 6 (prV (hexL (12 - r) z)) ∧ Below w.heap.size w w' := by
  have hmf : ∀ (fn : Fn) (first cap : Array Value) (w : World), (Instr.makeFunc fn first cap).run Tryz.prog w = .ok (.func fn first cap) w := fun _ _ _ _ => rfl
  obtain ⟨i1, hi1, hy0, hy1, hy2⟩ := info_parts info_pt
  have HPL := Lib.hid (place_in z hz r hr 3 (.inr rfl))
  have hm : (12 : Int) - (r : Int) = ((12 - r : Nat) : Int) := by omega
  have hm12 : 12 - r ≤ 12 := by omega
  have HBE := Lib.hid (beta_in (12 - r) hm12)
  have h3 : Sm 3221225472 (3 * z.1, 3 * z.2) := by unfold Sm at hz ⊢; simp only; omega
  have HCO : Hid (∀ k, k < 6 → ∀ w, Calls Tryz.prog 129 #[.agg #[.int .i64 (midE (12 - r) z).1, .int .i64 (midE (12 - r) z).2, .int .i64 (bE (12 - r)).1, .int .i64 (bE (12 - r)).2], vE (kapE k)] w fun e w' => e = .returned (vE (prG (hexL (12 - r) z) k)) ∧ Below w.heap.size w w') := fun k hk w => by
    rw [hexL_get _ _ hk]
    exact hcorner_in _ _ _ (mid_sm hm12 h3) (bE_sm hm12) (kap_sm k) (mid_sm hm12 ((kap_sm k).mono (by decide))) w
  have HTK : Hid (∀ k, k < 6 → prV ((hexL (12 - r) z).take (k + 1)) = prV ((hexL (12 - r) z).take k) ++ [.int .i64 (prG (hexL (12 - r) z) k).1, .int .i64 (prG (hexL (12 - r) z) k).2]) := fun k hk => by
    rw [take_pr _ (by rw [hexL_len]; exact hk), prV_snoc]
  have HTE : Hid ((hexL (12 - r) z).take 6 = hexL (12 - r) z) := List.take_of_length_le (by rw [hexL_len]; exact Nat.le_refl _)
  rw [show mulE (bE (12 - r)) (3 * z.1, 3 * z.2) = midE (12 - r) z from rfl] at HPL
  generalize midE (12 - r) z = u at *
  generalize hexL (12 - r) z = L at *
  generalize bE (12 - r) = b at *
  generalize 12 - r = m at *
  obtain ⟨z1, z2⟩ := z
  simp only [vE] at *
  clear hz h3
  have T0 : Hid (Two (w.alloc (.cells #[.int .i64 z1, .int .i64 z2] 70)) w.heap.size (.int .i64 z1) (.int .i64 z2)) := Two.of_row (t := 70) (f := _) (heap_new _ _ _ rfl)
  have B0 : Hid (Below w.heap.size w (w.alloc (.cells #[.int .i64 z1, .int .i64 z2] 70))) := (Below.refl _ _).alloc (Nat.le_refl _) _
  have s0 : w.heap.size < (w.alloc (.cells #[.int .i64 z1, .int .i64 z2] 70)).heap.size := by simp
  go_enter Tryz.func116, Tryz.ntmps116
  go_upto_region 1 with (fail)
  generalize w.alloc (.cells #[.int .i64 z1, .int .i64 z2] 70) = w1 at *
  obtain ⟨t0, t1⟩ := T0.out
  go_wp2_with fail
  refine (HPL.out _).mono ?_
  rintro e w3 ⟨rfl, hb3⟩
  have K3 := hb3.alloc hb3.size (.cells #[.int .i64 u.1, .int .i64 u.2] 70)
  have B3 : Hid (Below w.heap.size w (w3.alloc (.cells #[.int .i64 u.1, .int .i64 u.2] 70))) := B0.out.trans (K3.mono B0.out.size)
  have T3 : Hid (Two (w3.alloc (.cells #[.int .i64 u.1, .int .i64 u.2] 70)) w3.heap.size (.int .i64 u.1) (.int .i64 u.2)) := Two.of_row (t := 70) (f := _) (heap_new _ _ _ rfl)
  have s3 : w3.heap.size < (w3.alloc (.cells #[.int .i64 u.1, .int .i64 u.2] 70)).heap.size := by simp
  clear hb3 K3 T0 B0 t0 t1
  go_upto_region 2 with (fail)
  generalize w3.alloc (.cells #[.int .i64 u.1, .int .i64 u.2] 70) = w4 at *
  go_wp2_with fail
  refine (HBE.out _).mono ?_
  rintro e w5 ⟨rfl, hb5⟩
  have K5 := hb5.alloc hb5.size (.cells #[.int .i64 b.1, .int .i64 b.2] 70)
  have B5 : Hid (Below w.heap.size w (w5.alloc (.cells #[.int .i64 b.1, .int .i64 b.2] 70))) := B3.out.trans (K5.mono B3.out.size)
  have U5 := Lib.hid (T3.out.later s3 K5)
  have T5 : Hid (Two (w5.alloc (.cells #[.int .i64 b.1, .int .i64 b.2] 70)) w5.heap.size (.int .i64 b.1) (.int .i64 b.2)) := Two.of_row (t := 70) (f := _) (heap_new _ _ _ rfl)
  have s5 : w3.heap.size < w5.heap.size ∧ w5.heap.size < (w5.alloc (.cells #[.int .i64 b.1, .int .i64 b.2] 70)).heap.size := ⟨by have := hb5.size; omega, by simp⟩
  clear hb5 K5 T3 B3
  go_upto_region 5 with (fail)
  generalize w5.alloc (.cells #[.int .i64 b.1, .int .i64 b.2] 70) = w6 at *
  obtain ⟨t0, t1⟩ := T5.out
  obtain ⟨u0, u1⟩ := U5.out
  go_wp2
  have hkl : (prV ((List.range 6).map kapE)).toArray = #[.int .i64 1, .int .i64 1, .int .i64 (-1), .int .i64 2, .int .i64 (-2), .int .i64 1, .int .i64 (-1), .int .i64 (-1), .int .i64 1, .int .i64 (-2), .int .i64 2, .int .i64 (-1)] := rfl
  have hka := prAt_new w6 ((List.range 6).map kapE) 70
  rw [hkl] at hka
  have K7 := (Below.refl w6.heap.size w6).alloc (Nat.le_refl _) (.cells #[.int .i64 1, .int .i64 1, .int .i64 (-1), .int .i64 2, .int .i64 (-2), .int .i64 1, .int .i64 (-1), .int .i64 (-1), .int .i64 1, .int .i64 (-2), .int .i64 2, .int .i64 (-1)] 70)
  have B7 := Lib.hid (B5.out.trans (K7.mono B5.out.size))
  have HKA := Lib.hid hka
  clear hka hkl K7 B5 T5 U5 t0 t1 u0 u1
  generalize w6.alloc (.cells #[.int .i64 1, .int .i64 1, .int .i64 (-1), .int .i64 2, .int .i64 (-2), .int .i64 1, .int .i64 (-1), .int .i64 (-1), .int .i64 1, .int .i64 (-2), .int .i64 2, .int .i64 (-1)] 70) = w7 at *
  have hs7 := B7.out.size
  have HKG : Hid (∀ k, k < 6 → prG ((List.range 6).map kapE) k = kapE k) := fun k hk => by
    unfold prG
    rw [List.getD_eq_getElem?_getD, List.getElem?_map, List.getElem?_range hk]; rfl
  go_loopw [11, 40] (fun ov iv wr => ∃ (k : Nat) (oo : Option Addr) (oc : Nat), k ≤ 6 ∧ iv = .int .i64 k ∧ ov = .slice oo k oc ∧ Hid (wr.ownsRow w7.heap.size 24 2 (.slice oo k oc) k (prV (L.take k)) ∧ Below w7.heap.size w7 wr)) (fun _ i _ => 6 - (intOf i).toNat)
  case atStart => exact ⟨0, none, 0, by omega, rfl, rfl, World.ownsRow_nil _ _ _ _, Below.refl _ _⟩
  case round =>
    obtain ⟨k, oo, oc, hk, rfl, rfl, HI⟩ := hrel
    obtain ⟨wo, rfl⟩ : ∃ wo, wo = wr := ⟨_, rfl⟩
    by_cases hlt : k < 6
    · have q1 : decide ((k : Int) < 6) = true := decide_eq_true (by omega)
      obtain ⟨g, off, hg0, hg, hc⟩ := (HKA.out.below HI.out.2) (by simp)
      cases hg0
      obtain ⟨c0, c1⟩ := hc k (by simpa using hlt)
      rw [HKG.out k hlt] at c0 c1
      rw [Nat.zero_add] at c0 c1
      have HCK := Lib.hid (HCO.out k hlt)
      have HTS := Lib.hid (HTK.out k hlt)
      generalize prG L k = x at *
      generalize kapE k = κ at *
      have hown := HI.out.1
      have hsz : w7.heap.size ≤ wo.heap.size := HI.out.2.size
      have KA := (Below.refl wo.heap.size wo).alloc (Nat.le_refl _) (.cells #[.int .i64 κ.1, .int .i64 κ.2] 70)
      have HOA := Lib.hid (own_later hown KA)
      have HBA := Lib.hid (HI.out.2.trans (KA.mono hsz))
      have HTA : Hid (Two (wo.alloc (.cells #[.int .i64 κ.1, .int .i64 κ.2] 70)) wo.heap.size (.int .i64 κ.1) (.int .i64 κ.2)) := Two.of_row (t := 70) (f := _) (heap_new _ _ _ rfl)
      have hsa : wo.heap.size < (wo.alloc (.cells #[.int .i64 κ.1, .int .i64 κ.2] 70)).heap.size := by simp
      clear HI hown KA hc
      go_upto_region 10 with (fail)
      generalize wo.alloc (.cells #[.int .i64 κ.1, .int .i64 κ.2] 70) = wa at *
      obtain ⟨t0, t1⟩ := HTA.out
      clear c0 c1 hg
      go_wp2_with fail
      refine (HCK.out _).mono ?_
      rintro e wb ⟨rfl, hbb⟩
      have hown := own_later HOA.out hbb
      have hbB := HBA.out.trans (hbb.mono HBA.out.size)
      have hsb : w7.heap.size ≤ wb.heap.size := hbB.size
      have HBB := Lib.hid hbB
      clear hbb HOA HBA HTA t0 t1 hbB
      go_wp2_with (at_builtin; refine wpList_append_own _ rfl (.tmp 44) (.tmp 48) 105 rfl w7.heap.size 24 i1 (.agg #[.int .i64 0, .int .i64 0]) 2 16 Tryz.underlying105 hi1 hy0 hy1 hy2 rfl (by decide) _ _ _ rfl (hown.alloc _) ⟨wb.heap.size, 0, none⟩ 1 1 [.int .i64 x.1, .int .i64 x.2] rfl rfl (cells_new _ _ _ _ rfl) (by simp [Value.oneCell']) (by unfold maxLen; omega) (by omega) (by simp; omega) ?_; intro v' w8 hown1 hgrow _)
      have HB8 : Hid (Below w7.heap.size w7 w8) := below_append (HBB.out.alloc hsb (.cells #[.int .i64 x.1, .int .i64 x.2] 24)) (hown.alloc (.cells #[.int .i64 x.1, .int .i64 x.2] 24)) (by simp; omega) hgrow
      obtain ⟨ao', c', rfl, _⟩ := own_form hown1
      have HO8 := Lib.hid hown1
      clear hown1 hgrow hown HBB
      go_wp2
      go_roundw
      case rel => exact ⟨k + 1, ao', c', by omega, by go_num, rfl, by rw [HTS.out]; exact HO8.out, HB8.out⟩
      case measure => simp [intOf]; omega
    · obtain rfl : k = 6 := by omega
      have hown := HI.out.1
      rw [HTE.out] at hown
      have HO := Lib.hid (own_base hown hs7)
      have HB := Lib.hid (B7.out.trans (HI.out.2.mono hs7))
      clear HI hown
      go_wp2
      go_ret2
      exact ⟨oo, oc, rfl, HO.out, HB.out⟩
end Go.Proofs.YtjimcjhgjfhbiaaGreat
/- Contracts of package cover: a box's corners, outside, beside, touches. -/
namespace Go.Proofs.YtjimcjhgjfhbiaaGreat
open Go.RowKit Go.Lib Wd

/-- No row parts a hexagon and a box. -/
def touchB (v : Nat → E2) (lo hi : E2) : Bool :=
  (((List.range 6).any fun k => decide (lo.1 ≤ (v k).1)) && ((List.range 6).any fun k => decide ((v k).1 ≤ hi.1))) &&
  ((((List.range 6).any fun k => decide (lo.2 ≤ (v k).2)) && ((List.range 6).any fun k => decide ((v k).2 ≤ hi.2))) &&
  (List.range 6).all fun k => (boxC lo hi).any fun c => decide (0 ≤ crossE (v k) (v ((k + 1) % 6)) c))
theorem touchB_iff (v : Nat → E2) (lo hi : E2) : touchB v lo hi = true ↔ TouchP v lo hi := by
  unfold touchB TouchP
  simp only [Bool.and_eq_true, List.any_eq_true, List.all_eq_true, List.mem_range, decide_eq_true_eq]
/-- A box as a value. -/
abbrev vB (lo hi : E2) : Value := .agg #[.int .i64 lo.1, .int .i64 lo.2, .int .i64 hi.1, .int .i64 hi.2]
/-- A box in a block. -/
def CBoxAt (w : World) (b : Nat) (lo hi : E2) : Prop := (w.cell? ⟨b, 0, none⟩ = some (.int .i64 lo.1) ∧ w.cell? ⟨b, 1, none⟩ = some (.int .i64 lo.2)) ∧ w.cell? ⟨b, 2, none⟩ = some (.int .i64 hi.1) ∧ w.cell? ⟨b, 3, none⟩ = some (.int .i64 hi.2)
theorem CBoxAt.later {w w' : World} {b : Nat} {lo hi : E2} (h : CBoxAt w b lo hi) (hb : b < w.heap.size) (h1 : Below w.heap.size w w') : CBoxAt w' b lo hi :=
  ⟨⟨(h1.cell (p := ⟨b, 0, none⟩) hb).trans h.1.1, (h1.cell (p := ⟨b, 1, none⟩) hb).trans h.1.2⟩, (h1.cell (p := ⟨b, 2, none⟩) hb).trans h.2.1, (h1.cell (p := ⟨b, 3, none⟩) hb).trans h.2.2⟩
theorem CBoxAt.of_row {w : World} {b : Nat} {lo hi : E2} {t : TypeId} {f} (h : w.heap[b]? = some (.cells #[.int .i64 lo.1, .int .i64 lo.2, .int .i64 hi.1, .int .i64 hi.2] t f)) : CBoxAt w b lo hi :=
  ⟨⟨cell_of_row _ _ 0 _ _ _ h, cell_of_row _ _ 1 _ _ _ h⟩, cell_of_row _ _ 2 _ _ _ h, cell_of_row _ _ 3 _ _ _ h⟩
set_option maxRecDepth 100000 in
set_option maxHeartbeats 4000000 in
theorem corners_any (lo hi : E2) (w : World) :
    Calls Tryz.prog 139 #[vB lo hi] w fun e w' => ∃ b, e = .returned (.slice (some ⟨b, 0, none⟩) 4 4) ∧ PrAt w' (some ⟨b, 0, none⟩) (boxC lo hi) ∧ Below w.heap.size w w' := by
  obtain ⟨l1, l2⟩ := lo
  obtain ⟨h1, h2⟩ := hi
  simp only [vB]
  have T0 : Hid (CBoxAt (w.alloc (.cells #[.int .i64 l1, .int .i64 l2, .int .i64 h1, .int .i64 h2] 163)) w.heap.size (l1, l2) (h1, h2)) := CBoxAt.of_row (t := 163) (f := _) (heap_new _ _ _ rfl)
  have B0 : Hid (Below w.heap.size w (w.alloc (.cells #[.int .i64 l1, .int .i64 l2, .int .i64 h1, .int .i64 h2] 163))) := (Below.refl _ _).alloc (Nat.le_refl _) _
  go_enter Tryz.func139, Tryz.ntmps139
  go_upto_region 1 with (fail)
  have s0 : w.heap.size < (w.alloc (.cells #[.int .i64 l1, .int .i64 l2, .int .i64 h1, .int .i64 h2] 163)).heap.size := by simp
  generalize w.alloc (.cells #[.int .i64 l1, .int .i64 l2, .int .i64 h1, .int .i64 h2] 163) = w1 at *
  obtain ⟨⟨t0, t1⟩, t2, t3⟩ := T0.out
  have HN := Lib.hid (prAt_new w1 (boxC (l1, l2) (h1, h2)) 24)
  rw [show (prV (boxC (l1, l2) (h1, h2))).toArray = #[.int .i64 l1, .int .i64 l2, .int .i64 h1, .int .i64 l2, .int .i64 h1, .int .i64 h2, .int .i64 l1, .int .i64 h2] from rfl] at HN
  have HB := Lib.hid (B0.out.alloc B0.out.size (.cells #[.int .i64 l1, .int .i64 l2, .int .i64 h1, .int .i64 l2, .int .i64 h1, .int .i64 h2, .int .i64 l1, .int .i64 h2] 24))
  clear T0 B0
  go_wp2
  go_ret
  exact ⟨_, rfl, HN.out, HB.out⟩
theorem mul_bd {a b A B : Int} (ha : -A ≤ a ∧ a ≤ A) (hb : -B ≤ b ∧ b ≤ B) : -(A * B) ≤ a * b ∧ a * b ≤ A * B := by
  have h1 : (a * b).natAbs ≤ A.toNat * B.toNat := by rw [Int.natAbs_mul]; exact Nat.mul_le_mul (by omega) (by omega)
  have h2 : ((A.toNat * B.toNat : Nat) : Int) = A * B := by rw [Int.natCast_mul, Int.toNat_of_nonneg (by omega), Int.toNat_of_nonneg (by omega)]
  omega
theorem boxC_sm {lo hi : E2} {h : Int} (h1 : Sm h lo) (h2 : Sm h hi) {k : Nat} (hk : k < 4) : Sm h (prG (boxC lo hi) k) := by
  unfold Sm at *
  rcases (show k = 0 ∨ k = 1 ∨ k = 2 ∨ k = 3 by omega) with rfl | rfl | rfl | rfl
  · exact h1
  · exact ⟨h2.1, h2.2.1, h1.2.2.1, h1.2.2.2⟩
  · exact h2
  · exact ⟨h1.1, h1.2.1, h2.2.2.1, h2.2.2.2⟩
theorem any_four (lo hi : E2) (f : E2 → Bool) : (boxC lo hi).any f = true ↔ ∃ k, k < 4 ∧ f (prG (boxC lo hi) k) = true := by
  rw [List.any_eq_true]
  constructor
  · rintro ⟨c, hc, h⟩
    obtain ⟨i, hi, rfl⟩ := List.getElem_of_mem hc
    refine ⟨i, by simpa [boxC] using hi, ?_⟩
    unfold prG
    rw [List.getD_eq_getElem?_getD, List.getElem?_eq_getElem hi]; exact h
  · rintro ⟨k, hk, h⟩
    refine ⟨prG (boxC lo hi) k, ?_, h⟩
    unfold prG
    rw [List.getD_eq_getElem?_getD, List.getElem?_eq_getElem (by simpa [boxC] using hk)]; exact List.getElem_mem _
set_option maxRecDepth 100000 in
set_option maxHeartbeats 4000000 in
theorem outside_any (lo hi p q : E2) (hlo : Sm 10000000000 lo) (hhi : Sm 10000000000 hi) (hp : Sm 100000000000 p) (hq : Sm 16777216 (subE q p)) (w : World) :
    Calls Tryz.prog 131 #[vB lo hi, vE p, vE q] w fun e w' => e = .returned (.bool (!(boxC lo hi).any fun c => decide (0 ≤ crossE p q c))) ∧ Below w.heap.size w w' := by
  have HCO := Lib.hid (corners_any lo hi)
  have HK : Hid (∀ k, k < 4 → Sm 10000000000 (prG (boxC lo hi) k)) := fun k hk => boxC_sm hlo hhi hk
  have HYES : Hid (∀ k, k < 4 → 0 ≤ crossE p q (prG (boxC lo hi) k) → (!(boxC lo hi).any fun c => decide (0 ≤ crossE p q c)) = false) := fun k hk h => by
    rw [Bool.not_eq_false', any_four]; exact ⟨k, hk, decide_eq_true h⟩
  have HNO : Hid ((∀ k, k < 4 → crossE p q (prG (boxC lo hi) k) < 0) → (!(boxC lo hi).any fun c => decide (0 ≤ crossE p q c)) = true) := fun h => by
    rw [Bool.not_eq_true', Bool.eq_false_iff]
    intro hh
    obtain ⟨k, hk, h2⟩ := (any_four _ _ _).1 hh
    have := h k hk
    have := of_decide_eq_true h2
    omega
  obtain ⟨X, hX⟩ : ∃ X, (!(boxC lo hi).any fun c => decide (0 ≤ crossE p q c)) = X := ⟨_, rfl⟩
  rw [hX] at HYES HNO ⊢
  obtain ⟨p1, p2⟩ := p
  obtain ⟨q1, q2⟩ := q
  obtain ⟨l1, l2⟩ := lo
  obtain ⟨h1, h2⟩ := hi
  have hcl : (boxC (l1, l2) (h1, h2)).length = 4 := rfl
  have HCL := Lib.hid hcl
  generalize boxC (l1, l2) (h1, h2) = C at *
  simp only [vB, vE] at *
  unfold Sm subE at *
  simp only at hp hq
  clear hX hlo hhi hcl
  have T0 : Hid (CBoxAt (((w.alloc (.cells #[.int .i64 l1, .int .i64 l2, .int .i64 h1, .int .i64 h2] 163)).alloc (.cells #[.int .i64 p1, .int .i64 p2] 24)).alloc (.cells #[.int .i64 q1, .int .i64 q2] 24)) w.heap.size (l1, l2) (h1, h2)) := (CBoxAt.of_row (t := 163) (f := _) (heap_new _ _ _ rfl)).later (by simp) (((Below.refl _ _).alloc (Nat.le_refl _) _).alloc (by simp) _)
  have P0 : Hid (Two (((w.alloc (.cells #[.int .i64 l1, .int .i64 l2, .int .i64 h1, .int .i64 h2] 163)).alloc (.cells #[.int .i64 p1, .int .i64 p2] 24)).alloc (.cells #[.int .i64 q1, .int .i64 q2] 24)) (w.heap.size + 1) (.int .i64 p1) (.int .i64 p2)) := (Two.of_row (t := 24) (f := _) (heap_new _ _ _ (by simp))).later (by simp) ((Below.refl _ _).alloc (Nat.le_refl _) _)
  have Q0 : Hid (Two (((w.alloc (.cells #[.int .i64 l1, .int .i64 l2, .int .i64 h1, .int .i64 h2] 163)).alloc (.cells #[.int .i64 p1, .int .i64 p2] 24)).alloc (.cells #[.int .i64 q1, .int .i64 q2] 24)) (w.heap.size + 1 + 1) (.int .i64 q1) (.int .i64 q2)) := Two.of_row (t := 24) (f := _) (heap_new _ _ _ (by simp))
  have B0 : Hid (Below w.heap.size w (((w.alloc (.cells #[.int .i64 l1, .int .i64 l2, .int .i64 h1, .int .i64 h2] 163)).alloc (.cells #[.int .i64 p1, .int .i64 p2] 24)).alloc (.cells #[.int .i64 q1, .int .i64 q2] 24))) := (((Below.refl w.heap.size w).alloc (Nat.le_refl _) _).alloc (by simp) _).alloc (by simp; omega) _
  have s0 : w.heap.size + 3 ≤ (((w.alloc (.cells #[.int .i64 l1, .int .i64 l2, .int .i64 h1, .int .i64 h2] 163)).alloc (.cells #[.int .i64 p1, .int .i64 p2] 24)).alloc (.cells #[.int .i64 q1, .int .i64 q2] 24)).heap.size := by simp
  go_enter Tryz.func131, Tryz.ntmps131
  go_upto_region 1 with (fail)
  generalize ((w.alloc (.cells #[.int .i64 l1, .int .i64 l2, .int .i64 h1, .int .i64 h2] 163)).alloc (.cells #[.int .i64 p1, .int .i64 p2] 24)).alloc (.cells #[.int .i64 q1, .int .i64 q2] 24) = w1 at *
  obtain ⟨⟨t0, t1⟩, t2, t3⟩ := T0.out
  go_wp2_with fail
  refine (HCO.out _).mono ?_
  rintro e w3 ⟨g, rfl, hc, hb⟩
  have HC := Lib.hid hc
  have P3 := Lib.hid (P0.out.later (by omega) hb)
  have Q3 := Lib.hid (Q0.out.later (by omega) hb)
  have B3 := Lib.hid (B0.out.trans (hb.mono B0.out.size))
  have hs3 : w.heap.size + 3 ≤ w3.heap.size := by have := hb.size; omega
  clear hc hb P0 Q0 T0 B0 t0 t1 t2 t3
  go_wp2
  go_loopw [12] (fun iv wr => ∃ (k : Nat), k ≤ 4 ∧ iv = .int .i64 k ∧ Hid ((∀ j, j < k → crossE (p1, p2) (q1, q2) (prG C j) < 0) ∧ Below w3.heap.size w3 wr)) (fun i _ => 4 - (intOf i).toNat)
  case atStart => exact ⟨0, by omega, rfl, fun j hj => by omega, Below.refl _ _⟩
  case round =>
    obtain ⟨k, hk, rfl, HI⟩ := hrel
    obtain ⟨wo, rfl⟩ : ∃ wo, wo = wr := ⟨_, rfl⟩
    by_cases hlt : k < 4
    · have r1 : decide ((k : Int) < 4) = true := decide_eq_true (by omega)
      obtain ⟨g', off, e, hg, hcc⟩ := (HC.out.below HI.out.2) (by rw [HCL.out]; omega)
      cases e
      obtain ⟨c0, c1⟩ := hcc k (by rw [HCL.out]; exact hlt)
      rw [Nat.zero_add] at c0 c1
      have hks := HK.out k hlt
      have HY := Lib.hid (HYES.out k hlt)
      have HA : Hid (crossE (p1, p2) (q1, q2) (prG C k) < 0 → ∀ j, j < k + 1 → crossE (p1, p2) (q1, q2) (prG C j) < 0) := fun h j hj => by
        by_cases e : j = k
        · rw [e]; exact h
        · exact HI.out.1 j (by omega)
      generalize prG C k = c at *
      obtain ⟨cx, cy⟩ := c
      simp only at c0 c1 hks
      unfold crossE at HY HA
      simp only at HY HA
      have m1 := mul_bd (a := q1 - p1) (b := cy - p2) (A := 16777216) (B := 110000000000) (by omega) (by omega)
      have m2 := mul_bd (a := q2 - p2) (b := cx - p1) (A := 16777216) (B := 110000000000) (by omega) (by omega)
      obtain ⟨⟨m1a, m1b⟩, m2a, m2b⟩ := And.intro m1 m2
      simp only [Int.reduceMul] at m1a m1b m2a m2b
      have KA := (Below.refl wo.heap.size wo).alloc (Nat.le_refl _) (.cells #[.int .i64 cx, .int .i64 cy] 24)
      have HB2 := Lib.hid (HI.out.2.trans (KA.mono HI.out.2.size))
      have PA := Lib.hid (P3.out.later (by omega) HB2.out)
      have QA := Lib.hid (Q3.out.later (by omega) HB2.out)
      have CA : Hid (Two (wo.alloc (.cells #[.int .i64 cx, .int .i64 cy] 24)) wo.heap.size (.int .i64 cx) (.int .i64 cy)) := Two.of_row (t := 24) (f := _) (heap_new _ _ _ rfl)
      have hsa : wo.heap.size < (wo.alloc (.cells #[.int .i64 cx, .int .i64 cy] 24)).heap.size ∧ w3.heap.size ≤ wo.heap.size := ⟨by simp, HI.out.2.size⟩
      clear hcc HI m1 m2 KA
      go_upto_region 4 with (fail)
      generalize wo.alloc (.cells #[.int .i64 cx, .int .i64 cy] 24) = wa at *
      obtain ⟨p0, p1'⟩ := PA.out
      obtain ⟨q0, q1'⟩ := QA.out
      obtain ⟨a0, a1⟩ := CA.out
      obtain ⟨hp1, hp2, hp3, hp4⟩ := hp
      obtain ⟨hq1, hq2, hq3, hq4⟩ := hq
      obtain ⟨hk1, hk2, hk3, hk4⟩ := hks
      clear c0 c1 hg PA QA CA
      by_cases h0 : 0 ≤ (q1 - p1) * (cy - p2) - (q2 - p2) * (cx - p1)
      · have r2 : decide (0 ≤ (q1 - p1) * (cy - p2) - (q2 - p2) * (cx - p1)) = true := decide_eq_true h0
        have HX := Lib.hid (HY.out h0)
        have HF := Lib.hid (B3.out.trans (HB2.out.mono B3.out.size))
        clear HY HA
        go_wp2
        go_ret
        rw [HX.out]
        exact ⟨rfl, HF.out⟩
      · have r2 : decide (0 ≤ (q1 - p1) * (cy - p2) - (q2 - p2) * (cx - p1)) = false := decide_eq_false h0
        have HA2 := Lib.hid (HA.out (by omega))
        clear HY HA
        go_wp2
        go_roundw
        case rel => exact ⟨k + 1, by omega, by go_num, HA2.out, HB2.out⟩
        case measure => simp [intOf]; omega
    · obtain rfl : k = 4 := by omega
      have HX := Lib.hid (HNO.out HI.out.1)
      have HF := Lib.hid (B3.out.trans (HI.out.2.mono B3.out.size))
      clear HI
      go_wp2
      go_ret
      rw [HX.out]
      exact ⟨rfl, HF.out⟩
/-- One of two numbers. -/
def axG (p : E2) (i : Nat) : Int := if i = 0 then p.1 else p.2
/-- All of a ring lies beside a box. -/
def besB (l : List E2) (lo hi : E2) : Bool :=
  !(((l.any fun p => decide (lo.1 ≤ p.1)) && (l.any fun p => decide (p.1 ≤ hi.1))) && ((l.any fun p => decide (lo.2 ≤ p.2)) && (l.any fun p => decide (p.2 ≤ hi.2))))
theorem any_pr (l : List E2) (f : E2 → Bool) : l.any f = true ↔ ∃ k, k < l.length ∧ f (prG l k) = true := by
  rw [List.any_eq_true]
  constructor
  · rintro ⟨c, hc, h⟩
    obtain ⟨i, hi, rfl⟩ := List.getElem_of_mem hc
    refine ⟨i, hi, ?_⟩
    unfold prG
    rw [List.getD_eq_getElem?_getD, List.getElem?_eq_getElem hi]; exact h
  · rintro ⟨k, hk, h⟩
    refine ⟨prG l k, ?_, h⟩
    unfold prG
    rw [List.getD_eq_getElem?_getD, List.getElem?_eq_getElem hk]; exact List.getElem_mem _
theorem besB_no (l : List E2) (lo hi : E2) (h : ∀ i, i < 2 → (∃ k, k < l.length ∧ axG lo i ≤ axG (prG l k) i) ∧ ∃ k, k < l.length ∧ axG (prG l k) i ≤ axG hi i) : besB l lo hi = false := by
  unfold besB
  rw [Bool.not_eq_false', Bool.and_eq_true, Bool.and_eq_true, Bool.and_eq_true, any_pr, any_pr, any_pr, any_pr]
  simp only [decide_eq_true_eq]
  exact ⟨h 0 (by decide), h 1 (by decide)⟩
theorem besB_yes (l : List E2) (lo hi : E2) {i : Nat} (hi2 : i < 2) (h : (∀ k, k < l.length → axG (prG l k) i < axG lo i) ∨ (∀ k, k < l.length → axG hi i < axG (prG l k) i)) : besB l lo hi = true := by
  rw [← Bool.not_eq_false]
  intro hf
  unfold besB at hf
  rw [Bool.not_eq_false', Bool.and_eq_true, Bool.and_eq_true, Bool.and_eq_true, any_pr, any_pr, any_pr, any_pr] at hf
  simp only [decide_eq_true_eq] at hf
  rcases (show i = 0 ∨ i = 1 by omega) with rfl | rfl
  · rcases h with h | h
    · obtain ⟨k, hk, h2⟩ := hf.1.1; have := h k hk; simp only [axG] at this; simp at this; omega
    · obtain ⟨k, hk, h2⟩ := hf.1.2; have := h k hk; simp only [axG] at this; simp at this; omega
  · rcases h with h | h
    · obtain ⟨k, hk, h2⟩ := hf.2.1; have := h k hk; simp only [axG] at this; simp at this; omega
    · obtain ⟨k, hk, h2⟩ := hf.2.2; have := h k hk; simp only [axG] at this; simp at this; omega
set_option maxRecDepth 100000 in
set_option maxHeartbeats 8000000 in
theorem beside_any (ao : Option Addr) (c : Nat) (l : List E2) (lo hi : E2) (w : World) (h : PrAt w ao l) (hl : l.length = 6) :
    Calls Tryz.prog 130 #[vB lo hi, .slice ao 6 c] w fun e w' => e = .returned (.bool (besB l lo hi)) ∧ Below w.heap.size w w' := by
  have HYES : Hid (∀ i, i < 2 → ((∀ k, k < 6 → axG (prG l k) i < axG lo i) ∨ (∀ k, k < 6 → axG hi i < axG (prG l k) i)) → besB l lo hi = true) := fun i hi2 hh => besB_yes l lo hi hi2 (by rw [hl]; exact hh)
  have HNO : Hid ((∀ i, i < 2 → (∃ k, k < 6 ∧ axG lo i ≤ axG (prG l k) i) ∧ ∃ k, k < 6 ∧ axG (prG l k) i ≤ axG hi i) → besB l lo hi = false) := fun hh => besB_no l lo hi (by rw [hl]; exact hh)
  generalize besB l lo hi = X at *
  have HR := Lib.hid h
  have HL := Lib.hid hl
  clear h hl
  have HB0 : Hid (Below w.heap.size w (w.alloc (.cells #[.int .i64 lo.1, .int .i64 lo.2, .int .i64 hi.1, .int .i64 hi.2] 163))) := (Below.refl _ _).alloc (Nat.le_refl _) _
  have HT0 : Hid (CBoxAt (w.alloc (.cells #[.int .i64 lo.1, .int .i64 lo.2, .int .i64 hi.1, .int .i64 hi.2] 163)) w.heap.size lo hi) := CBoxAt.of_row (t := 163) (f := _) (heap_new _ _ _ rfl)
  have s0 : w.heap.size < (w.alloc (.cells #[.int .i64 lo.1, .int .i64 lo.2, .int .i64 hi.1, .int .i64 hi.2] 163)).heap.size := by simp
  simp only [vB]
  go_enter Tryz.func130, Tryz.ntmps130
  go_upto_region 1 with (fail)
  generalize w.alloc (.cells #[.int .i64 lo.1, .int .i64 lo.2, .int .i64 hi.1, .int .i64 hi.2] 163) = w1 at *
  go_wp2
  go_loopw [10] (fun iv wr => ∃ (i : Nat), i ≤ 2 ∧ iv = .int .i64 i ∧ Hid ((∀ j, j < i → (∃ k, k < 6 ∧ axG lo j ≤ axG (prG l k) j) ∧ ∃ k, k < 6 ∧ axG (prG l k) j ≤ axG hi j) ∧ Below w1.heap.size w1 wr)) (fun i _ => 2 - (intOf i).toNat)
  case atStart => exact ⟨0, by omega, rfl, fun j hj => by omega, Below.refl _ _⟩
  case round =>
    obtain ⟨i, hi2, rfl, HI⟩ := hrel
    obtain ⟨wo, rfl⟩ : ∃ wo, wo = wr := ⟨_, rfl⟩
    have hso := HI.out.2.size
    by_cases hlt : i < 2
    · obtain ⟨b, off, rfl, hb, hc⟩ := HR.out (by rw [HL.out]; omega)
      have HCC : Hid (∀ wx, Below w1.heap.size w1 wx → ∀ k, k < 6 → wx.cell? ⟨b, off + k * 2, none⟩ = some (.int .i64 (prG l k).1) ∧ wx.cell? ⟨b, off + k * 2 + 1, none⟩ = some (.int .i64 (prG l k).2)) := fun wx hx k hk => by
        have hB := HB0.out.trans (hx.mono HB0.out.size)
        obtain ⟨k0, k1⟩ := hc k (by rw [HL.out]; exact hk)
        exact ⟨(hB.cell (p := ⟨b, _, none⟩) hb).trans k0, (hB.cell (p := ⟨b, _, none⟩) hb).trans k1⟩
      obtain ⟨c0, c1⟩ := HCC.out wo HI.out.2 0 (by omega)
      have hbo : b < wo.heap.size := by omega
      clear hc
      rw [Nat.zero_mul, Nat.add_zero] at c0 c1
      have BD : Hid (Below w1.heap.size w1 wo.drew) := HI.out.2.drew
      have HP := Lib.hid HI.out.1
      clear HI
      rcases (show i = 0 ∨ i = 1 by omega) with rfl | rfl
      · have c9 : wo.cell? ⟨b, off, none⟩ = some (.int .i64 (axG (prG l 0) 0)) := by exact c0
        clear c0 c1
        go_upto_region 4 with (fail)
        go_wp2_with (first | (with_reducible refine wp_region_lex (by kernel_rfl) (by kernel_rfl) ?_) | (with_reducible refine OnlyG.intro (by kernel_rfl) ?_))
        have A0 : Hid (∃ j, j < 6 ∧ axG (prG l 0) 0 = axG (prG l j) 0) := ⟨0, by omega, rfl⟩
        generalize axG (prG l 0) 0 = z0 at *
        clear c9
        generalize wo.drew = wd at *
        have hbd : b < wd.heap.size := by have := BD.out.size; omega
        go_loopw [6, 7, 25] (fun av zv kv wy => ∃ (k : Nat) (a z : Int), k ≤ 6 ∧ av = .int .i64 a ∧ zv = .int .i64 z ∧ kv = .int .i64 k ∧ Hid ((∃ j, j < 6 ∧ a = axG (prG l j) 0) ∧ (∀ j, j < k → a ≤ axG (prG l j) 0) ∧ (∃ j, j < 6 ∧ z = axG (prG l j) 0) ∧ (∀ j, j < k → axG (prG l j) 0 ≤ z)) ∧ Hid (Below w1.heap.size w1 wy)) (fun _ _ k _ => 6 - (intOf k).toNat)
        case atStart => exact ⟨0, z0, z0, by omega, rfl, rfl, rfl, ⟨A0.out, fun j hj => by omega, A0.out, fun j hj => by omega⟩, BD.out⟩
        case round =>
          obtain ⟨k, a, z, hk, rfl, rfl, rfl, HA, HJ⟩ := hrel
          obtain ⟨wy, rfl⟩ : ∃ wy, wy = wr := ⟨_, rfl⟩
          have hsy := HJ.out.size
          by_cases hlt2 : k < 6
          · have p1 : decide ((k : Int) < 6) = true := decide_eq_true (by omega)
            obtain ⟨d0, d1⟩ := HCC.out wy HJ.out k hlt2
            have hby : b < wy.heap.size := by have := HB0.out.size; omega
            have HA2 : Hid ((∃ j, j < 6 ∧ min a (axG (prG l k) 0) = axG (prG l j) 0) ∧ (∀ j, j < k + 1 → min a (axG (prG l k) 0) ≤ axG (prG l j) 0) ∧ (∃ j, j < 6 ∧ max z (axG (prG l k) 0) = axG (prG l j) 0) ∧ (∀ j, j < k + 1 → axG (prG l j) 0 ≤ max z (axG (prG l k) 0))) := by
              obtain ⟨⟨j1, h1, e1⟩, h2, ⟨j3, h3, e3⟩, h4⟩ := HA.out
              refine ⟨?_, fun j hj => ?_, ?_, fun j hj => ?_⟩
              · by_cases hc : a ≤ axG (prG l k) 0
                · exact ⟨j1, h1, by omega⟩
                · exact ⟨k, hlt2, by omega⟩
              · by_cases e : j = k
                · rw [e]; omega
                · have := h2 j (by omega); omega
              · by_cases hc : axG (prG l k) 0 ≤ z
                · exact ⟨j3, h3, by omega⟩
                · exact ⟨k, hlt2, by omega⟩
              · by_cases e : j = k
                · rw [e]; omega
                · have := h4 j (by omega); omega
            have hax : axG (prG l k) 0 = (prG l k).1 := rfl
            rw [hax] at HA2
            generalize prG l k = y at *
            obtain ⟨y1, y2⟩ := y
            simp only at d0 d1 HA2
            have KA := (Below.refl wy.heap.size wy).alloc (Nat.le_refl _) (.cells #[.int .i64 y1, .int .i64 y2] 24)
            have HJ2 := Lib.hid (HJ.out.trans (KA.mono hsy))
            have CA : Hid (Two (wy.alloc (.cells #[.int .i64 y1, .int .i64 y2] 24)) wy.heap.size (.int .i64 y1) (.int .i64 y2)) := Two.of_row (t := 24) (f := _) (heap_new _ _ _ rfl)
            have hsa : wy.heap.size < (wy.alloc (.cells #[.int .i64 y1, .int .i64 y2] 24)).heap.size := by simp
            clear KA HA hax
            go_upto_region 8 with (fail)
            generalize wy.alloc (.cells #[.int .i64 y1, .int .i64 y2] 24) = wa at *
            obtain ⟨a0, a1⟩ := CA.out
            have HJ3 : Hid (Below w1.heap.size w1 wa.drew) := HJ2.out.drew
            clear d0 d1
            go_region
            go_wp2
            (try rw [imin_c, imax_c])
            go_roundw
            case rel => exact ⟨k + 1, _, _, by omega, rfl, rfl, by go_num, HA2.out, HJ3.out⟩
            case measure => simp [intOf]; omega
          · obtain rfl : k = 6 := by omega
            have p1 : decide (((6 : Nat) : Int) < 6) = false := by decide
            obtain ⟨⟨t0, t1⟩, t2, t3⟩ := HT0.out.later s0 HJ.out
            have HF := Lib.hid (HB0.out.trans (HJ.out.mono HB0.out.size))
            obtain ⟨h1, h2, h3, h4⟩ := HA.out
            have e0 : axG lo 0 = lo.1 := rfl
            have e1 : axG hi 0 = hi.1 := rfl
            by_cases hc1 : z < lo.1
            · have p2 : decide (z < lo.1) = true := decide_eq_true hc1
              have HX := Lib.hid (HYES.out 0 (by decide) (.inl fun j hj => by have := h4 j hj; rw [e0]; omega))
              clear h1 h2 h3 h4 HA HYES HNO HP
              go_wp2
              go_ret
              rw [HX.out]
              exact ⟨rfl, HF.out⟩
            · have p2 : decide (z < lo.1) = false := decide_eq_false hc1
              by_cases hc2 : hi.1 < a
              · have p3 : decide (hi.1 < a) = true := decide_eq_true hc2
                have HX := Lib.hid (HYES.out 0 (by decide) (.inr fun j hj => by have := h2 j hj; rw [e1]; omega))
                clear h1 h2 h3 h4 HA HYES HNO HP
                go_wp2
                go_ret
                rw [HX.out]
                exact ⟨rfl, HF.out⟩
              · have p3 : decide (hi.1 < a) = false := decide_eq_false hc2
                have HP2 : Hid (∀ j, j < 0 + 1 → (∃ k, k < 6 ∧ axG lo j ≤ axG (prG l k) j) ∧ ∃ k, k < 6 ∧ axG (prG l k) j ≤ axG hi j) := fun j hj => by
                  by_cases e : j = 0
                  · subst e
                    obtain ⟨j1, g1, f1⟩ := h1
                    obtain ⟨j3, g3, f3⟩ := h3
                    exact ⟨⟨j3, g3, by rw [← f3, e0]; omega⟩, j1, g1, by rw [← f1, e1]; omega⟩
                  · exact HP.out j (by omega)
                have HJE := HJ
                clear h1 h2 h3 h4 HA HP e0 e1
                go_wp2
                go_roundw
                case rel => exact ⟨0 + 1, by omega, by go_num, HP2.out, HJE.out⟩
                case measure => simp [intOf]
      · have c9 : wo.cell? ⟨b, off + 1, none⟩ = some (.int .i64 (axG (prG l 0) 1)) := by exact c1
        clear c0 c1
        go_upto_region 4 with (fail)
        go_wp2_with (first | (with_reducible refine wp_region_lex (by kernel_rfl) (by kernel_rfl) ?_) | (with_reducible refine OnlyG.intro (by kernel_rfl) ?_))
        have A0 : Hid (∃ j, j < 6 ∧ axG (prG l 0) 1 = axG (prG l j) 1) := ⟨0, by omega, rfl⟩
        generalize axG (prG l 0) 1 = z0 at *
        clear c9
        generalize wo.drew = wd at *
        have hbd : b < wd.heap.size := by have := BD.out.size; omega
        go_loopw [6, 7, 25] (fun av zv kv wy => ∃ (k : Nat) (a z : Int), k ≤ 6 ∧ av = .int .i64 a ∧ zv = .int .i64 z ∧ kv = .int .i64 k ∧ Hid ((∃ j, j < 6 ∧ a = axG (prG l j) 1) ∧ (∀ j, j < k → a ≤ axG (prG l j) 1) ∧ (∃ j, j < 6 ∧ z = axG (prG l j) 1) ∧ (∀ j, j < k → axG (prG l j) 1 ≤ z)) ∧ Hid (Below w1.heap.size w1 wy)) (fun _ _ k _ => 6 - (intOf k).toNat)
        case atStart => exact ⟨0, z0, z0, by omega, rfl, rfl, rfl, ⟨A0.out, fun j hj => by omega, A0.out, fun j hj => by omega⟩, BD.out⟩
        case round =>
          obtain ⟨k, a, z, hk, rfl, rfl, rfl, HA, HJ⟩ := hrel
          obtain ⟨wy, rfl⟩ : ∃ wy, wy = wr := ⟨_, rfl⟩
          have hsy := HJ.out.size
          by_cases hlt2 : k < 6
          · have p1 : decide ((k : Int) < 6) = true := decide_eq_true (by omega)
            obtain ⟨d0, d1⟩ := HCC.out wy HJ.out k hlt2
            have hby : b < wy.heap.size := by have := HB0.out.size; omega
            have HA2 : Hid ((∃ j, j < 6 ∧ min a (axG (prG l k) 1) = axG (prG l j) 1) ∧ (∀ j, j < k + 1 → min a (axG (prG l k) 1) ≤ axG (prG l j) 1) ∧ (∃ j, j < 6 ∧ max z (axG (prG l k) 1) = axG (prG l j) 1) ∧ (∀ j, j < k + 1 → axG (prG l j) 1 ≤ max z (axG (prG l k) 1))) := by
              obtain ⟨⟨j1, h1, e1⟩, h2, ⟨j3, h3, e3⟩, h4⟩ := HA.out
              refine ⟨?_, fun j hj => ?_, ?_, fun j hj => ?_⟩
              · by_cases hc : a ≤ axG (prG l k) 1
                · exact ⟨j1, h1, by omega⟩
                · exact ⟨k, hlt2, by omega⟩
              · by_cases e : j = k
                · rw [e]; omega
                · have := h2 j (by omega); omega
              · by_cases hc : axG (prG l k) 1 ≤ z
                · exact ⟨j3, h3, by omega⟩
                · exact ⟨k, hlt2, by omega⟩
              · by_cases e : j = k
                · rw [e]; omega
                · have := h4 j (by omega); omega
            have hax : axG (prG l k) 1 = (prG l k).2 := rfl
            rw [hax] at HA2
            generalize prG l k = y at *
            obtain ⟨y1, y2⟩ := y
            simp only at d0 d1 HA2
            have KA := (Below.refl wy.heap.size wy).alloc (Nat.le_refl _) (.cells #[.int .i64 y1, .int .i64 y2] 24)
            have HJ2 := Lib.hid (HJ.out.trans (KA.mono hsy))
            have CA : Hid (Two (wy.alloc (.cells #[.int .i64 y1, .int .i64 y2] 24)) wy.heap.size (.int .i64 y1) (.int .i64 y2)) := Two.of_row (t := 24) (f := _) (heap_new _ _ _ rfl)
            have hsa : wy.heap.size < (wy.alloc (.cells #[.int .i64 y1, .int .i64 y2] 24)).heap.size := by simp
            clear KA HA hax
            go_upto_region 8 with (fail)
            generalize wy.alloc (.cells #[.int .i64 y1, .int .i64 y2] 24) = wa at *
            obtain ⟨a0, a1⟩ := CA.out
            have HJ3 : Hid (Below w1.heap.size w1 wa.drew) := HJ2.out.drew
            clear d0 d1
            go_region
            go_wp2
            (try rw [imin_c, imax_c])
            go_roundw
            case rel => exact ⟨k + 1, _, _, by omega, rfl, rfl, by go_num, HA2.out, HJ3.out⟩
            case measure => simp [intOf]; omega
          · obtain rfl : k = 6 := by omega
            have p1 : decide (((6 : Nat) : Int) < 6) = false := by decide
            obtain ⟨⟨t0, t1⟩, t2, t3⟩ := HT0.out.later s0 HJ.out
            have HF := Lib.hid (HB0.out.trans (HJ.out.mono HB0.out.size))
            obtain ⟨h1, h2, h3, h4⟩ := HA.out
            have e0 : axG lo 1 = lo.2 := rfl
            have e1 : axG hi 1 = hi.2 := rfl
            by_cases hc1 : z < lo.2
            · have p2 : decide (z < lo.2) = true := decide_eq_true hc1
              have HX := Lib.hid (HYES.out 1 (by decide) (.inl fun j hj => by have := h4 j hj; rw [e0]; omega))
              clear h1 h2 h3 h4 HA HYES HNO HP
              go_wp2
              go_ret
              rw [HX.out]
              exact ⟨rfl, HF.out⟩
            · have p2 : decide (z < lo.2) = false := decide_eq_false hc1
              by_cases hc2 : hi.2 < a
              · have p3 : decide (hi.2 < a) = true := decide_eq_true hc2
                have HX := Lib.hid (HYES.out 1 (by decide) (.inr fun j hj => by have := h2 j hj; rw [e1]; omega))
                clear h1 h2 h3 h4 HA HYES HNO HP
                go_wp2
                go_ret
                rw [HX.out]
                exact ⟨rfl, HF.out⟩
              · have p3 : decide (hi.2 < a) = false := decide_eq_false hc2
                have HP2 : Hid (∀ j, j < 1 + 1 → (∃ k, k < 6 ∧ axG lo j ≤ axG (prG l k) j) ∧ ∃ k, k < 6 ∧ axG (prG l k) j ≤ axG hi j) := fun j hj => by
                  by_cases e : j = 1
                  · subst e
                    obtain ⟨j1, g1, f1⟩ := h1
                    obtain ⟨j3, g3, f3⟩ := h3
                    exact ⟨⟨j3, g3, by rw [← f3, e0]; omega⟩, j1, g1, by rw [← f1, e1]; omega⟩
                  · exact HP.out j (by omega)
                have HJE := HJ
                clear h1 h2 h3 h4 HA HP e0 e1
                go_wp2
                go_roundw
                case rel => exact ⟨1 + 1, by omega, by go_num, HP2.out, HJE.out⟩
                case measure => simp [intOf]
    · obtain rfl : i = 2 := by omega
      have p1 : decide (((2 : Nat) : Int) < 2) = false := by decide
      have HX := Lib.hid (HNO.out HI.out.1)
      have HF := Lib.hid (HB0.out.trans (HI.out.2.mono HB0.out.size))
      clear HI HYES HNO
      go_wp2
      go_ret
      rw [HX.out]
      exact ⟨rfl, HF.out⟩
/-- Which side of an edge all of a box is on. -/
def outF (l : List E2) (lo hi : E2) (k : Nat) : Bool := !(boxC lo hi).any fun c => decide (0 ≤ crossE (prG l k) (prG l ((k + 1) % 6)) c)
theorem range_any (l : List E2) (hl : l.length = 6) (f : E2 → Bool) : ((List.range 6).any fun k => f (prG l k)) = l.any f := by
  rw [Bool.eq_iff_iff, any_pr, List.any_eq_true, hl]
  simp only [List.mem_range]
theorem touch_parts (l : List E2) (hl : l.length = 6) (lo hi : E2) : touchB (prG l) lo hi = (!besB l lo hi && (List.range 6).all fun k => !outF l lo hi k) := by
  unfold touchB besB outF
  rw [range_any l hl fun p => decide (lo.1 ≤ p.1), range_any l hl fun p => decide (p.1 ≤ hi.1), range_any l hl fun p => decide (lo.2 ≤ p.2), range_any l hl fun p => decide (p.2 ≤ hi.2)]
  simp only [Bool.not_not, Bool.and_assoc]
/-- Rings that may be looked at. -/
def RingSm (l : List E2) : Prop := ∀ k, k < 6 → Sm 100000000000 (prG l k) ∧ Sm 16777216 (subE (prG l ((k + 1) % 6)) (prG l k))
set_option maxRecDepth 100000 in
set_option maxHeartbeats 8000000 in
theorem touches_any (ao : Option Addr) (c : Nat) (l : List E2) (lo hi : E2) (w : World) (h : PrAt w ao l) (hl : l.length = 6) (hs : RingSm l) (hlo : Sm 10000000000 lo) (hhi : Sm 10000000000 hi) :
    Calls Tryz.prog 117 #[vB lo hi, .slice ao 6 c] w fun e w' => e = .returned (.bool (touchB (prG l) lo hi)) ∧ Below w.heap.size w w' := by
  have HBE := Lib.hid (fun w h => beside_any ao c l lo hi w h hl)
  have HOU : Hid (∀ k, k < 6 → ∀ w, Calls Tryz.prog 131 #[vB lo hi, vE (prG l k), vE (prG l ((k + 1) % 6))] w fun e w' => e = .returned (.bool (outF l lo hi k)) ∧ Below w.heap.size w w') := fun k hk w => outside_any lo hi _ _ hlo hhi (hs k hk).1 (hs k hk).2 w
  have HTP := Lib.hid (touch_parts l hl lo hi)
  have HYES : Hid (∀ k, k < 6 → outF l lo hi k = true → ((List.range 6).all fun k => !outF l lo hi k) = false) := fun k hk e => by
    rw [List.all_eq_false]
    exact ⟨k, List.mem_range.2 hk, by rw [e]; decide⟩
  have HNO : Hid ((∀ k, k < 6 → outF l lo hi k = false) → ((List.range 6).all fun k => !outF l lo hi k) = true) := fun hh => by
    rw [List.all_eq_true]
    intro k hk
    rw [hh k (List.mem_range.1 hk)]; rfl
  generalize touchB (prG l) lo hi = X at *
  generalize ((List.range 6).all fun k => !outF l lo hi k) = A at *
  generalize besB l lo hi = bs at *
  generalize outF l lo hi = oF at *
  have HR := Lib.hid h
  have HL := Lib.hid hl
  clear h hl hs hlo hhi
  have HB0 : Hid (Below w.heap.size w (w.alloc (.cells #[.int .i64 lo.1, .int .i64 lo.2, .int .i64 hi.1, .int .i64 hi.2] 163))) := (Below.refl _ _).alloc (Nat.le_refl _) _
  have HT0 : Hid (CBoxAt (w.alloc (.cells #[.int .i64 lo.1, .int .i64 lo.2, .int .i64 hi.1, .int .i64 hi.2] 163)) w.heap.size lo hi) := CBoxAt.of_row (t := 163) (f := _) (heap_new _ _ _ rfl)
  have s0 : w.heap.size < (w.alloc (.cells #[.int .i64 lo.1, .int .i64 lo.2, .int .i64 hi.1, .int .i64 hi.2] 163)).heap.size := by simp
  simp only [vB, vE] at *
  go_enter Tryz.func117, Tryz.ntmps117
  go_upto_region 1 with (fail)
  generalize w.alloc (.cells #[.int .i64 lo.1, .int .i64 lo.2, .int .i64 hi.1, .int .i64 hi.2] 163) = w1 at *
  obtain ⟨⟨t0, t1⟩, t2, t3⟩ := HT0.out
  have HR1 : Hid (PrAt w1 ao l) := HR.out.below (HB0.out.mono (Nat.le_refl _))
  go_wp2_with fail
  refine (HBE.out _ HR1.out).mono ?_
  rintro e w2 ⟨rfl, hb2⟩
  have HB2 := Lib.hid (HB0.out.trans (hb2.mono HB0.out.size))
  have HT2 := Lib.hid (HT0.out.later s0 hb2)
  have HR2 := Lib.hid (HR1.out.below hb2)
  have s2 : w.heap.size < w2.heap.size := by have := hb2.size; omega
  clear hb2 HR1 HT0 HB0 HBE t0 t1 t2 t3
  cases bs with
  | true =>
    have HX : Hid (X = false) := by show _ = _; rw [HTP.out]; rfl
    clear HTP HOU HYES HNO
    go_wp2
    go_ret
    rw [HX.out]
    exact ⟨rfl, HB2.out⟩
  | false =>
    have HX : Hid (X = A) := by show _ = _; rw [HTP.out]; rfl
    clear HTP
    go_wp2
    go_loopw [12] (fun iv wr => ∃ (k : Nat), k ≤ 6 ∧ iv = .int .i64 k ∧ Hid ((∀ j, j < k → oF j = false) ∧ Below w2.heap.size w2 wr)) (fun i _ => 6 - (intOf i).toNat)
    case atStart => exact ⟨0, by omega, rfl, fun j hj => by omega, Below.refl _ _⟩
    case round =>
      obtain ⟨k, hk, rfl, HI⟩ := hrel
      obtain ⟨wo, rfl⟩ : ∃ wo, wo = wr := ⟨_, rfl⟩
      have hso := HI.out.2.size
      by_cases hlt : k < 6
      · have q1 : decide ((k : Int) < 6) = true := decide_eq_true (by omega)
        obtain ⟨m, hm, hm6, hmk⟩ : ∃ m : Nat, ((k : Int) + 1).tmod 6 = m ∧ m < 6 ∧ (k + 1) % 6 = m := ⟨(k + 1) % 6, by rw [Int.tmod_eq_emod_of_nonneg (by omega)]; omega, by omega, rfl⟩
        have HO := HOU.out k hlt
        rw [hmk] at HO
        have HO := Lib.hid HO
        have HY := Lib.hid (HYES.out k hlt)
        obtain ⟨b, off, rfl, hb, hc⟩ := (HR2.out.below HI.out.2) (by rw [HL.out]; omega)
        obtain ⟨c0, c1⟩ := hc k (by rw [HL.out]; exact hlt)
        obtain ⟨d0, d1⟩ := hc m (by rw [HL.out]; exact hm6)
        have HN : Hid (oF k = false → ∀ j, j < k + 1 → oF j = false) := fun h j hj => by
          by_cases e : j = k
          · rw [e]; exact h
          · exact HI.out.1 j (by omega)
        generalize prG l k = p at *
        generalize prG l m = q at *
        obtain ⟨p1, p2⟩ := p
        simp only at c0 c1 HO
        generalize oF k = o at *
        have KA := (Below.refl wo.heap.size wo).alloc (Nat.le_refl _) (.cells #[.int .i64 p1, .int .i64 p2] 24)
        have HI2 := Lib.hid (HI.out.2.trans (KA.mono hso))
        have TA := Lib.hid (HT2.out.later s2 HI2.out)
        have PA : Hid (Two (wo.alloc (.cells #[.int .i64 p1, .int .i64 p2] 24)) wo.heap.size (.int .i64 p1) (.int .i64 p2)) := Two.of_row (t := 24) (f := _) (heap_new _ _ _ rfl)
        have QA : Hid ((wo.alloc (.cells #[.int .i64 p1, .int .i64 p2] 24)).cell? ⟨b, off + m * 2, none⟩ = some (.int .i64 q.1) ∧ (wo.alloc (.cells #[.int .i64 p1, .int .i64 p2] 24)).cell? ⟨b, off + m * 2 + 1, none⟩ = some (.int .i64 q.2)) := ⟨(KA.cell (p := ⟨b, _, none⟩) hb).trans d0, (KA.cell (p := ⟨b, _, none⟩) hb).trans d1⟩
        have hsa : wo.heap.size < (wo.alloc (.cells #[.int .i64 p1, .int .i64 p2] 24)).heap.size := by simp
        clear hc HI KA d0 d1 hmk
        go_upto_region 6 with (fail)
        generalize wo.alloc (.cells #[.int .i64 p1, .int .i64 p2] 24) = wa at *
        have HC : Hid (∀ wx, Below wa.heap.size wa wx → CBoxAt wx w.heap.size lo hi ∧ Two wx wo.heap.size (.int .i64 p1) (.int .i64 p2) ∧ wx.cell? ⟨b, off + m * 2, none⟩ = some (.int .i64 q.1) ∧ wx.cell? ⟨b, off + m * 2 + 1, none⟩ = some (.int .i64 q.2)) := fun wx hx => ⟨TA.out.later (by omega) hx, PA.out.later (by omega) hx, (hx.cell (p := ⟨b, _, none⟩) (by show b < _; omega)).trans QA.out.1, (hx.cell (p := ⟨b, _, none⟩) (by show b < _; omega)).trans QA.out.2⟩
        clear TA PA QA c0 c1
        refine wp_region_inv (fun w w' => Below w.heap.size w w') (fun qi_ qv_ _ => qv_ = ([.agg #[.int .i64 lo.1, .int .i64 lo.2, .int .i64 hi.1, .int .i64 hi.2], .agg #[.int .i64 p1, .int .i64 p2], .slice (some ⟨b, off, none⟩) 6 c, .int .i64 k, .int .i64 ((k : Int) + 1), .slice (some ⟨b, off, none⟩) 6 c, .int .i64 6, .int .i64 m, .pointer (some ⟨b, off + m * 2, none⟩), .agg #[.int .i64 q.1, .int .i64 q.2], .bool o] : List Value).getD qi_ undef) (by kernel_rfl) (by kernel_rfl) (fun _ => Below.refl _ _) (fun _ _ _ h1 h2 => below_later h1 h1.size h2) (fun _ _ _ _ _ _ h => h) ?_
        refine inv_cons (fun wx hg hd => ?_) (fun v0 => ?_)
        · have hx := ((Below.refl wa.heap.size wa).drew).trans hg
          clear hd hg
          obtain ⟨⟨⟨k1, k2⟩, k3, k4⟩, -⟩ := HC.out _ hx
          go_wp2
          exact ⟨_, rfl, Below.refl _ _, rfl⟩
        (try simp only [List.nil_append, Act.put, List.setIfInBounds_toArray, List.set_cons_zero, List.set_cons_succ])
        refine inv_cons (fun wx hg hd => ?_) (fun v1 => ?_)
        · have hx := ((Below.refl wa.heap.size wa).drew).trans hg
          clear hd hg
          obtain ⟨-, ⟨k1, k2⟩, -⟩ := HC.out _ hx
          go_wp2
          exact ⟨_, rfl, Below.refl _ _, rfl⟩
        (try simp only [List.cons_append, List.nil_append, Act.put, List.setIfInBounds_toArray, List.set_cons_zero, List.set_cons_succ])
        refine inv_cons (fun wx hg hd => ?_) (fun v2 => ?_)
        · have hx := ((Below.refl wa.heap.size wa).drew).trans hg
          clear hd hg
          go_wp2
          exact ⟨_, rfl, Below.refl _ _, rfl⟩
        (try simp only [List.cons_append, List.nil_append, Act.put, List.setIfInBounds_toArray, List.set_cons_zero, List.set_cons_succ])
        refine inv_cons (fun wx hg hd => ?_) (fun v3 => ?_)
        · have hx := ((Below.refl wa.heap.size wa).drew).trans hg
          clear hd hg
          go_wp2
          exact ⟨_, rfl, Below.refl _ _, rfl⟩
        (try simp only [List.cons_append, List.nil_append, Act.put, List.setIfInBounds_toArray, List.set_cons_zero, List.set_cons_succ])
        refine inv_cons (fun wx hg hd => ?_) (fun v4 => ?_)
        · have hx := ((Below.refl wa.heap.size wa).drew).trans hg
          (try (have ee : v3 = (.int .i64 k : Value) := hd 3 (by simp) (by decide); subst ee))
          clear hd hg
          go_wp2
          exact ⟨_, rfl, Below.refl _ _, rfl⟩
        (try simp only [List.cons_append, List.nil_append, Act.put, List.setIfInBounds_toArray, List.set_cons_zero, List.set_cons_succ])
        refine inv_cons (fun wx hg hd => ?_) (fun v5 => ?_)
        · have hx := ((Below.refl wa.heap.size wa).drew).trans hg
          clear hd hg
          go_wp2
          exact ⟨_, rfl, Below.refl _ _, rfl⟩
        (try simp only [List.cons_append, List.nil_append, Act.put, List.setIfInBounds_toArray, List.set_cons_zero, List.set_cons_succ])
        refine inv_cons (fun wx hg hd => ?_) (fun v6 => ?_)
        · have hx := ((Below.refl wa.heap.size wa).drew).trans hg
          (try (have ee : v5 = (.slice (some ⟨b, off, none⟩) 6 c : Value) := hd 5 (by simp) (by decide); subst ee))
          clear hd hg
          go_wp2
          exact ⟨_, rfl, Below.refl _ _, rfl⟩
        (try simp only [List.cons_append, List.nil_append, Act.put, List.setIfInBounds_toArray, List.set_cons_zero, List.set_cons_succ])
        refine inv_cons (fun wx hg hd => ?_) (fun v7 => ?_)
        · have hx := ((Below.refl wa.heap.size wa).drew).trans hg
          (try (have ee : v4 = (.int .i64 ((k : Int) + 1) : Value) := hd 4 (by simp) (by decide); subst ee))
          (try (have ee : v6 = (.int .i64 6 : Value) := hd 6 (by simp) (by decide); subst ee))
          clear hd hg
          go_wp2
          exact ⟨_, rfl, Below.refl _ _, rfl⟩
        (try simp only [List.cons_append, List.nil_append, Act.put, List.setIfInBounds_toArray, List.set_cons_zero, List.set_cons_succ])
        refine inv_cons (fun wx hg hd => ?_) (fun v8 => ?_)
        · have hx := ((Below.refl wa.heap.size wa).drew).trans hg
          (try (have ee : v2 = (.slice (some ⟨b, off, none⟩) 6 c : Value) := hd 2 (by simp) (by decide); subst ee))
          (try (have ee : v7 = (.int .i64 m : Value) := hd 7 (by simp) (by decide); subst ee))
          clear hd hg
          go_wp2
          exact ⟨_, rfl, Below.refl _ _, rfl⟩
        (try simp only [List.cons_append, List.nil_append, Act.put, List.setIfInBounds_toArray, List.set_cons_zero, List.set_cons_succ])
        refine inv_cons (fun wx hg hd => ?_) (fun v9 => ?_)
        · have hx := ((Below.refl wa.heap.size wa).drew).trans hg
          (try (have ee : v8 = (.pointer (some ⟨b, off + m * 2, none⟩) : Value) := hd 8 (by simp) (by decide); subst ee))
          clear hd hg
          obtain ⟨-, -, k1, k2⟩ := HC.out _ hx
          go_wp2
          exact ⟨_, rfl, Below.refl _ _, rfl⟩
        (try simp only [List.cons_append, List.nil_append, Act.put, List.setIfInBounds_toArray, List.set_cons_zero, List.set_cons_succ])
        refine inv_cons (fun wx hg hd => ?_) (fun v10 => ?_)
        · have hx := ((Below.refl wa.heap.size wa).drew).trans hg
          (try (have ee : v0 = (.agg #[.int .i64 lo.1, .int .i64 lo.2, .int .i64 hi.1, .int .i64 hi.2] : Value) := hd 0 (by simp) (by decide); subst ee))
          (try (have ee : v1 = (.agg #[.int .i64 p1, .int .i64 p2] : Value) := hd 1 (by simp) (by decide); subst ee))
          (try (have ee : v9 = (.agg #[.int .i64 q.1, .int .i64 q.2] : Value) := hd 9 (by simp) (by decide); subst ee))
          clear hd hg
          go_wp2_with fail
          refine (HO.out _).mono ?_
          rintro e w' ⟨rfl, hb⟩
          go_wp2
          exact ⟨_, rfl, hb, rfl⟩
        (try simp only [List.cons_append, List.nil_append, Act.put, List.setIfInBounds_toArray, List.set_cons_zero, List.set_cons_succ])
        refine inv_done (fun wx hg hd => ?_)
        have hx := ((Below.refl wa.heap.size wa).drew).trans hg
        (have ee : v0 = (.agg #[.int .i64 lo.1, .int .i64 lo.2, .int .i64 hi.1, .int .i64 hi.2] : Value) := hd 0 (by simp); subst ee)
        (have ee : v1 = (.agg #[.int .i64 p1, .int .i64 p2] : Value) := hd 1 (by simp); subst ee)
        (have ee : v2 = (.slice (some ⟨b, off, none⟩) 6 c : Value) := hd 2 (by simp); subst ee)
        (have ee : v3 = (.int .i64 k : Value) := hd 3 (by simp); subst ee)
        (have ee : v4 = (.int .i64 ((k : Int) + 1) : Value) := hd 4 (by simp); subst ee)
        (have ee : v5 = (.slice (some ⟨b, off, none⟩) 6 c : Value) := hd 5 (by simp); subst ee)
        (have ee : v6 = (.int .i64 6 : Value) := hd 6 (by simp); subst ee)
        (have ee : v7 = (.int .i64 m : Value) := hd 7 (by simp); subst ee)
        (have ee : v8 = (.pointer (some ⟨b, off + m * 2, none⟩) : Value) := hd 8 (by simp); subst ee)
        (have ee : v9 = (.agg #[.int .i64 q.1, .int .i64 q.2] : Value) := hd 9 (by simp); subst ee)
        (have ee : v10 = (.bool o : Value) := hd 10 (by simp); subst ee)
        clear hd hg
        (try go_simp)
        have HX2 := Lib.hid (HI2.out.trans (hx.mono HI2.out.size))
        clear hx HC HO
        cases o with
        | true =>
          have HXF : Hid (X = false) := by show _ = _; rw [HX.out]; exact HY.out rfl
          have HF := Lib.hid (HB2.out.trans (HX2.out.mono HB2.out.size))
          clear HY HN
          go_wp2
          go_ret
          rw [HXF.out]
          exact ⟨rfl, HF.out⟩
        | false =>
          have HN2 := Lib.hid (HN.out rfl)
          clear HY HN
          go_wp2
          go_roundw
          case rel => exact ⟨k + 1, by omega, by go_num, HN2.out, HX2.out⟩
          case measure => simp [intOf]; omega
      · obtain rfl : k = 6 := by omega
        have q1 : decide (((6 : Nat) : Int) < 6) = false := by decide
        have HXF : Hid (X = true) := by show _ = _; rw [HX.out]; exact HNO.out HI.out.1
        have HF := Lib.hid (HB2.out.trans (HI.out.2.mono HB2.out.size))
        clear HI
        go_wp2
        go_ret
        rw [HXF.out]
        exact ⟨rfl, HF.out⟩
end Go.Proofs.YtjimcjhgjfhbiaaGreat
/- Contracts of package cover: inThirds, Touches. -/
namespace Go.Proofs.YtjimcjhgjfhbiaaGreat
open Go.RowKit Go.Lib Wd

/-- A box that may be written. -/
def Quad (w : World) (b : Nat) (x y : E2) : Prop := w.heap[b]? = some (.cells #[.int .i64 x.1, .int .i64 x.2, .int .i64 y.1, .int .i64 y.2] 163 (0, 0))
theorem Quad.lt {w : World} {b : Nat} {x y : E2} (h : Quad w b x y) : b < w.heap.size := (Array.getElem?_eq_some_iff.1 h).1
theorem Quad.turn {S : Nat → Prop} {w w' : World} {b : Nat} {x y : E2} (h : Quad w b x y) (ht : Turn S w w') (hs : ¬ S b) : Quad w' b x y := (ht.2.2.2.2 b h.lt hs).trans h
theorem Quad.later {w w' : World} {b : Nat} {x y : E2} (h : Quad w b x y) (hb : Below w.heap.size w w') : Quad w' b x y := (hb.block b h.lt).trans h
theorem Quad.cells {w : World} {b : Nat} {x y : E2} (h : Quad w b x y) : w.cell? ⟨b, 0, none⟩ = some (.int .i64 x.1) ∧ w.cell? ⟨b, 1, none⟩ = some (.int .i64 x.2) ∧ w.cell? ⟨b, 2, none⟩ = some (.int .i64 y.1) ∧ w.cell? ⟨b, 3, none⟩ = some (.int .i64 y.2) ∧ w.frozen? ⟨b, 0, none⟩ = false ∧ w.frozen? ⟨b, 1, none⟩ = false ∧ w.frozen? ⟨b, 2, none⟩ = false ∧ w.frozen? ⟨b, 3, none⟩ = false ∧ b < w.heap.size :=
  ⟨cell_of_row _ _ 0 _ _ _ h, cell_of_row _ _ 1 _ _ _ h, cell_of_row _ _ 2 _ _ _ h, cell_of_row _ _ 3 _ _ _ h, frozen_of_row _ _ _ _ _ h, frozen_of_row _ _ _ _ _ h, frozen_of_row _ _ _ _ _ h, frozen_of_row _ _ _ _ _ h, h.lt⟩
theorem Quad.put0 {w : World} {b : Nat} {x y : E2} (h : Quad w b x y) (s t : Int) : Quad ((w.setCell ⟨b, 0, none⟩ (.int .i64 s)).setCell ⟨b, 2, none⟩ (.int .i64 t)) b (s, x.2) (t, y.2) := by
  unfold Quad at *
  rw [Sort.setCell_eq, Sort.setCell_eq]
  simp [Sort.mapBlock, Array.getElem?_modify, h, Sort.onCells]
theorem Quad.put1 {w : World} {b : Nat} {x y : E2} (h : Quad w b x y) (s t : Int) : Quad ((w.setCell ⟨b, 1, none⟩ (.int .i64 s)).setCell ⟨b, 3, none⟩ (.int .i64 t)) b (x.1, s) (y.1, t) := by
  unfold Quad at *
  rw [Sort.setCell_eq, Sort.setCell_eq]
  simp [Sort.mapBlock, Array.getElem?_modify, h, Sort.onCells]
/-- Which boxes may be held against a cell. -/
def axOk (lo hi : E2) (i : Nat) : Bool := !(decide (axG lo i < -2147483648) || decide (2147483648 < axG hi i) || decide (axG hi i < axG lo i))
def bxOk (lo hi : E2) : Bool := axOk lo hi 0 && axOk lo hi 1
def triE (p : E2) : E2 := (3 * p.1, 3 * p.2)
/-- What inThirds tells: the box only where it is one. -/
def InThP (X : Bool) (xl xh : E2) (e : Ending) : Prop := ∃ x y : E2, e = .returned (.tuple #[vB x y, .bool X]) ∧ (X = true → x = xl ∧ y = xh)
set_option maxRecDepth 100000 in
set_option maxHeartbeats 8000000 in
theorem inth_any (lo hi : E2) (w : World) :
    Calls Tryz.prog 114 #[vE lo, vE hi] w fun e w' => InThP (bxOk lo hi) (triE lo) (triE hi) e ∧ Below w.heap.size w w' := by
  obtain ⟨l1, l2⟩ := lo
  obtain ⟨h1, h2⟩ := hi
  have HX : Hid (bxOk (l1, l2) (h1, h2) = (axOk (l1, l2) (h1, h2) 0 && axOk (l1, l2) (h1, h2) 1)) := rfl
  have HA0 : Hid (axOk (l1, l2) (h1, h2) 0 = !(decide (l1 < -2147483648) || decide (2147483648 < h1) || decide (h1 < l1))) := rfl
  have HA1 : Hid (axOk (l1, l2) (h1, h2) 1 = !(decide (l2 < -2147483648) || decide (2147483648 < h2) || decide (h2 < l2))) := rfl
  have HE : Hid (triE (l1, l2) = (3 * l1, 3 * l2) ∧ triE (h1, h2) = (3 * h1, 3 * h2)) := ⟨rfl, rfl⟩
  generalize bxOk (l1, l2) (h1, h2) = X at *
  generalize axOk (l1, l2) (h1, h2) 0 = A at *
  generalize axOk (l1, l2) (h1, h2) 1 = B at *
  generalize triE (l1, l2) = xl at *
  generalize triE (h1, h2) = xh at *
  simp only [vE]
  have L0 : Hid (Two ((((w.alloc (.cells #[.int .i64 l1, .int .i64 l2] 24)).alloc (.cells #[.int .i64 h1, .int .i64 h2] 24)).alloc (.cells #[.int .i64 0, .int .i64 0, .int .i64 0, .int .i64 0] 163)).alloc (.cells #[.int .i64 0, .int .i64 0, .int .i64 0, .int .i64 0] 163)) w.heap.size (.int .i64 l1) (.int .i64 l2)) := (Two.of_row (t := 24) (f := _) (heap_new _ _ _ rfl)).later (by simp) ((((Below.refl _ _).alloc (Nat.le_refl _) _).alloc (by simp) _).alloc (by simp <;> omega) _)
  have H0 : Hid (Two ((((w.alloc (.cells #[.int .i64 l1, .int .i64 l2] 24)).alloc (.cells #[.int .i64 h1, .int .i64 h2] 24)).alloc (.cells #[.int .i64 0, .int .i64 0, .int .i64 0, .int .i64 0] 163)).alloc (.cells #[.int .i64 0, .int .i64 0, .int .i64 0, .int .i64 0] 163)) (w.heap.size + 1) (.int .i64 h1) (.int .i64 h2)) := (Two.of_row (t := 24) (f := _) (heap_new _ _ _ (by simp))).later (by simp) (((Below.refl _ _).alloc (Nat.le_refl _) _).alloc (by simp) _)
  have R0 : Hid (Quad ((((w.alloc (.cells #[.int .i64 l1, .int .i64 l2] 24)).alloc (.cells #[.int .i64 h1, .int .i64 h2] 24)).alloc (.cells #[.int .i64 0, .int .i64 0, .int .i64 0, .int .i64 0] 163)).alloc (.cells #[.int .i64 0, .int .i64 0, .int .i64 0, .int .i64 0] 163)) (w.heap.size + 1 + 1) (0, 0) (0, 0)) := (show Quad (((w.alloc (.cells #[.int .i64 l1, .int .i64 l2] 24)).alloc (.cells #[.int .i64 h1, .int .i64 h2] 24)).alloc (.cells #[.int .i64 0, .int .i64 0, .int .i64 0, .int .i64 0] 163)) (w.heap.size + 1 + 1) (0, 0) (0, 0) from heap_new _ _ _ (by simp)).later ((Below.refl _ _).alloc (Nat.le_refl _) _)
  have Q0 : Hid (Quad ((((w.alloc (.cells #[.int .i64 l1, .int .i64 l2] 24)).alloc (.cells #[.int .i64 h1, .int .i64 h2] 24)).alloc (.cells #[.int .i64 0, .int .i64 0, .int .i64 0, .int .i64 0] 163)).alloc (.cells #[.int .i64 0, .int .i64 0, .int .i64 0, .int .i64 0] 163)) (w.heap.size + 1 + 1 + 1) (0, 0) (0, 0)) := heap_new _ _ _ (by simp)
  have B0 : Hid (Below w.heap.size w ((((w.alloc (.cells #[.int .i64 l1, .int .i64 l2] 24)).alloc (.cells #[.int .i64 h1, .int .i64 h2] 24)).alloc (.cells #[.int .i64 0, .int .i64 0, .int .i64 0, .int .i64 0] 163)).alloc (.cells #[.int .i64 0, .int .i64 0, .int .i64 0, .int .i64 0] 163))) := ((((Below.refl w.heap.size w).alloc (Nat.le_refl _) _).alloc (by simp) _).alloc (by simp <;> omega) _).alloc (by simp <;> omega) _
  have s0 : w.heap.size + 4 ≤ ((((w.alloc (.cells #[.int .i64 l1, .int .i64 l2] 24)).alloc (.cells #[.int .i64 h1, .int .i64 h2] 24)).alloc (.cells #[.int .i64 0, .int .i64 0, .int .i64 0, .int .i64 0] 163)).alloc (.cells #[.int .i64 0, .int .i64 0, .int .i64 0, .int .i64 0] 163)).heap.size := by simp
  go_enter Tryz.func114, Tryz.ntmps114
  go_upto_region 2 with (fail)
  generalize (((w.alloc (.cells #[.int .i64 l1, .int .i64 l2] 24)).alloc (.cells #[.int .i64 h1, .int .i64 h2] 24)).alloc (.cells #[.int .i64 0, .int .i64 0, .int .i64 0, .int .i64 0] 163)).alloc (.cells #[.int .i64 0, .int .i64 0, .int .i64 0, .int .i64 0] 163) = w1 at *
  go_wp2
  go_loopw [8] (fun iv wr => ∃ (i : Nat) (x y : E2), i ≤ 2 ∧ iv = .int .i64 i ∧ Hid (Quad wr (w.heap.size + 1 + 1 + 1) x y ∧ Turn (fun k => k = w.heap.size + 1 + 1 + 1) w1 wr) ∧ Hid ((0 < i → A = true ∧ x.1 = 3 * l1 ∧ y.1 = 3 * h1) ∧ (1 < i → B = true ∧ x.2 = 3 * l2 ∧ y.2 = 3 * h2))) (fun i _ => 2 - (intOf i).toNat)
  case atStart => exact ⟨0, (0, 0), (0, 0), by omega, rfl, ⟨Q0.out, Turn.refl _ _⟩, fun h => by omega, fun h => by omega⟩
  case round =>
    obtain ⟨i, x, y, hi2, rfl, HQ, HD⟩ := hrel
    obtain ⟨wo, rfl⟩ : ∃ wo, wo = wr := ⟨_, rfl⟩
    have hso := HQ.out.2.2.2.2.1
    rcases (show i = 0 ∨ i = 1 ∨ i = 2 by omega) with rfl | rfl | rfl
    · have p1 : decide (((0 : Nat) : Int) < 2) = true := by decide
      obtain ⟨c0, c1, c2, c3, f0, f1, f2, f3, lq⟩ := HQ.out.1.cells
      obtain ⟨a0, a1⟩ := L0.out.turn HQ.out.2 (by omega) (by omega)
      obtain ⟨b0, b1⟩ := H0.out.turn HQ.out.2 (by omega) (by omega)
      obtain ⟨r0, r1, r2, r3, g0, g1, g2, g3, lr⟩ := (R0.out.turn HQ.out.2 (by omega)).cells
      have HB : Hid (Below w.heap.size w wo) := B0.out.trans (HQ.out.2.below (by omega) fun k hk e => by omega)
      rcases (show l1 < -2147483648 ∨ (¬ l1 < -2147483648 ∧ 2147483648 < h1) ∨ (¬ l1 < -2147483648 ∧ ¬ 2147483648 < h1 ∧ h1 < l1) ∨ (¬ l1 < -2147483648 ∧ ¬ 2147483648 < h1 ∧ ¬ h1 < l1) by omega) with e1 | ⟨e1, e2⟩ | ⟨e1, e2, e3⟩ | ⟨e1, e2, e3⟩
      · have q1 : decide (l1 < -2147483648) = true := decide_eq_true e1
        have HAF : Hid (A = false) := by show _ = _; rw [HA0.out, q1]; rfl
        have HXF : Hid (X = false) := by show _ = _; rw [HX.out, HAF.out]; simp
        clear HAF
        go_wp2_with (first | (with_reducible refine wp_region_lex (by kernel_rfl) (by kernel_rfl) ?_) | (with_reducible refine OnlyG.intro (by kernel_rfl) ?_))
        exact bodyPost_ret (v := .tuple #[.agg #[.int .i64 x.1, .int .i64 x.2, .int .i64 y.1, .int .i64 y.2], .bool false]) (by simp [results, Tryz.results114, go_sem, *]) rfl ⟨⟨x, y, by rw [HXF.out], fun h => by rw [HXF.out] at h; cases h⟩, (((HB.out.drew.setCell (p := ⟨w.heap.size + 1 + 1, 0, none⟩) (by simp <;> omega) _).setCell (p := ⟨w.heap.size + 1 + 1, 1, none⟩) (by simp <;> omega) _).setCell (p := ⟨w.heap.size + 1 + 1, 2, none⟩) (by simp <;> omega) _).setCell (p := ⟨w.heap.size + 1 + 1, 3, none⟩) (by simp <;> omega) _⟩
      · have q1 : decide (l1 < -2147483648) = false := decide_eq_false e1
        have q2 : decide (2147483648 < h1) = true := decide_eq_true e2
        have HAF : Hid (A = false) := by show _ = _; rw [HA0.out, q1, q2]; rfl
        have HXF : Hid (X = false) := by show _ = _; rw [HX.out, HAF.out]; simp
        clear HAF
        go_wp2_with (first | (with_reducible refine wp_region_lex (by kernel_rfl) (by kernel_rfl) ?_) | (with_reducible refine OnlyG.intro (by kernel_rfl) ?_))
        exact bodyPost_ret (v := .tuple #[.agg #[.int .i64 x.1, .int .i64 x.2, .int .i64 y.1, .int .i64 y.2], .bool false]) (by simp [results, Tryz.results114, go_sem, *]) rfl ⟨⟨x, y, by rw [HXF.out], fun h => by rw [HXF.out] at h; cases h⟩, (((HB.out.drew.setCell (p := ⟨w.heap.size + 1 + 1, 0, none⟩) (by simp <;> omega) _).setCell (p := ⟨w.heap.size + 1 + 1, 1, none⟩) (by simp <;> omega) _).setCell (p := ⟨w.heap.size + 1 + 1, 2, none⟩) (by simp <;> omega) _).setCell (p := ⟨w.heap.size + 1 + 1, 3, none⟩) (by simp <;> omega) _⟩
      · have q1 : decide (l1 < -2147483648) = false := decide_eq_false e1
        have q2 : decide (2147483648 < h1) = false := decide_eq_false e2
        have q3 : decide (h1 < l1) = true := decide_eq_true e3
        have HAF : Hid (A = false) := by show _ = _; rw [HA0.out, q1, q2, q3]; rfl
        have HXF : Hid (X = false) := by show _ = _; rw [HX.out, HAF.out]; simp
        clear HAF
        go_wp2_with (first | (with_reducible refine wp_region_lex (by kernel_rfl) (by kernel_rfl) ?_) | (with_reducible refine OnlyG.intro (by kernel_rfl) ?_))
        exact bodyPost_ret (v := .tuple #[.agg #[.int .i64 x.1, .int .i64 x.2, .int .i64 y.1, .int .i64 y.2], .bool false]) (by simp [results, Tryz.results114, go_sem, *]) rfl ⟨⟨x, y, by rw [HXF.out], fun h => by rw [HXF.out] at h; cases h⟩, (((HB.out.drew.setCell (p := ⟨w.heap.size + 1 + 1, 0, none⟩) (by simp <;> omega) _).setCell (p := ⟨w.heap.size + 1 + 1, 1, none⟩) (by simp <;> omega) _).setCell (p := ⟨w.heap.size + 1 + 1, 2, none⟩) (by simp <;> omega) _).setCell (p := ⟨w.heap.size + 1 + 1, 3, none⟩) (by simp <;> omega) _⟩
      · have q1 : decide (l1 < -2147483648) = false := decide_eq_false e1
        have q2 : decide (2147483648 < h1) = false := decide_eq_false e2
        have q3 : decide (h1 < l1) = false := decide_eq_false e3
        have HAF : Hid (A = true) := by show _ = _; rw [HA0.out, q1, q2, q3]; rfl
        have HP := Lib.hid (HQ.out.1.put0 (3 * l1) (3 * h1))
        have HT := Lib.hid ((HQ.out.2.setCell (a := ⟨w.heap.size + 1 + 1 + 1, 0, none⟩) rfl (.int .i64 (3 * l1))).setCell (a := ⟨w.heap.size + 1 + 1 + 1, 2, none⟩) rfl (.int .i64 (3 * h1)))
        clear r0 r1 r2 r3 g0 g1 g2 g3 lr HB HQ
        go_upto_region 7 with (first | (with_reducible refine wp_region_lex (by kernel_rfl) (by kernel_rfl) ?_) | (with_reducible refine OnlyG.intro (by kernel_rfl) ?_))
        go_region
        all_goals
          go_wp2
          go_roundw
          case rel => exact ⟨0 + 1, (3 * l1, x.2), (3 * h1, y.2), by omega, rfl, ⟨HP.out, HT.out.drew.drew⟩, fun _ => ⟨HAF.out, rfl, rfl⟩, fun h => by omega⟩
          case measure => simp [intOf]
    · have p1 : decide (((1 : Nat) : Int) < 2) = true := by decide
      obtain ⟨c0, c1, c2, c3, f0, f1, f2, f3, lq⟩ := HQ.out.1.cells
      obtain ⟨a0, a1⟩ := L0.out.turn HQ.out.2 (by omega) (by omega)
      obtain ⟨b0, b1⟩ := H0.out.turn HQ.out.2 (by omega) (by omega)
      obtain ⟨r0, r1, r2, r3, g0, g1, g2, g3, lr⟩ := (R0.out.turn HQ.out.2 (by omega)).cells
      have HB : Hid (Below w.heap.size w wo) := B0.out.trans (HQ.out.2.below (by omega) fun k hk e => by omega)
      rcases (show l2 < -2147483648 ∨ (¬ l2 < -2147483648 ∧ 2147483648 < h2) ∨ (¬ l2 < -2147483648 ∧ ¬ 2147483648 < h2 ∧ h2 < l2) ∨ (¬ l2 < -2147483648 ∧ ¬ 2147483648 < h2 ∧ ¬ h2 < l2) by omega) with e1 | ⟨e1, e2⟩ | ⟨e1, e2, e3⟩ | ⟨e1, e2, e3⟩
      · have q1 : decide (l2 < -2147483648) = true := decide_eq_true e1
        have HAF : Hid (B = false) := by show _ = _; rw [HA1.out, q1]; rfl
        have HXF : Hid (X = false) := by show _ = _; rw [HX.out, HAF.out]; simp
        clear HAF
        go_wp2_with (first | (with_reducible refine wp_region_lex (by kernel_rfl) (by kernel_rfl) ?_) | (with_reducible refine OnlyG.intro (by kernel_rfl) ?_))
        exact bodyPost_ret (v := .tuple #[.agg #[.int .i64 x.1, .int .i64 x.2, .int .i64 y.1, .int .i64 y.2], .bool false]) (by simp [results, Tryz.results114, go_sem, *]) rfl ⟨⟨x, y, by rw [HXF.out], fun h => by rw [HXF.out] at h; cases h⟩, (((HB.out.drew.setCell (p := ⟨w.heap.size + 1 + 1, 0, none⟩) (by simp <;> omega) _).setCell (p := ⟨w.heap.size + 1 + 1, 1, none⟩) (by simp <;> omega) _).setCell (p := ⟨w.heap.size + 1 + 1, 2, none⟩) (by simp <;> omega) _).setCell (p := ⟨w.heap.size + 1 + 1, 3, none⟩) (by simp <;> omega) _⟩
      · have q1 : decide (l2 < -2147483648) = false := decide_eq_false e1
        have q2 : decide (2147483648 < h2) = true := decide_eq_true e2
        have HAF : Hid (B = false) := by show _ = _; rw [HA1.out, q1, q2]; rfl
        have HXF : Hid (X = false) := by show _ = _; rw [HX.out, HAF.out]; simp
        clear HAF
        go_wp2_with (first | (with_reducible refine wp_region_lex (by kernel_rfl) (by kernel_rfl) ?_) | (with_reducible refine OnlyG.intro (by kernel_rfl) ?_))
        exact bodyPost_ret (v := .tuple #[.agg #[.int .i64 x.1, .int .i64 x.2, .int .i64 y.1, .int .i64 y.2], .bool false]) (by simp [results, Tryz.results114, go_sem, *]) rfl ⟨⟨x, y, by rw [HXF.out], fun h => by rw [HXF.out] at h; cases h⟩, (((HB.out.drew.setCell (p := ⟨w.heap.size + 1 + 1, 0, none⟩) (by simp <;> omega) _).setCell (p := ⟨w.heap.size + 1 + 1, 1, none⟩) (by simp <;> omega) _).setCell (p := ⟨w.heap.size + 1 + 1, 2, none⟩) (by simp <;> omega) _).setCell (p := ⟨w.heap.size + 1 + 1, 3, none⟩) (by simp <;> omega) _⟩
      · have q1 : decide (l2 < -2147483648) = false := decide_eq_false e1
        have q2 : decide (2147483648 < h2) = false := decide_eq_false e2
        have q3 : decide (h2 < l2) = true := decide_eq_true e3
        have HAF : Hid (B = false) := by show _ = _; rw [HA1.out, q1, q2, q3]; rfl
        have HXF : Hid (X = false) := by show _ = _; rw [HX.out, HAF.out]; simp
        clear HAF
        go_wp2_with (first | (with_reducible refine wp_region_lex (by kernel_rfl) (by kernel_rfl) ?_) | (with_reducible refine OnlyG.intro (by kernel_rfl) ?_))
        exact bodyPost_ret (v := .tuple #[.agg #[.int .i64 x.1, .int .i64 x.2, .int .i64 y.1, .int .i64 y.2], .bool false]) (by simp [results, Tryz.results114, go_sem, *]) rfl ⟨⟨x, y, by rw [HXF.out], fun h => by rw [HXF.out] at h; cases h⟩, (((HB.out.drew.setCell (p := ⟨w.heap.size + 1 + 1, 0, none⟩) (by simp <;> omega) _).setCell (p := ⟨w.heap.size + 1 + 1, 1, none⟩) (by simp <;> omega) _).setCell (p := ⟨w.heap.size + 1 + 1, 2, none⟩) (by simp <;> omega) _).setCell (p := ⟨w.heap.size + 1 + 1, 3, none⟩) (by simp <;> omega) _⟩
      · have q1 : decide (l2 < -2147483648) = false := decide_eq_false e1
        have q2 : decide (2147483648 < h2) = false := decide_eq_false e2
        have q3 : decide (h2 < l2) = false := decide_eq_false e3
        have HAF : Hid (B = true) := by show _ = _; rw [HA1.out, q1, q2, q3]; rfl
        have HP := Lib.hid (HQ.out.1.put1 (3 * l2) (3 * h2))
        have HT := Lib.hid ((HQ.out.2.setCell (a := ⟨w.heap.size + 1 + 1 + 1, 1, none⟩) rfl (.int .i64 (3 * l2))).setCell (a := ⟨w.heap.size + 1 + 1 + 1, 3, none⟩) rfl (.int .i64 (3 * h2)))
        clear r0 r1 r2 r3 g0 g1 g2 g3 lr HB HQ
        go_upto_region 7 with (first | (with_reducible refine wp_region_lex (by kernel_rfl) (by kernel_rfl) ?_) | (with_reducible refine OnlyG.intro (by kernel_rfl) ?_))
        go_region
        all_goals
          go_wp2
          go_roundw
          case rel => exact ⟨1 + 1, (x.1, 3 * l2), (y.1, 3 * h2), by omega, rfl, ⟨HP.out, HT.out.drew.drew⟩, fun _ => HD.out.1 (by decide), fun _ => ⟨HAF.out, rfl, rfl⟩⟩
          case measure => simp [intOf]
    · have p1 : decide (((2 : Nat) : Int) < 2) = false := by decide
      obtain ⟨c0, c1, c2, c3, f0, f1, f2, f3, lq⟩ := HQ.out.1.cells
      obtain ⟨r0, r1, r2, r3, g0, g1, g2, g3, lr⟩ := (R0.out.turn HQ.out.2 (by omega)).cells
      have HB : Hid (Below w.heap.size w wo) := B0.out.trans (HQ.out.2.below (by omega) fun k hk e => by omega)
      obtain ⟨d1, d2⟩ := HD.out
      obtain ⟨d1a, d1b, d1c⟩ := d1 (by decide)
      obtain ⟨d2a, d2b, d2c⟩ := d2 (by decide)
      have HXF : Hid (X = true ∧ xl = x ∧ xh = y) := by
        refine ⟨by rw [HX.out, d1a, d2a]; rfl, ?_, ?_⟩
        · rw [HE.out.1, ← d1b, ← d2b]
        · rw [HE.out.2, ← d1c, ← d2c]
      clear d1 d2 d1a d1b d1c d2a d2b d2c HD HQ
      go_wp2
      exact bodyPost_ret (v := .tuple #[.agg #[.int .i64 x.1, .int .i64 x.2, .int .i64 y.1, .int .i64 y.2], .bool true]) (by simp [results, Tryz.results114, go_sem, *]) rfl ⟨⟨x, y, by rw [HXF.out.1], fun _ => ⟨HXF.out.2.1.symm, HXF.out.2.2.symm⟩⟩, (((HB.out.setCell (p := ⟨w.heap.size + 1 + 1, 0, none⟩) (by simp <;> omega) _).setCell (p := ⟨w.heap.size + 1 + 1, 1, none⟩) (by simp <;> omega) _).setCell (p := ⟨w.heap.size + 1 + 1, 2, none⟩) (by simp <;> omega) _).setCell (p := ⟨w.heap.size + 1 + 1, 3, none⟩) (by simp <;> omega) _⟩
end Go.Proofs.YtjimcjhgjfhbiaaGreat
/- The contract of cover.Touches. -/
namespace Go.Proofs.YtjimcjhgjfhbiaaGreat
open Go.RowKit Go.Lib Wd

theorem d_sm {m : Nat} (hm : m ≤ 12) : Sm 16777216 (d0E m) ∧ Sm 16777216 (d1E m) ∧ Sm 16777216 (subE (d1E m) (d0E m)) := by
  unfold Sm
  rcases upto12 hm with rfl | rfl | rfl | rfl | rfl | rfl | rfl | rfl | rfl | rfl | rfl | rfl | rfl <;> decide
/-- A ring about a middle that is not too far. -/
theorem ring_sm {m : Nat} (hm : m ≤ 12) {z : E2} (hc : Sm 90000000000 (cenE m z)) : RingSm (hexL m z) := fun k hk => by
  obtain ⟨h0, h1, h2, h3, h4, h5⟩ := hexC_eq m z
  obtain ⟨e0, e1, e2⟩ := d_sm hm
  rw [hexL_get m z hk, hexL_get m z (show (k + 1) % 6 < 6 by omega)]
  generalize d0E m = d at *
  generalize d1E m = e at *
  generalize cenE m z = o at *
  unfold Sm subE at *
  simp only at e2
  rcases (show k = 0 ∨ k = 1 ∨ k = 2 ∨ k = 3 ∨ k = 4 ∨ k = 5 by omega) with rfl | rfl | rfl | rfl | rfl | rfl
  · rw [show (0 + 1) % 6 = 1 from rfl, h0, h1]; (try unfold addE); simp only; omega
  · rw [show (1 + 1) % 6 = 2 from rfl, h1, h2]; (try unfold addE); simp only; omega
  · rw [show (2 + 1) % 6 = 3 from rfl, h2, h3]; (try unfold addE); simp only; omega
  · rw [show (3 + 1) % 6 = 4 from rfl, h3, h4]; (try unfold addE); simp only; omega
  · rw [show (4 + 1) % 6 = 5 from rfl, h4, h5]; (try unfold addE); simp only; omega
  · rw [show (5 + 1) % 6 = 0 from rfl, h5, h0]; (try unfold addE); simp only; omega
theorem ok_near {r : Nat} {z : E2} (h : okB r z = true) : r ≤ 12 ∧ Sm 1073741824 z ∧ Sm 90000000000 (cenE (12 - r) z) := by
  obtain ⟨hs, hb⟩ := (okB_iff _ _).1 h
  have hs := (shapeB_iff _ _).1 hs
  have hr : r ≤ 12 := by omega
  refine ⟨hr, by unfold Sm; omega, ?_⟩
  have h0 : Hex (tN (12 - r) 0) (errE (12 - r) z (2340 * (mulE (bE (12 - r)) z).1, 2340 * (mulE (bE (12 - r)) z).2)) := by
    have : (0 : Int) ≤ tN (12 - r) 0 := by rcases upto12 hr with rfl | rfl | rfl | rfl | rfl | rfl | rfl | rfl | rfl | rfl | rfl | rfl | rfl <;> decide
    unfold errE Hex
    simp only
    omega
  have h2 := err_ups h0 (k := r) (by omega)
  rw [show 12 - r + r = 12 by omega] at h2
  have ht : tN (12 - r) r ≤ 4000000000 := by rcases upto12 hr with rfl | rfl | rfl | rfl | rfl | rfl | rfl | rfl | rfl | rfl | rfl | rfl | rfl <;> decide
  have h3 := h2.mono ht
  rw [show ((r : Int)).toNat = r by omega] at hb
  generalize upN r z = b at *
  obtain ⟨_, _, _, _, _, _, _, _, _, _, _, _, q12⟩ := bE_tab
  rw [baseB_iff] at hb
  obtain ⟨b1, b2⟩ := b
  have hm : midE (12 - r) z = (3 * (mulE (bE (12 - r)) z).1, 3 * (mulE (bE (12 - r)) z).2) := by
    unfold midE mulE
    generalize bE (12 - r) = c
    ext <;> simp only <;> grind
  unfold cenE spotE
  rw [hm]
  generalize mulE (bE (12 - r)) z = u at *
  simp only [Hex, errE, mulE, q12] at h3 hb
  unfold Sm
  simp only
  omega
/-- Whether a cell and a box have a point in common, as it is told. -/
def ctB (r : Int) (z lo hi : E2) : Bool := bxOk lo hi && (okB r z && touchB (prG (hexL (12 - r.toNat) z)) (triE lo) (triE hi))
theorem tri_sm {lo hi : E2} (h : bxOk lo hi = true) : Sm 10000000000 (triE lo) ∧ Sm 10000000000 (triE hi) := by
  unfold bxOk axOk axG at h
  simp at h
  unfold Sm triE
  simp only
  omega
set_option maxRecDepth 100000 in
set_option maxHeartbeats 4000000 in
theorem ctouch_any (r : Int) (z lo hi : E2) (w : World) :
    Calls Tryz.prog 87 #[vC r z, vE lo, vE hi] w fun e w' => e = .returned (.bool (ctB r z lo hi)) ∧ Below w.heap.size w w' := by
  have HIN := Lib.hid (inth_any lo hi)
  have HOK := Lib.hid (ok_any r z)
  have HV : Hid (ctB r z lo hi = (bxOk lo hi && (okB r z && touchB (prG (hexL (12 - r.toNat) z)) (triE lo) (triE hi)))) := rfl
  have HTO : Hid (okB r z = true → bxOk lo hi = true → (∀ w, Calls Tryz.prog 116 #[vE z, .int .i64 r] w fun e w' => ∃ ao c, e = .returned (.tuple #[.slice ao 6 c, .bool true]) ∧ w'.ownsRow w.heap.size 24 2 (.slice ao 6 c) 6 (prV (hexL (12 - r.toNat) z)) ∧ Below w.heap.size w w') ∧
      ∀ ao c w, PrAt w ao (hexL (12 - r.toNat) z) → Calls Tryz.prog 117 #[vB (triE lo) (triE hi), .slice ao 6 c] w fun e w' => e = .returned (.bool (touchB (prG (hexL (12 - r.toNat) z)) (triE lo) (triE hi))) ∧ Below w.heap.size w w') := fun h1 h2 => by
    obtain ⟨k, rfl, hk⟩ := okB_nat h1
    obtain ⟨g1, g2, g3⟩ := ok_near h1
    obtain ⟨t1, t2⟩ := tri_sm h2
    rw [show ((k : Int)).toNat = k by omega]
    exact ⟨fun w => hex_in z g2 k g1 w, fun ao c w h => touches_any ao c _ _ _ w h (hexL_len _ _) (ring_sm (by omega) g3) t1 t2⟩
  have HL := Lib.hid (hexL_len (12 - r.toNat) z)
  generalize touchB (prG (hexL (12 - r.toNat) z)) (triE lo) (triE hi) = T at *
  generalize hexL (12 - r.toNat) z = L at *
  generalize ctB r z lo hi = X at *
  generalize okB r z = o at *
  generalize bxOk lo hi = b at *
  obtain ⟨x, hx⟩ : ∃ x, triE lo = x := ⟨_, rfl⟩
  obtain ⟨y, hy⟩ : ∃ y, triE hi = y := ⟨_, rfl⟩
  rw [hx, hy] at HIN HTO
  clear hx hy
  obtain ⟨z1, z2⟩ := z
  obtain ⟨l1, l2⟩ := lo
  obtain ⟨h1, h2⟩ := hi
  simp only [vE, vC] at *
  have T0 : Hid (Tri (((w.alloc (.cells #[.int .i64 r, .int .i64 z1, .int .i64 z2] 72)).alloc (.cells #[.int .i64 l1, .int .i64 l2] 24)).alloc (.cells #[.int .i64 h1, .int .i64 h2] 24)) w.heap.size r (z1, z2)) := (show Tri (w.alloc (.cells #[.int .i64 r, .int .i64 z1, .int .i64 z2] 72)) w.heap.size r (z1, z2) from heap_new _ _ _ rfl).later (((Below.refl _ _).alloc (Nat.le_refl _) _).alloc (by simp) _)
  have L0 : Hid (Two (((w.alloc (.cells #[.int .i64 r, .int .i64 z1, .int .i64 z2] 72)).alloc (.cells #[.int .i64 l1, .int .i64 l2] 24)).alloc (.cells #[.int .i64 h1, .int .i64 h2] 24)) (w.heap.size + 1) (.int .i64 l1) (.int .i64 l2)) := (Two.of_row (t := 24) (f := _) (heap_new _ _ _ (by simp))).later (by simp) ((Below.refl _ _).alloc (Nat.le_refl _) _)
  have H0 : Hid (Two (((w.alloc (.cells #[.int .i64 r, .int .i64 z1, .int .i64 z2] 72)).alloc (.cells #[.int .i64 l1, .int .i64 l2] 24)).alloc (.cells #[.int .i64 h1, .int .i64 h2] 24)) (w.heap.size + 1 + 1) (.int .i64 h1) (.int .i64 h2)) := Two.of_row (t := 24) (f := _) (heap_new _ _ _ (by simp))
  have B0 : Hid (Below w.heap.size w (((w.alloc (.cells #[.int .i64 r, .int .i64 z1, .int .i64 z2] 72)).alloc (.cells #[.int .i64 l1, .int .i64 l2] 24)).alloc (.cells #[.int .i64 h1, .int .i64 h2] 24))) := (((Below.refl w.heap.size w).alloc (Nat.le_refl _) _).alloc (by simp) _).alloc (by simp <;> omega) _
  have s0 : w.heap.size + 3 ≤ (((w.alloc (.cells #[.int .i64 r, .int .i64 z1, .int .i64 z2] 72)).alloc (.cells #[.int .i64 l1, .int .i64 l2] 24)).alloc (.cells #[.int .i64 h1, .int .i64 h2] 24)).heap.size := by simp
  go_enter Tryz.func87, Tryz.ntmps87
  go_upto_region 1 with (fail)
  generalize ((w.alloc (.cells #[.int .i64 r, .int .i64 z1, .int .i64 z2] 72)).alloc (.cells #[.int .i64 l1, .int .i64 l2] 24)).alloc (.cells #[.int .i64 h1, .int .i64 h2] 24) = w1 at *
  obtain ⟨a0, a1⟩ := L0.out
  obtain ⟨b0, b1⟩ := H0.out
  go_wp2_with fail
  refine (HIN.out _).mono ?_
  rintro e w2 ⟨⟨u, v, rfl, huv⟩, hb2⟩
  have HUV := Lib.hid huv
  have K2 := hb2.alloc hb2.size (.cells #[.int .i64 u.1, .int .i64 u.2, .int .i64 v.1, .int .i64 v.2] 163)
  have Q2 : Hid (Quad (w2.alloc (.cells #[.int .i64 u.1, .int .i64 u.2, .int .i64 v.1, .int .i64 v.2] 163)) w2.heap.size u v) := heap_new _ _ _ rfl
  have T2 := Lib.hid (T0.out.later K2)
  have B2 : Hid (Below w.heap.size w (w2.alloc (.cells #[.int .i64 u.1, .int .i64 u.2, .int .i64 v.1, .int .i64 v.2] 163))) := B0.out.trans (K2.mono B0.out.size)
  have s2 : w2.heap.size < (w2.alloc (.cells #[.int .i64 u.1, .int .i64 u.2, .int .i64 v.1, .int .i64 v.2] 163)).heap.size := by simp
  clear huv hb2 K2 T0 L0 H0 B0 HIN a0 a1 b0 b1
  go_upto_region 2 with (fail)
  generalize w2.alloc (.cells #[.int .i64 u.1, .int .i64 u.2, .int .i64 v.1, .int .i64 v.2] 163) = w3 at *
  cases b with
  | false =>
    have HX : Hid (X = false) := by show _ = _; rw [HV.out]; rfl
    clear HV HTO HUV HOK
    go_wp2
    go_ret
    rw [HX.out]
    exact ⟨rfl, B2.out⟩
  | true =>
    obtain ⟨rfl, rfl⟩ := HUV.out (by first | rfl | trivial)
    obtain ⟨t0, t1, t2, -, -, -, -⟩ := T2.out.cells
    go_wp2_with fail
    refine (HOK.out _).mono ?_
    rintro e w4 ⟨rfl, hb4⟩
    have Q4 := Lib.hid (Q2.out.later hb4)
    have T4 := Lib.hid (T2.out.later hb4)
    have B4 := Lib.hid (B2.out.trans (hb4.mono B2.out.size))
    clear hb4 Q2 T2 B2 t0 t1 t2 HUV HOK
    cases o with
    | false =>
      have HX : Hid (X = false) := by show _ = _; rw [HV.out]; rfl
      clear HV HTO
      go_wp2
      go_ret
      rw [HX.out]
      exact ⟨rfl, B4.out⟩
    | true =>
      obtain ⟨hhx, htc⟩ := HTO.out (by first | rfl | trivial) (by first | rfl | trivial)
      have HX : Hid (X = T) := by show _ = _; rw [HV.out]; rfl
      have HHX := Lib.hid hhx
      have HTC := Lib.hid htc
      obtain ⟨t0, t1, t2, -, -, -, -⟩ := T4.out.cells
      clear HV HTO hhx htc
      go_wp2_with fail
      refine (HHX.out _).mono ?_
      rintro e w5 ⟨ao, c, rfl, ho5, hb5⟩
      have HP5 := Lib.hid (prAt_own HL.out.symm ho5)
      obtain ⟨q0, q1, q2, q3, -, -, -, -, -⟩ := (Q4.out.later hb5).cells
      have B5 := Lib.hid (B4.out.trans (hb5.mono B4.out.size))
      have HTC2 := Lib.hid (HTC.out ao c w5 HP5.out)
      clear ho5 hb5 Q4 T4 B4 t0 t1 t2 HHX HTC
      go_wp2_with fail
      refine HTC2.out.mono ?_
      rintro e w6 ⟨rfl, hb6⟩
      have B6 := Lib.hid (B5.out.trans (hb6.mono B5.out.size))
      clear hb6 B5 q0 q1 q2 q3
      go_wp2
      go_ret
      rw [HX.out]
      exact ⟨rfl, B6.out⟩
end Go.Proofs.YtjimcjhgjfhbiaaGreat
/- Contracts of package view: Origin, framed, touches, Touches. -/
namespace Go.Proofs.YtjimcjhgjfhbiaaGreat
open Go.RowKit Go.Lib Wd Cv

/-- A tile's side, its corners. -/
def sdT (t : TL) : Int := ((2 ^ (30 - t.1).toNat : Nat) : Int)
def loT (t : TL) : E2 := (t.2.1 * sdT t, t.2.2.1 * sdT t)
def hiT (t : TL) : E2 := (t.2.1 * sdT t + sdT t, t.2.2.1 * sdT t + sdT t)
theorem isT_parts {t : TL} (h : isT t = true) : (0 ≤ t.1 ∧ t.1 ≤ 18) ∧ (0 ≤ t.2.2.2 ∧ t.2.2.2 ≤ 12) ∧ (0 ≤ t.2.1 ∧ t.2.1 < ((2 ^ t.1.toNat : Nat) : Int)) ∧ 0 ≤ t.2.2.1 ∧ t.2.2.1 < ((2 ^ t.1.toNat : Nat) : Int) := by
  unfold isT at h
  simp only [Bool.and_eq_true, decide_eq_true_eq] at h
  exact ⟨h.1.1.1, h.1.1.2, h.1.2, h.2⟩
theorem side_bd {x : Int} {z k : Nat} (hx : 0 ≤ x ∧ x < ((2 ^ z : Nat) : Int)) (hk : z + k = 30) : 0 ≤ x * ((2 ^ k : Nat) : Int) ∧ x * ((2 ^ k : Nat) : Int) + ((2 ^ k : Nat) : Int) ≤ 1073741824 := by
  have hp : (0 : Int) ≤ ((2 ^ k : Nat) : Int) := Int.natCast_nonneg _
  refine ⟨Int.mul_nonneg hx.1 hp, ?_⟩
  have h1 : (x + 1) * ((2 ^ k : Nat) : Int) ≤ ((2 ^ z : Nat) : Int) * ((2 ^ k : Nat) : Int) := Int.mul_le_mul_of_nonneg_right (by omega) hp
  have h2 : ((2 ^ z : Nat) : Int) * ((2 ^ k : Nat) : Int) = 1073741824 := by rw [← Int.natCast_mul, ← Nat.pow_add, hk]; rfl
  rw [Int.add_mul, Int.one_mul, h2] at h1
  exact h1
theorem tile_bd {t : TL} (h : isT t = true) : ∃ k : Nat, 30 - t.1 = (k : Int) ∧ 12 ≤ k ∧ k ≤ 30 ∧ sdT t = ((2 ^ k : Nat) : Int) ∧ 4096 ≤ sdT t ∧ sdT t ≤ 1073741824 ∧ (0 ≤ (loT t).1 ∧ 0 ≤ (loT t).2) ∧ (hiT t).1 ≤ 1073741824 ∧ (hiT t).2 ≤ 1073741824 := by
  obtain ⟨h1, h2, h3, h4⟩ := isT_parts h
  obtain ⟨k, hk⟩ : ∃ k : Nat, 30 - t.1 = (k : Int) := ⟨(30 - t.1).toNat, by omega⟩
  have e : sdT t = ((2 ^ k : Nat) : Int) := by unfold sdT; rw [hk, Int.toNat_natCast]
  have hz : t.1.toNat + k = 30 := by omega
  have b1 := side_bd h3 hz
  have b2 := side_bd h4 hz
  have l1 : 2 ^ 12 ≤ 2 ^ k := Nat.pow_le_pow_right (by decide) (by omega)
  have l2 : 2 ^ k ≤ 2 ^ 30 := Nat.pow_le_pow_right (by decide) (by omega)
  refine ⟨k, hk, by omega, by omega, e, ?_, ?_, ?_, ?_⟩
  · rw [e]; exact Int.ofNat_le.2 l1
  · rw [e]; exact Int.ofNat_le.2 l2
  · unfold loT; rw [e]; exact ⟨b1.1, b2.1⟩
  · unfold hiT; rw [e]; exact ⟨b1.2, b2.2⟩
set_option maxRecDepth 100000 in
set_option maxHeartbeats 2000000 in
theorem vorigin_in (t : TL) (hi : isT t = true) (w : World) : Calls Tryz.prog 86 #[tlV t] w fun e w' => e = .returned (.tuple #[.int .i64 (loT t).1, .int .i64 (loT t).2, .int .i64 (sdT t)]) ∧ Below w.heap.size w w' := by
  obtain ⟨⟨t0, t1, t2, t3⟩, hb, hs⟩ := boxed_tile w t
  have HB := Lib.hid hb
  have HIS := Lib.hid (fun w => vis_any t w)
  rw [hi] at HIS
  obtain ⟨k, hk, hk1, hk2, e, b1, b2, ⟨b3, b4⟩, b5, b6⟩ := tile_bd hi
  have T := Lib.hid (show Value.agg #[.int .i64 t.1, .int .i64 t.2.1, .int .i64 t.2.2.1, .int .i64 t.2.2.2] = tlV t from rfl)
  rw [← T.out] at HIS ⊢
  unfold loT hiT at *
  dsimp only at b3 b4 b5 b6 ⊢
  rw [e] at b1 b2 b3 b4 b5 b6 ⊢
  obtain ⟨p, hpp⟩ : ∃ p : Int, ((2 ^ k : Nat) : Int) = p := ⟨_, rfl⟩
  rw [hpp] at b1 b2 b3 b4 b5 b6 ⊢
  have qp : wrap64 ((2 : Int) ^ k) = p := by rw [show ((2 : Int) ^ k) = p by rw [← hpp, Int.natCast_pow]; rfl]; unfold wrap64; omega
  have qs : IntKind.i64.wrap (30 - t.1) = (k : Int) := by rw [hk]; exact wrap_in (by omega) (by omega)
  have qc : IntKind.u64.wrap (k : Int) = (k : Int) := by rw [IntKind.wrap_u64]; omega
  have q1 : IntKind.i64.wrap (t.2.1 * p) = t.2.1 * p := wrap_in (by omega) (by omega)
  have q2 : IntKind.i64.wrap (t.2.2.1 * p) = t.2.2.1 * p := wrap_in (by omega) (by omega)
  have HT1 : Hid (∀ W, Below (w.alloc (.cells #[.int .i64 t.1, .int .i64 t.2.1, .int .i64 t.2.2.1, .int .i64 t.2.2.2] 26)).heap.size (w.alloc (.cells #[.int .i64 t.1, .int .i64 t.2.1, .int .i64 t.2.2.1, .int .i64 t.2.2.2] 26)) W → TileAt W w.heap.size t) := fun W hW => TileAt.below ⟨t0, t1, t2, t3⟩ hW
  clear hb hpp e hk
  go_enter Tryz.func86, Tryz.ntmps86
  go_wp2_with fail
  refine (HIS.out _).mono ?_
  rintro e w1 ⟨rfl, hb1⟩
  obtain ⟨k0, k1, k2, k3⟩ := HT1.out _ hb1
  have ex : w.heap.size < w1.heap.size := Nat.lt_of_lt_of_le hs hb1.size
  have HB1 : Hid (Below w.heap.size w w1) := HB.out.trans (hb1.mono HB.out.size)
  clear hb1 t0 t1 t2 t3 hs
  go_upto_region 4 with (fail)
  rw [qp]
  clear qp qs qc
  go_wp2_with (first | (with_reducible refine wp_region_lex (by kernel_rfl) (by kernel_rfl) ?_) | (with_reducible refine OnlyG.intro (by kernel_rfl) ?_))
  go_ret3
  exact ⟨rfl, HB1.out.drew⟩
theorem put_four {w : World} {g : Nat} {a b c d : Value} {t : TypeId} (h : w.heap[g]? = some (.cells #[a, b, c, d] t (0, 0))) (a' b' c' d' : Value) : ((((w.setCell ⟨g, 0, none⟩ a').setCell ⟨g, 1, none⟩ b').setCell ⟨g, 2, none⟩ c').setCell ⟨g, 3, none⟩ d').heap[g]? = some (.cells #[a', b', c', d'] t (0, 0)) := by
  rw [Sort.setCell_eq, Sort.setCell_eq, Sort.setCell_eq, Sort.setCell_eq]
  simp [Sort.mapBlock, Array.getElem?_modify, h, Sort.onCells]
set_option maxRecDepth 100000 in
set_option maxHeartbeats 2000000 in
theorem framed_in (t : TL) (hi : isT t = true) (w : World) : Calls Tryz.prog 63 #[tlV t] w fun e w' => e = .returned (.agg #[.int .i64 (loT t).1, .int .i64 (loT t).2, .int .i64 (hiT t).1, .int .i64 (hiT t).2]) ∧ Below w.heap.size w w' := by
  obtain ⟨⟨t0, t1, t2, t3⟩, hb, hs⟩ := boxed_tile w t
  have HO := Lib.hid (fun w => vorigin_in t hi w)
  obtain ⟨k, hk, hk1, hk2, e, b1, b2, ⟨b3, b4⟩, b5, b6⟩ := tile_bd hi
  have T := Lib.hid (show Value.agg #[.int .i64 t.1, .int .i64 t.2.1, .int .i64 t.2.2.1, .int .i64 t.2.2.2] = tlV t from rfl)
  rw [← T.out] at HO ⊢
  have h1 : (hiT t).1 = (loT t).1 + sdT t := rfl
  have h2 : (hiT t).2 = (loT t).2 + sdT t := rfl
  rw [h1] at b5 ⊢
  rw [h2] at b6 ⊢
  clear h1 h2 e hi
  generalize (loT t).1 = u at *
  generalize (loT t).2 = v at *
  generalize sdT t = s at *
  obtain ⟨w1, hw1⟩ : ∃ W, (w.alloc (.cells #[.int .i64 t.1, .int .i64 t.2.1, .int .i64 t.2.2.1, .int .i64 t.2.2.2] 26)) = W := ⟨_, rfl⟩
  rw [hw1] at t0 t1 t2 t3 hb hs
  have y0 := heap_new w1 (.cells #[.int .i64 0, .int .i64 0, .int .i64 0, .int .i64 0] 113) _ rfl
  have hb2 : Below w1.heap.size w1 (w1.alloc (.cells #[.int .i64 0, .int .i64 0, .int .i64 0, .int .i64 0] 113)) := (Below.refl _ _).alloc (Nat.le_refl _) _
  have HW1 := Lib.hid hw1
  obtain ⟨k0, k1, k2, k3⟩ := TileAt.below ⟨t0, t1, t2, t3⟩ hb2
  clear hw1 t0 t1 t2 t3
  go_enter Tryz.func63, Tryz.ntmps63
  go_upto_region 1 with (rw [HW1.out])
  obtain ⟨w2, hw2⟩ : ∃ W, w1.alloc (.cells #[.int .i64 0, .int .i64 0, .int .i64 0, .int .i64 0] 113) = W := ⟨_, rfl⟩
  rw [hw2] at y0 hb2 k0 k1 k2 k3
  rw [hw2]
  have HB2 := Lib.hid (hb.trans (hb2.mono hb.size))
  have hs2 : w.heap.size < w2.heap.size := Nat.lt_of_lt_of_le hs hb2.size
  have hg := (Array.getElem?_eq_some_iff.1 y0).1
  have HN := Lib.hid (hb.size)
  clear hw2 hb hb2 hs
  go_wp2_with fail
  refine (HO.out _).mono ?_
  rintro e w3 ⟨rfl, hb3⟩
  have y1 := (hb3.block _ hg).trans y0
  have hg3 : w1.heap.size < w3.heap.size := Nat.lt_of_lt_of_le hg hb3.size
  have HB3 := Lib.hid (HB2.out.trans (hb3.mono HB2.out.size))
  generalize w1.heap.size = g at *
  have hgw : w.heap.size ≤ g := HN.out
  have f0 : ∀ j, w3.frozen? ⟨g, j, none⟩ = false := fun j => by simp [World.frozen?, y1]
  have x0 : w3.cell? ⟨g, 0, none⟩ = some (.int .i64 0) := cell_of_row _ _ 0 _ _ _ y1
  have x1 : w3.cell? ⟨g, 1, none⟩ = some (.int .i64 0) := cell_of_row _ _ 1 _ _ _ y1
  have x2 : w3.cell? ⟨g, 2, none⟩ = some (.int .i64 0) := cell_of_row _ _ 2 _ _ _ y1
  have x3 : w3.cell? ⟨g, 3, none⟩ = some (.int .i64 0) := cell_of_row _ _ 3 _ _ _ y1
  have hE := put_four y1 (.int .i64 u) (.int .i64 v) (.int .i64 (u + s)) (.int .i64 (v + s))
  have HE := Lib.hid hE
  clear hE hb3 y0 y1 k0 k1 k2 k3
  go_wp2
  refine bodyPost_ret (results_cell_row rfl _ _ g 113 _ (0, 0) _ rfl HE.out Tryz.underlying113 rfl (by kernel_rfl)) rfl ⟨rfl, ?_⟩
  exact (((HB3.out.setCell (p := ⟨g, 0, none⟩) hgw _).setCell (p := ⟨g, 1, none⟩) hgw _).setCell (p := ⟨g, 2, none⟩) hgw _).setCell (p := ⟨g, 3, none⟩) hgw _
end Go.Proofs.YtjimcjhgjfhbiaaGreat
