/- Plain laws: a word's parent, its size; the first fault of a list; groups by parents; the words of children. -/
import Derived.Test.YtkjfdaleamonaaaNcM
import Derived.Test.YtkjfdaleamonaaaSetP
namespace Go.Proofs.Ytkjfdaleamonaaa
open Go.RowKit Go.Lib Wd

/-- A word's parent, and the error; a word's size. -/
def parW (w : Nat) : Nat := if isW w = true ∧ rW w ≠ 0 then ofW ((rW w : Int) - 1) (upE (zW w)) else 0
def parE (w : Nat) : Int := if isW w = true then (if rW w = 0 then 3 else 0) else 5
def resW (w : Nat) : Int := if isW w = true then (rW w : Int) else -1
/-- The first fault of a list. -/
def chkF (r : Int) : List Int → Int
  | [] => 0
  | w :: l => if isW w.toNat = true then (if (rW w.toNat : Int) = r then chkF r l else 8) else 5
/-- Words by their parents: one step, all. -/
structure Gs where
  out : List (List Int)
  last : Int
  has : Bool
def gStep (s : Gs) (w : Int) : Gs :=
  if parE w.toNat = 5 then s
  else if parE w.toNat = 0 ∧ s.has = true ∧ (parW w.toNat : Int) = s.last then ⟨s.out.dropLast ++ [(s.out.getLast?.getD []) ++ [w]], s.last, s.has⟩
  else ⟨s.out ++ [[w]], parW w.toNat, decide (parE w.toNat = 0)⟩
def gAll (l : List Int) : Gs := l.foldl gStep ⟨[], 0, false⟩
def grpF (l : List Int) : List (List Int) := (gAll (setF l)).out
theorem gAll_snoc (l : List Int) (w : Int) : gAll (l ++ [w]) = gStep (gAll l) w := by unfold gAll; rw [List.foldl_append]; rfl
theorem snoc_ind {α : Type} {P : List α → Prop} (h0 : P []) (h1 : ∀ l a, P l → P (l ++ [a])) : ∀ l, P l := by
  intro l
  have : ∀ r : List α, P r.reverse := by
    intro r
    induction r with
    | nil => exact h0
    | cons a r ih => rw [List.reverse_cons]; exact h1 _ _ ih
  have := this l.reverse
  rwa [List.reverse_reverse] at this
/-- Whatever has a parent told stands in a group. -/
theorem gAll_has (l : List Int) : (gAll l).has = true → (gAll l).out ≠ [] := by
  induction l using snoc_ind with
  | h0 => intro h; cases h
  | h1 l w ih =>
    rw [gAll_snoc]
    unfold gStep
    split
    · exact ih
    · split <;> (intro _; simp)
theorem up_ok {r : Nat} {z : E2} (h : okB (r + 1 : Nat) z = true) : okB r (upE z) = true := by
  obtain ⟨h1, h2⟩ := okB_parts h
  refine ok_of_base (by omega) ?_
  exact h2
theorem parW_lt (w : Nat) : parW w < 18446744073709551616 := by
  unfold parW
  split
  · next h =>
    unfold ofW
    split
    · next h2 =>
      obtain ⟨k, hk, hk2⟩ := okB_nat h2
      rw [hk] at h2
      have := (wordN_lt h2).1
      rw [hk, Int.toNat_natCast]
      omega
    · omega
  · omega
end Go.Proofs.Ytkjfdaleamonaaa
