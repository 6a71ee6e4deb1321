/- Contracts of cells.told, side, Meet, Minus. -/
import Derived.Test.YtkjfdaleamonaaaSetP
namespace Go.Proofs.Ytkjfdaleamonaaa
open Go.RowKit Go.Lib Go.Sort

/-- An answer that may be too long. -/
def toldF (l : List Int) : List Int := if 20000 < l.length then [] else l
def toldE (l : List Int) : Int := if 20000 < l.length then 7 else 0
def Told (w : World) (l : List Int) (e : Ending) (w' : World) : Prop :=
  ∃ ao c, e = .returned (.tuple #[.slice ao (toldF l).length c, .int .i64 (toldE l)]) ∧ WordsAt w' w'.heap.size ao (toldF l) ∧ Below w.heap.size w w' ∧ (ao = none → c = 0)
set_option maxHeartbeats 400000 in
theorem told_any (ao : Option Addr) (c : Nat) (l : List Int) (w : World) (h : WordsAt w w.heap.size ao l) (hn : l.length ≤ 1000000000) (zc : ao = none → c = 0) :
    Calls Try.prog 40 #[.slice ao l.length c] w (Told w l) := by
  by_cases h2 : 20000 < l.length
  · have HT : Hid (Told w l (.returned (.tuple #[.slice none 0 0, .int .i64 7])) w) := ⟨none, 0, by unfold toldF toldE; rw [if_pos h2, if_pos h2]; rfl, by unfold toldF; rw [if_pos h2]; exact fun h => by simp at h, Below.refl _ _, fun _ => rfl⟩
    clear zc
    go_enter Try.func40, Try.ntmps40
    go_wp2
    go_ret2
    exact HT.out
  · have HT : Hid (Told w l (.returned (.tuple #[.slice ao l.length c, .int .i64 0])) w) := ⟨ao, c, by unfold toldF toldE; rw [if_neg h2, if_neg h2], by unfold toldF; rw [if_neg h2]; exact h, Below.refl _ _, zc⟩
    clear zc
    go_enter Try.func40, Try.ntmps40
    go_wp2
    go_ret2
    exact HT.out

theorem uV_snoc (l : List Int) (x : Int) : uV (l ++ [x]) = uV l ++ [.int .u64 x] := by simp [uV]
theorem take_filter_succ (p : Int → Bool) (l : List Int) {k : Nat} (h : k < l.length) : (l.take (k + 1)).filter p = (l.take k).filter p ++ (if p (l.getD k 0) then [l.getD k 0] else []) := by
  rw [List.take_succ_eq_append_getElem h, List.filter_append]
  have : l.getD k 0 = l[k] := by rw [List.getD_eq_getElem?_getD, List.getElem?_eq_getElem h, Option.getD_some]
  rw [this]
  by_cases hp : p l[k] = true <;> simp [hp]
/-- What a side of two lists comes to. -/
def sideL (p : Int → Bool) (a b : List Int) : List Int := if 20000 < a.length ∨ 20000 < b.length then [] else (setF a).filter p
def sideE (a b : List Int) : Int := if 20000 < a.length ∨ 20000 < b.length then 7 else 0
def Side (w : World) (p : Int → Bool) (a b : List Int) (e : Ending) (w' : World) : Prop :=
  ∃ ao c, e = .returned (.tuple #[.slice ao (sideL p a b).length c, .int .i64 (sideE a b)]) ∧ WordsAt w' w'.heap.size ao (sideL p a b) ∧ Below w.heap.size w w' ∧ (ao = none → c = 0)
/-- A nil row of a call's own has no room. -/
theorem own_nil {w : World} {base n c size : Nat} {e : TypeId} {ao : Option Addr} {xs : List Value} (h : w.ownsRow base e size (.slice ao n c) n xs) : ao = none → c = 0 := fun h0 => by
  subst h0
  rcases h.2 with ⟨h1, _⟩ | ⟨g, cap, cur, hv, _⟩
  · cases h1; rfl
  · cases hv
theorem words_own {w : World} {base n c : Nat} {ao : Option Addr} {l : List Int} (hn : n = l.length) (h : w.ownsRow base 24 1 (.slice ao n c) n (uV l)) : WordsAt w w.heap.size ao l := fun h0 => by
  subst hn
  obtain ⟨ao', c', e, _, hh⟩ := own_form h
  cases e
  obtain ⟨g, rfl, _, hg, hc⟩ := hh h0
  exact ⟨g, 0, rfl, hg, fun i hi => by rw [hc (0 + i) _ (by rw [Nat.zero_add]; exact uV_get l i hi)]⟩

end Go.Proofs.Ytkjfdaleamonaaa
