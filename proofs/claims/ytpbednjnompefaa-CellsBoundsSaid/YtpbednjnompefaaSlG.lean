/- Lists of words that are handed on from call to call: contracts of package cells at entries of one world. -/
import Derived.Test.YtpbednjnompefaaSlF
namespace Go.Proofs.Ytpbednjnompefaa
open Go.RowKit Go.Lib Go.Sort

theorem words_of_ints {w : World} {B n : Nat} {ao : Option Addr} {z : Nat → Int} (h : IntsAtK .u64 w B ao n z) : WordsAt w B ao ((List.range n).map z) := fun h0 => by
  obtain ⟨b, off, e, hlt, hc⟩ := h (by simpa using h0)
  refine ⟨b, off, e, hlt, fun i hi => ?_⟩
  have hi' : i < n := by simpa using hi
  rw [hc i hi', List.getD_eq_getElem?_getD, List.getElem?_map, List.getElem?_range hi']
  rfl

/-- A slice (address, length, room), a bound of its length and what it holds. -/
abbrev Ent := Option Addr × Nat × Nat × Nat × List Int
def EntOk (w : World) (ao : Option Addr) (n c z : Nat) (l : List Int) : Prop :=
  WordsAt w w.heap.size ao l ∧ l.length = n ∧ n ≤ z ∧ (ao = none → n = 0 ∧ c = 0)
/-- What all these slices hold in w. -/
def Env (w : World) (L : List Ent) : Prop := ∀ t ∈ L, EntOk w t.1 t.2.1 t.2.2.1 t.2.2.2.1 t.2.2.2.2
theorem Env.get {w : World} {L : List Ent} (h : Env w L) {ao : Option Addr} {n c z : Nat} {l : List Int} (hm : (ao, n, c, z, l) ∈ L) : EntOk w ao n c z l := h _ hm
theorem EntOk.later {w w' : World} {ao : Option Addr} {n c z : Nat} {l : List Int} (h : EntOk w ao n c z l) (hb : Below w.heap.size w w') : EntOk w' ao n c z l :=
  ⟨(h.1.below hb (Nat.le_refl _)).wider hb.size, h.2⟩
theorem Env.later {w w' : World} {L : List Ent} (h : Env w L) (hb : Below w.heap.size w w') : Env w' L := fun t ht => (h t ht).later hb
theorem Env.cons {w : World} {L : List Ent} (h : Env w L) {ao : Option Addr} {n c z : Nat} {l : List Int} (he : EntOk w ao n c z l) : Env w ((ao, n, c, z, l) :: L) := fun t ht => by
  rcases List.mem_cons.1 ht with rfl | ht
  · exact he
  · exact h t ht
theorem Env.nil (w : World) : Env w [] := fun t ht => by cases ht

def New (w : World) (L : List Ent) (z : Nat) (l : List Int) (e : Ending) (w' : World) : Prop :=
  ∃ ao n c err, e = .returned (.tuple #[.slice ao n c, .int .i64 err]) ∧ n = l.length ∧ Env w' ((ao, n, c, z, l) :: L) ∧ Below w.heap.size w w'
def New1 (w : World) (L : List Ent) (z : Nat) (l : List Int) (e : Ending) (w' : World) : Prop :=
  ∃ ao n c, e = .returned (.slice ao n c) ∧ n = l.length ∧ Env w' ((ao, n, c, z, l) :: L) ∧ Below w.heap.size w w'
theorem nil_both {w : World} {B : Nat} {ao : Option Addr} {c : Nat} {l : List Int} (h : WordsAt w B ao l) (hz : ao = none → c = 0) : ao = none → l.length = 0 ∧ c = 0 := fun e => by
  refine ⟨?_, hz e⟩
  rcases Nat.eq_zero_or_pos l.length with h0 | h0
  · exact h0
  · obtain ⟨b, off, e2, _⟩ := h h0
    rw [e] at e2; cases e2

theorem unionL_small {a b : List Int} (h : a.length + b.length ≤ 20000) : unionL a b = setF (a ++ b) := by
  have := setF_length (a ++ b)
  rw [List.length_append] at this
  unfold unionL toldF
  rw [if_neg (by omega), if_neg (by omega)]
theorem sideL_small {p : Int → Bool} {a b : List Int} (ha : a.length ≤ 20000) (hb : b.length ≤ 20000) : sideL p a b = (setF a).filter p := by
  unfold sideL
  rw [if_neg (by omega)]
theorem unionL_length {a b : List Int} : (unionL a b).length ≤ a.length + b.length := by
  have := setF_length (a ++ b)
  rw [List.length_append] at this
  unfold unionL toldF
  split
  · simp
  · split
    · simp
    · omega
theorem sideL_length (p : Int → Bool) (a b : List Int) : (sideL p a b).length ≤ a.length := by
  have h1 := List.length_filter_le p (setF a)
  have h2 := setF_length a
  unfold sideL
  split
  · simp
  · omega

theorem union_env {w : World} {L : List Ent} (H : Env w L) {ao bo : Option Addr} {n c m d y z : Nat} {a b : List Int} (ha : (ao, n, c, y, a) ∈ L) (hb : (bo, m, d, z, b) ∈ L) (hy : y + z ≤ 20000) :
    Calls Try.prog 9 #[.slice ao n c, .slice bo m d] w (New w L (y + z) (unionL a b)) := by
  obtain ⟨h1, rfl, h3, h4⟩ := H.get ha
  obtain ⟨k1, rfl, k3, k4⟩ := H.get hb
  refine (union_any ao bo c d a b w h1 k1 h4 k4 (by omega) (by omega)).mono ?_
  rintro e w' ⟨ro, rc, rfl, hw, hbl, hz⟩
  exact ⟨ro, _, rc, _, rfl, rfl, (H.later hbl).cons ⟨hw, rfl, by have := unionL_length (a := a) (b := b); omega, nil_both hw hz⟩, hbl⟩
theorem meet_env {w : World} {L : List Ent} (H : Env w L) {ao bo : Option Addr} {n c m d y z : Nat} {a b : List Int} (ha : (ao, n, c, y, a) ∈ L) (hb : (bo, m, d, z, b) ∈ L) (hy : y + z ≤ 20000) :
    Calls Try.prog 10 #[.slice ao n c, .slice bo m d] w (New w L y (sideL (fun x => hasF (setF b) x) a b)) := by
  obtain ⟨h1, rfl, h3, h4⟩ := H.get ha
  obtain ⟨k1, rfl, k3, k4⟩ := H.get hb
  refine (meet_any ao bo c d a b w h1 k1 (by omega) (by omega)).mono ?_
  rintro e w' ⟨ro, rc, rfl, hw, hbl, hz⟩
  exact ⟨ro, _, rc, _, rfl, rfl, (H.later hbl).cons ⟨hw, rfl, by have := sideL_length (fun x => hasF (setF b) x) a b; omega, nil_both hw hz⟩, hbl⟩
theorem minus_env {w : World} {L : List Ent} (H : Env w L) {ao bo : Option Addr} {n c m d y z : Nat} {a b : List Int} (ha : (ao, n, c, y, a) ∈ L) (hb : (bo, m, d, z, b) ∈ L) (hy : y + z ≤ 20000) :
    Calls Try.prog 11 #[.slice ao n c, .slice bo m d] w (New w L y (sideL (fun x => !hasF (setF b) x) a b)) := by
  obtain ⟨h1, rfl, h3, h4⟩ := H.get ha
  obtain ⟨k1, rfl, k3, k4⟩ := H.get hb
  refine (minus_any ao bo c d a b w h1 k1 (by omega) (by omega)).mono ?_
  rintro e w' ⟨ro, rc, rfl, hw, hbl, hz⟩
  exact ⟨ro, _, rc, _, rfl, rfl, (H.later hbl).cons ⟨hw, rfl, by have := sideL_length (fun x => !hasF (setF b) x) a b; omega, nil_both hw hz⟩, hbl⟩
theorem set_env {w : World} {L : List Ent} (H : Env w L) {ao : Option Addr} {n c y : Nat} {a : List Int} (ha : (ao, n, c, y, a) ∈ L) (hy : y ≤ 1000000) :
    Calls Try.prog 16 #[.slice ao n c] w (New1 w L y (setF a)) := by
  obtain ⟨h1, rfl, h3, h4⟩ := H.get ha
  refine (uset_any ao c a w _ h1 (by omega)).mono ?_
  rintro e w' ⟨ro, rc, rfl, hz, hw, hbl⟩
  exact ⟨ro, _, rc, rfl, rfl, (H.later hbl).cons ⟨hw, rfl, by have := setF_length a; omega, nil_both hw hz⟩, hbl⟩
theorem same_env {w : World} {L : List Ent} (H : Env w L) {ao bo : Option Addr} {n c m d y z : Nat} {a b : List Int} (ha : (ao, n, c, y, a) ∈ L) (hb : (bo, m, d, z, b) ∈ L) (hy : y ≤ 1000000) :
    Calls Try.prog 15 #[.slice ao n c, .slice bo m d] w fun e w' => e = .returned (.bool (decide (a = b))) ∧ Env w' L ∧ Below w.heap.size w w' := by
  obtain ⟨h1, rfl, h3, h4⟩ := H.get ha
  obtain ⟨k1, rfl, k3, k4⟩ := H.get hb
  refine (same_any ao bo c d a b w _ _ h1 k1 (by omega)).mono ?_
  rintro e w' ⟨rfl, hbl⟩
  exact ⟨rfl, H.later hbl, hbl⟩
end Go.Proofs.Ytpbednjnompefaa
