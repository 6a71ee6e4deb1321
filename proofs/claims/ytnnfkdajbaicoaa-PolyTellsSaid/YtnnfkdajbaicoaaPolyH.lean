/- What the laws on rings share besides: rows of rings that a law makes. -/
import Derived.Test.YtnnfkdajbaicoaaPolyG
import Derived.Test.YtnnfkdajbaicoaaPolyP
namespace Go.Proofs.Ytnnfkdajbaicoaa
open Go.RowKit

/-- A literal slice owns its block. -/
theorem own_lit {w : World} {g n size : Nat} {e : TypeId} {cs : List Value} {base : Nat} (hg : w.heap[g]? = some (.cells cs.toArray e (0, 0))) (hb : base ≤ g) (hn : cs.length = n * size) (hm : n ≤ maxLen) :
    w.ownsRow base e size (.slice (some ⟨g, 0, none⟩) n n) n cs :=
  ⟨hn, .inr ⟨g, n, cs.toArray, rfl, hb, hg, Nat.le_refl _, hm, by simpa using hn, by rw [List.take_of_length_le (by simp; omega)]⟩⟩
theorem OwnRings.get {w : World} {base : Nat} : ∀ {vs : List Value} {ls : List (List Pt)}, OwnRings w base vs ls → ∀ i, i < ls.length → ∃ v, vs[i]? = some v ∧ w.ownsRow base 27 2 v (rg ls i).length (ringV (rg ls i))
  | [], [], _, i, hi => by simp at hi
  | v :: _, l :: _, h, 0, _ => ⟨v, rfl, h.1⟩
  | _ :: _, l :: ls, h, i + 1, hi => by
    obtain ⟨v, hv, ho⟩ := OwnRings.get h.2 i (by simpa using hi)
    exact ⟨v, hv, ho⟩
theorem ring_of_own {w : World} {base : Nat} {v : Value} {l : List Pt} (h : w.ownsRow base 27 2 v l.length (ringV l)) : ∃ ao c, v = .slice ao l.length c ∧ RingAt w w.heap.size ao l := by
  obtain ⟨ao, c, rfl, _, hc⟩ := own_form h
  refine ⟨ao, c, rfl, fun h0 => ?_⟩
  obtain ⟨g, rfl, _, hg, hcell⟩ := hc h0
  exact ringAt_cells hg hcell h0
theorem ring_at_own {w : World} {base n c : Nat} {ao : Option Addr} {l : List Pt} (hn : n = l.length) (h : w.ownsRow base 27 2 (.slice ao n c) n (ringV l)) : RingAt w w.heap.size ao l := by
  subst hn
  obtain ⟨ao', c', e, h2⟩ := ring_of_own h
  cases e
  exact h2
theorem ring_wider {w : World} {B C : Nat} {ao : Option Addr} {l : List Pt} (h : RingAt w B ao l) (hC : B ≤ C) : RingAt w C ao l := fun h0 => by
  obtain ⟨b, off, e, hlt, hc⟩ := h h0
  exact ⟨b, off, e, by omega, hc⟩
theorem rings_of_own {w : World} {base b2 n c : Nat} {ao : Option Addr} {vs : List Value} {ls : List (List Pt)} (h : w.ownsRow base 26 1 (.slice ao n c) n vs) (hO : OwnRings w b2 vs ls) (hn : n = ls.length) : RingsAt w w.heap.size ao ls := by
  intro h0
  obtain ⟨ao', c', e, _, hc⟩ := own_form h
  cases e
  obtain ⟨g, rfl, _, hg, hcell⟩ := hc (by omega)
  refine ⟨g, 0, rfl, hg, fun i hi => ?_⟩
  obtain ⟨v, hv, ho⟩ := hO.get i hi
  obtain ⟨ri, ci, rfl, hr⟩ := ring_of_own ho
  exact ⟨ri, ci, by rw [Nat.zero_add]; exact hcell i _ hv, hr⟩
theorem replicate_snoc {α : Type} (k : Nat) (a : α) : List.replicate (k + 1) a = List.replicate k a ++ [a] := by rw [List.replicate_succ']

theorem rings_block {w : World} {B g : Nat} {cs : Array Value} {t : TypeId} {fr : Nat × Nat} {ls : List (List Pt)} (hg : w.heap[g]? = some (.cells cs t fr)) (hB : g < B)
    (h : ∀ i, i < ls.length → ∃ ri ci, cs[i]? = some (.slice ri (rg ls i).length ci) ∧ RingAt w B ri (rg ls i)) : RingsAt w B (some ⟨g, 0, none⟩) ls := fun _ =>
  ⟨g, 0, rfl, hB, fun i hi => by
    obtain ⟨ri, ci, h1, h2⟩ := h i hi
    exact ⟨ri, ci, by rw [Nat.zero_add, cell_of_row w g i cs t fr hg]; exact h1, h2⟩⟩
theorem ringAt_new' (w : World) (l : List Pt) (t : TypeId) : RingAt (w.alloc (.cells (ringV l).toArray t)) (w.alloc (.cells (ringV l).toArray t)).heap.size (some ⟨w.heap.size, 0, none⟩) l :=
  ring_wider (ringAt_new w l t) (by simp)
/-- Check of a single ring in a new row. -/
theorem check_one (ao : Option Addr) (n c g : Nat) (l : List Pt) (hn : n = l.length) (hl : n ≤ 1000000000) (w : World) (hg : w.heap.size = g) (h : RingAt w w.heap.size ao l) (v : Int) (hv : checkF [l] = v) :
    Calls Try.prog 14 #[.slice (some ⟨g, 0, none⟩) 1 1] (w.alloc (.cells #[.slice ao n c] 26)) fun e w' => e = .returned (.int .i64 v) ∧ Below w.heap.size w w' := by
  subst hn hg hv
  exact (check_any (some ⟨w.heap.size, 0, none⟩) 1 [l] (w.alloc (.cells #[.slice ao l.length c] 26)) (w.heap.size + 1) (by simp) (rings_one c 26 h (Nat.le_refl _)) (by simp) (by simpa [totTo] using hl)).mono
    fun e w' ⟨he, hb⟩ => ⟨he, below_alloc hb⟩
theorem area_one (ao : Option Addr) (n c : Nat) (l : List Pt) (hn : n = l.length) (hl : n ≤ 1000000000) (w : World) (h : RingAt w w.heap.size ao l) (v : Int) (hv : area2F l = v) :
    Calls Try.prog 15 #[.slice ao n c] w fun e w' => e = .returned (.int .i64 v) ∧ Below w.heap.size w w' := by
  subst hn hv
  exact area_any ao c l w w.heap.size (Nat.le_refl _) h hl
/-- A look at rings that lie in a row of the law's own, in whatever later world. -/
def Ins (f : Nat) (ao : Option Addr) (n c : Nat) (F : Int → Int → Bool) (X : World) (B : Nat) : Prop :=
  ∀ (x y : Int) (wx : World), Below B X wx → Calls Try.prog f #[.slice ao n c, .int .i64 x, .int .i64 y] wx fun e w' => e = .returned (.bool (F x y)) ∧ Below B X w'
theorem Ins.use {f n c : Nat} {ao : Option Addr} {F : Int → Int → Bool} {X : World} {B : Nat} (h : Ins f ao n c F X B) (x y : Int) (wx : World) (hb : Below B X wx) :
    Calls Try.prog f #[.slice ao n c, .int .i64 x, .int .i64 y] wx fun e w' => e = .returned (.bool (F x y)) ∧ Below B X w' := h x y wx hb
end Go.Proofs.Ytnnfkdajbaicoaa
