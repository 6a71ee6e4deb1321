/- Small lemmas that walks share: what a call has turned; rows of the call's own. -/
import Derived.Test.YtkjfdaleamonaaaKit
import Derived.Sort.Row
namespace Go.Proofs.Ytkjfdaleamonaaa
open Go.RowKit Go.Lib

/-- Nothing has turned but what lies in the blocks of S, and what is new. -/
def Turn (S : Nat → Prop) (w w' : World) : Prop := w'.os = w.os ∧ w'.tape = w.tape ∧ w'.output = w.output ∧ w.heap.size ≤ w'.heap.size ∧ ∀ k, k < w.heap.size → ¬ S k → w'.heap[k]? = w.heap[k]?
theorem Turn.refl (S : Nat → Prop) (w : World) : Turn S w w := ⟨rfl, rfl, rfl, Nat.le_refl _, fun _ _ _ => rfl⟩
theorem Turn.of_below {S : Nat → Prop} {w w' : World} (h : Below w.heap.size w w') : Turn S w w' := ⟨h.os, h.tape, h.output, h.size, fun k hk _ => h.block k hk⟩
theorem Turn.trans {S T : Nat → Prop} {w w1 w2 : World} (h : Turn S w w1) (h2 : Turn T w1 w2) (hT : ∀ k, k < w.heap.size → T k → S k) : Turn S w w2 :=
  ⟨h2.1.trans h.1, h2.2.1.trans h.2.1, h2.2.2.1.trans h.2.2.1, Nat.le_trans h.2.2.2.1 h2.2.2.2.1, fun k hk hs => (h2.2.2.2.2 k (Nat.lt_of_lt_of_le hk h.2.2.2.1) (fun ht => hs (hT k hk ht))).trans (h.2.2.2.2 k hk hs)⟩
theorem Turn.below {S : Nat → Prop} {w w' : World} {B : Nat} (h : Turn S w w') (hB : B ≤ w.heap.size) (hS : ∀ k, k < B → ¬ S k) : Below B w w' := ⟨h.1, h.2.1, h.2.2.1, h.2.2.2.1, fun k hk => h.2.2.2.2 k (Nat.lt_of_lt_of_le hk hB) (hS k hk)⟩
theorem Turn.drew {S : Nat → Prop} {w w' : World} (h : Turn S w w') : Turn S w w'.drew := ⟨h.1, h.2.1, h.2.2.1, h.2.2.2.1, h.2.2.2.2⟩
theorem Turn.setCell {S : Nat → Prop} {w w' : World} (h : Turn S w w') {a : Addr} (ha : S a.block) (u : Value) : Turn S w (w'.setCell a u) :=
  ⟨h.1, h.2.1, h.2.2.1, by simpa using h.2.2.2.1, fun k hk hs => (Below.heap_setCell _ _ _ _ (fun e => hs (by rw [e]; exact ha))).trans (h.2.2.2.2 k hk hs)⟩
theorem Turn.cell {S : Nat → Prop} {w w' : World} (h : Turn S w w') {p : Addr} (hp : p.block < w.heap.size) (hs : ¬ S p.block) : w'.cell? p = w.cell? p := World.cell?_of_block (h.2.2.2.2 _ hp hs)
theorem below_dn (w : World) (n : Nat) : Below w.heap.size w (w.drewN n) := ⟨rfl, rfl, rfl, Nat.le_refl _, fun _ _ => rfl⟩
theorem own_later {w w' : World} {base n size : Nat} {e : TypeId} {v : Value} {xs : List Value} (h : w.ownsRow base e size v n xs) (hb : Below w.heap.size w w') : w'.ownsRow base e size v n xs := by
  refine ⟨h.1, ?_⟩
  rcases h.2 with h1 | ⟨g, cap, cur, hv, hbg, hh, hx⟩
  · exact .inl h1
  · exact .inr ⟨g, cap, cur, hv, hbg, (hb.block g (Array.getElem?_eq_some_iff.1 hh).1).trans hh, hx⟩
theorem own_turn {S : Nat → Prop} {w w' : World} {base n c size : Nat} {e : TypeId} {vo : Option Addr} {xs : List Value} (h : w.ownsRow base e size (.slice vo n c) n xs) (ht : Turn S w w') (hs : ∀ g o s, vo = some ⟨g, o, s⟩ → ¬ S g) : w'.ownsRow base e size (.slice vo n c) n xs := by
  refine ⟨h.1, ?_⟩
  rcases h.2 with h1 | ⟨g, cap, cur, hv, hbg, hh, hx⟩
  · exact .inl h1
  · exact .inr ⟨g, cap, cur, hv, hbg, (ht.2.2.2.2 g (Array.getElem?_eq_some_iff.1 hh).1 (hs g 0 none (by cases hv; rfl))).trans hh, hx⟩
theorem own_set {w : World} {base n cap size g : Nat} {e : TypeId} {xs : List Value} (h : w.ownsRow base e size (.slice (some ⟨g, 0, none⟩) n cap) n xs) (j : Nat) (u : Value) :
    (w.setCell ⟨g, j, none⟩ u).ownsRow base e size (.slice (some ⟨g, 0, none⟩) n cap) n (xs.set j u) := by
  rcases h.2 with ⟨h0, _⟩ | ⟨g', cap', cur, hv, hb, hh, h1, h2, h3, h4⟩
  · cases h0
  · cases hv
    refine ⟨by simpa using h.1, .inr ⟨g, cap, cur.setIfInBounds j u, rfl, hb, ?_, h1, h2, by simpa using h3, ?_⟩⟩
    · rw [Sort.setCell_eq]
      simp [Sort.mapBlock, Array.getElem?_modify, hh, Sort.onCells]
    · rw [Array.toList_setIfInBounds, List.take_set, h4]
theorem own_drew {w : World} {base n size : Nat} {e : TypeId} {v : Value} {xs : List Value} (h : w.ownsRow base e size v n xs) : w.drew.ownsRow base e size v n xs := h
/-- The block of a row of the call's own. -/
theorem own_block {w : World} {base g n cap size : Nat} {e : TypeId} {xs : List Value} (h : w.ownsRow base e size (.slice (some ⟨g, 0, none⟩) n cap) n xs) :
    ∃ cur : Array Value, w.heap[g]? = some (.cells cur e (0, 0)) ∧ base ≤ g ∧ n ≤ cap ∧ cap ≤ maxLen ∧ cur.size = cap * size ∧ cur.toList.take (n * size) = xs := by
  rcases h.2 with ⟨hv, _⟩ | ⟨g', cap', cur, hv, hbg, hh, hnc, hcm, hcs, htake⟩
  · simp only [Value.slice.injEq] at hv; cases hv.1
  · simp only [Value.slice.injEq, Option.some.injEq, Addr.mk.injEq] at hv
    obtain ⟨⟨rfl, _⟩, _, rfl⟩ := hv
    exact ⟨cur, hh, hbg, hnc, hcm, hcs, htake⟩
/-- A row of the call's own, cut at its end. -/
theorem own_take {w : World} {base g n m cap size : Nat} {e : TypeId} {xs : List Value} (h : w.ownsRow base e size (.slice (some ⟨g, 0, none⟩) n cap) n xs) (hm : m ≤ n) :
    w.ownsRow base e size (.slice (some ⟨g, 0, none⟩) m cap) m (xs.take (m * size)) := by
  obtain ⟨cur, hh, hbg, hnc, hcm, hcs, htake⟩ := own_block h
  have hms : m * size ≤ n * size := Nat.mul_le_mul_right size hm
  refine ⟨by rw [List.length_take, h.1]; omega, .inr ⟨g, cap, cur, rfl, hbg, hh, by omega, hcm, hcs, ?_⟩⟩
  rw [← htake, List.take_take, Nat.min_eq_left hms]
theorem own_lt {w : World} {base n c size : Nat} {e : TypeId} {vo : Option Addr} {xs : List Value} (h : w.ownsRow base e size (.slice vo n c) n xs) : ∀ g o s, vo = some ⟨g, o, s⟩ → base ≤ g ∧ g < w.heap.size := fun g o s e => by
  rcases h.2 with ⟨hv, _⟩ | ⟨g', cap, cur, hv, hbg, hh, _⟩
  · simp only [Value.slice.injEq] at hv; rw [hv.1] at e; cases e
  · simp only [Value.slice.injEq] at hv; rw [hv.1] at e; cases e; exact ⟨hbg, (Array.getElem?_eq_some_iff.1 hh).1⟩
theorem own_base {w : World} {base b2 n size : Nat} {e : TypeId} {v : Value} {xs : List Value} (h : w.ownsRow base e size v n xs) (hb : b2 ≤ base) : w.ownsRow b2 e size v n xs :=
  ⟨h.1, h.2.imp (fun h => h) fun ⟨g, cap, cur, hv, hbg, r⟩ => ⟨g, cap, cur, hv, by omega, r⟩⟩
theorem wf_i64 {x : Int} (h0 : -9223372036854775808 ≤ x) (h1 : x ≤ 9223372036854775807) : (Lit.int .i64 x).wf = true := by
  unfold Lit.wf; rw [Bool.and_eq_true, decide_eq_true_eq, decide_eq_true_eq]; exact ⟨h0, h1⟩
theorem wrap_in {x : Int} (h1 : -9223372036854775808 ≤ x) (h2 : x ≤ 9223372036854775807) : IntKind.i64.wrap x = x := IntWalk.i64_in _ (by omega)
end Go.Proofs.Ytkjfdaleamonaaa
