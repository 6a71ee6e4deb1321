/- Queues beside what must stay; apiarylaw16's awake. -/
import Derived.Test.YtbmhnadnomngnaaQG
namespace Go.Proofs.Ytbmhnadnomngnaa
open Go.RowKit Go.Lib

/-- The blocks X stay as they are. -/
def Stay (X : Nat → Prop) (w w' : World) : Prop := Turn (fun k => ¬ X k) w w'
theorem Stay.trans {X : Nat → Prop} {w w1 w2 : World} (h : Stay X w w1) (h2 : Stay X w1 w2) : Stay X w w2 := Turn.trans h h2 fun _ _ h => h
theorem Stay.of_below {X : Nat → Prop} {w w' : World} (h : Below w.heap.size w w') : Stay X w w' := Turn.of_below h
theorem Stay.refl (X : Nat → Prop) (w : World) : Stay X w w := Turn.refl _ _
theorem Stay.block {X : Nat → Prop} {w w' : World} (h : Stay X w w') {k : Nat} (hk : k < w.heap.size) (hx : X k) : w'.heap[k]? = w.heap[k]? := h.2.2.2.2 k hk fun h => h hx
theorem Stay.size {X : Nat → Prop} {w w' : World} (h : Stay X w w') : w.heap.size ≤ w'.heap.size := h.2.2.2.1
theorem Stay.below {X : Nat → Prop} {w w' : World} {B : Nat} (h : Stay X w w') (hB : B ≤ w.heap.size) (hX : ∀ k, k < B → X k) : Below B w w' := Turn.below h hB fun k hk h => h (hX k hk)
theorem Stay.less {X Y : Nat → Prop} {w w' : World} (h : Stay X w w') (hY : ∀ k, Y k → X k) : Stay Y w w' := ⟨h.1, h.2.1, h.2.2.1, h.2.2.2.1, fun k hk hs => h.2.2.2.2 k hk fun h9 => hs fun h8 => h9 (hY k h8)⟩
/-- One queue beside X. -/
def One (X : Nat → Prop) (w : World) (q : Nat) (L : List Wt) : Prop := ∃ F, QIs w q F L ∧ ∀ k, X k → k < w.heap.size ∧ ¬ F k
/-- Two queues beside X, apart from each other. -/
def Two (X : Nat → Prop) (w : World) (a b : Nat) (La Lb : List Wt) : Prop := ∃ Fa Fb, QIs w a Fa La ∧ QIs w b Fb Lb ∧ (∀ k, Fa k → ¬ Fb k) ∧ ∀ k, X k → k < w.heap.size ∧ ¬ Fa k ∧ ¬ Fb k
theorem Two.symm {X : Nat → Prop} {w : World} {a b : Nat} {La Lb : List Wt} (h : Two X w a b La Lb) : Two X w b a Lb La := by
  obtain ⟨Fa, Fb, h1, h2, h3, h4⟩ := h
  exact ⟨Fb, Fa, h2, h1, fun k hb ha => h3 k ha hb, fun k hk => ⟨(h4 k hk).1, (h4 k hk).2.2, (h4 k hk).2.1⟩⟩
theorem One.later {X : Nat → Prop} {w w' : World} {q : Nat} {L : List Wt} (h : One X w q L) (hb : Below w.heap.size w w') : One X w' q L := by
  obtain ⟨F, h1, h2⟩ := h
  exact ⟨F, h1.below hb, fun k hk => ⟨Nat.lt_of_lt_of_le (h2 k hk).1 hb.size, (h2 k hk).2⟩⟩
theorem Two.later {X : Nat → Prop} {w w' : World} {a b : Nat} {La Lb : List Wt} (h : Two X w a b La Lb) (hb : Below w.heap.size w w') : Two X w' a b La Lb := by
  obtain ⟨Fa, Fb, h1, h2, h3, h4⟩ := h
  exact ⟨Fa, Fb, h1.below hb, h2.below hb, h3, fun k hk => ⟨Nat.lt_of_lt_of_le (h4 k hk).1 hb.size, (h4 k hk).2⟩⟩
/-- What is new is no part of the queues. -/
theorem Two.more {X : Nat → Prop} {w w' : World} {a b e : Nat} {La Lb : List Wt} (h : Two X w a b La Lb) (hb : Below w.heap.size w w') (he : w.heap.size ≤ e) (he2 : e < w'.heap.size) : Two (fun k => X k ∨ k = e) w' a b La Lb := by
  obtain ⟨Fa, Fb, h1, h2, h3, h4⟩ := h
  refine ⟨Fa, Fb, h1.below hb, h2.below hb, h3, fun k hk => ?_⟩
  rcases hk with hk | rfl
  · exact ⟨Nat.lt_of_lt_of_le (h4 k hk).1 hb.size, (h4 k hk).2⟩
  · exact ⟨he2, fun hf => Nat.lt_irrefl _ (Nat.lt_of_lt_of_le (h1.lt _ hf) he), fun hf => Nat.lt_irrefl _ (Nat.lt_of_lt_of_le (h2.lt _ hf) he)⟩
/-- A cell of X's is written. -/
theorem Two.wrote {X : Nat → Prop} {w w' : World} {a b e : Nat} {La Lb : List Wt} (h : Two X w a b La Lb) (hx : X e) (ht : Turn (fun k => k = e) w w') : Two X w' a b La Lb := by
  obtain ⟨Fa, Fb, h1, h2, h3, h4⟩ := h
  exact ⟨Fa, Fb, h1.kept ht fun k hk e => (h4 _ hx).2.1 (by subst e; exact hk), h2.kept ht fun k hk e => (h4 _ hx).2.2 (by subst e; exact hk), h3, fun k hk => ⟨Nat.lt_of_lt_of_le (h4 k hk).1 ht.2.2.2.1, (h4 k hk).2⟩⟩
theorem Two.next {X : Nat → Prop} {w w' : World} {a b : Nat} {Lb : List Wt} {Fa Fb : Nat → Prop} {R : List Wt → Prop} (h2 : QIs w b Fb Lb) (h3 : ∀ k, Fa k → ¬ Fb k) (h4 : ∀ k, X k → k < w.heap.size ∧ ¬ Fa k ∧ ¬ Fb k) (h : QTo w a Fa R w') :
    ∃ L', R L' ∧ Two X w' a b L' Lb ∧ Stay X w w' := by
  obtain ⟨F', L', g1, g2, g3, g4⟩ := h
  refine ⟨L', g2, ⟨F', Fb, g1, h2.kept g3 fun k hk hf => h3 k hf hk, fun k hf hb => ?_, fun k hk => ?_⟩, ?_⟩
  · exact h3 k (g4 k (h2.lt k hb) hf) hb
  · exact ⟨Nat.lt_of_lt_of_le (h4 k hk).1 g3.2.2.2.1, fun hf => (h4 k hk).2.1 (g4 k (h4 k hk).1 hf), (h4 k hk).2.2⟩
  · exact ⟨g3.1, g3.2.1, g3.2.2.1, g3.2.2.2.1, fun k hk hs => g3.2.2.2.2 k hk fun hf => hs fun hx => (h4 k hx).2.1 hf⟩
theorem One.next {X : Nat → Prop} {w w' : World} {a : Nat} {Fa : Nat → Prop} {R : List Wt → Prop} (h4 : ∀ k, X k → k < w.heap.size ∧ ¬ Fa k) (h : QTo w a Fa R w') :
    ∃ L', R L' ∧ One X w' a L' ∧ Stay X w w' := by
  obtain ⟨F', L', g1, g2, g3, g4⟩ := h
  refine ⟨L', g2, ⟨F', g1, fun k hk => ?_⟩, ?_⟩
  · exact ⟨Nat.lt_of_lt_of_le (h4 k hk).1 g3.2.2.2.1, fun hf => (h4 k hk).2 (g4 k (h4 k hk).1 hf)⟩
  · exact ⟨g3.1, g3.2.1, g3.2.2.1, g3.2.2.2.1, fun k hk hs => g3.2.2.2.2 k hk fun hf => hs fun hx => (h4 k hx).2 hf⟩
theorem qIs_first {w : World} {q : Nat} {F : Nat → Prop} {L : List Wt} (h : QIs w q F L) : ∀ p ∈ L, lessW p (wg L 0) = false := fun p hp => by
  obtain ⟨r, b, vo, c, _, h2, _⟩ := h
  obtain ⟨j, hj, rfl⟩ := mem_wg hp
  exact heap_min h2.2 j hj
theorem One.first {X : Nat → Prop} {w : World} {q : Nat} {L : List Wt} (h : One X w q L) : ∀ p ∈ L, lessW p (wg L 0) = false := by
  obtain ⟨F, h1, _⟩ := h; exact qIs_first h1
theorem Two.first {X : Nat → Prop} {w : World} {a b : Nat} {La Lb : List Wt} (h : Two X w a b La Lb) : ∀ p ∈ La, lessW p (wg La 0) = false := by
  obtain ⟨Fa, _, h1, _⟩ := h; exact qIs_first h1
theorem one_new (X : Nat → Prop) (w : World) (hX : ∀ k, X k → k < w.heap.size) : Calls Try.prog 8 #[] w fun e w' => ∃ q, e = .returned (.pointer (some ⟨q, 0, none⟩)) ∧ One X w' q [] ∧ Below w.heap.size w w' := by
  refine (qnew_any w).mono ?_
  rintro e w' ⟨q, F, rfl, h1, hb, h2⟩
  exact ⟨q, rfl, ⟨F, h1, fun k hk => ⟨Nat.lt_of_lt_of_le (hX k hk) hb.size, fun hf => by have := h2 k hf; have := hX k hk; omega⟩⟩, hb⟩
theorem one_push {X : Nat → Prop} {w : World} {q : Nat} {L : List Wt} (h : One X w q L) (x : Wt) (hwx : WfW x) (hno : ∀ p ∈ L, p.1 ≠ x.1) (hlen : L.length < 1000000) :
    Calls Try.prog 9 #[.pointer (some ⟨q, 0, none⟩), aggW x] w fun e w' => e = .returned (.tuple #[]) ∧ ∃ L', L'.Perm (x :: L) ∧ One X w' q L' ∧ Stay X w w' := by
  obtain ⟨F, h1, h2⟩ := h
  refine (qpush_new h1 x hwx hno hlen).mono ?_
  rintro e w' ⟨rfl, h⟩
  exact ⟨rfl, One.next h2 h⟩
theorem one_pop {X : Nat → Prop} {w : World} {q : Nat} {L : List Wt} (h : One X w q L) :
    Calls Try.prog 10 #[.pointer (some ⟨q, 0, none⟩)] w fun e w' => e = .returned (.tuple #[aggW (wg L 0), .bool (decide (0 < L.length))]) ∧ ∃ L', (if 0 < L.length then (wg L 0 :: L').Perm L else L' = []) ∧ One X w' q L' ∧ Stay X w w' := by
  obtain ⟨F, h1, h2⟩ := h
  refine (qpop_any h1).mono ?_
  rintro e w' ⟨rfl, h⟩
  exact ⟨rfl, One.next h2 h⟩
theorem one_len {X : Nat → Prop} {w : World} {q : Nat} {L : List Wt} (h : One X w q L) : Calls Try.prog 12 #[.pointer (some ⟨q, 0, none⟩)] w fun e w' => e = .returned (.int .i64 L.length) ∧ w = w' := by
  obtain ⟨F, h1, _⟩ := h; exact qlen_any h1
set_option maxHeartbeats 2000000 in
set_option maxRecDepth 100000 in
theorem awake16_any (w : World) : Calls Try.prog 13 #[] w fun e w' => e = .returned (.bool true) ∧ Below w.heap.size w w' := by
  have hnp : ∀ (w : World) (a : Addr), (binOp .eql 23 (.pointer (some a)) (.pointer none)).run Try.prog w = .ok (.bool false) w := fun w a => by kernel_rfl
  have HN := Lib.hid (one_new (fun k => k < w.heap.size) w (fun _ h => h))
  go_enter Try.func13, Try.ntmps13
  go_wp2_with fail
  refine HN.out.mono ?_
  rintro e w1 ⟨q, rfl, h1, hb1⟩
  have HS1 := Lib.hid (Stay.of_below (X := fun k => k < w.heap.size) hb1)
  have HP1 := Lib.hid (one_push h1 (1, 5) ⟨by decide, by decide⟩ (by simp) (by simp))
  unfold aggW at HP1
  clear h1 hb1 HN
  go_wp2_with fail
  refine HP1.out.mono ?_
  rintro e w2 ⟨rfl, L1, p1, h2, t2⟩
  obtain rfl : L1 = [(1, 5)] := List.perm_singleton.1 p1
  have HS2 := Lib.hid (HS1.out.trans t2)
  have HP2 := Lib.hid (one_push h2 (2, 7) ⟨by decide, by decide⟩ (by simp) (by simp))
  unfold aggW at HP2
  clear p1 h2 t2 HP1 HS1
  go_wp2_with fail
  refine HP2.out.mono ?_
  rintro e w3 ⟨rfl, L2, p2, h3, t3⟩
  have hl2 : L2.length = 2 := p2.length_eq
  have hw2 : wg L2 0 = (2, 7) := by
    have hm : wg L2 0 ∈ L2 := wg_mem (by omega)
    have hm2 := p2.mem_iff.1 hm
    have hf := h3.first (2, 7) (p2.mem_iff.2 (by simp))
    simp only [List.mem_cons, List.mem_nil_iff, or_false] at hm2
    rcases hm2 with e | e
    · exact e
    · rw [e] at hf; exact absurd hf (by decide)
  have HS3 := Lib.hid (HS2.out.trans t3)
  have HPO := Lib.hid (one_pop h3)
  rw [hw2, hl2] at HPO
  have HL2 := Lib.hid hl2
  unfold aggW at HPO
  clear p2 h3 t3 HP2 HS2 hl2 hw2
  go_wp2_with fail
  refine HPO.out.mono ?_
  rintro e w4 ⟨rfl, L3, p3, h4, t4⟩
  rw [if_pos (by decide)] at p3
  have hl3 : L3.length = 1 := by have := p3.length_eq; rw [HL2.out] at this; simpa using this
  have HS4 := Lib.hid (HS3.out.trans t4)
  have h5 := h4.later ((Below.refl w4.heap.size w4).alloc (Nat.le_refl _) (.cells #[.int .u64 2, .int .i64 7] 28))
  have HLN := Lib.hid (one_len h5)
  rw [hl3] at HLN
  have hle := less_any (1, 5) (2, 5)
  rw [show lessW (1, 5) (2, 5) = true by decide] at hle
  have HLE := Lib.hid hle
  clear p3 h4 t4 h5 hl3 hle HPO HS3
  go_wp2_with fail
  refine HLN.out.mono ?_
  rintro e w5 ⟨rfl, rfl⟩
  go_wp2_with fail
  refine (HLE.out _).mono ?_
  rintro e w6 ⟨rfl, hb⟩
  have HF : Hid (Below w.heap.size w w6) :=
    ((HS4.out.trans (Stay.of_below ((Below.refl w4.heap.size w4).alloc (Nat.le_refl _) (.cells #[.int .u64 2, .int .i64 7] 28)))).trans (Stay.of_below hb)).below (Nat.le_refl _) fun _ h => h
  clear hb
  go_wp2
  go_ret
  exact ⟨rfl, HF.out⟩
end Go.Proofs.Ytbmhnadnomngnaa
