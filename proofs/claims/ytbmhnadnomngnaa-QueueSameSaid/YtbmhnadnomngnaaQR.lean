/- A queue's calls and without, beside a row of the law's own; ops. -/
import Derived.Test.YtbmhnadnomngnaaQO
namespace Go.Proofs.Ytbmhnadnomngnaa
open Go.RowKit Go.Lib

theorem half_push {X : Nat → Prop} {w : World} {q c : Nat} {vo : Option Addr} {Lq Lw : List Wt} (h : Half X w q vo c Lq Lw) (x : Wt) (hx : WfW x) (hl : Lq.length ≤ 1000) :
    Calls Try.prog 9 #[.pointer (some ⟨q, 0, none⟩), aggW x] w fun e w' => e = .returned (.tuple #[]) ∧ ∃ L', (∀ p, p ∈ L' ↔ p = x ∨ (p ∈ Lq ∧ p.1 ≠ x.1)) ∧ Half X w' q vo c L' Lw ∧ Stay X w w' := by
  refine (push_mem h.oneR x hx (by omega)).mono ?_
  rintro e w' ⟨rfl, L', h1, _, h3, h4⟩
  exact ⟨rfl, L', h1, h.from h3 h4, stay_r h4⟩
theorem half_set {X : Nat → Prop} {w : World} {q c : Nat} {vo : Option Addr} {Lq Lw : List Wt} (h : Half X w q vo c Lq Lw) {id v : Int} (hid : (Lit.int .u64 id).wf = true) (hv : (Lit.int .i64 v).wf = true) :
    Calls Try.prog 14 #[.pointer (some ⟨q, 0, none⟩), .int .u64 id, .int .i64 v] w fun e w' => ∃ b L', e = .returned (.bool b) ∧ (b = true ↔ ∃ p ∈ Lq, p.1 = id) ∧ (∀ p, p ∈ L' ↔ (b = true ∧ p = (id, v)) ∨ (p ∈ Lq ∧ p.1 ≠ id)) ∧ Half X w' q vo c L' Lw ∧ Stay X w w' := by
  refine (set_mem h.oneR hid hv).mono ?_
  rintro e w' ⟨b, L', rfl, h1, h2, _, h3, h4⟩
  exact ⟨b, L', rfl, h1, h2, h.from h3 h4, stay_r h4⟩
theorem half_drop {X : Nat → Prop} {w : World} {q c : Nat} {vo : Option Addr} {Lq Lw : List Wt} (h : Half X w q vo c Lq Lw) {id : Int} (hid : (Lit.int .u64 id).wf = true) :
    Calls Try.prog 15 #[.pointer (some ⟨q, 0, none⟩), .int .u64 id] w fun e w' => ∃ b L', e = .returned (.bool b) ∧ (b = true ↔ ∃ p ∈ Lq, p.1 = id) ∧ (∀ p, p ∈ L' ↔ p ∈ Lq ∧ p.1 ≠ id) ∧ Half X w' q vo c L' Lw ∧ Stay X w w' := by
  refine (drop_mem h.oneR hid).mono ?_
  rintro e w' ⟨b, L', rfl, h1, h2, _, h3, h4⟩
  exact ⟨b, L', rfl, h1, h2, h.from h3 h4, stay_r h4⟩
theorem half_pop {X : Nat → Prop} {w : World} {q c : Nat} {vo : Option Addr} {Lq Lw : List Wt} (h : Half X w q vo c Lq Lw) :
    Calls Try.prog 10 #[.pointer (some ⟨q, 0, none⟩)] w fun e w' => e = .returned (.tuple #[aggW (wg Lq 0), .bool (decide (0 < Lq.length))]) ∧ ∃ L', (∀ p, p ∈ L' ↔ p ∈ Lq ∧ p ≠ wg Lq 0) ∧ L'.length = Lq.length - 1 ∧ Half X w' q vo c L' Lw ∧ Stay X w w' := by
  refine (pop_mem h.oneR).mono ?_
  rintro e w' ⟨rfl, L', h1, h2, h3, h4⟩
  exact ⟨rfl, L', h1, h2, h.from h3 h4, stay_r h4⟩
theorem half_peek {X : Nat → Prop} {w : World} {q c : Nat} {vo : Option Addr} {Lq Lw : List Wt} (h : Half X w q vo c Lq Lw) :
    Calls Try.prog 18 #[.pointer (some ⟨q, 0, none⟩)] w fun e w' => e = .returned (.tuple #[aggW (wg Lq 0), .bool (decide (0 < Lq.length))]) ∧ Half X w' q vo c Lq Lw ∧ Stay X w w' := by
  refine (one_peek h.oneR).mono ?_
  rintro e w' ⟨rfl, hb⟩
  exact ⟨rfl, h.later hb, Stay.of_below hb⟩
theorem half_len {X : Nat → Prop} {w : World} {q c : Nat} {vo : Option Addr} {Lq Lw : List Wt} (h : Half X w q vo c Lq Lw) : Calls Try.prog 12 #[.pointer (some ⟨q, 0, none⟩)] w fun e w' => e = .returned (.int .i64 Lq.length) ∧ w = w' := one_len h.one
theorem Half.own {X : Nat → Prop} {w : World} {q c : Nat} {vo : Option Addr} {Lq Lw : List Wt} (h : Half X w q vo c Lq Lw) : w.ownsRow 0 28 2 (.slice vo Lw.length c) Lw.length (wV Lw) := by
  obtain ⟨F, _, _, h3, _⟩ := h; exact h3
theorem Half.lt {X : Nat → Prop} {w : World} {q c : Nat} {vo : Option Addr} {Lq Lw : List Wt} (h : Half X w q vo c Lq Lw) : ∀ k, X k → k < w.heap.size := by
  obtain ⟨F, _, h2, _⟩ := h; exact fun k hk => (h2 k hk).1
theorem stay_one {X : Nat → Prop} {e : Nat} {w w' : World} (hx : ¬ X e) (h : Turn (fun k => k = e) w w') : Stay X w w' := ⟨h.1, h.2.1, h.2.2.1, h.2.2.2.1, fun k hk hs => h.2.2.2.2 k hk fun e => hs (by subst e; exact hx)⟩
theorem below_dn (w : World) (n : Nat) : Below w.heap.size w (w.drewN n) := ⟨rfl, rfl, rfl, Nat.le_refl _, fun _ _ => rfl⟩
theorem WAt.stay {X : Nat → Prop} {w w' : World} {ao : Option Addr} {l : List Wt} (h : WAt w ao l) (hs : Stay X w w') (hx : ∀ g o s, ao = some ⟨g, o, s⟩ → X g) : WAt w' ao l := fun h0 => by
  obtain ⟨b, off, rfl, hb, hc⟩ := h h0
  have hbl := hs.block hb (hx b off none rfl)
  refine ⟨b, off, rfl, Nat.lt_of_lt_of_le hb hs.size, fun i hi => ?_⟩
  obtain ⟨c0, c1⟩ := hc i hi
  have hcell : ∀ k, w'.cell? ⟨b, k, none⟩ = w.cell? ⟨b, k, none⟩ := fun k => by simp only [World.cell?, hbl]
  exact ⟨(hcell _).trans c0, (hcell _).trans c1⟩
/-- without beside a queue. -/
def Cut0 (X : Nat → Prop) (w : World) (q : Nat) (vo : Option Addr) (c : Nat) (Lq Lw : List Wt) (id : Int) (e : Ending) (w' : World) : Prop :=
  ∃ vo' c' Lw' b, e = .returned (.tuple #[.slice vo' Lw'.length c', .bool b]) ∧ (b = true ↔ ∃ p ∈ Lw, p.1 = id) ∧ (∀ p, p ∈ Lw' ↔ p ∈ Lw ∧ p.1 ≠ id) ∧ Lw'.Nodup ∧ Lw'.length ≤ Lw.length ∧ (b = false → vo' = vo ∧ c' = c ∧ Lw' = Lw) ∧ (b = true → Lw'.length + 1 = Lw.length) ∧ Half X w' q vo' c' Lq Lw' ∧ Half X w' q vo c Lq Lw ∧ Stay X w w'
theorem half_without {X : Nat → Prop} {w : World} {q c : Nat} {vo : Option Addr} {Lq Lw : List Wt} (h : Half X w q vo c Lq Lw) (hi : Ids Lw) (hn : Lw.Nodup) (hl : Lw.length ≤ 1000) (id : Int) :
    Calls Try.prog 16 #[.slice vo Lw.length c, .int .u64 id] w (Cut0 X w q vo c Lq Lw id) := by
  refine (without_any vo c Lw id w h.wat.1 hl h.wat.2).mono ?_
  rintro e w' (⟨i, vo', c', hil, he, rfl, ho, hb⟩ | ⟨hno, rfl, rfl⟩)
  · have hcl := cut_length hil
    rw [← hcl] at ho ⊢
    refine ⟨vo', c', cutW Lw i, true, rfl, ⟨fun _ => ⟨_, wg_mem hil, he⟩, fun _ => rfl⟩, fun p => ?_, cut_nodup hn i, by omega, fun h => (by cases h), fun _ => by omega, h.row hb ho, h.later hb, Stay.of_below hb⟩
    rw [cut_mem hi hil, he]
  · exact ⟨vo, c, Lw, false, rfl, ⟨fun h => (by cases h), fun ⟨p, hp, e⟩ => absurd e (hno p hp)⟩, fun p => ⟨fun hp => ⟨hp, hno p hp⟩, fun h => h.1⟩, hn, Nat.le_refl _, fun _ => ⟨rfl, rfl, rfl⟩, fun h => (by cases h), h, h, Stay.refl _ _⟩
/-- A weight's two cells written. -/
theorem put2 {w : World} {e : Nat} {a0 b0 a b : Value} (h : w.heap[e]? = some (.cells #[a0, b0] 28 (0, 0))) :
    ((w.setCell ⟨e, 0, none⟩ a).setCell ⟨e, 1, none⟩ b).cell? ⟨e, 0, none⟩ = some a ∧ ((w.setCell ⟨e, 0, none⟩ a).setCell ⟨e, 1, none⟩ b).cell? ⟨e, 1, none⟩ = some b ∧ Turn (fun k => k = e) w ((w.setCell ⟨e, 0, none⟩ a).setCell ⟨e, 1, none⟩ b) := by
  have m0 : w.cell? ⟨e, 0, none⟩ = some a0 := cell_of_row _ _ 0 _ _ _ h
  have m1 : w.cell? ⟨e, 1, none⟩ = some b0 := cell_of_row _ _ 1 _ _ _ h
  have t1 : Turn (fun k => k = e) w (w.setCell ⟨e, 0, none⟩ a) := (Turn.refl (fun k => k = e) w).setCell (a := ⟨e, 0, none⟩) (Eq.refl e) a
  refine ⟨?_, ?_, t1.setCell (a := ⟨e, 1, none⟩) (Eq.refl e) b⟩
  · rw [World.cell?_setCell_other _ _ _ _ (by simp)]; exact World.cell?_setCell_same _ _ _ m0
  · have h2 : (w.setCell ⟨e, 0, none⟩ a).cell? ⟨e, 1, none⟩ = some b0 := by rw [World.cell?_setCell_other _ _ _ _ (by simp)]; exact m1
    exact World.cell?_setCell_same _ _ _ h2
theorem perm_put {Lq Lw L' Lw' : List Wt} {x : Wt} (h : Lq.Perm Lw) (h1 : ∀ p, p ∈ L' ↔ p = x ∨ (p ∈ Lq ∧ p.1 ≠ x.1)) (h2 : ∀ p, p ∈ Lw' ↔ p ∈ Lw ∧ p.1 ≠ x.1) (n1 : L'.Nodup) (n2 : Lw'.Nodup) : L'.Perm (Lw' ++ [x]) := by
  refine perm_of_mem n1 ?_ fun p => ?_
  · rw [List.nodup_append]
    exact ⟨n2, by simp, fun a ha b hb e => by simp at hb; subst hb; subst e; exact ((h2 a).1 ha).2 rfl⟩
  · rw [h1, List.mem_append, h2, h.mem_iff, List.mem_singleton]
    exact Or.comm
theorem perm_cut {Lq Lw L' Lw' : List Wt} {id : Int} (h : Lq.Perm Lw) (h1 : ∀ p, p ∈ L' ↔ p ∈ Lq ∧ p.1 ≠ id) (h2 : ∀ p, p ∈ Lw' ↔ p ∈ Lw ∧ p.1 ≠ id) (n1 : L'.Nodup) (n2 : Lw'.Nodup) : L'.Perm Lw' :=
  perm_of_mem n1 n2 fun p => by rw [h1, h2, h.mem_iff]
theorem pop_ids {Lq L' : List Wt} {x : Wt} (hi : Ids Lq) (hx : x ∈ Lq) (h1 : ∀ p, p ∈ L' ↔ p ∈ Lq ∧ p ≠ x) (p : Wt) : p ∈ L' ↔ p ∈ Lq ∧ p.1 ≠ x.1 := by
  rw [h1]
  exact ⟨fun ⟨h, h2⟩ => ⟨h, fun e => h2 (hi.one h hx e)⟩, fun ⟨h, h2⟩ => ⟨h, fun e => h2 (by rw [e])⟩⟩
theorem sorted_first {R L : List Wt} (hp : R.Perm L) (hs : SortedW R) (h0 : 0 < L.length) (hf : ∀ p ∈ L, lessW p (wg L 0) = false) : wg R 0 = wg L 0 := by
  have hl := hp.length_eq
  refine first_same hp (by omega) (fun p hp' => ?_) hf
  obtain ⟨j, hj, rfl⟩ := mem_wg hp'
  rcases Nat.eq_zero_or_pos j with e | e
  · subst e; exact less_irrefl _
  · exact hs 0 j e hj
theorem wg_drop (R : List Wt) (j i : Nat) : wg (R.drop j) i = wg R (j + i) := by
  unfold wg; rw [List.getD_eq_getElem?_getD, List.getElem?_drop, List.getD_eq_getElem?_getD]
theorem sorted_drop {R : List Wt} (h : SortedW R) (j : Nat) : SortedW (R.drop j) := fun a b hab hb => by
  rw [List.length_drop] at hb
  rw [wg_drop, wg_drop]
  exact h (j + a) (j + b) (by omega) (by omega)
theorem drop_wg {R : List Wt} {j : Nat} (h : j < R.length) : R.drop j = wg R j :: R.drop (j + 1) := by
  rw [List.drop_eq_getElem_cons h]
  unfold wg; rw [List.getD_eq_getElem?_getD, List.getElem?_eq_getElem h, Option.getD_some]
/-- The next one that a queue pops of what is left of a row in order. -/
theorem next_one {R L : List Wt} {j : Nat} (hs : SortedW R) (hj : j < R.length) (hp : L.Perm (R.drop j)) (hf : ∀ p ∈ L, lessW p (wg L 0) = false) : 0 < L.length ∧ wg L 0 = wg R j := by
  have h0 : 0 < L.length := by rw [hp.length_eq, List.length_drop]; omega
  have := sorted_first hp.symm (sorted_drop hs j) h0 hf
  rw [wg_drop] at this
  exact ⟨h0, this.symm⟩
theorem next_rest {R L L' : List Wt} {j : Nat} (hj : j < R.length) (hp : L.Perm (R.drop j)) (h : (wg R j :: L').Perm L) : L'.Perm (R.drop (j + 1)) := by
  have := h.trans hp
  rw [drop_wg hj] at this
  exact (List.perm_cons _).1 this
/-- In w, a slice's address leads to ops. -/
abbrev OpT := Int × Int × Int
def og (l : List OpT) (i : Nat) : OpT := l.getD i (0, 0, 0)
def OpsAt (w : World) (base : Nat) (ao : Option Addr) (l : List OpT) : Prop := 0 < l.length → ∃ b off, ao = some ⟨b, off, none⟩ ∧ b < base ∧
  ∀ i, i < l.length → w.cell? ⟨b, off + i * 3, none⟩ = some (.int .i64 (og l i).1) ∧ w.cell? ⟨b, off + i * 3 + 1, none⟩ = some (.int .u64 (og l i).2.1) ∧ w.cell? ⟨b, off + i * 3 + 2, none⟩ = some (.int .i64 (og l i).2.2)
theorem OpsAt.below {w w' : World} {base : Nat} {ao : Option Addr} {l : List OpT} (h : OpsAt w base ao l) (hb : Below base w w') : OpsAt w' base ao l := fun h0 => by
  obtain ⟨b, off, e, hlt, hc⟩ := h h0
  refine ⟨b, off, e, hlt, fun i hi => ?_⟩
  obtain ⟨c0, c1, c2⟩ := hc i hi
  exact ⟨(hb.cell (p := ⟨b, _, none⟩) hlt).trans c0, (hb.cell (p := ⟨b, _, none⟩) hlt).trans c1, (hb.cell (p := ⟨b, _, none⟩) hlt).trans c2⟩
def WfOps (l : List OpT) : Prop := ∀ i, i < l.length → (Lit.int .u64 (og l i).2.1).wf = true ∧ (Lit.int .i64 (og l i).2.2).wf = true
end Go.Proofs.Ytbmhnadnomngnaa
