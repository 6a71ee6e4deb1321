/- A queue beside a row of weights of the law's own. -/
import Derived.Test.YtbmhnadnomngnaaQN
import Derived.Maps.AppendAt
namespace Go.Proofs.Ytbmhnadnomngnaa
open Go.RowKit Go.Lib

theorem perm_of_mem {L M : List Wt} (hl : L.Nodup) (hm : M.Nodup) (h : ∀ p, p ∈ L ↔ p ∈ M) : L.Perm M := by
  refine List.perm_iff_count.2 fun a => ?_
  rw [hl.count, hm.count]
  simp only [h a]
theorem ids_perm {L M : List Wt} (h : Ids L) (hn : L.Nodup) (hp : L.Perm M) : Ids M := fun i j hi hj e => by
  have hn' := hp.nodup_iff.1 hn
  have h1 := h.one (hp.mem_iff.2 (wg_mem hi)) (hp.mem_iff.2 (wg_mem hj)) e
  rcases Nat.lt_trichotomy i j with h2 | h2 | h2
  · exfalso
    have := List.pairwise_iff_getElem.1 hn' i j hi hj h2
    unfold wg at h1
    rw [List.getD_eq_getElem?_getD, List.getElem?_eq_getElem hi, Option.getD_some, List.getD_eq_getElem?_getD, List.getElem?_eq_getElem hj, Option.getD_some] at h1
    exact this h1
  · exact h2
  · exfalso
    have := List.pairwise_iff_getElem.1 hn' j i hj hi h2
    unfold wg at h1
    rw [List.getD_eq_getElem?_getD, List.getElem?_eq_getElem hi, Option.getD_some, List.getD_eq_getElem?_getD, List.getElem?_eq_getElem hj, Option.getD_some] at h1
    exact this h1.symm
theorem cut_mem {l : List Wt} (h : Ids l) {i : Nat} (hi : i < l.length) (p : Wt) : p ∈ cutW l i ↔ p ∈ l ∧ p.1 ≠ (wg l i).1 := by
  have e : l = l.take i ++ (wg l i :: l.drop (i + 1)) := by
    have e2 : wg l i = l[i] := by unfold wg; rw [List.getD_eq_getElem?_getD, List.getElem?_eq_getElem hi, Option.getD_some]
    rw [e2, List.getElem_cons_drop hi, List.take_append_drop]
  unfold cutW
  rw [List.mem_append]
  constructor
  · intro hp
    have hpl : p ∈ l := by
      rw [e, List.mem_append, List.mem_cons]
      rcases hp with h1 | h1
      · exact .inl h1
      · exact .inr (.inr h1)
    refine ⟨hpl, fun e1 => ?_⟩
    rcases hp with h1 | h1
    · obtain ⟨j, hj, rfl⟩ := mem_wg h1
      have hji : j < i := by rw [List.length_take] at hj; omega
      have : wg (l.take i) j = wg l j := wg_take hji
      rw [this] at e1
      have := h j i (by omega) hi e1
      omega
    · obtain ⟨j, hj, rfl⟩ := mem_wg h1
      rw [List.length_drop] at hj
      have : wg (l.drop (i + 1)) j = wg l (i + 1 + j) := by unfold wg; rw [List.getD_eq_getElem?_getD, List.getElem?_drop, List.getD_eq_getElem?_getD]
      rw [this] at e1
      have := h _ i (by omega) hi e1
      omega
  · rintro ⟨hp, hne⟩
    rw [e, List.mem_append, List.mem_cons] at hp
    rcases hp with h1 | rfl | h1
    · exact .inl h1
    · exact absurd rfl hne
    · exact .inr h1
theorem cut_nodup {l : List Wt} (h : l.Nodup) (i : Nat) : (cutW l i).Nodup := by
  have : (cutW l i).Sublist l := by
    unfold cutW
    conv => rhs; rw [← List.take_append_drop i l]
    exact List.Sublist.append (List.Sublist.refl _) (by rw [← List.drop_drop]; exact List.drop_sublist _ _)
  exact h.sublist this
theorem cut_length {l : List Wt} {i : Nat} (hi : i < l.length) : (cutW l i).length = l.length - 1 := by simp [cutW]; omega
/-- A queue of Lq, and a row that holds the same weights as Lw, beside X. -/
def St (X : Nat → Prop) (w : World) (q : Nat) (vo : Option Addr) (c : Nat) (Lq Lw : List Wt) : Prop :=
  ∃ F, QIs w q F Lq ∧ (∀ k, X k → k < w.heap.size ∧ ¬ F k) ∧ w.ownsRow 0 28 2 (.slice vo Lw.length c) Lw.length (wV Lw) ∧ (∀ g o s, vo = some ⟨g, o, s⟩ → ¬ F g ∧ ¬ X g) ∧ Lq.Perm Lw
theorem St.one {X : Nat → Prop} {w : World} {q c : Nat} {vo : Option Addr} {Lq Lw : List Wt} (h : St X w q vo c Lq Lw) : One X w q Lq := by
  obtain ⟨F, h1, h2, _⟩ := h; exact ⟨F, h1, h2⟩
theorem St.perm {X : Nat → Prop} {w : World} {q c : Nat} {vo : Option Addr} {Lq Lw : List Wt} (h : St X w q vo c Lq Lw) : Lq.Perm Lw := by
  obtain ⟨F, _, _, _, _, h⟩ := h; exact h
theorem St.row {X : Nat → Prop} {w : World} {q c : Nat} {vo : Option Addr} {Lq Lw : List Wt} (h : St X w q vo c Lq Lw) : w.ownsRow 0 28 2 (.slice vo Lw.length c) Lw.length (wV Lw) := by
  obtain ⟨F, _, _, h, _⟩ := h; exact h
theorem St.ids {X : Nat → Prop} {w : World} {q c : Nat} {vo : Option Addr} {Lq Lw : List Wt} (h : St X w q vo c Lq Lw) : Ids Lw := ids_perm h.one.ids h.one.nodup h.perm
theorem St.nodup {X : Nat → Prop} {w : World} {q c : Nat} {vo : Option Addr} {Lq Lw : List Wt} (h : St X w q vo c Lq Lw) : Lw.Nodup := h.perm.nodup_iff.1 h.one.nodup
theorem own_turn {S : Nat → Prop} {w w' : World} {base n c : Nat} {vo : Option Addr} {xs : List Value} (h : w.ownsRow base 28 2 (.slice vo n c) n xs) (ht : Turn S w w') (hs : ∀ g o s, vo = some ⟨g, o, s⟩ → ¬ S g) : w'.ownsRow base 28 2 (.slice vo n c) n xs := by
  refine ⟨h.1, ?_⟩
  rcases h.2 with h1 | ⟨g, cap, cur, hv, hbg, hh, hx⟩
  · exact .inl h1
  · exact .inr ⟨g, cap, cur, hv, hbg, (ht.2.2.2.2 g (Array.getElem?_eq_some_iff.1 hh).1 (hs g 0 none (by cases hv; rfl))).trans hh, hx⟩
theorem St.later {X : Nat → Prop} {w w' : World} {q c : Nat} {vo : Option Addr} {Lq Lw : List Wt} (h : St X w q vo c Lq Lw) (hb : Below w.heap.size w w') : St X w' q vo c Lq Lw := by
  obtain ⟨F, h1, h2, h3, h4, h5⟩ := h
  exact ⟨F, h1.below hb, fun k hk => ⟨Nat.lt_of_lt_of_le (h2 k hk).1 hb.size, (h2 k hk).2⟩, own_later h3 hb, h4, h5⟩
/-- What the queue has turned to is not what the row holds yet. -/
def Half (X : Nat → Prop) (w : World) (q : Nat) (vo : Option Addr) (c : Nat) (Lq Lw : List Wt) : Prop :=
  ∃ F, QIs w q F Lq ∧ (∀ k, X k → k < w.heap.size ∧ ¬ F k) ∧ w.ownsRow 0 28 2 (.slice vo Lw.length c) Lw.length (wV Lw) ∧ (∀ g o s, vo = some ⟨g, o, s⟩ → ¬ F g ∧ ¬ X g)
theorem St.half {X : Nat → Prop} {w : World} {q c : Nat} {vo : Option Addr} {Lq Lw : List Wt} (h : St X w q vo c Lq Lw) : Half X w q vo c Lq Lw := by
  obtain ⟨F, h1, h2, h3, h4, _⟩ := h; exact ⟨F, h1, h2, h3, h4⟩
theorem Half.st {X : Nat → Prop} {w : World} {q c : Nat} {vo : Option Addr} {Lq Lw : List Wt} (h : Half X w q vo c Lq Lw) (hp : Lq.Perm Lw) : St X w q vo c Lq Lw := by
  obtain ⟨F, h1, h2, h3, h4⟩ := h; exact ⟨F, h1, h2, h3, h4, hp⟩
theorem Half.one {X : Nat → Prop} {w : World} {q c : Nat} {vo : Option Addr} {Lq Lw : List Wt} (h : Half X w q vo c Lq Lw) : One X w q Lq := by
  obtain ⟨F, h1, h2, _⟩ := h; exact ⟨F, h1, h2⟩
theorem Half.later {X : Nat → Prop} {w w' : World} {q c : Nat} {vo : Option Addr} {Lq Lw : List Wt} (h : Half X w q vo c Lq Lw) (hb : Below w.heap.size w w') : Half X w' q vo c Lq Lw := by
  obtain ⟨F, h1, h2, h3, h4⟩ := h
  exact ⟨F, h1.below hb, fun k hk => ⟨Nat.lt_of_lt_of_le (h2 k hk).1 hb.size, (h2 k hk).2⟩, own_later h3 hb, h4⟩
theorem Half.wat {X : Nat → Prop} {w : World} {q c : Nat} {vo : Option Addr} {Lq Lw : List Wt} (h : Half X w q vo c Lq Lw) : WAt w vo Lw ∧ Lw.length ≤ c := by
  obtain ⟨F, _, _, h3, _⟩ := h
  obtain ⟨ao', c', e, hc, _⟩ := own_form h3
  cases e
  exact ⟨wAt_own rfl h3, hc⟩
/-- A queue's call beside the row: the row's block is one more that stays. -/
def XR (X : Nat → Prop) (vo : Option Addr) : Nat → Prop := fun k => X k ∨ ∃ o s, vo = some ⟨k, o, s⟩
theorem Half.oneR {X : Nat → Prop} {w : World} {q c : Nat} {vo : Option Addr} {Lq Lw : List Wt} (h : Half X w q vo c Lq Lw) : One (XR X vo) w q Lq := by
  obtain ⟨F, h1, h2, h3, h4⟩ := h
  refine ⟨F, h1, fun k hk => ?_⟩
  rcases hk with hk | ⟨o, s, e⟩
  · exact h2 k hk
  · refine ⟨?_, (h4 k o s e).1⟩
    rcases h3.2 with ⟨hv, _⟩ | ⟨g, cap, cur, hv, _, hh, _⟩
    · simp only [Value.slice.injEq] at hv; rw [hv.1] at e; cases e
    · simp only [Value.slice.injEq] at hv; rw [hv.1] at e; cases e; exact (Array.getElem?_eq_some_iff.1 hh).1
theorem Half.from {X : Nat → Prop} {w w' : World} {q c : Nat} {vo : Option Addr} {Lq Lw L' : List Wt} (h : Half X w q vo c Lq Lw) (ho : One (XR X vo) w' q L') (hs : Stay (XR X vo) w w') : Half X w' q vo c L' Lw := by
  obtain ⟨F', g1, g2⟩ := ho
  obtain ⟨F, h1, h2, h3, h4⟩ := h
  refine ⟨F', g1, fun k hk => g2 k (.inl hk), own_turn h3 hs fun g o s e hn => hn (.inr ⟨o, s, e⟩), fun g o s e => ⟨(g2 g (.inr ⟨o, s, e⟩)).2, (h4 g o s e).2⟩⟩
theorem stay_r {X : Nat → Prop} {w w' : World} {vo : Option Addr} (h : Stay (XR X vo) w w') : Stay X w w' := h.less fun _ hk => .inl hk
/-- Another row in place of the one. -/
theorem Half.row {X : Nat → Prop} {w w' : World} {q c c' : Nat} {vo vo' : Option Addr} {Lq Lw Lw' : List Wt} (h : Half X w q vo c Lq Lw) (hb : Below w.heap.size w w') (ho : w'.ownsRow w.heap.size 28 2 (.slice vo' Lw'.length c') Lw'.length (wV Lw')) : Half X w' q vo' c' Lq Lw' := by
  obtain ⟨F, h1, h2, h3, h4⟩ := h
  refine ⟨F, h1.below hb, fun k hk => ⟨Nat.lt_of_lt_of_le (h2 k hk).1 hb.size, (h2 k hk).2⟩, ⟨ho.1, ho.2.imp id fun ⟨g, cap, cur, hv, _, r⟩ => ⟨g, cap, cur, hv, Nat.zero_le _, r⟩⟩, fun g o s e => ?_⟩
  have hge : w.heap.size ≤ g := by
    rcases ho.2 with ⟨hv, _⟩ | ⟨g', cap, cur, hv, hbg, _⟩
    · simp only [Value.slice.injEq] at hv; rw [hv.1] at e; cases e
    · simp only [Value.slice.injEq] at hv; rw [hv.1] at e; cases e; exact hbg
  exact ⟨fun hf => by have := h1.lt g hf; omega, fun hx => by have := (h2 g hx).1; omega⟩
/-- One more weight at the row's end. -/
theorem Half.append {X : Nat → Prop} {w w3 : World} {q c : Nat} {vo : Option Addr} {Lq Lw : List Wt} {x : Wt} {o : Obj} {v' : Value} (h : Half X w q vo c Lq Lw)
    (ho : w3.ownsRow 0 28 2 v' (Lw.length + 1) (wV Lw ++ [.int .u64 x.1, .int .i64 x.2])) (hg : (w.alloc o).grownBy w3 (Value.ownBlock (.slice vo Lw.length c))) (hat : v'.ownBlock = Value.ownBlock (.slice vo Lw.length c) ∨ v'.ownBlock = some (w.alloc o).heap.size) :
    ∃ vo' c', v' = .slice vo' (Lw.length + 1) c' ∧ Half X w3 q vo' c' Lq (Lw ++ [x]) ∧ Stay X w w3 := by
  obtain ⟨F, h1, h2, h3, h4⟩ := h
  obtain ⟨vo', c', rfl, _, _⟩ := own_form ho
  have hT : Turn (fun k => ∃ o s, vo = some ⟨k, o, s⟩) w w3 := (Turn.alloc (Turn.refl _ w) o).grown hg fun k hk _ => by
    cases vo with
    | none => cases hk
    | some a => obtain ⟨g, o, s⟩ := a; simp only [Value.ownBlock, Option.some.injEq] at hk; exact ⟨o, s, by rw [hk]⟩
  have hsz : (w.alloc o).heap.size = w.heap.size + 1 := World.size_alloc w o
  have hnew : ∀ g o s, vo' = some ⟨g, o, s⟩ → (∃ o s, vo = some ⟨g, o, s⟩) ∨ w.heap.size ≤ g := fun g o s e => by
    subst e
    rcases hat with e1 | e1
    · left
      cases vo with
      | none => cases e1
      | some a => obtain ⟨g', o', s'⟩ := a; simp only [Value.ownBlock, Option.some.injEq] at e1; exact ⟨o', s', by rw [e1]⟩
    · right
      simp only [Value.ownBlock, Option.some.injEq] at e1
      omega
  refine ⟨vo', c', rfl, ⟨F, h1.kept hT fun k hk ⟨o, s, e⟩ => (h4 k o s e).1 hk, fun k hk => ⟨Nat.lt_of_lt_of_le (h2 k hk).1 hT.2.2.2.1, (h2 k hk).2⟩, ?_, fun g o s e => ?_⟩, ?_⟩
  · have hl : (Lw ++ [x]).length = Lw.length + 1 := by simp
    rw [hl, wV_snoc]; exact ho
  · rcases hnew g o s e with ⟨o', s', e'⟩ | hge
    · exact h4 g o' s' e'
    · exact ⟨fun hf => by have := h1.lt g hf; omega, fun hx => by have := (h2 g hx).1; omega⟩
  · exact ⟨hT.1, hT.2.1, hT.2.2.1, hT.2.2.2.1, fun k hk hs => hT.2.2.2.2 k hk fun ⟨o, s, e⟩ => hs fun hx => (h4 k o s e).2 hx⟩
theorem Half.less {X Y : Nat → Prop} {w : World} {q c : Nat} {vo : Option Addr} {Lq Lw : List Wt} (h : Half X w q vo c Lq Lw) (hy : ∀ k, Y k → X k) : Half Y w q vo c Lq Lw := by
  obtain ⟨F, h1, h2, h3, h4⟩ := h
  exact ⟨F, h1, fun k hk => h2 k (hy k hk), h3, fun g o s e => ⟨(h4 g o s e).1, fun hk => (h4 g o s e).2 (hy g hk)⟩⟩
theorem row_lt {w : World} {n c : Nat} {vo : Option Addr} {xs : List Value} (h : w.ownsRow 0 28 2 (.slice vo n c) n xs) : ∀ g o s, vo = some ⟨g, o, s⟩ → g < w.heap.size := fun g o s e => by
  rcases h.2 with ⟨hv, _⟩ | ⟨g', cap, cur, hv, _, hh, _⟩
  · simp only [Value.slice.injEq] at hv; rw [hv.1] at e; cases e
  · simp only [Value.slice.injEq] at hv; rw [hv.1] at e; cases e; exact (Array.getElem?_eq_some_iff.1 hh).1
/-- A new block, or a new row, is one more that stays. -/
theorem Half.more {X : Nat → Prop} {w w' : World} {q c e : Nat} {vo : Option Addr} {Lq Lw : List Wt} (h : Half X w q vo c Lq Lw) (hb : Below w.heap.size w w') (he : w.heap.size ≤ e) (he2 : e < w'.heap.size) : Half (fun k => X k ∨ k = e) w' q vo c Lq Lw := by
  obtain ⟨F, h1, h2, h3, h4⟩ := h
  refine ⟨F, h1.below hb, fun k hk => ?_, own_later h3 hb, fun g o s eg => ⟨(h4 g o s eg).1, fun hk => ?_⟩⟩
  · rcases hk with hk | rfl
    · exact ⟨Nat.lt_of_lt_of_le (h2 k hk).1 hb.size, (h2 k hk).2⟩
    · exact ⟨he2, fun hf => by have := h1.lt _ hf; omega⟩
  · rcases hk with hk | rfl
    · exact (h4 g o s eg).2 hk
    · have := row_lt h3 _ o s eg; omega
theorem Half.moreR {X : Nat → Prop} {w w' : World} {q c n c2 : Nat} {vo ao : Option Addr} {Lq Lw : List Wt} {xs : List Value} (h : Half X w q vo c Lq Lw) (hb : Below w.heap.size w w') (ho : w'.ownsRow w.heap.size 28 2 (.slice ao n c2) n xs) : Half (XR X ao) w' q vo c Lq Lw := by
  obtain ⟨F, h1, h2, h3, h4⟩ := h
  have hge : ∀ g o s, ao = some ⟨g, o, s⟩ → w.heap.size ≤ g ∧ g < w'.heap.size := fun g o s e => by
    rcases ho.2 with ⟨hv, _⟩ | ⟨g', cap, cur, hv, hbg, hh, _⟩
    · simp only [Value.slice.injEq] at hv; rw [hv.1] at e; cases e
    · simp only [Value.slice.injEq] at hv; rw [hv.1] at e; cases e; exact ⟨hbg, (Array.getElem?_eq_some_iff.1 hh).1⟩
  refine ⟨F, h1.below hb, fun k hk => ?_, own_later h3 hb, fun g o s eg => ⟨(h4 g o s eg).1, fun hk => ?_⟩⟩
  · rcases hk with hk | ⟨o, s, e⟩
    · exact ⟨Nat.lt_of_lt_of_le (h2 k hk).1 hb.size, (h2 k hk).2⟩
    · exact ⟨(hge k o s e).2, fun hf => by have := h1.lt _ hf; have := (hge k o s e).1; omega⟩
  · rcases hk with hk | ⟨o', s', e⟩
    · exact (h4 g o s eg).2 hk
    · have := row_lt h3 g o s eg; have := (hge g o' s' e).1; omega
/-- A cell of X's is written. -/
theorem Half.wrote {X : Nat → Prop} {w w' : World} {q c e : Nat} {vo : Option Addr} {Lq Lw : List Wt} (h : Half X w q vo c Lq Lw) (hx : X e) (ht : Turn (fun k => k = e) w w') : Half X w' q vo c Lq Lw := by
  obtain ⟨F, h1, h2, h3, h4⟩ := h
  exact ⟨F, h1.kept ht fun k hk e => (h2 _ hx).2 (by subst e; exact hk), fun k hk => ⟨Nat.lt_of_lt_of_le (h2 k hk).1 ht.2.2.2.1, (h2 k hk).2⟩, own_turn h3 ht fun g o s eg e => (h4 g o s eg).2 (by subst e; exact hx), h4⟩
theorem one_peek {X : Nat → Prop} {w : World} {q : Nat} {L : List Wt} (h : One X w q L) :
    Calls Try.prog 18 #[.pointer (some ⟨q, 0, none⟩)] w fun e w' => e = .returned (.tuple #[aggW (wg L 0), .bool (decide (0 < L.length))]) ∧ Below w.heap.size w w' := by
  obtain ⟨F, h1, _⟩ := h; exact qpeek_any h1
end Go.Proofs.Ytbmhnadnomngnaa
