/- Joined: CbA, CbB, CbC, WdM, WdP, Lex4, Lex5, Lex6, WdA, WdB: contracts and plain laws, each with its own heading below. -/
import Derived.Test.YtjimcjhgjfhbiaaGreatPackBC
import Derived.Lib.MinMax
import Derived.Laws.ResultCell
import Derived.Test.YtjimcjhgjfhbiaaGreatProg
import Derived.Lib.Mul64
import Derived.Shelf.Bits.Mul64
import Derived.Laws.Bits64b
import Derived.Laws.Externs
import Derived.Deep.RegionWith
import Derived.Deep.CutRange
import Derived.Deep.CutBlock
import Derived.BigRegion
import Derived.Shelf.Spec.BitsCarry
/- A cache in memory (a struct whose row holds pointers to what is kept): what lies where; plain laws on its list, least lately used first. -/
namespace Go.Proofs.YtjimcjhgjfhbiaaGreat
open Go.RowKit Go.Lib

/-- A tile and its bytes. -/
abbrev AE := TL × List Int
/-- The same, with its block and its last use. -/
abbrev CE := KE × AE
def SlAt (w : World) (T : Nat → Prop) (v : Value) (l : List Int) : Prop := ∃ ao c, v = .slice ao l.length c ∧ BytesAt w ao l ∧ (ao = none → l.length = 0 ∧ c = 0) ∧ ∀ b o s, ao = some ⟨b, o, s⟩ → T b
def EntAt (w : World) (S T : Nat → Prop) (e : CE) : Prop :=
  TileAt w e.1.1 e.2.1 ∧ (∀ j, w.frozen? ⟨e.1.1, j, none⟩ = false) ∧ S e.1.1 ∧ e.2.2.length ≤ 1000000 ∧ ∃ v, w.cell? ⟨e.1.1, 4, none⟩ = some v ∧ SlAt w T v e.2.2
/-- Block r is a cache of at most mst, which has been used now times; it holds M, in the order of last use; S: the blocks that its calls may write; T: those of its bytes; L: its row. -/
structure CoreAt (w : World) (r : Nat) (S T : Nat → Prop) (mst now : Nat) (M : List CE) (vo : Option Addr) (c : Nat) (L : List KE) : Prop where
  c0 : w.cell? ⟨r, 0, none⟩ = some (.int .i64 mst)
  c1 : w.cell? ⟨r, 1, none⟩ = some (.int .i64 now)
  fz : ∀ j, w.frozen? ⟨r, j, none⟩ = false
  inS : S r
  ltS : ∀ k, S k → k < w.heap.size
  ltT : ∀ k, T k → k < w.heap.size ∧ ¬ S k
  ents : ∀ e ∈ M, EntAt w S T e ∧ 0 ≤ e.1.2 ∧ e.1.2 ≤ now
  rise : M.Pairwise fun a b => a.1.2 < b.1.2
  unl : M.Pairwise fun a b => a.2.1 ≠ b.2.1
  row : RowK w 0 r 2 vo c L
  heap : HeapK L.length L
  perm : L.Perm (M.map (·.1))
  rowS : ∀ g o s, vo = some ⟨g, o, s⟩ → S g
theorem TileAt.block {w w' : World} {b : Nat} {t : TL} (h : TileAt w b t) (e : w'.heap[b]? = w.heap[b]?) : TileAt w' b t :=
  ⟨(World.cell?_of_block (a := ⟨b, 0, none⟩) e).trans h.1, (World.cell?_of_block (a := ⟨b, 1, none⟩) e).trans h.2.1, (World.cell?_of_block (a := ⟨b, 2, none⟩) e).trans h.2.2.1, (World.cell?_of_block (a := ⟨b, 3, none⟩) e).trans h.2.2.2⟩
theorem TileAt.lt {w : World} {b : Nat} {t : TL} (h : TileAt w b t) : b < w.heap.size := World.block_lt_of_cell? w _ h.1
theorem BytesAt.turn {X : Nat → Prop} {w w' : World} {ao : Option Addr} {l : List Int} (h : BytesAt w ao l) (ht : Turn X w w') (hx : ∀ b o s, ao = some ⟨b, o, s⟩ → ¬ X b) : BytesAt w' ao l := fun h0 => by
  obtain ⟨b, off, e, hlt, hc⟩ := h h0
  exact ⟨b, off, e, Nat.lt_of_lt_of_le hlt ht.2.2.2.1, fun i hi => (ht.cell (p := ⟨b, off + i, none⟩) hlt (hx _ _ _ e)).trans (hc i hi)⟩
theorem SlAt.turn {X T : Nat → Prop} {w w' : World} {v : Value} {l : List Int} (h : SlAt w T v l) (ht : Turn X w w') (hx : ∀ k, T k → ¬ X k) : SlAt w' T v l := by
  obtain ⟨ao, c, h1, h2, h3, h4⟩ := h
  exact ⟨ao, c, h1, h2.turn ht fun b o s e => hx b (h4 b o s e), h3, h4⟩
theorem SlAt.more {T T' : Nat → Prop} {w : World} {v : Value} {l : List Int} (h : SlAt w T v l) (hT : ∀ k, T k → T' k) : SlAt w T' v l := by
  obtain ⟨ao, c, h1, h2, h3, h4⟩ := h
  exact ⟨ao, c, h1, h2, h3, fun b o s e => hT b (h4 b o s e)⟩
theorem EntAt.turn {X S T S' T' : Nat → Prop} {w w' : World} {e : CE} (h : EntAt w S T e) (ht : Turn X w w') (hb : ¬ X e.1.1) (hx : ∀ k, T k → ¬ X k) (hS : ∀ k, S k → S' k) (hT : ∀ k, T k → T' k) : EntAt w' S' T' e := by
  obtain ⟨h1, h2, h3, h4, v, h5, h6⟩ := h
  have hh := ht.2.2.2.2 _ h1.lt hb
  exact ⟨h1.block hh, fun j => (World.frozen?_of_block (a := ⟨e.1.1, j, none⟩) hh).trans (h2 j), hS _ h3, h4, v, (World.cell?_of_block (a := ⟨e.1.1, 4, none⟩) hh).trans h5, (h6.turn ht hx).more hT⟩
/-- What the cache's blocks are not told of stays. -/
theorem CoreAt.kept {X S T : Nat → Prop} {w w' : World} {r mst now c : Nat} {M : List CE} {vo : Option Addr} {L : List KE} (h : CoreAt w r S T mst now M vo c L) (ht : Turn X w w') (hX : ∀ k, S k ∨ T k → ¬ X k) : CoreAt w' r S T mst now M vo c L := by
  have hr := h.row.lt
  have hh := ht.2.2.2.2 r hr (hX r (.inl h.inS))
  refine ⟨(World.cell?_of_block (a := ⟨r, 0, none⟩) hh).trans h.c0, (World.cell?_of_block (a := ⟨r, 1, none⟩) hh).trans h.c1, fun j => (World.frozen?_of_block (a := ⟨r, j, none⟩) hh).trans (h.fz j), h.inS, fun k hk => Nat.lt_of_lt_of_le (h.ltS k hk) ht.2.2.2.1, fun k hk => ⟨Nat.lt_of_lt_of_le (h.ltT k hk).1 ht.2.2.2.1, (h.ltT k hk).2⟩, fun e he => ?_, h.rise, h.unl, ?_, h.heap, h.perm, h.rowS⟩
  · obtain ⟨h1, h2⟩ := h.ents e he
    exact ⟨h1.turn ht (hX _ (.inl h1.2.2.1)) (fun k hk => hX k (.inr hk)) (fun _ h => h) (fun _ h => h), h2⟩
  · refine h.row.kept ht (fun k hk => ?_) fun q hq => ?_
    · rcases hk with rfl | ⟨o, s, e⟩
      · exact hX _ (.inl h.inS)
      · exact hX _ (.inl (h.rowS _ _ _ e))
    · obtain ⟨e, he, rfl⟩ := List.mem_map.1 (h.perm.mem_iff.1 hq)
      exact hX _ (.inl (h.ents e he).1.2.2.1)
theorem CoreAt.below {S T : Nat → Prop} {w w' : World} {r mst now c : Nat} {M : List CE} {vo : Option Addr} {L : List KE} (h : CoreAt w r S T mst now M vo c L) (hb : Below w.heap.size w w') : CoreAt w' r S T mst now M vo c L :=
  h.kept (X := fun _ => False) (Turn.of_below hb) fun _ _ h => h
theorem CoreAt.foot {S T : Nat → Prop} {w : World} {r mst now c : Nat} {M : List CE} {vo : Option Addr} {L : List KE} (h : CoreAt w r S T mst now M vo c L) : ∀ k, FootK r vo k → S k := fun k hk => by
  rcases hk with rfl | ⟨o, s, e⟩
  · exact h.inS
  · exact h.rowS _ _ _ e
/-- What is known behind a call of the heap. -/
theorem CoreAt.heaped {S T : Nat → Prop} {w w' : World} {r mst now c c' : Nat} {M M' : List CE} {vo vo' : Option Addr} {L L' : List KE} (h : CoreAt w r S T mst now M vo c L) (ht : TK r 2 vo w w')
    (hr : RowK w' 0 r 2 vo' c' L') (hh : HeapK L'.length L') (hg : GrowsK w r vo vo') (hp : L'.Perm (M'.map (·.1))) (hM : M'.Sublist M) : CoreAt w' r (fun k => S k ∨ ∃ o s, vo' = some ⟨k, o, s⟩ ∧ w.heap.size ≤ k) T mst now M' vo' c' L' := by
  have hlt' : ∀ g o s, vo' = some ⟨g, o, s⟩ → g < w'.heap.size := fun g o s e => by subst e; exact (own_lt hr.2.2.1 _ _ _ rfl).2
  refine ⟨(ht.2.1 0 (by decide)).trans h.c0, (ht.2.1 1 (by decide)).trans h.c1, fun j => (ht.2.2 j).trans (h.fz j), .inl h.inS, fun k hk => ?_, fun k hk => ⟨Nat.lt_of_lt_of_le (h.ltT k hk).1 ht.1.2.2.2.1, ?_⟩, fun e he => ?_, h.rise.sublist hM, h.unl.sublist hM, hr, hh, hp, fun g o s e => ?_⟩
  · rcases hk with hk | ⟨o, s, e, _⟩
    · exact Nat.lt_of_lt_of_le (h.ltS k hk) ht.1.2.2.2.1
    · exact hlt' _ _ _ e
  · rintro (h1 | ⟨o, s, e, h1⟩)
    · exact (h.ltT k hk).2 h1
    · have := (h.ltT k hk).1; omega
  · obtain ⟨h1, h2⟩ := h.ents e (hM.subset he)
    have hu := h.row.used e.1 (h.perm.mem_iff.2 (List.mem_map_of_mem (hM.subset he)))
    refine ⟨h1.turn ht.1 ?_ (fun k hk hf => (h.ltT k hk).2 (h.foot k hf)) (fun _ h => .inl h) (fun _ h => h), h2⟩
    rintro (h3 | ⟨o, s, h3⟩)
    · exact hu.2.1 h3
    · exact hu.2.2 _ _ _ h3 rfl
  · rcases Nat.lt_or_ge g w.heap.size with h1 | h1
    · exact .inl (h.foot g (hg g o s e h1))
    · exact .inr ⟨o, s, e, h1⟩

/-- The tile of one of a row. -/
def tlOf (M : List CE) (q : KE) : TL := ((M.find? fun e => decide (e.1 = q)).map (·.2.1)).getD (0, 0, 0, 0)
theorem keyK_inj {M : List CE} (h : M.Pairwise fun a b => a.1.2 < b.1.2) {a b : CE} (ha : a ∈ M) (hb : b ∈ M) (e : a.1 = b.1) : a = b := by
  induction M with
  | nil => cases ha
  | cons x M ih =>
    rw [List.pairwise_cons] at h
    rcases List.mem_cons.1 ha with rfl | ha'
    · rcases List.mem_cons.1 hb with rfl | hb'
      · rfl
      · have := h.1 b hb'; rw [e] at this; omega
    · rcases List.mem_cons.1 hb with rfl | hb'
      · have := h.1 a ha'; rw [e] at this; omega
      · exact ih h.2 ha' hb'
theorem tlOf_eq {M : List CE} (h : M.Pairwise fun a b => a.1.2 < b.1.2) {e : CE} (he : e ∈ M) : tlOf M e.1 = e.2.1 := by
  unfold tlOf
  cases hf : M.find? fun x => decide (x.1 = e.1) with
  | none =>
    have := List.find?_eq_none.1 hf e he
    simp at this
  | some x =>
    have h1 : x.1 = e.1 := by simpa using List.find?_some hf
    have h2 := keyK_inj h (List.mem_of_find?_eq_some hf) he h1
    rw [h2]; rfl
/-- Where a tile stands. -/
def atM (M : List CE) (t : TL) : Nat := M.findIdx fun e => decide (e.2.1 = t)
def atA (A : List AE) (t : TL) : Nat := A.findIdx fun e => decide (e.1 = t)
theorem atM_map (M : List CE) (t : TL) : atM M t = atA (M.map (·.2)) t := by unfold atM atA; rw [List.findIdx_map]; rfl
theorem atM_tile {M : List CE} {t : TL} (h : atM M t < M.length) : (M[atM M t]'h).2.1 = t := by
  have := List.findIdx_getElem (p := fun e : CE => decide (e.2.1 = t)) (xs := M) (w := h)
  exact of_decide_eq_true this
theorem idx_found {M : List CE} {L : List KE} (h : M.Pairwise fun a b => a.1.2 < b.1.2) (hu : M.Pairwise fun a b => a.2.1 ≠ b.2.1) (hp : L.Perm (M.map (·.1))) {t : TL} (ht : atM M t < M.length) :
    ∃ i, i < L.length ∧ idxK (fun q => decide (tlOf M q = t)) L = (i : Int) ∧ kG L i = (M[atM M t]'ht).1 := by
  have hm : M[atM M t]'ht ∈ M := List.getElem_mem ht
  have hin : (M[atM M t]'ht).1 ∈ L := hp.mem_iff.2 (List.mem_map_of_mem hm)
  have hlt : L.findIdx (fun q => decide (tlOf M q = t)) < L.length := List.findIdx_lt_length_of_exists ⟨_, hin, by rw [tlOf_eq h hm, atM_tile ht]; simp⟩
  refine ⟨L.findIdx fun q => decide (tlOf M q = t), hlt, by unfold idxK; rw [if_pos hlt], ?_⟩
  have hg : kG L (L.findIdx fun q => decide (tlOf M q = t)) = L[L.findIdx fun q => decide (tlOf M q = t)] := by
    unfold kG; rw [List.getD_eq_getElem?_getD, List.getElem?_eq_getElem hlt, Option.getD_some]
  have hp2 : tlOf M (L[L.findIdx fun q => decide (tlOf M q = t)]) = t := by
    have := List.findIdx_getElem (p := fun q : KE => decide (tlOf M q = t)) (xs := L) (w := hlt)
    simpa using this
  obtain ⟨e, he, hq⟩ := List.mem_map.1 (hp.mem_iff.1 (List.getElem_mem hlt))
  rw [hg, ← hq]
  rw [← hq, tlOf_eq h he] at hp2
  have : e = M[atM M t]'ht := by
    rcases Nat.lt_trichotomy (atM M t) (M.findIdx fun x => decide (x = e)) with h1 | h1 | h1
    all_goals
      have hl : M.findIdx (fun x => decide (x = e)) < M.length := List.findIdx_lt_length_of_exists ⟨e, he, by simp⟩
      have hx : M[M.findIdx fun x => decide (x = e)] = e := by
        have := List.findIdx_getElem (p := fun x : CE => decide (x = e)) (xs := M) (w := hl)
        simpa using this
    · exact absurd (by rw [hx, hp2]; exact atM_tile ht) (List.pairwise_iff_getElem.1 hu _ _ ht hl h1)
    · rw [← hx]; congr 1; exact h1.symm
    · exact absurd (by rw [hx, hp2]; exact (atM_tile ht).symm) (List.pairwise_iff_getElem.1 hu _ _ hl ht h1)
  rw [this]
theorem idx_none {M : List CE} {L : List KE} (h : M.Pairwise fun a b => a.1.2 < b.1.2) (hp : L.Perm (M.map (·.1))) {t : TL} (ht : atM M t = M.length) : idxK (fun q => decide (tlOf M q = t)) L = -1 := by
  refine idxK_none fun j hj => ?_
  obtain ⟨e, he, hq⟩ := List.mem_map.1 (hp.mem_iff.1 (kG_mem hj))
  rw [← hq, tlOf_eq h he]
  have := (List.findIdx_eq_length (p := fun e : CE => decide (e.2.1 = t)) (xs := M)).1 ht e he
  simpa using this
theorem set_cons_perm {L : List KE} {i : Nat} (hi : i < L.length) (x : KE) : (L.set i x).Perm (x :: L.eraseIdx i) := by
  induction L generalizing i with
  | nil => simp at hi
  | cons y L ih =>
    cases i with
    | zero => simp
    | succ i =>
      simp only [List.set_cons_succ, List.eraseIdx_cons_succ]
      exact ((ih (by simpa using hi)).cons y).trans (List.Perm.swap ..)
theorem cons_perm {α : Type} {L : List α} {i : Nat} (hi : i < L.length) : L.Perm (L[i] :: L.eraseIdx i) := by
  induction L generalizing i with
  | nil => simp at hi
  | cons y L ih =>
    cases i with
    | zero => simp
    | succ i =>
      simp only [List.getElem_cons_succ, List.eraseIdx_cons_succ]
      exact ((ih (by simpa using hi)).cons y).trans (List.Perm.swap ..)
theorem map_erase {α β : Type} (f : α → β) (l : List α) (i : Nat) : (l.eraseIdx i).map f = (l.map f).eraseIdx i := by
  induction l generalizing i with
  | nil => simp
  | cons y l ih => cases i with
    | zero => simp
    | succ i => simp [ih]
/-- The row behind a use. -/
theorem used_perm {M : List CE} {L : List KE} (hp : L.Perm (M.map (·.1))) {i m : Nat} (hi : i < L.length) (hm : m < M.length) (e : kG L i = (M[m]).1) (x : KE) (a : AE) :
    (L.set i x).Perm ((M.eraseIdx m ++ [((x, a) : CE)]).map (·.1)) := by
  have h1 : L.Perm (kG L i :: L.eraseIdx i) := by
    have e2 : kG L i = L[i] := by unfold kG; rw [List.getD_eq_getElem?_getD, List.getElem?_eq_getElem hi, Option.getD_some]
    rw [e2]; exact cons_perm hi
  have h2 : (M.map (·.1)).Perm ((M[m]).1 :: (M.eraseIdx m).map (·.1)) := (cons_perm hm).map (·.1)
  rw [e] at h1
  have h3 : (L.eraseIdx i).Perm ((M.eraseIdx m).map (·.1)) := (h1.symm.trans (hp.trans h2)).cons_inv
  refine (set_cons_perm hi x).trans ((h3.cons x).trans ?_)
  rw [List.map_append]
  exact List.perm_append_comm (l₁ := [x])
theorem gone_perm {M : List CE} {L L' : List KE} (hp : L.Perm (M.map (·.1))) {m : Nat} (hm : m < M.length) (h : ((M[m]).1 :: L').Perm L) : L'.Perm ((M.eraseIdx m).map (·.1)) :=
  (h.trans (hp.trans ((cons_perm hm).map (·.1)))).cons_inv
theorem off_set {L : List KE} {i : Nat} (h : HeapK L.length L) (hi : i < L.length) (x : KE) : OffK (L.set i x).length (L.set i x) i := by
  rw [List.length_set]
  refine ⟨fun j h1 h2 h3 h4 => ?_, fun j h1 h2 h3 h4 => ?_⟩
  · have hp : parK j < j := by unfold parK; omega
    rw [kG_set hi, kG_set hi, if_neg h3, if_neg h4]
    exact h j h1 h2
  · have hp : parK i < i := by unfold parK; omega
    have hij : i < j := by unfold parK at h3; omega
    rw [kG_set hi, kG_set hi, if_neg (by omega), if_neg (by omega)]
    have a1 := h j h1 h2
    rw [h3] at a1
    exact less_ntransK a1 (h i h4 hi)
/-- The first of the heap is the least lately used. -/
theorem head_least {M : List CE} {L : List KE} (h : M.Pairwise fun a b => a.1.2 < b.1.2) (hp : L.Perm (M.map (·.1))) (hh : HeapK L.length L) (h0 : 0 < M.length) : kG L 0 = (M[0]).1 := by
  have hl : L.length = M.length := by rw [hp.length_eq, List.length_map]
  obtain ⟨e, he, hq⟩ := List.mem_map.1 (hp.mem_iff.1 (kG_mem (L := L) (i := 0) (by omega)))
  obtain ⟨j, hj, hjx⟩ := kG_of_mem (hp.mem_iff.2 (List.mem_map_of_mem (f := (·.1)) (List.getElem_mem h0)))
  have h1 := less_notK.1 (heap_minK hh j hj)
  rw [hjx, ← hq] at h1
  cases M with
  | nil => simp at h0
  | cons x M =>
    rw [List.pairwise_cons] at h
    rcases List.mem_cons.1 he with rfl | he
    · rw [← hq]; rfl
    · have := h.1 e he
      simp at h1
      omega
end Go.Proofs.YtjimcjhgjfhbiaaGreat
/- Contracts of package cache: use, Len. -/
namespace Go.Proofs.YtjimcjhgjfhbiaaGreat
open Go.RowKit Go.Lib

theorem CoreAt.nodup {S T : Nat → Prop} {w : World} {r mst now c : Nat} {M : List CE} {vo : Option Addr} {L : List KE} (h : CoreAt w r S T mst now M vo c L) : L.Nodup := by
  refine (h.perm.nodup_iff).2 ?_
  refine List.pairwise_map.2 (h.rise.imp fun {a b} hab e => ?_)
  rw [e] at hab; omega
theorem kG_getElem {L : List KE} {i : Nat} (hi : i < L.length) : kG L i = L[i] := by
  unfold kG; rw [List.getD_eq_getElem?_getD, List.getElem?_eq_getElem hi, Option.getD_some]
/-- The blocks of the others. -/
theorem CoreAt.others {S T : Nat → Prop} {w : World} {r mst now c : Nat} {M : List CE} {vo : Option Addr} {L : List KE} (h : CoreAt w r S T mst now M vo c L) {i : Nat} (hi : i < L.length) {q : KE} (hq : q ∈ L.eraseIdx i) : q ∈ L ∧ q.1 ≠ (kG L i).1 := by
  have hp : L.Perm (L[i] :: L.eraseIdx i) := cons_perm hi
  have hn := (hp.nodup_iff).1 h.nodup
  rw [List.nodup_cons] at hn
  have hqL : q ∈ L := hp.mem_iff.2 (List.mem_cons_of_mem _ hq)
  refine ⟨hqL, fun e => hn.1 ?_⟩
  have u1 := (h.row.used q hqL).1
  have u2 := (h.row.used (kG L i) (kG_mem hi)).1
  rw [e, u2] at u1
  have e2 : (kG L i).2 = q.2 := by simpa using u1
  have : q = L[i] := by rw [← kG_getElem hi]; exact Prod.ext e e2.symm
  rw [← this]; exact hq
/-- The world ahead of heap.Fix. -/
def UseW (w : World) (r b : Nat) (v : Int) : World := ((w.setCell ⟨r, 1, none⟩ (.int .i64 v)).setCell ⟨b, 5, none⟩ (.int .i64 v)).drew
theorem useW_other {w : World} {r b : Nat} {v : Int} {k j : Nat} (h1 : ⟨k, j, none⟩ ≠ (⟨r, 1, none⟩ : Addr)) (h2 : ⟨k, j, none⟩ ≠ (⟨b, 5, none⟩ : Addr)) : (UseW w r b v).cell? ⟨k, j, none⟩ = w.cell? ⟨k, j, none⟩ := by
  show ((w.setCell ⟨r, 1, none⟩ (.int .i64 v)).setCell ⟨b, 5, none⟩ (.int .i64 v)).cell? _ = _
  rw [World.cell?_setCell_other _ _ _ _ (Ne.symm h2), World.cell?_setCell_other _ _ _ _ (Ne.symm h1)]
theorem useW_frozen {w : World} {r b : Nat} {v : Int} (a : Addr) : (UseW w r b v).frozen? a = w.frozen? a := by
  show ((w.setCell ⟨r, 1, none⟩ (.int .i64 v)).setCell ⟨b, 5, none⟩ (.int .i64 v)).frozen? _ = _
  rw [World.frozen?_setCell, World.frozen?_setCell]
theorem useW_turn {X : Nat → Prop} {w : World} {r b : Nat} {v : Int} (h1 : X r) (h2 : X b) : Turn X w (UseW w r b v) := (((Turn.refl X w).setCell (a := ⟨r, 1, none⟩) h1 _).setCell (a := ⟨b, 5, none⟩) h2 _).drew
theorem EntAt.used {S T : Nat → Prop} {w : World} {r b : Nat} {v : Int} {e : CE} (h : EntAt w S T e) (hr : e.1.1 ≠ r) (hT : ∀ k, T k → k ≠ r ∧ k ≠ b) : EntAt (UseW w r b v) S T e := by
  obtain ⟨⟨a0, a1, a2, a3⟩, h2, h3, h4, u, h5, h6⟩ := h
  have ho : ∀ j, j < 5 → (UseW w r b v).cell? ⟨e.1.1, j, none⟩ = w.cell? ⟨e.1.1, j, none⟩ := fun j hj => useW_other (fun he => hr (congrArg Addr.block he)) (fun he => by have h9 : j = 5 := congrArg Addr.off he; omega)
  exact ⟨⟨(ho 0 (by decide)).trans a0, (ho 1 (by decide)).trans a1, (ho 2 (by decide)).trans a2, (ho 3 (by decide)).trans a3⟩, fun j => (useW_frozen _).trans (h2 j), h3, h4, u, (ho 4 (by decide)).trans h5, h6.turn (useW_turn (X := fun k => k = r ∨ k = b) (.inl rfl) (.inr rfl)) fun k hk => by have := hT k hk; omega⟩
theorem CoreAt.usedRow {S T : Nat → Prop} {w : World} {r mst now c : Nat} {M : List CE} {vo : Option Addr} {L : List KE} (h : CoreAt w r S T mst now M vo c L) {i : Nat} (hi : i < L.length) (v : Int) :
    RowK (UseW w r (kG L i).1 v) 0 r 2 vo c (L.set i ((kG L i).1, v)) := by
  have hu := h.row.used _ (kG_mem hi)
  have hr2 : (UseW w r (kG L i).1 v).cell? ⟨r, 2, none⟩ = w.cell? ⟨r, 2, none⟩ := useW_other (fun he => by simp at he) (fun he => by simp at he)
  refine ⟨by rw [List.length_set]; exact hr2.trans h.row.1, (useW_frozen _).trans h.row.2.1, ?_, h.row.2.2.2.1, by rw [List.length_set]; exact h.row.len, fun q hq => ?_⟩
  · have e : kV (L.set i ((kG L i).1, v)) = kV L := by
      rw [kV_set]
      apply List.ext_getElem?
      intro j
      rw [List.getElem?_set]
      by_cases hij : i = j
      · subst hij
        rw [if_pos rfl, if_pos (by rw [kV_length]; exact hi), kV_get hi]; rfl
      · rw [if_neg hij]
    rw [List.length_set, e]
    refine own_turn h.row.2.2.1 (useW_turn (X := fun k => k = r ∨ k = (kG L i).1) (.inl rfl) (.inr rfl)) fun g o s e2 => ?_
    rintro (h1 | h1)
    · exact h.row.2.2.2.1 g o s e2 h1
    · exact hu.2.2 g o s e2 h1
  · rcases List.mem_cons.1 ((set_cons_perm hi _).mem_iff.1 hq) with rfl | hq'
    · refine ⟨?_, hu.2⟩
      show ((w.setCell ⟨r, 1, none⟩ (.int .i64 v)).setCell ⟨(kG L i).1, 5, none⟩ (.int .i64 v)).cell? _ = _
      have hz : (w.setCell ⟨r, 1, none⟩ (.int .i64 v)).cell? ⟨(kG L i).1, 5, none⟩ = some (.int .i64 (kG L i).2) := by
        rw [World.cell?_setCell_other _ _ _ _ (by intro he; simp at he)]; exact hu.1
      exact World.cell?_setCell_same _ _ _ hz
    · obtain ⟨h1, h2⟩ := h.others hi hq'
      have h3 := h.row.used q h1
      exact ⟨(useW_other (fun he => by simp at he) (fun he => h2 (congrArg Addr.block he))).trans h3.1, h3.2⟩
theorem erase_sub {M : List CE} {m : Nat} : ∀ e ∈ M.eraseIdx m, e ∈ M := fun _ he => (List.eraseIdx_sublist M m).subset he
theorem erase_ne {M : List CE} (hu : M.Pairwise fun a b => a.2.1 ≠ b.2.1) {m : Nat} (hm : m < M.length) : ∀ e ∈ M.eraseIdx m, e.2.1 ≠ (M[m]).2.1 := by
  have hp : (M.eraseIdx m ++ [M[m]]).Perm M := List.perm_append_comm.trans (cons_perm hm).symm
  have h2 : (M.eraseIdx m ++ [M[m]]).Pairwise fun a b => a.2.1 ≠ b.2.1 := (hp.pairwise_iff fun {x y} h => h.symm).2 hu
  rw [List.pairwise_append] at h2
  exact fun e he => h2.2.2 e he _ (List.mem_singleton.2 rfl)
/-- What is known behind heap.Fix. -/
theorem CoreAt.fixed {S T : Nat → Prop} {w w' : World} {r mst now c : Nat} {M : List CE} {vo : Option Addr} {L L' : List KE} (h : CoreAt w r S T mst now M vo c L) {i m : Nat} (hi : i < L.length) (hm : m < M.length) (e : kG L i = (M[m]).1)
    (hr : RowK w' 0 r 2 vo c L') (hh : HeapK L'.length L') (hp : L'.Perm (L.set i ((kG L i).1, ((now + 1 : Nat) : Int)))) (ht : TK r 2 vo (UseW w r (kG L i).1 ((now + 1 : Nat) : Int)) w') :
    CoreAt w' r S T mst (now + 1) (M.eraseIdx m ++ [((((M[m]).1.1, ((now + 1 : Nat) : Int)) : KE), (M[m]).2)]) vo c L' ∧ Turn S w w' := by
  have hent := h.ents _ (List.getElem_mem hm)
  have hb : S (kG L i).1 := by rw [e]; exact hent.1.2.2.1
  have hfoot := h.foot
  have hSS : Turn S w w' := (useW_turn h.inS hb).trans ht.1 fun k _ hk => hfoot k hk
  have hsz : w.heap.size ≤ w'.heap.size := hSS.2.2.2.1
  have hT : ∀ k, T k → k ≠ r ∧ k ≠ (kG L i).1 := fun k hk => ⟨fun e2 => (h.ltT k hk).2 (e2 ▸ h.inS), fun e2 => (h.ltT k hk).2 (e2 ▸ hb)⟩
  have hE : ∀ q : CE, q ∈ M → EntAt w' S T q := fun q hq => by
    have hu := h.row.used q.1 (h.perm.mem_iff.2 (List.mem_map_of_mem hq))
    refine ((h.ents q hq).1.used hu.2.1 hT).turn ht.1 ?_ (fun k hk hf => (h.ltT k hk).2 (hfoot k hf)) (fun _ h => h) (fun _ h => h)
    rintro (h3 | ⟨o, s, h3⟩)
    · exact hu.2.1 h3
    · exact hu.2.2 _ _ _ h3 rfl
  refine ⟨⟨?_, ?_, fun j => (ht.2.2 j).trans ((useW_frozen _).trans (h.fz j)), h.inS, fun k hk => Nat.lt_of_lt_of_le (h.ltS k hk) hsz, fun k hk => ⟨Nat.lt_of_lt_of_le (h.ltT k hk).1 hsz, (h.ltT k hk).2⟩, fun q hq => ?_, ?_, ?_, hr, hh, ?_, h.rowS⟩, hSS⟩
  · exact (ht.2.1 0 (by decide)).trans ((useW_other (fun he => by simp at he) (fun he => by simp at he)).trans h.c0)
  · refine (ht.2.1 1 (by decide)).trans ?_
    have hne : (kG L i).1 ≠ r := (h.row.used _ (kG_mem hi)).2.1
    show ((w.setCell ⟨r, 1, none⟩ _).setCell ⟨(kG L i).1, 5, none⟩ _).cell? _ = _
    rw [World.cell?_setCell_other _ _ _ _ (by intro he; simp at he)]
    exact World.cell?_setCell_same _ _ _ h.c1
  · rcases List.mem_append.1 hq with h1 | h1
    · have := h.ents q (erase_sub q h1)
      exact ⟨hE q (erase_sub q h1), by omega, by omega⟩
    · rw [List.mem_singleton.1 h1]
      have h9 := hE M[m] (List.getElem_mem hm)
      exact ⟨h9, by show (0 : Int) ≤ ((now + 1 : Nat) : Int); omega, Int.le_refl _⟩
  · rw [List.pairwise_append]
    refine ⟨h.rise.sublist (List.eraseIdx_sublist M m), List.pairwise_singleton _ _, fun a ha b hb => ?_⟩
    rw [List.mem_singleton.1 hb]
    have := h.ents a (erase_sub a ha)
    show a.1.2 < ((now + 1 : Nat) : Int)
    omega
  · rw [List.pairwise_append]
    refine ⟨h.unl.sublist (List.eraseIdx_sublist M m), List.pairwise_singleton _ _, fun a ha b hb => ?_⟩
    rw [List.mem_singleton.1 hb]
    exact erase_ne h.unl hm a ha
  · have := used_perm h.perm hi hm e (((M[m]).1.1, ((now + 1 : Nat) : Int)) : KE) (M[m]).2
    rw [← e] at this
    rw [← e]
    exact hp.trans this
set_option maxRecDepth 100000 in
set_option maxHeartbeats 1000000 in
theorem kuse_any {S T : Nat → Prop} {w : World} {r mst now c : Nat} {M : List CE} {vo : Option Addr} {L : List KE} (h : CoreAt w r S T mst now M vo c L) (hnow : now < 1000000000) {i m : Nat} (hi : i < L.length) (hm : m < M.length) (e : kG L i = (M[m]).1) :
    Calls Tryz.prog 24 #[.pointer (some ⟨r, 0, none⟩), .int .i64 i] w fun e w' => e = .returned (.tuple #[]) ∧ ∃ L', CoreAt w' r S T mst (now + 1) (M.eraseIdx m ++ [((((M[m]).1.1, ((now + 1 : Nat) : Int)) : KE), (M[m]).2)]) vo c L' ∧ Turn S w w' := by
  have hr := h.row.lt
  have c1 := h.c1
  have f1 := h.fz 1
  have c2 := h.row.1
  have HF : Hid (∀ w', FixedK (UseW w r (kG L i).1 ((now + 1 : Nat) : Int)) 0 r 2 vo c (L.set i ((kG L i).1, ((now + 1 : Nat) : Int))) (.returned (.tuple #[])) w' → ∃ L', CoreAt w' r S T mst (now + 1) (M.eraseIdx m ++ [((((M[m]).1.1, ((now + 1 : Nat) : Int)) : KE), (M[m]).2)]) vo c L' ∧ Turn S w w') := fun w' ⟨_, L', h1, h2, h3, h4⟩ => ⟨L', h.fixed hi hm e h1 h2 h3 h4⟩
  have HX := Lib.hid (hfixK_any (h.usedRow hi ((now + 1 : Nat) : Int)) (off_set h.heap hi _) (i := i) (by rw [List.length_set]; exact hi))
  obtain ⟨g, rfl, hg, hgr, hf, hc⟩ := h.row.cells (by omega)
  have hx := hc i hi
  have hu := h.row.used _ (kG_mem hi)
  have hent := (h.ents _ (List.getElem_mem hm)).1
  have c5 := hu.1
  have f5 : w.frozen? ⟨(kG L i).1, 5, none⟩ = false := by rw [e]; exact hent.2.1 5
  have hbr := hu.2.1
  have hbg : g ≠ (kG L i).1 := hu.2.2 _ _ _ rfl
  have hb := World.block_lt_of_cell? w _ c5
  obtain ⟨b, hbb⟩ : ∃ b, (kG L i).1 = b := ⟨_, rfl⟩
  rw [hbb] at c5 f5 hbr hbg hb HF HX
  unfold kP at hx
  rw [hbb] at hx
  have hw1 : IntKind.i64.wrap ((now : Int) + 1) = ((now : Int) + 1) := wrap_in (by omega) (by omega)
  obtain ⟨n, hn⟩ : ∃ n, L.length = n := ⟨_, rfl⟩
  rw [hn] at c2 hi
  have ecast : ((now + 1 : Nat) : Int) = (now : Int) + 1 := by omega
  unfold UseW ifcK at HX
  rw [ecast] at HX
  have HQ := Lib.hid ecast
  clear h hent hu hf hc hn hbb e ecast
  obtain ⟨R, hR⟩ : ∃ R : World → Prop, R = fun w' => ∃ L', CoreAt w' r S T mst (now + 1) (M.eraseIdx m ++ [((((M[m]).1.1, ((now + 1 : Nat) : Int)) : KE), (M[m]).2)]) (some ⟨g, 0, none⟩) c L' ∧ Turn S w w' := ⟨_, rfl⟩
  have HF2 : Hid (∀ w', FixedK (UseW w r b ((now + 1 : Nat) : Int)) 0 r 2 (some ⟨g, 0, none⟩) c (L.set i (b, ((now + 1 : Nat) : Int))) (.returned (.tuple #[])) w' → R w') := fun w' h => by rw [hR]; exact HF.out w' h
  show Calls Tryz.prog 24 #[.pointer (some ⟨r, 0, none⟩), .int .i64 i] w fun e w' => e = .returned (.tuple #[]) ∧ (fun w' => ∃ L', CoreAt w' r S T mst (now + 1) (M.eraseIdx m ++ [((((M[m]).1.1, ((now + 1 : Nat) : Int)) : KE), (M[m]).2)]) (some ⟨g, 0, none⟩) c L' ∧ Turn S w w') w'
  rw [← hR]
  clear hR HF
  go_enter Tryz.func24, Tryz.ntmps24
  go_wp2_with fail
  go_region
  go_wp2_with fail
  refine HX.out.mono ?_
  rintro e w' ⟨rfl, hfx⟩
  have HR : Hid (R w') := HF2.out w' (by unfold UseW; rw [HQ.out]; exact ⟨rfl, hfx⟩)
  clear hfx
  go_wp2
  go_end0
  exact ⟨rfl, HR.out⟩
theorem kclen_any {w : World} {r : Nat} {vo : Option Addr} {n c : Nat} (c2 : w.cell? ⟨r, 2, none⟩ = some (.slice vo n c)) : Calls Tryz.prog 12 #[.pointer (some ⟨r, 0, none⟩)] w fun e w' => e = .returned (.int .i64 n) ∧ w = w' := by
  have hr := World.block_lt_of_cell? w _ c2
  dsimp only at hr
  go_enter Tryz.func12, Tryz.ntmps12
  go_wp2
  go_ret
  exact ⟨rfl, rfl⟩
end Go.Proofs.YtjimcjhgjfhbiaaGreat
/- Contracts of package cache: New, Get. What a cache's call leaves. -/
namespace Go.Proofs.YtjimcjhgjfhbiaaGreat
open Go.RowKit Go.Lib

/-- Block r is a cache of at most mst that holds A, least lately used first; it has been used at most N times; it lies in the blocks of S and T. -/
def CacheIs (w : World) (r : Nat) (S T : Nat → Prop) (mst N : Nat) (A : List AE) : Prop :=
  ∃ now M vo c L, CoreAt w r S T mst now M vo c L ∧ now ≤ N ∧ M.map (·.2) = A ∧ A.length ≤ mst ∧ mst ≤ 1000
theorem CacheIs.kept {X S T : Nat → Prop} {w w' : World} {r mst N : Nat} {A : List AE} (h : CacheIs w r S T mst N A) (ht : Turn X w w') (hX : ∀ k, S k ∨ T k → ¬ X k) : CacheIs w' r S T mst N A := by
  obtain ⟨now, M, vo, c, L, h1, h2⟩ := h
  exact ⟨now, M, vo, c, L, h1.kept ht hX, h2⟩
theorem CacheIs.below {S T : Nat → Prop} {w w' : World} {r mst N : Nat} {A : List AE} (h : CacheIs w r S T mst N A) (hb : Below w.heap.size w w') : CacheIs w' r S T mst N A :=
  h.kept (X := fun _ => False) (Turn.of_below hb) fun _ _ h => h
theorem CacheIs.more {S T : Nat → Prop} {w : World} {r mst N N' : Nat} {A : List AE} (h : CacheIs w r S T mst N A) (hN : N ≤ N') : CacheIs w r S T mst N' A := by
  obtain ⟨now, M, vo, c, L, h1, h2, h3⟩ := h
  exact ⟨now, M, vo, c, L, h1, by omega, h3⟩
theorem CacheIs.lt {S T : Nat → Prop} {w : World} {r mst N : Nat} {A : List AE} (h : CacheIs w r S T mst N A) : ∀ k, S k ∨ T k → k < w.heap.size := fun k hk => by
  obtain ⟨now, M, vo, c, L, h1, _⟩ := h
  rcases hk with hk | hk
  · exact h1.ltS k hk
  · exact (h1.ltT k hk).1
/-- What a cache's call leaves: the cache holds A; it has written in its own blocks alone. -/
def CTo (w : World) (r : Nat) (S T : Nat → Prop) (mst N : Nat) (A : List AE) (w' : World) : Prop :=
  ∃ S' T', CacheIs w' r S' T' mst N A ∧ Turn S w w' ∧ ∀ k, k < w.heap.size → S' k ∨ T' k → S k ∨ T k
theorem cto_core {w w' : World} {r mst now N c : Nat} {S T S' T' : Nat → Prop} {A : List AE} {M : List CE} {vo : Option Addr} {L : List KE} (h : CoreAt w' r S' T' mst now M vo c L) (hN : now ≤ N) (hA : M.map (·.2) = A) (hl : A.length ≤ mst) (hm : mst ≤ 1000) (ht : Turn S w w')
    (hF : ∀ k, k < w.heap.size → S' k ∨ T' k → S k ∨ T k) : CTo w r S T mst N A w' := ⟨S', T', ⟨now, M, vo, c, L, h, hN, hA, hl, hm⟩, ht, hF⟩
theorem core_new (w : World) (m : Nat) : CoreAt (w.alloc (.cells #[.int .i64 m, .int .i64 0, .slice none 0 0] 57)) w.heap.size (fun k => k = w.heap.size) (fun _ => False) m 0 [] none 0 [] := by
  have e := heap_new w (.cells #[.int .i64 m, .int .i64 0, .slice none 0 0] 57) _ rfl
  have hz : (w.alloc (.cells #[.int .i64 m, .int .i64 0, .slice none 0 0] 57)).heap.size = w.heap.size + 1 := World.size_alloc _ _
  generalize w.alloc (.cells #[.int .i64 m, .int .i64 0, .slice none 0 0] 57) = W at *
  have c0 := cell_of_row _ _ 0 _ _ _ e
  have c1 := cell_of_row _ _ 1 _ _ _ e
  have c2 := cell_of_row _ _ 2 _ _ _ e
  have fz : ∀ j, W.frozen? ⟨w.heap.size, j, none⟩ = false := fun j => by simp [World.frozen?, e]
  exact ⟨c0, c1, fz, rfl, (fun k hk => by omega), fun k hk => hk.elim, (fun e he => by cases he), List.Pairwise.nil, List.Pairwise.nil,
    ⟨c2, fz 2, World.ownsRow_nil _ _ _ _, (fun g o s e => by cases e), by simp, (fun q hq => by cases hq)⟩, (fun j h1 h2 => absurd h2 (Nat.not_lt_zero _)), List.Perm.refl _, (fun g o s e => by cases e)⟩
theorem kcnew_any (n : Int) (w : World) : Calls Tryz.prog 5 #[.int .i64 n] w fun e w' => ∃ r S T, e = .returned (.pointer (some ⟨r, 0, none⟩)) ∧ CacheIs w' r S T (min (max n 0) 1000).toNat 0 [] ∧ Below w.heap.size w w' ∧ ∀ k, S k ∨ T k → w.heap.size ≤ k := by
  obtain ⟨m, hm⟩ : ∃ m : Nat, min (max n 0) 1000 = (m : Int) := ⟨(min (max n 0) 1000).toNat, by omega⟩
  have hm2 : m ≤ 1000 := by omega
  have HR : Hid (∃ r S T, Ending.returned (.pointer (some ⟨w.heap.size, 0, none⟩)) = Ending.returned (.pointer (some ⟨r, 0, none⟩)) ∧ CacheIs (w.alloc (.cells #[.int .i64 m, .int .i64 0, .slice none 0 0] 57)) r S T m 0 [] ∧ Below w.heap.size w (w.alloc (.cells #[.int .i64 m, .int .i64 0, .slice none 0 0] 57)) ∧ ∀ k, S k ∨ T k → w.heap.size ≤ k) :=
    ⟨w.heap.size, fun k => k = w.heap.size, fun _ => False, rfl, ⟨0, [], none, 0, [], core_new w m, Nat.le_refl _, rfl, Nat.zero_le _, hm2⟩, (Below.refl _ _).alloc (Nat.le_refl _) _, fun k hk => by rcases hk with rfl | hk; exact Nat.le_refl _; exact hk.elim⟩
  have HM := Lib.hid hm
  rw [hm, Int.toNat_natCast]
  clear hm hm2
  go_enter Tryz.func5, Tryz.ntmps5
  go_wp2
  rw [HM.out]
  go_ret
  exact HR.out
/-- What Get leaves. -/
def GotP (w : World) (r : Nat) (S T : Nat → Prop) (mst N : Nat) (A : List AE) (t : TL) (e : Ending) (w' : World) : Prop :=
  (atA A t = A.length ∧ e = .returned (.tuple #[.slice none 0 0, .bool false]) ∧ Below w.heap.size w w') ∨
  ∃ a ao c, A[atA A t]? = some a ∧ a.1 = t ∧ e = .returned (.tuple #[.slice ao a.2.length c, .bool true]) ∧ a.2.length ≤ 1000000 ∧ w'.ownsRow w.heap.size 5 1 (.slice ao a.2.length c) a.2.length (byV a.2) ∧ CacheIs w' r S T mst (N + 1) (A.eraseIdx (atA A t) ++ [a]) ∧ Turn S w w'
theorem atM_le (M : List CE) (t : TL) : atM M t ≤ M.length := List.findIdx_le_length
theorem core_find {S T : Nat → Prop} {w : World} {r mst now c : Nat} {M : List CE} {vo : Option Addr} {L : List KE} (h : CoreAt w r S T mst now M vo c L) (t : TL) :
    Calls Tryz.prog 22 #[.pointer (some ⟨r, 0, none⟩), tlV t] w fun e w' => e = .returned (.int .i64 (idxK (fun q => decide (tlOf M q = t)) L)) ∧ Below w.heap.size w w' :=
  kfind_any h.row (tlOf M) (fun q hq => by
    obtain ⟨e, he, rfl⟩ := List.mem_map.1 (h.perm.mem_iff.1 hq)
    rw [tlOf_eq h.rise he]
    exact (h.ents e he).1.1) t
theorem getElem?_map2 {M : List CE} {m : Nat} (hm : m < M.length) : (M.map (·.2))[m]? = some (M[m]).2 := by rw [List.getElem?_map, List.getElem?_eq_getElem hm]; rfl
theorem moved_len {M : List CE} {m : Nat} (hm : m < M.length) (x : AE) : ((M.map (·.2)).eraseIdx m ++ [x]).length = M.length := by
  rw [List.length_append, List.length_eraseIdx_of_lt (by rw [List.length_map]; exact hm), List.length_map]; simp; omega
set_option maxRecDepth 100000 in
set_option maxHeartbeats 1000000 in
theorem kget_any {S T : Nat → Prop} {w : World} {r mst N : Nat} {A : List AE} (h : CacheIs w r S T mst N A) (hN : N < 1000000000) (t : TL) : Calls Tryz.prog 11 #[.pointer (some ⟨r, 0, none⟩), tlV t] w (GotP w r S T mst N A t) := by
  obtain ⟨now, M, vo, c, L, h, hnow, rfl, hlen, hm0⟩ := h
  obtain ⟨w1, hw1⟩ : ∃ W, w.alloc (.cells #[.int .i64 t.1, .int .i64 t.2.1, .int .i64 t.2.2.1, .int .i64 t.2.2.2] 26) = W := ⟨_, rfl⟩
  have hb : Below w.heap.size w w1 := by rw [← hw1]; exact (Below.refl _ _).alloc (Nat.le_refl _) _
  have hsz : w1.heap.size = w.heap.size + 1 := by rw [← hw1]; exact World.size_alloc _ _
  have hx0 : w1.heap[w.heap.size]? = some (.cells #[.int .i64 t.1, .int .i64 t.2.1, .int .i64 t.2.2.1, .int .i64 t.2.2.2] 26 (0, 0)) := by rw [← hw1]; exact heap_new _ _ _ rfl
  have t0 := cell_of_row w1 _ 0 _ _ _ hx0
  have t1 := cell_of_row w1 _ 1 _ _ _ hx0
  have t2 := cell_of_row w1 _ 2 _ _ _ hx0
  have t3 := cell_of_row w1 _ 3 _ _ _ hx0
  have ht : w.heap.size < w1.heap.size := by omega
  have HFI := Lib.hid (core_find (h.below hb) t)
  have HB := Lib.hid hb
  have HW1 := Lib.hid hw1
  have hr := h.row.lt
  by_cases hlt : atM M t < M.length
  · obtain ⟨i, hi, hidx, hk⟩ := idx_found h.rise h.unl h.perm hlt
    rw [hidx] at HFI
    have hent := (h.ents _ (List.getElem_mem hlt)).1
    obtain ⟨u, h4, ao, cu, rfl, hby, hnil, hTb⟩ := hent.2.2.2.2
    have hl4 : (M[atM M t]'hlt).2.2.length ≤ 1000000 := hent.2.2.2.1
    have HCL : Hid (∀ W, Below w.heap.size w W → Calls Tryz.prog 23 #[.slice ao (M[atM M t]'hlt).2.2.length cu] W fun e w' => ∃ v, e = .returned v ∧ w'.ownsRow W.heap.size 5 1 v (M[atM M t]'hlt).2.2.length (byV (M[atM M t]'hlt).2.2) ∧ Below W.heap.size W w') := fun W hW => bclone_any (hby.below hW) rfl hnil hl4
    have HUS : Hid (∀ W, Below w.heap.size w W → Calls Tryz.prog 24 #[.pointer (some ⟨r, 0, none⟩), .int .i64 i] W fun e w' => e = .returned (.tuple #[]) ∧ CacheIs w' r S T mst (N + 1) ((M.map (·.2)).eraseIdx (atM M t) ++ [(M[atM M t]'hlt).2]) ∧ Turn S W w') := fun W hW =>
      (kuse_any (h.below hW) (by omega) hi hlt hk).mono fun e w' ⟨he, L', h1, h2⟩ => ⟨he, ⟨now + 1, _, vo, c, L', h1, by omega, by rw [List.map_append, map_erase]; rfl, (by rw [moved_len hlt]; rw [List.length_map] at hlen; exact hlen), hm0⟩, h2⟩
    obtain ⟨g, rfl, hg, hgr, hf, hc⟩ := h.row.cells (by omega)
    have HC : Hid (∀ W, Below w.heap.size w W → W.cell? ⟨r, 2, none⟩ = some (.slice (some ⟨g, 0, none⟩) L.length c) ∧ W.cell? ⟨g, i, none⟩ = some (.pointer (some ⟨(kG L i).1, 0, none⟩)) ∧ W.cell? ⟨(kG L i).1, 4, none⟩ = some (.slice ao (M[atM M t]'hlt).2.2.length cu)) := fun W hW => by
      refine ⟨(hW.cell (p := ⟨r, 2, none⟩) hr).trans h.row.1, (hW.cell (p := ⟨g, i, none⟩) hg).trans (hc i hi), ?_⟩
      rw [hk]
      exact (hW.cell (p := ⟨_, 4, none⟩) hent.1.lt).trans h4
    have hblt : (kG L i).1 < w.heap.size := by rw [hk]; exact hent.1.lt
    have HFIN : Hid (∀ ao' c' w3 w4, w3.ownsRow w.heap.size 5 1 (.slice ao' (M[atM M t]'hlt).2.2.length c') (M[atM M t]'hlt).2.2.length (byV (M[atM M t]'hlt).2.2) → Below w.heap.size w w3 → CacheIs w4 r S T mst (N + 1) ((M.map (·.2)).eraseIdx (atM M t) ++ [(M[atM M t]'hlt).2]) → Turn S w3 w4 →
        GotP w r S T mst N (M.map (·.2)) t (.returned (.tuple #[.slice ao' (M[atM M t]'hlt).2.2.length c', .bool true])) w4) := fun ao' c' w3 w4 h1 h2 h3 h5 => by
      refine .inr ⟨(M[atM M t]'hlt).2, ao', c', by rw [← atM_map]; exact getElem?_map2 hlt, atM_tile hlt, rfl, hl4, ?_, by rw [← atM_map]; exact h3, (Turn.of_below h2).trans h5 fun _ _ h => h⟩
      refine own_turn h1 h5 fun g o s e hs => ?_
      have := (own_lt h1 g o s e).1
      have := h.ltS g hs
      omega
    obtain ⟨b, hbb⟩ : ∃ b, (kG L i).1 = b := ⟨_, rfl⟩
    obtain ⟨Q, hQ⟩ : ∃ Q, GotP w r S T mst N (M.map (·.2)) t = Q := ⟨_, rfl⟩
    obtain ⟨a, ha⟩ : ∃ a, (M[atM M t]'hlt).2 = a := ⟨_, rfl⟩
    rw [hQ] at HFIN
    rw [ha] at HFIN HUS HCL HC
    rw [hbb] at HC hblt
    rw [hQ]
    obtain ⟨n, hn⟩ : ∃ n, a.2.length = n := ⟨_, rfl⟩
    rw [hn] at HFIN HCL HC
    obtain ⟨nl, hnl⟩ : ∃ nl, L.length = nl := ⟨_, rfl⟩
    rw [hnl] at HC hi
    have hi0 : ¬ (i : Int) < 0 := by omega
    clear h hent h4 hby hnil hTb hf hc hbb hQ ha hn hnl hb hw1 hx0 hk hidx
    unfold tlV at *
    go_enter Tryz.func11, Tryz.ntmps11
    go_wp2_with (rw [HW1.out])
    go_wp2_with fail
    refine HFI.out.mono ?_
    rintro e w2 ⟨rfl, hb2⟩
    have HB2 : Hid (Below w.heap.size w w2) := HB.out.trans (hb2.mono HB.out.size)
    clear hb2
    obtain ⟨d1, d2, d3⟩ := HC.out w2 HB2.out
    have hr2 : r < w2.heap.size := Nat.lt_of_lt_of_le hr HB2.out.size
    have hg2 : g < w2.heap.size := Nat.lt_of_lt_of_le hg HB2.out.size
    have hb2 : b < w2.heap.size := Nat.lt_of_lt_of_le hblt HB2.out.size
    go_wp2_with fail
    refine (HCL.out w2 HB2.out).mono ?_
    rintro e w3 ⟨v, rfl, ho, hb3⟩
    obtain ⟨ao', c', rfl, _⟩ := own_form ho
    have HB3 : Hid (Below w.heap.size w w3) := HB2.out.trans (hb3.mono HB2.out.size)
    have HO : Hid (w3.ownsRow w.heap.size 5 1 (.slice ao' n c') n (byV a.2)) := own_base ho HB2.out.size
    clear ho hb3
    go_wp2_with fail
    refine (HUS.out w3 HB3.out).mono ?_
    rintro e w4 ⟨rfl, hca, htu⟩
    have HQ : Hid (Q (.returned (.tuple #[.slice ao' n c', .bool true])) w4) := HFIN.out ao' c' w3 w4 HO.out HB3.out hca htu
    clear hca htu
    go_wp2
    first | go_ret2 | skip
    exact HQ.out
  · have hlt : atM M t = M.length := by have := atM_le M t; omega
    rw [idx_none h.rise h.perm hlt] at HFI
    have HFIN : Hid (∀ w2, Below w.heap.size w w2 → GotP w r S T mst N (M.map (·.2)) t (.returned (.tuple #[.slice none 0 0, .bool false])) w2) := fun w2 h2 => .inl ⟨by rw [← atM_map, hlt, List.length_map], rfl, h2⟩
    obtain ⟨Q, hQ⟩ : ∃ Q, GotP w r S T mst N (M.map (·.2)) t = Q := ⟨_, rfl⟩
    rw [hQ] at HFIN
    rw [hQ]
    clear h hlt hb hw1 hx0 hQ
    unfold tlV at *
    go_enter Tryz.func11, Tryz.ntmps11
    go_wp2_with (rw [HW1.out])
    go_wp2_with fail
    refine HFI.out.mono ?_
    rintro e w2 ⟨rfl, hb2⟩
    have HB2 : Hid (Below w.heap.size w w2) := HB.out.trans (hb2.mono HB.out.size)
    have HQ : Hid (Q (.returned (.tuple #[.slice none 0 0, .bool false])) w2) := HFIN.out w2 HB2.out
    clear hb2
    go_wp2
    first | go_ret2 | skip
    exact HQ.out
end Go.Proofs.YtjimcjhgjfhbiaaGreat
/- Contracts of the numbers of 128 bits (apiaryref1.Wide): sum, turned about, a product (Wide.tpl without Below and Less). -/
namespace Go.Proofs.YtjimcjhgjfhbiaaGreat
open Go.RowKit

theorem add64_run (x y c : Nat) (hc : c ≤ 1) (w : World) :
    (callFunc 100 #[.int .u64 x, .int .u64 y, .int .u64 c]).run Tryz.prog w =
      .ok (.value (.tuple #[.int .u64 (((x + y + c) % 18446744073709551616 : Nat) : Int), .int .u64 (((x + y + c) / 18446744073709551616 : Nat) : Int)])) w := by
  rw [run_callFunc_extern Tryz.func100 (by kernel_rfl) (by kernel_rfl) (by kernel_rfl) (e := add64Entry) (by kernel_rfl), run_add64 x y c (by omega) (by omega) (by omega) (by omega)]
  simp only [Result.andThen]
  congr 5 <;> omega

def pL (al bl : Nat) : Nat := (al + bl) % 18446744073709551616
def pH (ah al bh bl : Nat) : Nat := (ah + bh + (al + bl) / 18446744073709551616) % 18446744073709551616
set_option maxHeartbeats 400000 in
theorem plus_any (ah al bh bl : Nat) (h1 : al < 18446744073709551616) (h2 : bl < 18446744073709551616) (w : World) :
    Calls Tryz.prog 72 #[.agg #[.int .u64 ah, .int .u64 al], .agg #[.int .u64 bh, .int .u64 bl]] w fun e w' => e = .returned (.agg #[.int .u64 (pH ah al bh bl), .int .u64 (pL al bl)]) ∧ Below w.heap.size w w' := by
  obtain ⟨c, hc⟩ : ∃ c, (al + bl + 0) / 18446744073709551616 = c := ⟨_, rfl⟩
  obtain ⟨l, hl⟩ : ∃ c, (al + bl + 0) % 18446744073709551616 = c := ⟨_, rfl⟩
  obtain ⟨h, hh⟩ : ∃ h, (ah + bh + c) % 18446744073709551616 = h := ⟨_, rfl⟩
  obtain ⟨k, hk⟩ : ∃ h, (ah + bh + c) / 18446744073709551616 = h := ⟨_, rfl⟩
  have A1 : ∀ w, (callFunc 100 #[.int .u64 al, .int .u64 bl, .int .u64 0]).run Tryz.prog w = .ok (.value (.tuple #[.int .u64 (l : Nat), .int .u64 (c : Nat)])) w := fun w => by
    have := add64_run al bl 0 (by omega) w
    rw [hc, hl] at this
    exact this
  have A2 : ∀ w, (callFunc 100 #[.int .u64 ah, .int .u64 bh, .int .u64 c]).run Tryz.prog w = .ok (.value (.tuple #[.int .u64 (h : Nat), .int .u64 (k : Nat)])) w := fun w => by
    have := add64_run ah bh c (by omega) w
    rw [hh, hk] at this
    exact this
  have HC : Hid (pH ah al bh bl = h) := by show _ = _; unfold pH; rw [← hh, ← hc]; rfl
  have HL : Hid (pL al bl = l) := by show _ = _; unfold pL; rw [← hl]; rfl
  clear hc hl hh hk h1 h2
  go_enter Tryz.func72, Tryz.ntmps72
  go_wp2
  exact bodyPost_ret (v := .agg #[.int .u64 h, .int .u64 l]) (by simp [results, Tryz.results72, go_sem]) rfl ⟨by rw [HC.out, HL.out], (((Below.refl _ _).alloc (Nat.le_refl _) _).alloc (by simp) _).alloc (by simp; omega) _⟩


/-- Two halves tell a number, up to 2^128. -/
structure Rep (h l : Nat) (A : Int) : Prop where
  hh : h < 18446744073709551616
  hl : l < 18446744073709551616
  val : ((h : Int) * 18446744073709551616 + (l : Int) - A) % 340282366920938463463374607431768211456 = 0
theorem Rep.plus {ah al bh bl : Nat} {A B : Int} (h1 : Rep ah al A) (h2 : Rep bh bl B) : Rep (pH ah al bh bl) (pL al bl) (A + B) := by
  obtain ⟨a1, a2, a3⟩ := h1
  obtain ⟨b1, b2, b3⟩ := h2
  unfold pH pL
  exact ⟨by omega, by omega, by omega⟩
theorem plus_rep {ah al bh bl : Nat} {A B : Int} (h1 : Rep ah al A) (h2 : Rep bh bl B) (w : World) :
    Calls Tryz.prog 72 #[.agg #[.int .u64 ah, .int .u64 al], .agg #[.int .u64 bh, .int .u64 bl]] w fun e w' => ∃ h l : Nat, e = .returned (.agg #[.int .u64 h, .int .u64 l]) ∧ Rep h l (A + B) ∧ Below w.heap.size w w' :=
  (plus_any ah al bh bl h1.hl h2.hl w).mono fun _ _ ⟨he, hb⟩ => ⟨_, _, he, h1.plus h2, hb⟩
theorem not_u64 (x : Nat) (hx : x < 18446744073709551616) : bits .xor .u64 IntKind.u64.max (x : Int) = ((18446744073709551615 - x : Nat) : Int) := by
  unfold bits
  simp only []
  show IntKind.u64.wrap ((BitVec.ofInt 64 IntKind.u64.max ^^^ BitVec.ofInt 64 (x : Int)).toNat : Int) = _
  have e1 : BitVec.ofInt 64 IntKind.u64.max = BitVec.allOnes 64 := by decide
  have e2 : BitVec.allOnes 64 ^^^ BitVec.ofInt 64 (x : Int) = ~~~ BitVec.ofInt 64 (x : Int) := by
    rw [BitVec.xor_comm, BitVec.xor_allOnes]
  rw [e1, e2, BitVec.toNat_not, BitVec.ofInt_natCast, BitVec.toNat_ofNat, Nat.mod_eq_of_lt (by simpa using hx), IntKind.wrap_u64]
  omega
theorem Rep.turned {h l : Nat} {A : Int} (h1 : Rep h l A) : Rep (pH (18446744073709551615 - h) (18446744073709551615 - l) 0 1) (pL (18446744073709551615 - l) 1) (-A) := by
  obtain ⟨a1, a2, a3⟩ := h1
  unfold pH pL
  exact ⟨by omega, by omega, by omega⟩
set_option maxHeartbeats 400000 in
theorem turned_rep {h l : Nat} {A : Int} (hr : Rep h l A) (w : World) :
    Calls Tryz.prog 73 #[.agg #[.int .u64 h, .int .u64 l]] w fun e w' => ∃ h' l' : Nat, e = .returned (.agg #[.int .u64 h', .int .u64 l']) ∧ Rep h' l' (-A) ∧ Below w.heap.size w w' := by
  have HT := Lib.hid hr.turned
  have P1 := plus_any (18446744073709551615 - h) (18446744073709551615 - l) 0 1 (by omega) (by omega)
  have e1 := not_u64 h hr.hh
  have e2 := not_u64 l hr.hl
  obtain ⟨ch, hch⟩ : ∃ c, 18446744073709551615 - h = c := ⟨_, rfl⟩
  obtain ⟨cl, hcl⟩ : ∃ c, 18446744073709551615 - l = c := ⟨_, rfl⟩
  rw [hch] at e1 P1 HT
  rw [hcl] at e2 P1 HT
  obtain ⟨h', hh'⟩ : ∃ c, pH ch cl 0 1 = c := ⟨_, rfl⟩
  obtain ⟨l', hl'⟩ : ∃ c, pL cl 1 = c := ⟨_, rfl⟩
  rw [hh', hl'] at P1 HT
  have HP := Lib.hid P1
  clear hch hcl hr P1 hh' hl'
  go_enter Tryz.func73, Tryz.ntmps73
  go_wp2_with fail
  refine (HP.out _).mono ?_
  rintro e w1 ⟨rfl, hb1⟩
  have hz : w.heap.size + 1 < w1.heap.size := by have := hb1.size; simp at this; omega
  have c0 : w1.frozen? ⟨w.heap.size + 1, 0, none⟩ = false := by rw [hb1.frozen (p := ⟨w.heap.size + 1, 0, none⟩) (by simp)]; exact frozen_of_row _ _ _ _ _ (heap_new _ _ _ (by simp))
  have c1 : w1.frozen? ⟨w.heap.size + 1, 1, none⟩ = false := by rw [hb1.frozen (p := ⟨w.heap.size + 1, 1, none⟩) (by simp)]; exact frozen_of_row _ _ _ _ _ (heap_new _ _ _ (by simp))
  have d0 : w1.cell? ⟨w.heap.size + 1, 0, none⟩ = some (.int .u64 0) := by rw [hb1.cell (p := ⟨w.heap.size + 1, 0, none⟩) (by simp), cell_of_row _ _ _ _ _ _ (heap_new _ _ _ (by simp))]; rfl
  have d1 : w1.cell? ⟨w.heap.size + 1, 1, none⟩ = some (.int .u64 0) := by rw [hb1.cell (p := ⟨w.heap.size + 1, 1, none⟩) (by simp), cell_of_row _ _ _ _ _ _ (heap_new _ _ _ (by simp))]; rfl
  have hb2 : Hid (Below w.heap.size w w1) := ((((Below.refl _ _).alloc (Nat.le_refl _) _).alloc (by simp) _).trans (hb1.mono (by simp; omega)))
  clear hb1
  go_wp2
  exact bodyPost_ret (v := .agg #[.int .u64 h', .int .u64 l']) (by simp [results, Tryz.results73, go_sem, *]) rfl ⟨_, _, rfl, HT.out, (hb2.out.setCell (p := ⟨w.heap.size + 1, 0, none⟩) (by simp) _).setCell (p := ⟨w.heap.size + 1, 1, none⟩) (by simp) _⟩

set_option maxHeartbeats 1000000 in
/-- Both halves of a product: the library's own text, walked. -/
theorem mul64_any (x y : Nat) (hx : x < 18446744073709551616) (hy : y < 18446744073709551616) (w : World) :
    Calls Tryz.prog 99 #[.int .u64 x, .int .u64 y] w fun e w' => e = .returned (.tuple #[.int .u64 ((x * y / 18446744073709551616 : Nat) : Int), .int .u64 ((x * y % 18446744073709551616 : Nat) : Int)]) ∧ w = w' := by
  obtain ⟨bd, bt, bw, hhi⟩ := Lib.mul64_hi x y hx hy
  have ba := Lib.half_mul_le (a := x / 4294967296) (b := y / 4294967296) (by omega) (by omega)
  have bb := Lib.half_mul_le (a := x / 4294967296) (b := y % 4294967296) (by omega) (by omega)
  have bc := Lib.half_mul_le (a := x % 4294967296) (b := y / 4294967296) (by omega) (by omega)
  have ba' : x / 4294967296 * (y / 4294967296) < 18446744073709551616 := by omega
  have bb' : x / 4294967296 * (y % 4294967296) < 18446744073709551616 := by omega
  have bc' : x % 4294967296 * (y / 4294967296) < 18446744073709551616 := by omega
  have bh1 : x / 4294967296 * (y / 4294967296) + (x / 4294967296 * (y % 4294967296) + x % 4294967296 * (y % 4294967296) / 4294967296) / 4294967296 < 18446744073709551616 := by omega
  have bh : x / 4294967296 * (y / 4294967296) + (x / 4294967296 * (y % 4294967296) + x % 4294967296 * (y % 4294967296) / 4294967296) / 4294967296 + ((x / 4294967296 * (y % 4294967296) + x % 4294967296 * (y % 4294967296) / 4294967296) % 4294967296 + x % 4294967296 * (y / 4294967296)) / 4294967296 < 18446744073709551616 := by omega
  go_enter Tryz.func99, Tryz.ntmps99
  go_wp2
  simp only [Mul64.maskN x hx, Mul64.maskN y hy, Mul64.divN, Mul64.mulN, Mul64.addN, Mul64.wrapN _ bd, Mul64.wrapN _ bb', Mul64.wrapN _ bt, Mul64.maskN _ bt, Mul64.wrapN _ bc', Mul64.wrapN _ bw, Mul64.wrapN _ ba', Mul64.wrapN _ bh1, Mul64.wrapN _ bh, Mul64.wrapM (x * y)]
  rw [hhi]
  go_ret2
  exact ⟨rfl, rfl⟩

theorem rep_prod {x y : Nat} {A : Int} (_hx : x ≤ 9223372036854775808) (_hy : y ≤ 9223372036854775808) (hA : ((x * y : Nat) : Int) = A) (hb : x * y < 340282366920938463463374607431768211456) : Rep (x * y / 18446744073709551616) (x * y % 18446744073709551616) A := by
  subst hA
  generalize x * y = n at *
  exact ⟨by omega, by omega, by omega⟩

set_option maxHeartbeats 1000000 in
theorem times_rep (a b : Int) (ha : -9223372036854775808 ≤ a ∧ a ≤ 9223372036854775807) (hb : -9223372036854775808 ≤ b ∧ b ≤ 9223372036854775807) (w : World) :
    Calls Tryz.prog 70 #[.int .i64 a, .int .i64 b] w fun e w' => ∃ h l : Nat, e = .returned (.agg #[.int .u64 h, .int .u64 l]) ∧ Rep h l (a * b) ∧ Below w.heap.size w w' := by
  obtain ⟨x, hx⟩ : ∃ x, a.natAbs = x := ⟨_, rfl⟩
  obtain ⟨y, hy⟩ : ∃ x, b.natAbs = x := ⟨_, rfl⟩
  have hx1 : x ≤ 9223372036854775808 := by omega
  have hy1 : y ≤ 9223372036854775808 := by omega
  have hxy : x * y < 340282366920938463463374607431768211456 := Nat.lt_of_le_of_lt (Nat.mul_le_mul hx1 hy1) (by decide)
  have HM : Hid (∀ w : World, _) := fun w => mul64_any x y (by omega) (by omega) w
  have ea : IntKind.u64.wrap a = if a < 0 then ((18446744073709551616 - x : Nat) : Int) else (x : Int) := by rw [IntKind.wrap_u64]; split <;> omega
  have eb : IntKind.u64.wrap b = if b < 0 then ((18446744073709551616 - y : Nat) : Int) else (y : Int) := by rw [IntKind.wrap_u64]; split <;> omega
  have en : ∀ z : Nat, z ≤ 9223372036854775808 → 0 < z → IntKind.u64.wrap (-((18446744073709551616 - z : Nat) : Int)) = (z : Int) := fun z h1 h2 => by rw [IntKind.wrap_u64]; omega
  by_cases h1 : a < 0 <;> by_cases h2 : b < 0
  · have HR : Hid (Rep (x * y / 18446744073709551616) (x * y % 18446744073709551616) (a * b)) := rep_prod hx1 hy1 (by rw [Int.natCast_mul, show (x : Int) = -a by omega, show (y : Int) = -b by omega, Int.neg_mul_neg]) hxy
    rw [if_pos h1] at ea
    rw [if_pos h2] at eb
    have na := en x hx1 (by omega)
    obtain ⟨ca, hca⟩ : ∃ c, 18446744073709551616 - x = c := ⟨_, rfl⟩
    rw [hca] at ea na
    clear hca
    have nb := en y hy1 (by omega)
    obtain ⟨cb, hcb⟩ : ∃ c, 18446744073709551616 - y = c := ⟨_, rfl⟩
    rw [hcb] at eb nb
    clear hcb
    generalize x * y / 18446744073709551616 = H at HM HR
    generalize x * y % 18446744073709551616 = L at HM HR
    clear en hx hy ha hb hx1 hy1 hxy
    go_enter Tryz.func70, Tryz.ntmps70
    go_wp2_with (go_at_call 99; refine (HM.out _).mono ?_; rintro e w' ⟨rfl, rfl⟩)
    exact bodyPost_ret (v := .agg #[.int .u64 H, .int .u64 L]) (by simp [results, Tryz.results70, go_sem]) rfl ⟨_, _, rfl, HR.out, (Below.refl _ _).alloc (Nat.le_refl _) _⟩
  · have HR : Hid (Rep (x * y / 18446744073709551616) (x * y % 18446744073709551616) (-(a * b))) := rep_prod hx1 hy1 (by rw [Int.natCast_mul, show (x : Int) = -a by omega, show (y : Int) = b by omega, Int.neg_mul]) hxy
    rw [if_pos h1] at ea
    rw [if_neg h2] at eb
    have qb : decide (b < 0) = false := by simpa using h2
    have na := en x hx1 (by omega)
    obtain ⟨ca, hca⟩ : ∃ c, 18446744073709551616 - x = c := ⟨_, rfl⟩
    rw [hca] at ea na
    clear hca
    generalize x * y / 18446744073709551616 = H at HM HR
    generalize x * y % 18446744073709551616 = L at HM HR
    clear en hx hy ha hb hx1 hy1 hxy
    have HT : Hid (∀ w : World, _) := fun w => turned_rep HR.out w
    go_enter Tryz.func70, Tryz.ntmps70
    go_wp2_with (go_at_call 99; refine (HM.out _).mono ?_; rintro e w' ⟨rfl, rfl⟩)
    refine (HT.out _).mono ?_
    rintro e w1 ⟨h', l', rfl, hr1, hb1⟩
    rw [Int.neg_neg] at hr1
    have HR1 := Lib.hid hr1
    have hz : w.heap.size < w1.heap.size := by have := hb1.size; simp at this; omega
    have c0 : w1.frozen? ⟨w.heap.size, 0, none⟩ = false := by rw [hb1.frozen (p := ⟨w.heap.size, 0, none⟩) (by simp)]; exact frozen_of_row _ _ _ _ _ (heap_new _ _ _ (by simp))
    have c1 : w1.frozen? ⟨w.heap.size, 1, none⟩ = false := by rw [hb1.frozen (p := ⟨w.heap.size, 1, none⟩) (by simp)]; exact frozen_of_row _ _ _ _ _ (heap_new _ _ _ (by simp))
    have d0 : w1.cell? ⟨w.heap.size, 0, none⟩ = some (.int .u64 0) := by rw [hb1.cell (p := ⟨w.heap.size, 0, none⟩) (by simp), cell_of_row _ _ _ _ _ _ (heap_new _ _ _ (by simp))]; rfl
    have d1 : w1.cell? ⟨w.heap.size, 1, none⟩ = some (.int .u64 0) := by rw [hb1.cell (p := ⟨w.heap.size, 1, none⟩) (by simp), cell_of_row _ _ _ _ _ _ (heap_new _ _ _ (by simp))]; rfl
    have hb2 : Hid (Below w.heap.size w w1) := (((Below.refl _ _).alloc (Nat.le_refl _) _).trans (hb1.mono (by simp)))
    clear hb1 hr1
    go_wp2
    exact bodyPost_ret (v := .agg #[.int .u64 h', .int .u64 l']) (by simp [results, Tryz.results70, go_sem, *]) rfl ⟨_, _, rfl, HR1.out, (hb2.out.setCell (p := ⟨w.heap.size, 0, none⟩) (by simp) _).setCell (p := ⟨w.heap.size, 1, none⟩) (by simp) _⟩
  · have HR : Hid (Rep (x * y / 18446744073709551616) (x * y % 18446744073709551616) (-(a * b))) := rep_prod hx1 hy1 (by rw [Int.natCast_mul, show (x : Int) = a by omega, show (y : Int) = -b by omega, Int.mul_neg]) hxy
    rw [if_neg h1] at ea
    have qa : decide (a < 0) = false := by simpa using h1
    rw [if_pos h2] at eb
    have nb := en y hy1 (by omega)
    obtain ⟨cb, hcb⟩ : ∃ c, 18446744073709551616 - y = c := ⟨_, rfl⟩
    rw [hcb] at eb nb
    clear hcb
    generalize x * y / 18446744073709551616 = H at HM HR
    generalize x * y % 18446744073709551616 = L at HM HR
    clear en hx hy ha hb hx1 hy1 hxy
    have HT : Hid (∀ w : World, _) := fun w => turned_rep HR.out w
    go_enter Tryz.func70, Tryz.ntmps70
    go_wp2_with (go_at_call 99; refine (HM.out _).mono ?_; rintro e w' ⟨rfl, rfl⟩)
    refine (HT.out _).mono ?_
    rintro e w1 ⟨h', l', rfl, hr1, hb1⟩
    rw [Int.neg_neg] at hr1
    have HR1 := Lib.hid hr1
    have hz : w.heap.size < w1.heap.size := by have := hb1.size; simp at this; omega
    have c0 : w1.frozen? ⟨w.heap.size, 0, none⟩ = false := by rw [hb1.frozen (p := ⟨w.heap.size, 0, none⟩) (by simp)]; exact frozen_of_row _ _ _ _ _ (heap_new _ _ _ (by simp))
    have c1 : w1.frozen? ⟨w.heap.size, 1, none⟩ = false := by rw [hb1.frozen (p := ⟨w.heap.size, 1, none⟩) (by simp)]; exact frozen_of_row _ _ _ _ _ (heap_new _ _ _ (by simp))
    have d0 : w1.cell? ⟨w.heap.size, 0, none⟩ = some (.int .u64 0) := by rw [hb1.cell (p := ⟨w.heap.size, 0, none⟩) (by simp), cell_of_row _ _ _ _ _ _ (heap_new _ _ _ (by simp))]; rfl
    have d1 : w1.cell? ⟨w.heap.size, 1, none⟩ = some (.int .u64 0) := by rw [hb1.cell (p := ⟨w.heap.size, 1, none⟩) (by simp), cell_of_row _ _ _ _ _ _ (heap_new _ _ _ (by simp))]; rfl
    have hb2 : Hid (Below w.heap.size w w1) := (((Below.refl _ _).alloc (Nat.le_refl _) _).trans (hb1.mono (by simp)))
    clear hb1 hr1
    go_wp2
    exact bodyPost_ret (v := .agg #[.int .u64 h', .int .u64 l']) (by simp [results, Tryz.results70, go_sem, *]) rfl ⟨_, _, rfl, HR1.out, (hb2.out.setCell (p := ⟨w.heap.size, 0, none⟩) (by simp) _).setCell (p := ⟨w.heap.size, 1, none⟩) (by simp) _⟩
  · have HR : Hid (Rep (x * y / 18446744073709551616) (x * y % 18446744073709551616) (a * b)) := rep_prod hx1 hy1 (by rw [Int.natCast_mul, show (x : Int) = a by omega, show (y : Int) = b by omega]) hxy
    rw [if_neg h1] at ea
    have qa : decide (a < 0) = false := by simpa using h1
    rw [if_neg h2] at eb
    have qb : decide (b < 0) = false := by simpa using h2
    generalize x * y / 18446744073709551616 = H at HM HR
    generalize x * y % 18446744073709551616 = L at HM HR
    clear en hx hy ha hb hx1 hy1 hxy
    go_enter Tryz.func70, Tryz.ntmps70
    go_wp2_with (go_at_call 99; refine (HM.out _).mono ?_; rintro e w' ⟨rfl, rfl⟩)
    exact bodyPost_ret (v := .agg #[.int .u64 H, .int .u64 L]) (by simp [results, Tryz.results70, go_sem]) rfl ⟨_, _, rfl, HR.out, (Below.refl _ _).alloc (Nat.le_refl _) _⟩

theorem prod_bound {a b : Int} (ha : -9223372036854775808 ≤ a ∧ a ≤ 9223372036854775807) (hb : -9223372036854775808 ≤ b ∧ b ≤ 9223372036854775807) :
    -85070591730234615856620279821087277056 ≤ a * b ∧ a * b ≤ 85070591730234615865843651857942052864 := by
  have up : ∀ x y : Nat, x ≤ 9223372036854775808 → y ≤ 9223372036854775808 → x * y ≤ 85070591730234615865843651857942052864 := fun x y h1 h2 => Nat.le_trans (Nat.mul_le_mul h1 h2) (by decide)
  have lo : ∀ x y : Nat, x ≤ 9223372036854775808 → y ≤ 9223372036854775807 → x * y ≤ 85070591730234615856620279821087277056 := fun x y h1 h2 => Nat.le_trans (Nat.mul_le_mul h1 h2) (by decide)
  by_cases h1 : a < 0 <;> by_cases h2 : b < 0
  · have e : a * b = ((a.natAbs * b.natAbs : Nat) : Int) := by rw [Int.natCast_mul, show (a.natAbs : Int) = -a by omega, show (b.natAbs : Int) = -b by omega, Int.neg_mul_neg]
    have := up a.natAbs b.natAbs (by omega) (by omega)
    generalize a.natAbs * b.natAbs = n at *
    omega
  · have e : a * b = -((a.natAbs * b.natAbs : Nat) : Int) := by rw [Int.natCast_mul, show (a.natAbs : Int) = -a by omega, show (b.natAbs : Int) = b by omega, Int.neg_mul, Int.neg_neg]
    have := lo a.natAbs b.natAbs (by omega) (by omega)
    generalize a.natAbs * b.natAbs = n at *
    omega
  · have e : a * b = -((b.natAbs * a.natAbs : Nat) : Int) := by rw [Int.natCast_mul, show (a.natAbs : Int) = a by omega, show (b.natAbs : Int) = -b by omega, Int.neg_mul, Int.neg_neg, Int.mul_comm]
    have := lo b.natAbs a.natAbs (by omega) (by omega)
    generalize b.natAbs * a.natAbs = n at *
    omega
  · have e : a * b = ((a.natAbs * b.natAbs : Nat) : Int) := by rw [Int.natCast_mul, show (a.natAbs : Int) = a by omega, show (b.natAbs : Int) = b by omega]
    have := up a.natAbs b.natAbs (by omega) (by omega)
    generalize a.natAbs * b.natAbs = n at *
    omega
/-- A new block of two numbers, a call behind it. -/
theorem pair_kept {w w' : World} {x y : Value} {t : TypeId} (hb : Below (w.alloc (.cells #[x, y] t)).heap.size (w.alloc (.cells #[x, y] t)) w') :
    w'.cell? ⟨w.heap.size, 0, none⟩ = some x ∧ w'.cell? ⟨w.heap.size, 1, none⟩ = some y ∧ w.heap.size < w'.heap.size := by
  have hz := hb.size
  exact ⟨cell_kept hb 0 _ rfl, cell_kept hb 1 _ rfl, by simp at hz; omega⟩
end Go.Proofs.YtjimcjhgjfhbiaaGreat
/- Plain laws: numbers of the lattice, the nearest to a fraction, parents and what is left. -/
namespace Go.Proofs.YtjimcjhgjfhbiaaGreat
abbrev E2 := Int × Int
end Go.Proofs.YtjimcjhgjfhbiaaGreat
namespace Go.Proofs.YtjimcjhgjfhbiaaGreat.Wd
def mulE (x y : E2) : E2 := (x.1 * y.1 - x.2 * y.2, x.1 * y.2 + x.2 * y.1 + x.2 * y.2)
def addE (x y : E2) : E2 := (x.1 + y.1, x.2 + y.2)
def subE (x y : E2) : E2 := (x.1 - y.1, x.2 - y.2)
/-- The six that are nearest to nought. -/
def unitE : Nat → E2
  | 0 => (1, 0)
  | 1 => (0, 1)
  | 2 => (-1, 1)
  | 3 => (-1, 0)
  | 4 => (0, -1)
  | _ => (1, -1)
/-- What is left, by its number: nought, or a unit. -/
def leftE : Nat → E2
  | 0 => (0, 0)
  | k + 1 => unitE k
/-- Which corner of a cell of the lattice is nearest to (s, t), of [0, d): the first of those. -/
def cornerE (s t d : Int) : E2 :=
  if 2 * s + t ≤ d ∧ s + 2 * t ≤ d then (0, 0)
  else if s + 2 * t ≥ d ∧ s ≤ t ∧ 2 * s + t ≤ 2 * d then (0, 1)
  else if 2 * s + t ≥ d ∧ s + 2 * t ≤ 2 * d ∧ t ≤ s then (1, 0)
  else (1, 1)
/-- The nearest to a fraction. -/
def roundE (u : E2) (d : Int) : E2 := addE (u.1 / d, u.2 / d) (cornerE (u.1 % d) (u.2 % d) d)
/-- As the program finds it: the first of the least. -/
def bestE (s t d : Int) : E2 :=
  let f1 := d - (s + 2 * t)
  let f2 := d - (2 * s + t)
  let f3 := 3 * d - (2 * s + t) - (s + 2 * t)
  let b1 : Int × E2 := if f1 < 0 then (f1, (0, 1)) else (0, (0, 0))
  let b2 : Int × E2 := if f2 < b1.1 then (f2, (1, 0)) else b1
  let b3 : Int × E2 := if f3 < b2.1 then (f3, (1, 1)) else b2
  b3.2
theorem best_corner {s t d : Int} (_hs : 0 ≤ s) (_hs1 : s < d) (ht : 0 ≤ t) (_ht1 : t < d) : bestE s t d = cornerE s t d := by
  unfold bestE cornerE
  simp only
  by_cases h1 : d - (s + 2 * t) < 0
  · rw [if_pos h1]
    by_cases h2 : d - (2 * s + t) < d - (s + 2 * t)
    · rw [if_pos h2]
      by_cases h3 : 3 * d - (2 * s + t) - (s + 2 * t) < d - (2 * s + t)
      · rw [if_pos h3]
        rw [if_neg (by omega), if_neg (by omega), if_neg (by omega)]
      · rw [if_neg h3]
        rw [if_neg (by omega), if_neg (by omega), if_pos (by omega)]
    · rw [if_neg h2]
      by_cases h3 : 3 * d - (2 * s + t) - (s + 2 * t) < d - (s + 2 * t)
      · rw [if_pos h3]
        rw [if_neg (by omega), if_neg (by omega), if_neg (by omega)]
      · rw [if_neg h3]
        rw [if_neg (by omega), if_pos (by omega)]
  · rw [if_neg h1]
    by_cases h2 : d - (2 * s + t) < 0
    · rw [if_pos h2]
      by_cases h3 : 3 * d - (2 * s + t) - (s + 2 * t) < d - (2 * s + t)
      · rw [if_pos h3]
        rw [if_neg (by omega), if_neg (by omega), if_neg (by omega)]
      · rw [if_neg h3]
        rw [if_neg (by omega), if_neg (by omega), if_pos (by omega)]
    · rw [if_neg h2]
      by_cases h3 : 3 * d - (2 * s + t) - (s + 2 * t) < 0
      · omega
      · rw [if_neg h3]
        rw [if_pos (by omega)]
/-- As the document finds it: the first of those that are as near as any. -/
def nearB (s t d : Int) : Bool := decide (-d ≤ 2 * s + t) && decide (2 * s + t ≤ d) && decide (-d ≤ s + 2 * t) && decide (s + 2 * t ≤ d) && decide (-d ≤ s - t) && decide (s - t ≤ d)
theorem near_first {s t d : Int} (hs : 0 ≤ s) (hs1 : s < d) (ht : 0 ≤ t) (ht1 : t < d) (i k : Int) (hi : -1 ≤ i) (hi2 : i ≤ 2) (hk : -1 ≤ k) (hk2 : k ≤ 2) :
    ((i < (cornerE s t d).1 ∨ (i = (cornerE s t d).1 ∧ k < (cornerE s t d).2)) → nearB (s - i * d) (t - k * d) d = false) ∧ ((i, k) = cornerE s t d → nearB (s - i * d) (t - k * d) d = true) := by
  rcases (show i = -1 ∨ i = 0 ∨ i = 1 ∨ i = 2 by omega) with rfl | rfl | rfl | rfl <;> rcases (show k = -1 ∨ k = 0 ∨ k = 1 ∨ k = 2 by omega) with rfl | rfl | rfl | rfl <;>
    · unfold cornerE nearB
      constructor
      · intro h
        simp only [Bool.and_eq_false_iff, decide_eq_false_iff_not]
        split at h
        · simp only at h; omega
        · split at h
          · simp only at h; omega
          · split at h
            · simp only at h; omega
            · simp only at h; omega
      · intro h
        simp only [Bool.and_eq_true, decide_eq_true_eq]
        split at h
        · simp only [Prod.mk.injEq] at h; omega
        · split at h
          · simp only [Prod.mk.injEq] at h; omega
          · split at h
            · simp only [Prod.mk.injEq] at h; omega
            · simp only [Prod.mk.injEq] at h; omega
/-- Which of its parent's a cell is, and the parent's number. -/
def digE (z : E2) : Nat :=
  if (z.1 + 5 * z.2) % 7 = 0 then 0 else if (z.1 + 5 * z.2) % 7 = 1 then 1 else if (z.1 + 5 * z.2) % 7 = 5 then 2 else if (z.1 + 5 * z.2) % 7 = 4 then 3 else if (z.1 + 5 * z.2) % 7 = 6 then 4 else if (z.1 + 5 * z.2) % 7 = 2 then 5 else 6
def upE (z : E2) : E2 := ((3 * (z.1 - (leftE (digE z)).1) + (z.2 - (leftE (digE z)).2)) / 7, (2 * (z.2 - (leftE (digE z)).2) - (z.1 - (leftE (digE z)).1)) / 7)
/-- The cell within one, by a number. -/
def downE (q : E2) (d : Nat) : E2 := addE (mulE q (2, 1)) (leftE d)
theorem downE_eq (q : E2) (d : Nat) : downE q d = (2 * q.1 - q.2 + (leftE d).1, q.1 + 3 * q.2 + (leftE d).2) := by
  unfold downE addE mulE
  ext <;> simp only <;> omega
theorem left_cases {d : Nat} (h : d < 7) : (d = 0 ∧ leftE d = (0, 0)) ∨ (d = 1 ∧ leftE d = (1, 0)) ∨ (d = 2 ∧ leftE d = (0, 1)) ∨ (d = 3 ∧ leftE d = (-1, 1)) ∨ (d = 4 ∧ leftE d = (-1, 0)) ∨ (d = 5 ∧ leftE d = (0, -1)) ∨ (d = 6 ∧ leftE d = (1, -1)) := by
  rcases (show d = 0 ∨ d = 1 ∨ d = 2 ∨ d = 3 ∨ d = 4 ∨ d = 5 ∨ d = 6 by omega) with rfl | rfl | rfl | rfl | rfl | rfl | rfl <;> simp [leftE, unitE]
theorem digE_lt (z : E2) : digE z < 7 := by
  unfold digE
  repeat (split; · omega)
  omega
theorem digE_down (q : E2) {d : Nat} (h : d < 7) : digE (downE q d) = d := by
  rw [downE_eq]
  unfold digE
  rcases left_cases h with ⟨rfl, e⟩ | ⟨rfl, e⟩ | ⟨rfl, e⟩ | ⟨rfl, e⟩ | ⟨rfl, e⟩ | ⟨rfl, e⟩ | ⟨rfl, e⟩ <;> rw [e] <;> simp only
  · rw [if_pos (by omega)]
  · rw [if_neg (by omega), if_pos (by omega)]
  · rw [if_neg (by omega), if_neg (by omega), if_pos (by omega)]
  · rw [if_neg (by omega), if_neg (by omega), if_neg (by omega), if_pos (by omega)]
  · rw [if_neg (by omega), if_neg (by omega), if_neg (by omega), if_neg (by omega), if_pos (by omega)]
  · rw [if_neg (by omega), if_neg (by omega), if_neg (by omega), if_neg (by omega), if_neg (by omega), if_pos (by omega)]
  · rw [if_neg (by omega), if_neg (by omega), if_neg (by omega), if_neg (by omega), if_neg (by omega), if_neg (by omega)]
theorem upE_down (q : E2) {d : Nat} (h : d < 7) : upE (downE q d) = q := by
  unfold upE
  rw [digE_down q h, downE_eq]
  generalize leftE d = l
  ext <;> simp only <;> omega
theorem down_up (z : E2) : downE (upE z) (digE z) = z := by
  rw [downE_eq]
  unfold upE
  have hl := left_cases (digE_lt z)
  have hd : digE z = if (z.1 + 5 * z.2) % 7 = 0 then 0 else if (z.1 + 5 * z.2) % 7 = 1 then 1 else if (z.1 + 5 * z.2) % 7 = 5 then 2 else if (z.1 + 5 * z.2) % 7 = 4 then 3 else if (z.1 + 5 * z.2) % 7 = 6 then 4 else if (z.1 + 5 * z.2) % 7 = 2 then 5 else 6 := rfl
  generalize digE z = d at *
  obtain ⟨a, b⟩ := z
  simp only at *
  rcases hl with ⟨rfl, e⟩ | ⟨rfl, e⟩ | ⟨rfl, e⟩ | ⟨rfl, e⟩ | ⟨rfl, e⟩ | ⟨rfl, e⟩ | ⟨rfl, e⟩ <;> rw [e] <;> ext <;> simp only <;> split at hd <;> (try omega) <;> split at hd <;> (try omega) <;> split at hd <;> (try omega) <;> split at hd <;> (try omega) <;> split at hd <;> (try omega) <;> split at hd <;> omega
/-- The parent is the nearest to a seventh of z times (3, -1). -/
theorem round_up (z : E2) : roundE (mulE z (3, -1)) 7 = upE z := by
  have h := down_up z
  have hl := left_cases (digE_lt z)
  generalize upE z = q at *
  generalize digE z = d at *
  rw [downE_eq] at h
  subst h
  unfold roundE mulE cornerE addE
  rcases hl with ⟨_, e⟩ | ⟨_, e⟩ | ⟨_, e⟩ | ⟨_, e⟩ | ⟨_, e⟩ | ⟨_, e⟩ | ⟨_, e⟩ <;> rw [e] <;> ext <;> simp only <;> (repeat' split) <;> simp only <;> omega
end Go.Proofs.YtjimcjhgjfhbiaaGreat.Wd
/- The second law for a region that draws its order: each operation is looked at ONCE, from whatever world it may meet; what it leaves must outlast what the others do. -/
namespace Go.Proofs.YtjimcjhgjfhbiaaGreat
open Go

section
variable {P : Program} {ops : Array Oper}

/-- What an operation leaves: a value in its slot. -/
def Leaves (a : Act) (dst : Option Tmp) (S : Value → World → Prop) : Exit → Act → World → Prop
  | .normal, a', w' => ∃ v, a' = a.put dst v ∧ S v w'
  | _, _, _ => False
theorem Leaves.lets {a : Act} {dst : Option Tmp} {S : Value → World → Prop} : ¬ LetsOut (Leaves a dst S) := fun ⟨_, _, h⟩ => h

def stepV (P : Program) (ops : Array Oper) (o : Oper) (S : Value → World → Prop) (a : Act) (w : World) : Prop :=
  if Region.wanted o (yielded ops a.tmps) = true then o.wp P a w (Leaves a o.dst S .normal) (Only fun _ _ => False) else Leaves a o.dst S .normal (a.put o.dst undef) w

theorem wp_leaves {o : Oper} {a b : Act} {dst : Option Tmp} {S : Value → World → Prop} {w : World} {next : Act → World → Prop} (h : o.wp P a w next (Leaves b dst S)) : o.wp P a w next (Only fun _ _ => False) := by
  unfold Oper.wp at *
  generalize (execOp a.eval o).run P w = r at *
  cases r with
  | ok n w' =>
    cases n <;> simp only [Oper.upon] at h ⊢
    case enter f args =>
      refine Calls.mono h fun e w'' he => ?_
      cases e with
      | returned v => exact he
      | panicked c => exact he
      | outgrown => exact (Leaves.lets he).elim
    all_goals exact h
  | halt x w' =>
    cases x <;> simp only [Oper.upon] at h ⊢
    case panic v => exact h

theorem stepV_of_list {o : Oper} {S : Value → World → Prop} {a : Act} {w : World} (h : wpList P ops (Leaves a o.dst S) [o] a w) : stepV P ops o S a w := by
  simp only [wpList] at h
  unfold stepV
  split
  · rename_i hw
    rw [if_pos hw] at h
    rcases h with h | ⟨_, h⟩
    · exact wp_leaves h
    · exact (Leaves.lets h).elim
  · rename_i hw
    rw [if_neg hw] at h
    exact h

theorem put_defers' (a : Act) (dst : Option Tmp) (v : Value) : (a.put dst v).defers = a.defers := by cases dst <;> rfl
theorem put_eq {a c : Act} {dst : Option Tmp} {v u : Value} (h : c.put dst v = c.put dst u) (hs : a.tmps.size = c.tmps.size) : a.put dst v = a.put dst u := by
  cases dst with
  | none => rfl
  | some d =>
    by_cases hd : d < c.tmps.size
    · have h1 := congrArg (fun x : Act => x.tmps[d]?) h
      simp [Act.put, hd] at h1
      rw [h1]
    · have hd' : ¬ d < a.tmps.size := by rw [hs]; exact hd
      simp [Act.put, Array.setIfInBounds, hd']

theorem wanted_same {o : Oper} {a c : Act} (he : ∀ d ∈ o.looksAt ops, a.tmps[d]? = c.tmps[d]?) : Region.wanted o (yielded ops a.tmps) = Region.wanted o (yielded ops c.tmps) := by
  unfold Region.wanted
  cases hg : o.guard with
  | none => rfl
  | some gw =>
    obtain ⟨g, want⟩ := gw
    have hy : yielded ops a.tmps g = yielded ops c.tmps g := by
      unfold yielded
      cases ht : (ops[g]?).bind (·.dst) with
      | none => rfl
      | some t =>
        have := he t (by simp [Oper.looksAt, hg, ht])
        simp [this]
    simp only [hy]
theorem exec_same {o : Oper} {a c : Act} (hs : ∀ cs b, o.op ≠ .select cs b) (he : ∀ d ∈ o.looksAt ops, a.tmps[d]? = c.tmps[d]?) : execOp a.eval o = execOp c.eval o :=
  execOp_congr o hs fun x hx => by
    cases x with
    | tmp t =>
      have := he t (List.mem_append_left _ (List.mem_filterMap.2 ⟨.tmp t, by simpa using hx, rfl⟩))
      simp only [Act.eval, Array.getD_eq_getD_getElem?, this]
    | _ => rfl

theorem stepV_congr {o : Oper} {S : Value → World → Prop} {a c : Act} {w : World} (hs : ∀ cs b, o.op ≠ .select cs b) (hz : a.tmps.size = c.tmps.size) (he : ∀ d ∈ o.looksAt ops, a.tmps[d]? = c.tmps[d]?)
    (h : stepV P ops o S c w) : stepV P ops o S a w := by
  have tr : ∀ v w', Leaves c o.dst S .normal (c.put o.dst v) w' → Leaves a o.dst S .normal (a.put o.dst v) w' := fun v w' ⟨u, e, hu⟩ => ⟨u, put_eq e hz, hu⟩
  unfold stepV at *
  rw [wanted_same he]
  split
  · rename_i hw
    rw [if_pos hw] at h
    unfold Oper.wp at *
    rw [exec_same hs he]
    generalize (execOp c.eval o).run P w = r at *
    cases r with
    | ok n w' =>
      cases n <;> simp only [Oper.upon] at h ⊢
      case value v => exact tr _ _ h
      case skip => exact tr _ _ h
      case defer d =>
        exfalso
        obtain ⟨u, e, _⟩ := h
        have := congrArg (fun x : Act => x.defers.length) e
        simp [put_defers'] at this
      case enter f args =>
        refine Calls.mono h fun e w'' he => ?_
        cases e with
        | returned v => exact tr _ _ he
        | panicked c => exact he
        | outgrown => exact he
      case row row args => exact Rows.mono h fun u w'' he => tr _ _ he
    | halt x w' =>
      cases x <;> simp only [Oper.upon] at h ⊢
      case panic v => exact h
  · rename_i hw
    rw [if_neg hw] at h
    exact tr _ _ h

theorem stepV_wpOp {i : Nat} {o : Oper} (ho : ops[i]? = some o) {S : Value → World → Prop} {a : Act} {w : World} {n K : Act → World → Prop} (hn : ∀ v w', S v w' → n (a.put o.dst v) w') (h : stepV P ops o S a w) : wpOp P ops (Only K) i n a w := by
  unfold Go.wpOp
  simp only [ho]
  unfold stepV at h
  split
  · rename_i hw
    rw [if_pos hw] at h
    exact .inl (only_wp (Oper.wp_mono (fun a' w' ⟨v, e, hs⟩ => by rw [e]; exact hn v w' hs) h))
  · rename_i hw
    rw [if_neg hw] at h
    obtain ⟨v, e, hs⟩ := h
    rw [e]
    exact hn v w hs

/-! ### The acts on the way -/
/-- The act after the operations in D have left their values. -/
def fillD (D : Nat → Bool) (V : Nat → Value) : List Oper → Nat → Act → Act
  | [], _, a => a
  | o :: r, i, a => fillD D V r (i + 1) (if D i then a.put o.dst (V i) else a)

theorem put_size (a : Act) (dst : Option Tmp) (v : Value) : (a.put dst v).tmps.size = a.tmps.size := by cases dst <;> simp [Act.put]
theorem fill_size (D : Nat → Bool) (V : Nat → Value) : ∀ (l : List Oper) (i : Nat) (a : Act), (fillD D V l i a).tmps.size = a.tmps.size
  | [], _, _ => rfl
  | o :: r, i, a => by
    unfold fillD
    rw [fill_size D V r]
    split
    · exact put_size _ _ _
    · rfl
theorem fill_none (D : Nat → Bool) (V : Nat → Value) : ∀ (l : List Oper) (i : Nat) (a : Act), (∀ j, i ≤ j → D j = false) → fillD D V l i a = a
  | [], _, _, _ => rfl
  | o :: r, i, a, h => by
    unfold fillD
    rw [h i (Nat.le_refl _), if_neg (by simp)]
    exact fill_none D V r _ _ fun j hj => h j (by omega)
theorem fill_congr (D D' : Nat → Bool) (V V' : Nat → Value) : ∀ (l : List Oper) (i : Nat) (a : Act), (∀ j, i ≤ j → j < i + l.length → D j = D' j ∧ (D j = true → V j = V' j)) → fillD D V l i a = fillD D' V' l i a
  | [], _, _, _ => rfl
  | o :: r, i, a, h => by
    unfold fillD
    obtain ⟨h1, h2⟩ := h i (Nat.le_refl _) (by simp)
    have e : (if D i = true then a.put o.dst (V i) else a) = if D' i = true then a.put o.dst (V' i) else a := by
      rw [← h1]
      split
      · rename_i hd; rw [h2 hd]
      · rfl
    rw [e]
    exact fill_congr D D' V V' r _ _ fun j hj hl => h j (by omega) (by simp; omega)
/-- Where no operation of D writes, and where both have the same, the acts agree. -/
theorem fill_at (D D' : Nat → Bool) (V : Nat → Value) (s : Nat) : ∀ (l : List Oper) (i : Nat) (a b : Act), a.tmps.size = b.tmps.size → a.tmps[s]? = b.tmps[s]? →
    (∀ j o, l[j]? = some o → o.dst = some s → D (i + j) = D' (i + j)) → (fillD D V l i a).tmps[s]? = (fillD D' V l i b).tmps[s]?
  | [], _, _, _, _, h, _ => h
  | o :: r, i, a, b, hz, h, hd => by
    unfold fillD
    refine fill_at D D' V s r _ _ _ ?_ ?_ fun j o' hj ho => by
      have := hd (j + 1) o' (by simpa using hj) ho
      rw [show i + 1 + j = i + (j + 1) from by omega]; exact this
    · split <;> split <;> simp [put_size, hz]
    · by_cases hs : o.dst = some s
      · have e := hd 0 o rfl hs
        rw [Nat.add_zero] at e
        rw [← e]
        split
        · rw [hs]
          by_cases hlt : s < a.tmps.size
          · have : s < b.tmps.size := by omega
            simp [Act.put, hlt, this]
          · have : ¬ s < b.tmps.size := by omega
            simp [Act.put, Array.setIfInBounds, hlt, this]
        · exact h
      · have keep : ∀ (a : Act) (v : Value), (a.put o.dst v).tmps[s]? = a.tmps[s]? := fun a v => by
          cases ho : o.dst with
          | none => rfl
          | some d =>
            have hne : d ≠ s := fun e => hs (by rw [ho, e])
            simp [Act.put, Array.getElem?_setIfInBounds_ne hne]
        split <;> split <;> simp [keep, h]
theorem fill_put (D : Nat → Bool) (V : Nat → Value) (dst : Option Tmp) (v : Value) : ∀ (l : List Oper) (i : Nat) (a : Act), (∀ o ∈ l, ∀ d, dst = some d → o.dst ≠ some d) →
    (fillD D V l i a).put dst v = fillD D V l i (a.put dst v)
  | [], _, _, _ => rfl
  | o :: r, i, a, h => by
    unfold fillD
    rw [fill_put D V dst v r _ _ fun o' ho => h o' (by simp [ho])]
    congr 1
    split
    · exact Act.put_comm _ _ _ fun d hd he => h o (by simp) d he hd
    · rfl
theorem fill_take (D : Nat → Bool) (V : Nat → Value) (v : Value) : ∀ (l : List Oper) (i : Nat) (a : Act) (k : Nat) (o : Oper), l[k]? = some o → D (i + k) = false →
    (∀ q o', l[q]? = some o' → q ≠ k → ∀ d, o.dst = some d → o'.dst ≠ some d) →
    (fillD D V l i a).put o.dst v = fillD (fun j => if j = i + k then true else D j) (fun j => if j = i + k then v else V j) l i a
  | [], _, _, _, _, h, _, _ => by simp at h
  | x :: r, i, a, 0, o, h, hD, hd => by
    obtain rfl : x = o := by simpa using h
    rw [Nat.add_zero] at hD ⊢
    unfold fillD
    rw [hD, if_neg (by simp), fill_put D V _ _ r _ _ fun o' ho d hd1 => by
      obtain ⟨q, hq⟩ := List.mem_iff_getElem?.1 ho
      exact hd (q + 1) o' (by simpa using hq) (by omega) d hd1]
    simp only [if_true]
    exact fill_congr _ _ _ _ r _ _ fun j hj _ => by
      rw [if_neg (by omega), if_neg (by omega)]; exact ⟨rfl, fun _ => rfl⟩
  | x :: r, i, a, k + 1, o, h, hD, hd => by
    unfold fillD
    rw [fill_take D V v r (i + 1) _ k o (by simpa using h) (by rw [show i + 1 + k = i + (k + 1) from by omega]; exact hD) fun q o' hq hne d hd1 => hd (q + 1) o' (by simpa using hq) (by omega) d hd1]
    rw [show i + 1 + k = i + (k + 1) from by omega]
    congr 1
    rw [if_neg (show ¬ i = i + (k + 1) by omega), if_neg (show ¬ i = i + (k + 1) by omega)]

/-- What must be done ahead. -/
def needs (o : Oper) (j : Nat) : Bool := o.after.toList.any fun e => Region.binds .any e && e.on == j
/-- Each operation once, in the order of the text, from whatever world it may meet. -/
def invList (P : Program) (ops : Array Oper) (G : World → World → Prop) (w0 : World) (R : Nat → Value → World → Prop) (K : Act → World → Prop) : List Oper → List Value → Act → Prop
  | [], vs, a => ∀ w, G w0 w → (∀ j, j < vs.length → R j (vs.getD j undef) w) → K a w
  | o :: r, vs, a => (∀ w, G w0 w → (∀ j, j < vs.length → needs o j = true → R j (vs.getD j undef) w) → wpList P ops (Leaves a o.dst fun v w' => G w w' ∧ R vs.length v w') [o] a w) ∧
      ∀ v, invList P ops G w0 R K r (vs ++ [v]) (a.put o.dst v)

theorem range_snoc (V : Nat → Value) (m : Nat) : (List.range m).map V ++ [V m] = (List.range (m + 1)).map V := by rw [List.range_succ]; simp
theorem range_get (V : Nat → Value) {m j : Nat} (h : j < m) : ((List.range m).map V).getD j undef = V j := by simp [List.getD_eq_getElem?_getD, h]

theorem inv_at {G : World → World → Prop} {w0 : World} {R : Nat → Value → World → Prop} {K : Act → World → Prop} (V : Nat → Value) : ∀ (r : List Oper) (m : Nat) (a : Act), invList P ops G w0 R K r ((List.range m).map V) a →
    (∀ k o, r[k]? = some o → ∀ w, G w0 w → (∀ j, j < m + k → needs o j = true → R j (V j) w) →
      wpList P ops (Leaves (fillD (fun j => decide (j < m + k)) V r m a) o.dst fun v w' => G w w' ∧ R (m + k) v w') [o] (fillD (fun j => decide (j < m + k)) V r m a) w) ∧
    (∀ w, G w0 w → (∀ j, j < m + r.length → R j (V j) w) → K (fillD (fun _ => true) V r m a) w)
  | [], m, a, h => ⟨fun k o hk => by simp at hk, fun w hg hr => h w hg fun j hj => by
      have hj' : j < m := by simpa using hj
      rw [range_get V hj']; exact hr j (by simpa using hj')⟩
  | o :: r, m, a, h => by
    obtain ⟨h1, h2⟩ := h
    have h3 := h2 (V m)
    rw [range_snoc] at h3
    obtain ⟨i1, i2⟩ := inv_at V r (m + 1) _ h3
    refine ⟨fun k o' hk w hg hr => ?_, fun w hg hr => ?_⟩
    · cases k with
      | zero =>
        obtain rfl : o = o' := by simpa using hk
        rw [Nat.add_zero] at hr ⊢
        rw [fill_none _ _ _ _ _ fun j hj => by simp; omega]
        have := h1 w hg fun j hj hn => by
          have hj' : j < m := by simpa using hj
          rw [range_get V hj']; exact hr j hj' hn
        simpa using this
      | succ k =>
        have := i1 k o' (by simpa using hk) w hg fun j hj hn => hr j (by omega) hn
        rw [show m + 1 + k = m + (k + 1) from by omega] at this
        have e : fillD (fun j => decide (j < m + (k + 1))) V (o :: r) m a = fillD (fun j => decide (j < m + (k + 1))) V r (m + 1) (a.put o.dst (V m)) := by
          show fillD _ V r (m + 1) _ = _
          rw [if_pos (by simp)]
        rw [e]
        exact this
    · have := i2 w hg fun j hj => hr j (by simp; omega)
      exact this

/-- The closed look. -/
def invB (ops : Array Oper) : Bool :=
  Region.noSelect ops && (List.range ops.size).all fun i => match ops[i]? with
    | none => true
    | some oi =>
      (oi.after.toList.all fun e => !Region.binds .any e || decide (e.on < i)) &&
      (List.range ops.size).all fun q => q == i || match (ops[q]?).bind (·.dst) with
        | none => true
        | some d => oi.dst != some d && (!(oi.looksAt ops).contains d || (decide (q < i) && needs oi q) || (decide (i < q) && ((waits ops.toList []).getD q 0).testBit i))

theorem rem_nil (hback : ∀ i oi, ops[i]? = some oi → ∀ e ∈ oi.after, Region.binds .any e = true → e.on < i) (listed : Array Bool) (hs : listed.size = ops.size) (hr : Region.ready .any ops listed = []) : ∀ i, i < ops.size → listed.getD i false = true := by
  intro i
  induction i using Nat.strongRecOn with
  | _ i ih =>
    intro hi
    by_cases hd : listed.getD i false = true
    · exact hd
    · exfalso
      have : i ∈ Region.ready .any ops listed := mem_ready.2 ⟨by
        have : i < listed.size := by omega
        simp [this] at hd ⊢; exact hd, _, Array.getElem?_eq_getElem hi, fun e he hb => by
          have hlt := hback i _ (Array.getElem?_eq_getElem hi) e he hb
          exact ih e.on hlt (by omega)⟩
      rw [hr] at this
      cases this

theorem inv_any {l : List Oper} {G : World → World → Prop} {w0 : World} {R : Nat → Value → World → Prop} {K : Act → World → Prop} {a0 : Act} (hB : invB l.toArray = true)
    (Gt : ∀ w w1 w2, G w w1 → G w1 w2 → G w w2) (mono : ∀ i v w w', G w0 w → G w w' → R i v w → R i v w')
    (h : invList P l.toArray G w0 R K l [] a0) :
    ∀ (fuel : Nat) (listed : Array Bool) (V : Nat → Value) (w : World), listed.size = l.length → Closed l.toArray listed → G w0 w → (∀ j, listed.getD j false = true → R j (V j) w) →
    (rem l.toArray listed).length ≤ fuel → wpAny P .any l.toArray (Only K) fuel listed (fillD (fun j => listed.getD j false) V l 0 a0) w := by
  unfold invB at hB
  simp only [Bool.and_eq_true, List.all_eq_true, List.mem_range] at hB
  obtain ⟨hsel, hB⟩ := hB
  have hB' : ∀ i oi, l.toArray[i]? = some oi → _ := fun i oi hi => by
    have := hB i (Array.getElem?_eq_some_iff.1 hi).1
    simp only [hi, Bool.and_eq_true, List.all_eq_true, List.mem_range] at this
    exact this
  have hback : ∀ i oi, l.toArray[i]? = some oi → ∀ e ∈ oi.after, Region.binds .any e = true → e.on < i := fun i oi hi e he hb => by
    have := (hB' i oi hi).1 e (by simpa using he)
    simpa [hb] using this
  have htr : Truth l.toArray (waits l.toArray.toList []) := waits_truth hback l.toArray.toList [] (fun j => by simp) (fun i t hi => by simp at hi)
  have hlen : (waits l.toArray.toList []).length = l.length := by rw [waits_length]; simp
  have hall : ∀ listed : Array Bool, listed.size = l.length → Region.ready .any l.toArray listed = [] → ∀ i, i < l.length → listed.getD i false = true := fun listed hs hr i hi =>
    rem_nil hback listed (by simpa using hs) hr i (by simpa using hi)
  have hend : ∀ (listed : Array Bool) (V : Nat → Value) (w : World), (∀ i, i < l.length → listed.getD i false = true) → G w0 w → (∀ j, listed.getD j false = true → R j (V j) w) →
      K (fillD (fun j => listed.getD j false) V l 0 a0) w := fun listed V w hd hg hr => by
    have := (inv_at V l 0 a0 h).2 w hg fun j hj => hr j (hd j (by simpa using hj))
    rw [fill_congr _ (fun _ => true) V V l 0 a0 fun j _ hj => ⟨hd j (by simpa using hj), fun _ => rfl⟩]
    exact this
  intro fuel
  induction fuel with
  | zero =>
    intro listed V w hs hcl hg hr hf
    have hnil : rem l.toArray listed = [] := List.eq_nil_of_length_eq_zero (by omega)
    have hd : ∀ i, i < l.length → listed.getD i false = true := fun i hi => by
      by_cases hd : listed.getD i false = true
      · exact hd
      · exfalso
        have : i ∈ rem l.toArray listed := mem_rem.2 ⟨by simpa using hi, by
          have : i < listed.size := by omega
          simp [this] at hd ⊢; exact hd⟩
        rw [hnil] at this
        cases this
    refine ⟨?_, hend listed V w hd hg hr⟩
    cases hrd : Region.ready .any l.toArray listed with
    | nil => rfl
    | cons i q =>
      have hi : i ∈ Region.ready .any l.toArray listed := by rw [hrd]; simp
      obtain ⟨hun, o, ho, _⟩ := mem_ready.1 hi
      have : i ∈ rem l.toArray listed := mem_rem.2 ⟨(Array.getElem?_eq_some_iff.1 ho).1, hun⟩
      rw [hnil] at this
      cases this
  | succ fuel ih =>
    intro listed V w hs hcl hg hr hf
    refine ⟨fun hrd => hend listed V w (hall listed hs hrd) hg hr, fun i hi => ?_⟩
    obtain ⟨hun, o, ho, hdone⟩ := mem_ready.1 hi
    have hlt : i < l.toArray.size := (Array.getElem?_eq_some_iff.1 ho).1
    have hltl : i < l.length := by simpa using hlt
    have hlis : i < listed.size := by omega
    have hun' : listed.getD i false = false := by simp [hlis] at hun ⊢; exact hun
    have hol : l[i]? = some o := by simpa using ho
    have hst := (inv_at V l 0 a0 h).1 i o hol w hg fun j hj hn => by
      refine hr j ?_
      unfold needs at hn
      simp only [List.any_eq_true, Bool.and_eq_true, beq_iff_eq] at hn
      obtain ⟨e, he, hb, rfl⟩ := hn
      exact hdone e (by simpa using he) hb
    rw [Nat.zero_add] at hst
    have hsel' : ∀ cs b, o.op ≠ .select cs b := by
      intro cs b hc
      unfold Region.noSelect at hsel
      simp only [Array.all_eq_true] at hsel
      have := hsel i (by simpa using hlt)
      rw [(Array.getElem?_eq_some_iff.1 ho).2] at this
      rw [hc] at this
      simp at this
    have hsv := stepV_congr (a := fillD (fun j => listed.getD j false) V l 0 a0) hsel' (by rw [fill_size, fill_size]) (fun d hd => ?_) (stepV_of_list hst)
    · refine stepV_wpOp ho ?_ hsv
      rintro v w' ⟨hgw, hR⟩
      rw [fill_take (fun j => listed.getD j false) V v l 0 a0 i o hol (by rw [Nat.zero_add]; exact hun') fun q o' hq hne d hd1 hd2 => by
        have h1 := (hB' i o ho).2 q (by have := (List.getElem?_eq_some_iff.1 hq).1; simpa using this)
        have hq' : l.toArray[q]? = some o' := by simpa using hq
        simp [hne, hq', hd2, hd1] at h1]
      have hcl' := hcl.set hi
      have e : (fun j => if j = 0 + i then true else listed.getD j false) = fun j => (listed.setIfInBounds i true).getD j false := by
        funext j
        rw [Nat.zero_add]
        by_cases hj : j = i
        · subst hj; simp [hlis]
        · rw [if_neg hj, getD_set_ne false (fun e => hj e.symm)]
      rw [e]
      refine ih _ _ w' (by simpa using hs) hcl' (Gt _ _ _ hg hgw) (fun j hj => ?_) ?_
      · rw [Nat.zero_add]
        by_cases hji : j = i
        · subst hji; rw [if_pos rfl]; exact hR
        · rw [if_neg hji]
          rw [getD_set_ne false (fun e => hji e.symm)] at hj
          exact mono j _ w w' hg hgw (hr j hj)
      · obtain ⟨τ, ρ, e1, e2, _⟩ := rem_split (by simpa using hs) (mem_rem.2 ⟨hlt, hun⟩)
        rw [e2]
        rw [e1] at hf
        simp only [List.length_append, List.length_cons] at hf ⊢
        omega
    · refine fill_at _ _ V d l 0 a0 a0 rfl rfl fun q o' hq hod => ?_
      rw [Nat.zero_add]
      have hq' : l.toArray[q]? = some o' := by simpa using hq
      have hql : q < l.length := (List.getElem?_eq_some_iff.1 hq).1
      by_cases hqi : q = i
      · subst hqi; rw [hun']; simp
      · have h1 := (hB' i o ho).2 q (by simpa using hql)
        have hdc : (o.looksAt l.toArray).contains d = true := by simpa using hd
        simp only [hqi, beq_iff_eq, hq', Option.bind_some, hod, hdc, Bool.not_true, Bool.false_or, Bool.or_eq_true, Bool.and_eq_true, decide_eq_true_eq, false_or] at h1
        rcases h1.2 with ⟨h2, h3⟩ | ⟨h2, h3⟩
        · rw [decide_eq_true h2]
          unfold needs at h3
          simp only [List.any_eq_true, Bool.and_eq_true, beq_iff_eq] at h3
          obtain ⟨e, he, hb, rfl⟩ := h3
          exact hdone e (by simpa using he) hb
        · rw [decide_eq_false (by omega)]
          by_cases hqd : listed.getD q false = true
          · exfalso
            have := htr.listed hcl q o' i (by omega) hq' (fun e he hb => hcl q o' hq' hqd e he hb) h3
            rw [hun'] at this
            cases this
          · simpa using hqd

/-- THE LAW. -/
theorem wp_region_inv {id : Nat} {l : List Oper} {Q : Exit → Act → World → Prop} {a : Act} {w : World} (G : World → World → Prop) (R : Nat → Value → World → Prop) (hm : P.follows .mixedOrders = true) (hB : invB l.toArray = true)
    (Gr : ∀ w, G w w) (Gt : ∀ w w1 w2, G w w1 → G w1 w2 → G w w2) (mono : ∀ i v w1 w2, G w.drew w1 → G w1 w2 → R i v w1 → R i v w2)
    (h : invList P l.toArray G w.drew R (Q .normal) l [] a) : (Code.region id l.toArray true).wp P Q a w := by
  refine Code.wp_mono (Q := Only (Q .normal)) (fun e a w hq => by cases e <;> first | exact hq | exact hq.elim) ?_
  refine wp_region_any hm ?_
  have h0 := inv_any hB Gt mono h l.toArray.size (Array.replicate l.toArray.size false) (fun _ => undef) w.drew (by simp) (fun j oj _ hl => by rw [getD_replicate0] at hl; cases hl) (Gr _) (fun j hj => by rw [getD_replicate0] at hj; cases hj) ?_
  · rw [fill_none] at h0
    · exact h0
    · intro j _; exact getD_replicate0 _ _
  · refine Nat.le_trans (List.length_filter_le _ _) ?_
    simp
end
end Go.Proofs.YtjimcjhgjfhbiaaGreat
/- One operation of a region after the other (the law wp_region_inv), by plain lemmas. -/
namespace Go.Proofs.YtjimcjhgjfhbiaaGreat
open Go
variable {P : Program} {ops : Array Oper} {G : World → World → Prop} {w0 : World} {R : Nat → Value → World → Prop} {K : Act → World → Prop}
theorem inv_cons {o : Oper} {r : List Oper} {vs : List Value} {a : Act}
    (h1 : ∀ w, G w0 w → (∀ j, j < vs.length → needs o j = true → R j (vs.getD j undef) w) → wpList P ops (Leaves a o.dst fun v w' => G w w' ∧ R vs.length v w') [o] a w)
    (h2 : ∀ v, invList P ops G w0 R K r (vs ++ [v]) (a.put o.dst v)) : invList P ops G w0 R K (o :: r) vs a := ⟨h1, h2⟩
theorem inv_done {vs : List Value} {a : Act} (h : ∀ w, G w0 w → (∀ j, j < vs.length → R j (vs.getD j undef) w) → K a w) : invList P ops G w0 R K [] vs a := h
end Go.Proofs.YtjimcjhgjfhbiaaGreat
/- The law for a region that draws its order, where what an operation leaves may be known by a property alone, and where one operation may write what an earlier one has made: nobody may look at that behind it. -/
namespace Go.Proofs.YtjimcjhgjfhbiaaGreat
open Go Go.RowKit
section
variable {P : Program} {ops : Array Oper}
/-- Whose value an operation looks at. -/
def uses (o : Oper) (j : Nat) : Bool := o.after.toList.any fun e => Region.binds .any e && e.on == j && (match e.ground with | .data => true | .guard => true | _ => false)
theorem uses_needs {o : Oper} {j : Nat} (h : uses o j = true) : needs o j = true := by
  unfold uses at h
  unfold needs
  rw [List.any_eq_true] at h ⊢
  obtain ⟨e, he, h⟩ := h
  rw [Bool.and_eq_true] at h
  exact ⟨e, he, h.1⟩
/-- Each operation once, in the order of the text, from whatever world it may meet; T i: what operation i may turn; alive j: is told at the end. -/
def invList2 (P : Program) (ops : Array Oper) (G : World → World → Prop) (T : Nat → World → World → Prop) (alive : Nat → Bool) (w0 : World) (R : Nat → Value → World → Prop) (K : Act → World → Prop) : List Oper → List Value → Act → Prop
  | [], vs, a => ∀ w, G w0 w → (∀ j, j < vs.length → alive j = true → R j (vs.getD j undef) w) → K a w
  | o :: r, vs, a => (∀ w, G w0 w → (∀ j, j < vs.length → uses o j = true → R j (vs.getD j undef) w) → wpList P ops (Leaves a o.dst fun v w' => T vs.length w w' ∧ R vs.length v w') [o] a w) ∧
      ∀ v, invList2 P ops G T alive w0 R K r (vs ++ [v]) (a.put o.dst v)
theorem inv2_at {G : World → World → Prop} {T : Nat → World → World → Prop} {alive : Nat → Bool} {w0 : World} {R : Nat → Value → World → Prop} {K : Act → World → Prop} (V : Nat → Value) : ∀ (r : List Oper) (m : Nat) (a : Act), invList2 P ops G T alive w0 R K r ((List.range m).map V) a →
    (∀ k o, r[k]? = some o → ∀ w, G w0 w → (∀ j, j < m + k → uses o j = true → R j (V j) w) →
      wpList P ops (Leaves (fillD (fun j => decide (j < m + k)) V r m a) o.dst fun v w' => T (m + k) w w' ∧ R (m + k) v w') [o] (fillD (fun j => decide (j < m + k)) V r m a) w) ∧
    (∀ w, G w0 w → (∀ j, j < m + r.length → alive j = true → R j (V j) w) → K (fillD (fun _ => true) V r m a) w)
  | [], m, a, h => ⟨fun k o hk => by simp at hk, fun w hg hr => h w hg fun j hj hl => by
      have hj' : j < m := by simpa using hj
      rw [range_get V hj']; exact hr j (by simpa using hj') hl⟩
  | o :: r, m, a, h => by
    obtain ⟨h1, h2⟩ := h
    have h3 := h2 (V m)
    rw [range_snoc] at h3
    obtain ⟨i1, i2⟩ := inv2_at V r (m + 1) _ h3
    refine ⟨fun k o' hk w hg hr => ?_, fun w hg hr => ?_⟩
    · cases k with
      | zero =>
        obtain rfl : o = o' := by simpa using hk
        rw [Nat.add_zero] at hr ⊢
        rw [fill_none _ _ _ _ _ fun j hj => by simp; omega]
        have := h1 w hg fun j hj hn => by
          have hj' : j < m := by simpa using hj
          rw [range_get V hj']; exact hr j hj' hn
        simpa using this
      | succ k =>
        have := i1 k o' (by simpa using hk) w hg fun j hj hn => hr j (by omega) hn
        rw [show m + 1 + k = m + (k + 1) from by omega] at this
        have e : fillD (fun j => decide (j < m + (k + 1))) V (o :: r) m a = fillD (fun j => decide (j < m + (k + 1))) V r (m + 1) (a.put o.dst (V m)) := by
          show fillD _ V r (m + 1) _ = _
          rw [if_pos (by simp)]
        rw [e]
        exact this
    · have := i2 w hg fun j hj hl => hr j (by simp; omega) hl
      exact this
/-- Where place i is a bar, all else comes ahead of it or behind it; and what comes ahead and does not stand for good is looked at by nobody behind it. -/
def barB (ops : Array Oper) (st bar : Nat → Bool) : Bool :=
  (List.range ops.size).all fun i => !bar i || (List.range ops.size).all fun j =>
    (j == i || ((waits ops.toList []).getD i 0).testBit j || ((waits ops.toList []).getD j 0).testBit i || st j) &&
    (st j || !((waits ops.toList []).getD i 0).testBit j || (List.range ops.size).all fun k => match ops[k]? with
      | none => true
      | some ok => !uses ok j || k == i || ((waits ops.toList []).getD i 0).testBit k)
def aliveB (ops : Array Oper) (st bar : Nat → Bool) (j : Nat) : Bool := st j || (List.range ops.size).all fun i => !bar i || !((waits ops.toList []).getD i 0).testBit j
theorem inv2_any {l : List Oper} {G : World → World → Prop} {T : Nat → World → World → Prop} {w0 : World} {R : Nat → Value → World → Prop} {K : Act → World → Prop} {a0 : Act} {st bar : Nat → Bool} (hB : invB l.toArray = true) (hK : barB l.toArray st bar = true)
    (Gt : ∀ w w1 w2, G w w1 → G w1 w2 → G w w2) (TG : ∀ i w w', G w0 w → T i w w' → G w w') (mono : ∀ i j v w w', bar i = false → G w0 w → T i w w' → R j v w → R j v w')
    (monoS : ∀ j v w w', st j = true → G w0 w → G w w' → R j v w → R j v w')
    (h : invList2 P l.toArray G T (aliveB l.toArray st bar) w0 R K l [] a0) :
    ∀ (fuel : Nat) (listed : Array Bool) (V : Nat → Value) (w : World), listed.size = l.length → Closed l.toArray listed → G w0 w →
    (∀ j, listed.getD j false = true → (∀ i, bar i = true → listed.getD i false = true → ((waits l.toArray.toList []).getD i 0).testBit j = true → st j = true) → R j (V j) w) →
    (rem l.toArray listed).length ≤ fuel → wpAny P .any l.toArray (Only K) fuel listed (fillD (fun j => listed.getD j false) V l 0 a0) w := by
  unfold invB at hB
  simp only [Bool.and_eq_true, List.all_eq_true, List.mem_range] at hB
  obtain ⟨hsel, hB⟩ := hB
  have hB' : ∀ i oi, l.toArray[i]? = some oi → _ := fun i oi hi => by
    have := hB i (Array.getElem?_eq_some_iff.1 hi).1
    simp only [hi, Bool.and_eq_true, List.all_eq_true, List.mem_range] at this
    exact this
  have hback : ∀ i oi, l.toArray[i]? = some oi → ∀ e ∈ oi.after, Region.binds .any e = true → e.on < i := fun i oi hi e he hb => by
    have := (hB' i oi hi).1 e (by simpa using he)
    simpa [hb] using this
  have htr : Truth l.toArray (waits l.toArray.toList []) := waits_truth hback l.toArray.toList [] (fun j => by simp) (fun i t hi => by simp at hi)
  have hlen : (waits l.toArray.toList []).length = l.length := by rw [waits_length]; simp
  have hanc : ∀ listed : Array Bool, Closed l.toArray listed → ∀ i t, i < l.length → listed.getD i false = true → ((waits l.toArray.toList []).getD i 0).testBit t = true → listed.getD t false = true := fun listed hcl i t hi hli hb => by
    have hlt : i < l.toArray.size := by simpa using hi
    exact htr.listed hcl i _ t (by rw [hlen]; exact hi) (Array.getElem?_eq_getElem hlt) (hcl i _ (Array.getElem?_eq_getElem hlt) hli) hb
  unfold barB at hK
  simp only [List.all_eq_true, List.mem_range] at hK
  have hK1 : ∀ i, i < l.length → bar i = true → ∀ j, j < l.length → j = i ∨ ((waits l.toArray.toList []).getD i 0).testBit j = true ∨ ((waits l.toArray.toList []).getD j 0).testBit i = true ∨ st j = true := fun i hi hb j hj => by
    have := hK i (by simpa using hi)
    rw [hb, Bool.not_true, Bool.false_or, List.all_eq_true] at this
    have := this j (List.mem_range.2 (by simpa using hj))
    simp only [Bool.and_eq_true, Bool.or_eq_true, beq_iff_eq] at this
    rcases this.1 with ((h | h) | h) | h
    · exact .inl h
    · exact .inr (.inl h)
    · exact .inr (.inr (.inl h))
    · exact .inr (.inr (.inr h))
  have hK2 : ∀ i, i < l.length → bar i = true → ∀ j, j < l.length → ((waits l.toArray.toList []).getD i 0).testBit j = true → st j = false → ∀ k o, l.toArray[k]? = some o → uses o j = true → k = i ∨ ((waits l.toArray.toList []).getD i 0).testBit k = true := fun i hi hb j hj ht hs k o hk hn => by
    have := hK i (by simpa using hi)
    rw [hb, Bool.not_true, Bool.false_or, List.all_eq_true] at this
    have := this j (List.mem_range.2 (by simpa using hj))
    simp only [Bool.and_eq_true, Bool.or_eq_true, hs, ht, Bool.not_true, List.all_eq_true] at this
    have h3 := this.2
    simp at h3
    have hkl : k < l.length := by have := (Array.getElem?_eq_some_iff.1 hk).1; simpa using this
    have h4 := h3 k hkl
    have hk' : l[k]? = some o := by simpa using hk
    simp [hk', hn] at h4
    rcases h4 with h | h
    · exact .inl h
    · exact .inr h
  have hall : ∀ listed : Array Bool, listed.size = l.length → Region.ready .any l.toArray listed = [] → ∀ i, i < l.length → listed.getD i false = true := fun listed hs hr i hi =>
    rem_nil hback listed (by simpa using hs) hr i (by simpa using hi)
  have hend : ∀ (listed : Array Bool) (V : Nat → Value) (w : World), (∀ i, i < l.length → listed.getD i false = true) → G w0 w → (∀ j, listed.getD j false = true → (∀ i, bar i = true → listed.getD i false = true → ((waits l.toArray.toList []).getD i 0).testBit j = true → st j = true) → R j (V j) w) →
      listed.size = l.length → K (fillD (fun j => listed.getD j false) V l 0 a0) w := fun listed V w hd hg hr hsz => by
    have := (inv2_at V l 0 a0 h).2 w hg fun j hj hl => hr j (hd j (by simpa using hj)) fun i hb hi ht => by
      unfold aliveB at hl
      rw [Bool.or_eq_true] at hl
      rcases hl with hl | hl
      · exact hl
      · rw [List.all_eq_true] at hl
        have hil : i < l.length := by
          rcases Nat.lt_or_ge i listed.size with h | h
          · omega
          · simp [Nat.not_lt.2 h] at hi
        have := hl i (List.mem_range.2 (by simpa using hil))
        rw [hb, ht] at this; simp at this
    rw [fill_congr _ (fun _ => true) V V l 0 a0 fun j _ hj => ⟨hd j (by simpa using hj), fun _ => rfl⟩]
    exact this
  intro fuel
  induction fuel with
  | zero =>
    intro listed V w hs hcl hg hr hf
    have hnil : rem l.toArray listed = [] := List.eq_nil_of_length_eq_zero (by omega)
    have hd : ∀ i, i < l.length → listed.getD i false = true := fun i hi => by
      by_cases hd : listed.getD i false = true
      · exact hd
      · exfalso
        have : i ∈ rem l.toArray listed := mem_rem.2 ⟨by simpa using hi, by
          have : i < listed.size := by omega
          simp [this] at hd ⊢; exact hd⟩
        rw [hnil] at this
        cases this
    refine ⟨?_, hend listed V w hd hg hr hs⟩
    cases hrd : Region.ready .any l.toArray listed with
    | nil => rfl
    | cons i q =>
      have hi : i ∈ Region.ready .any l.toArray listed := by rw [hrd]; simp
      obtain ⟨hun, o, ho, _⟩ := mem_ready.1 hi
      have : i ∈ rem l.toArray listed := mem_rem.2 ⟨(Array.getElem?_eq_some_iff.1 ho).1, hun⟩
      rw [hnil] at this
      cases this
  | succ fuel ih =>
    intro listed V w hs hcl hg hr hf
    refine ⟨fun hrd => hend listed V w (hall listed hs hrd) hg hr hs, fun i hi => ?_⟩
    obtain ⟨hun, o, ho, hdone⟩ := mem_ready.1 hi
    have hlt : i < l.toArray.size := (Array.getElem?_eq_some_iff.1 ho).1
    have hltl : i < l.length := by simpa using hlt
    have hlis : i < listed.size := by omega
    have hun' : listed.getD i false = false := by simp [hlis] at hun ⊢; exact hun
    have hol : l[i]? = some o := by simpa using ho
    have hin : ∀ q, listed.getD q false = true → q < l.length := fun q hq => by
      rcases Nat.lt_or_ge q listed.size with h | h
      · omega
      · simp [Nat.not_lt.2 h] at hq
    have hst := (inv2_at V l 0 a0 h).1 i o hol w hg fun j hj hn => by
      have hdj : listed.getD j false = true := by
        have hn' := uses_needs hn
        unfold needs at hn'
        simp only [List.any_eq_true, Bool.and_eq_true, beq_iff_eq] at hn'
        obtain ⟨e, he, hb, rfl⟩ := hn'
        exact hdone e (by simpa using he) hb
      refine hr j hdj fun i' hb' hl' ht' => ?_
      cases hsj : st j with
      | true => rfl
      | false =>
        exfalso
        rcases hK2 i' (hin i' hl') hb' j (hin j hdj) ht' hsj i o ho hn with h | h
        · rw [← h, hun'] at hl'; cases hl'
        · have := hanc listed hcl i' i (hin i' hl') hl' h
          rw [hun'] at this; cases this
    rw [Nat.zero_add] at hst
    have hsel' : ∀ cs b, o.op ≠ .select cs b := by
      intro cs b hc
      unfold Region.noSelect at hsel
      simp only [Array.all_eq_true] at hsel
      have := hsel i (by simpa using hlt)
      rw [(Array.getElem?_eq_some_iff.1 ho).2] at this
      rw [hc] at this
      simp at this
    have hsv := stepV_congr (a := fillD (fun j => listed.getD j false) V l 0 a0) hsel' (by rw [fill_size, fill_size]) (fun d hd => ?_) (stepV_of_list hst)
    · refine stepV_wpOp ho ?_ hsv
      rintro v w' ⟨hgw, hR⟩
      rw [fill_take (fun j => listed.getD j false) V v l 0 a0 i o hol (by rw [Nat.zero_add]; exact hun') fun q o' hq hne d hd1 hd2 => by
        have h1 := (hB' i o ho).2 q (by have := (List.getElem?_eq_some_iff.1 hq).1; simpa using this)
        have hq' : l.toArray[q]? = some o' := by simpa using hq
        simp [hne, hq', hd2, hd1] at h1]
      have hcl' := hcl.set hi
      have e : (fun j => if j = 0 + i then true else listed.getD j false) = fun j => (listed.setIfInBounds i true).getD j false := by
        funext j
        rw [Nat.zero_add]
        by_cases hj : j = i
        · subst hj; simp [hlis]
        · rw [if_neg hj, getD_set_ne false (fun e => hj e.symm)]
      rw [e]
      refine ih _ _ w' (by simpa using hs) hcl' (Gt _ _ _ hg (TG i _ _ hg hgw)) (fun j hj hal => ?_) ?_
      · rw [Nat.zero_add]
        by_cases hji : j = i
        · subst hji; rw [if_pos rfl]; exact hR
        · rw [if_neg hji]
          rw [getD_set_ne false (fun e => hji e.symm)] at hj
          have hold := hr j hj fun i' hb' hl' ht' => hal i' hb' (by
            by_cases h : i' = i
            · subst h; simp [hlis]
            · rw [getD_set_ne false (fun e => h e.symm)]; exact hl') ht'
          cases hbi : bar i with
          | false => exact mono i j _ w w' hbi hg hgw hold
          | true =>
            refine monoS j _ w w' ?_ hg (TG i _ _ hg hgw) hold
            rcases hK1 i hltl hbi j (hin j hj) with h | h | h | h
            · exact absurd h hji
            · exact hal i hbi (by simp [hlis]) h
            · have := hanc listed hcl j i (hin j hj) hj h
              rw [hun'] at this; cases this
            · exact h
      · obtain ⟨τ, ρ, e1, e2, _⟩ := rem_split (by simpa using hs) (mem_rem.2 ⟨hlt, hun⟩)
        rw [e2]
        rw [e1] at hf
        simp only [List.length_append, List.length_cons] at hf ⊢
        omega
    · refine fill_at _ _ V d l 0 a0 a0 rfl rfl fun q o' hq hod => ?_
      rw [Nat.zero_add]
      have hq' : l.toArray[q]? = some o' := by simpa using hq
      have hql : q < l.length := (List.getElem?_eq_some_iff.1 hq).1
      by_cases hqi : q = i
      · subst hqi; rw [hun']; simp
      · have h1 := (hB' i o ho).2 q (by simpa using hql)
        have hdc : (o.looksAt l.toArray).contains d = true := by simpa using hd
        simp only [hqi, beq_iff_eq, hq', Option.bind_some, hod, hdc, Bool.not_true, Bool.false_or, Bool.or_eq_true, Bool.and_eq_true, decide_eq_true_eq, false_or] at h1
        rcases h1.2 with ⟨h2, h3⟩ | ⟨h2, h3⟩
        · rw [decide_eq_true h2]
          unfold needs at h3
          simp only [List.any_eq_true, Bool.and_eq_true, beq_iff_eq] at h3
          obtain ⟨e, he, hb, rfl⟩ := h3
          exact hdone e (by simpa using he) hb
        · rw [decide_eq_false (by omega)]
          by_cases hqd : listed.getD q false = true
          · exfalso
            have := htr.listed hcl q o' i (by omega) hq' (fun e he hb => hcl q o' hq' hqd e he hb) h3
            rw [hun'] at this
            cases this
          · simpa using hqd
/-- What is known of a value for as long as all that lies in memory stays. -/
abbrev SP := {p : Value → World → Prop // ∀ v w w', Below w.heap.size w w' → p v w → p v w'}
/-- A value, or what is known of it. -/
abbrev Want := Sum Value SP
def Want.holds : Want → Value → World → Prop
  | .inl u, v, _ => v = u
  | .inr p, v, w => p.1 v w
def Want.fixed : Want → Bool
  | .inl _ => true
  | .inr _ => false
def wantAt (L : List Want) (j : Nat) : Want := L.getD j (.inl undef)
def Turns (B : Nat) (bar : List Nat) (i : Nat) (x y : World) : Prop := match bar.contains i with
  | true => Below B x y
  | false => Below x.heap.size x y
/-- THE LAW. -/
theorem wp_region_inw {id : Nat} {l : List Oper} {Q : Exit → Act → World → Prop} {a : Act} {w : World} (L : List Want) (bar : List Nat) (hm : P.follows .mixedOrders = true) (hB : invB l.toArray = true)
    (hK : barB l.toArray (fun j => (wantAt L j).fixed) (fun i => bar.contains i) = true)
    (h : invList2 P l.toArray (Below w.heap.size) (Turns w.heap.size bar) (aliveB l.toArray (fun j => (wantAt L j).fixed) (fun i => bar.contains i)) w.drew (fun j v w => (wantAt L j).holds v w) (Q .normal) l [] a) : (Code.region id l.toArray true).wp P Q a w := by
  refine Code.wp_mono (Q := Only (Q .normal)) (fun e a w hq => by cases e <;> first | exact hq | exact hq.elim) ?_
  refine wp_region_any hm ?_
  have hsz : ∀ {x : World}, Below w.heap.size w.drew x → w.heap.size ≤ x.heap.size := fun hx => hx.size
  have h0 := inv2_any (w0 := w.drew) (R := fun j v w => (wantAt L j).holds v w) hB hK (fun _ _ _ h1 h2 => h1.trans h2) (fun i x y hg ht => by
      unfold Turns at ht
      split at ht
      · exact ht
      · exact ht.mono (hsz hg)) (fun i j v x y hbi hg ht hr => by
      unfold Turns at ht
      rw [hbi] at ht
      cases e : wantAt L j with
      | inl u => rw [e] at hr; exact hr
      | inr p => rw [e] at hr; exact p.2 v x y ht hr) (fun j v x y hs hg ht hr => by
      cases e : wantAt L j with
      | inl u => rw [e] at hr; exact hr
      | inr p => rw [e] at hs; cases hs) h l.toArray.size (Array.replicate l.toArray.size false) (fun _ => undef) w.drew (by simp) (fun j oj _ hl => by rw [getD_replicate0] at hl; cases hl) ((Below.refl _ _)) (fun j hj => by rw [getD_replicate0] at hj; cases hj) ?_
  · rw [fill_none] at h0
    · exact h0
    · intro j _; exact getD_replicate0 _ _
  · refine Nat.le_trans (List.length_filter_le _ _) ?_
    simp
theorem inw_cons {G : World → World → Prop} {T : Nat → World → World → Prop} {alive : Nat → Bool} {w0 : World} {R : Nat → Value → World → Prop} {K : Act → World → Prop} {o : Oper} {r : List Oper} {vs : List Value} {a : Act}
    (h1 : ∀ w, G w0 w → (∀ j, j < vs.length → uses o j = true → R j (vs.getD j undef) w) → wpList P ops (Leaves a o.dst fun v w' => T vs.length w w' ∧ R vs.length v w') [o] a w)
    (h2 : ∀ v, invList2 P ops G T alive w0 R K r (vs ++ [v]) (a.put o.dst v)) : invList2 P ops G T alive w0 R K (o :: r) vs a := ⟨h1, h2⟩
theorem inw_done {G : World → World → Prop} {T : Nat → World → World → Prop} {alive : Nat → Bool} {w0 : World} {R : Nat → Value → World → Prop} {K : Act → World → Prop} {vs : List Value} {a : Act}
    (h : ∀ w, G w0 w → (∀ j, j < vs.length → alive j = true → R j (vs.getD j undef) w) → K a w) : invList2 P ops G T alive w0 R K [] vs a := h
end
end Go.Proofs.YtjimcjhgjfhbiaaGreat
/- Contracts of package num where nothing wraps: Add, Sub, Neg, Within, Floor. -/
namespace Go.Proofs.YtjimcjhgjfhbiaaGreat
open Go.RowKit Go.Lib Wd

theorem nadd_in (a b : Int) (h1 : -4611686018427387904 ≤ a) (h2 : a ≤ 4611686018427387903) (h3 : -4611686018427387904 ≤ b) (h4 : b ≤ 4611686018427387903) (w : World) :
    Calls Tryz.prog 103 #[.int .i64 a, .int .i64 b] w fun e w' => e = .returned (.tuple #[.int .i64 (a + b), .bool true]) ∧ w' = w := by
  rcases (show b < 0 ∨ b = 0 ∨ 0 < b by omega) with hb | hb | hb
  · have q1 : decide (a < a + b) = false := decide_eq_false (by omega)
    have q2 : decide (0 < b) = false := decide_eq_false (by omega)
    go_enter Tryz.func103, Tryz.ntmps103
    go_wp2
    go_ret2
    exact ⟨rfl, rfl⟩
  · subst hb
    go_enter Tryz.func103, Tryz.ntmps103
    go_wp2
    go_ret2
    exact ⟨by simp, rfl⟩
  · have q1 : decide (a < a + b) = true := decide_eq_true (by omega)
    have q2 : decide (0 < b) = true := decide_eq_true (by omega)
    go_enter Tryz.func103, Tryz.ntmps103
    go_wp2
    go_ret2
    exact ⟨rfl, rfl⟩
theorem nsub_in (a b : Int) (h1 : -4611686018427387904 ≤ a) (h2 : a ≤ 4611686018427387903) (h3 : -4611686018427387904 ≤ b) (h4 : b ≤ 4611686018427387903) (w : World) :
    Calls Tryz.prog 124 #[.int .i64 a, .int .i64 b] w fun e w' => e = .returned (.tuple #[.int .i64 (a - b), .bool true]) ∧ w' = w := by
  rcases (show b < 0 ∨ b = 0 ∨ 0 < b by omega) with hb | hb | hb
  · have q1 : decide (a - b < a) = false := decide_eq_false (by omega)
    have q2 : decide (0 < b) = false := decide_eq_false (by omega)
    go_enter Tryz.func124, Tryz.ntmps124
    go_wp2
    go_ret2
    exact ⟨rfl, rfl⟩
  · subst hb
    go_enter Tryz.func124, Tryz.ntmps124
    go_wp2
    go_ret2
    exact ⟨by simp, rfl⟩
  · have q1 : decide (a - b < a) = true := decide_eq_true (by omega)
    have q2 : decide (0 < b) = true := decide_eq_true (by omega)
    go_enter Tryz.func124, Tryz.ntmps124
    go_wp2
    go_ret2
    exact ⟨rfl, rfl⟩
theorem within_any (a m : Int) (h1 : 0 ≤ m) (h2 : m ≤ 4611686018427387903) (w : World) :
    Calls Tryz.prog 112 #[.int .i64 a, .int .i64 m] w fun e w' => e = .returned (.bool (decide (-m ≤ a) && decide (a ≤ m))) ∧ w' = w := by
  have HF : Hid ((decide (-m ≤ a) && decide (a ≤ m)) = (decide (-m ≤ a) && decide (a ≤ m))) := rfl
  rcases (show a < -m ∨ (-m ≤ a ∧ m < a) ∨ (-m ≤ a ∧ a ≤ m) by omega) with h | ⟨h, h3⟩ | ⟨h, h3⟩
  · have hr : (decide (-m ≤ a) && decide (a ≤ m)) = false := by simp; omega
    have HR := Lib.hid hr
    rw [hr]
    clear hr HF
    go_enter Tryz.func112, Tryz.ntmps112
    go_wp2
    go_ret
    exact ⟨rfl, rfl⟩
  · have hr : (decide (-m ≤ a) && decide (a ≤ m)) = false := by simp; omega
    rw [hr]
    clear hr HF
    go_enter Tryz.func112, Tryz.ntmps112
    go_wp2
    go_ret
    exact ⟨rfl, rfl⟩
  · have hr : (decide (-m ≤ a) && decide (a ≤ m)) = true := by simp; omega
    have q1 : (a != -9223372036854775808) = true := by simp; omega
    rw [hr]
    clear hr HF
    go_enter Tryz.func112, Tryz.ntmps112
    go_wp2
    go_ret
    exact ⟨rfl, rfl⟩
theorem floor_nums {a d : Int} (hd : 0 < d) : (a.tmod d < 0 ∧ a.tdiv d - 1 = a / d ∧ a.tmod d + d = a % d ∧ 0 ≤ a.tmod d + d ∧ a.tmod d + d < d) ∨ (0 ≤ a.tmod d ∧ a.tdiv d = a / d ∧ a.tmod d = a % d) := by
  have h1 := Int.mul_tdiv_add_tmod a d
  have h2 := Int.tmod_lt_of_pos a hd
  have h3 := Int.lt_tmod_of_pos a hd
  rcases Int.lt_or_le (a.tmod d) 0 with h | h
  · left
    have := (Int.ediv_emod_unique (a := a) (b := d) (r := a.tmod d + d) (q := a.tdiv d - 1) hd).2 ⟨by rw [Int.mul_sub]; omega, by omega, by omega⟩
    exact ⟨h, this.1.symm, this.2.symm, by omega, by omega⟩
  · right
    have := (Int.ediv_emod_unique (a := a) (b := d) (r := a.tmod d) (q := a.tdiv d) hd).2 ⟨by omega, by omega, by omega⟩
    exact ⟨h, this.1.symm, this.2.symm⟩
theorem floor_any (a d : Int) (hd : 0 < d) (hd2 : d ≤ 4611686018427387903) (h1 : -4611686018427387904 ≤ a) (h2 : a ≤ 4611686018427387903) (w : World) :
    Calls Tryz.prog 113 #[.int .i64 a, .int .i64 d] w fun e w' => e = .returned (.tuple #[.int .i64 (a / d), .int .i64 (a % d), .bool true]) ∧ ∃ n, w' = w.drewN n := by
  have hb1 := Int.ediv_mul_le a (show d ≠ 0 by omega)
  have q0 : d ≠ 0 := by omega
  have q9 : d ≠ -1 := by omega
  have hq : -4611686018427387905 ≤ a.tdiv d ∧ a.tdiv d ≤ 4611686018427387905 := by
    have := Int.natAbs_tdiv_le_natAbs a d
    omega
  obtain ⟨hq1, hq2⟩ := hq
  rcases floor_nums (a := a) hd with ⟨k1, k2, k3, k4, k5⟩ | ⟨k1, k2, k3⟩
  · rw [← k2, ← k3]
    clear k2 k3 hb1
    generalize hx : a.tdiv d = x at *
    generalize hy : a.tmod d = y at *
    go_enter Tryz.func113, Tryz.ntmps113
    go_upto_region 3 with (fail)
    go_quiet (fail)
    go_wp2
    go_ret3
    exact ⟨rfl, _, rfl⟩
  · rw [← k2, ← k3]
    clear k2 k3 hb1
    generalize hx : a.tdiv d = x at *
    generalize hy : a.tmod d = y at *
    go_enter Tryz.func113, Tryz.ntmps113
    go_upto_region 3 with (fail)
    go_quiet (fail)
    go_wp2
    go_ret3
    exact ⟨rfl, _, rfl⟩
end Go.Proofs.YtjimcjhgjfhbiaaGreat
/- Contracts of package eisen's numbers of 128 bits, where nothing is lost: times, plus, minus, short. -/
namespace Go.Proofs.YtjimcjhgjfhbiaaGreat
open Go.RowKit Go.Lib Wd

/-- The halves of a number. -/
def hW (A : Int) : Int := A / 18446744073709551616
def lW (A : Int) : Int := A % 18446744073709551616
theorem times_in (a b : Int) (ha : -2305843009213693952 ≤ a ∧ a ≤ 2305843009213693952) (hb : -2305843009213693952 ≤ b ∧ b ≤ 2305843009213693952) (w : World) :
    Calls Tryz.prog 109 #[.int .i64 a, .int .i64 b] w fun e w' => e = .returned (.agg #[.int .i64 (hW (a * b)), .int .u64 (lW (a * b))]) ∧ Below w.heap.size w w' := by
  obtain ⟨x, hx⟩ : ∃ x : Nat, (a % 18446744073709551616).toNat = x := ⟨_, rfl⟩
  obtain ⟨y, hy⟩ : ∃ x : Nat, (b % 18446744073709551616).toNat = x := ⟨_, rfl⟩
  have hx1 : (x : Int) = a % 18446744073709551616 := by omega
  have hy1 : (y : Int) = b % 18446744073709551616 := by omega
  have HM : Hid (∀ w : World, _) := fun w => mul64_any x y (by omega) (by omega) w
  have ea : IntKind.u64.wrap a = (x : Int) := by rw [IntKind.wrap_u64, hx1]
  have eb : IntKind.u64.wrap b = (y : Int) := by rw [IntKind.wrap_u64, hy1]
  have hp : -5316911983139663491615228241121378304 ≤ a * b ∧ a * b ≤ 5316911983139663491615228241121378304 := by
    have h1 : (a * b).natAbs ≤ 2305843009213693952 * 2305843009213693952 := by rw [Int.natAbs_mul]; exact Nat.mul_le_mul (by omega) (by omega)
    omega
  obtain ⟨n, hn⟩ : ∃ n : Nat, x * y = n := ⟨_, rfl⟩
  have hn1 : (n : Int) = (a % 18446744073709551616) * (b % 18446744073709551616) := by rw [← hn, Int.natCast_mul, hx1, hy1]
  rw [hn] at HM
  obtain ⟨P, hP⟩ : ∃ P : Int, a * b = P := ⟨_, rfl⟩
  rw [hP] at hp ⊢
  have key : ∀ H L : Int, H = hW P → L = lW P → Hid (H = hW P ∧ L = lW P) := fun _ _ h1 h2 => ⟨h1, h2⟩
  by_cases h1 : a < 0 <;> by_cases h2 : b < 0
  · have q1 : a % 18446744073709551616 = a + 18446744073709551616 := by omega
    have q2 : b % 18446744073709551616 = b + 18446744073709551616 := by omega
    have hn2 : (n : Int) = P + 18446744073709551616 * (a + b) + 340282366920938463463374607431768211456 := by rw [hn1, q1, q2, ← hP, Int.add_mul, Int.mul_add, Int.mul_add]; omega
    obtain ⟨H, hH⟩ : ∃ H : Nat, n / 18446744073709551616 = H := ⟨_, rfl⟩
    obtain ⟨L, hL⟩ : ∃ H : Nat, n % 18446744073709551616 = H := ⟨_, rfl⟩
    rw [hH, hL] at HM
    have e0 : IntKind.i64.wrap (H : Int) = hW P + a + b := by rw [IntKind.wrap_i64]; unfold hW; omega
    have e1 : IntKind.i64.wrap (hW P + a + b - b) = hW P + a := by rw [IntKind.wrap_i64]; unfold hW; omega
    have e2 : IntKind.i64.wrap (hW P + a - a) = hW P := by rw [IntKind.wrap_i64]; unfold hW; omega
    have HE : Hid ((L : Int) = lW P) := by show _ = _; unfold lW; omega
    clear hn hn1 hn2 q1 q2 hx hy hx1 hy1 hp hP ha hb hH hL key
    generalize hW P + a + b = A0 at *
    generalize hW P + a = A1 at *
    generalize hW P = A2 at *
    go_enter Tryz.func109, Tryz.ntmps109
    go_wp2_with (go_at_call 99; refine (HM.out _).mono ?_; rintro e w' ⟨rfl, rfl⟩)
    exact bodyPost_ret (v := .agg #[.int .i64 A2, .int .u64 L]) (by simp [results, Tryz.results109, go_sem]) rfl ⟨by rw [HE.out], (Below.refl _ _).alloc (Nat.le_refl _) _⟩
  · have q1 : a % 18446744073709551616 = a + 18446744073709551616 := by omega
    have q2 : b % 18446744073709551616 = b := by omega
    have hn2 : (n : Int) = P + 18446744073709551616 * b := by rw [hn1, q1, q2, ← hP, Int.add_mul]
    have qb : decide (b < 0) = false := by simpa using h2
    obtain ⟨H, hH⟩ : ∃ H : Nat, n / 18446744073709551616 = H := ⟨_, rfl⟩
    obtain ⟨L, hL⟩ : ∃ H : Nat, n % 18446744073709551616 = H := ⟨_, rfl⟩
    rw [hH, hL] at HM
    have e0 : IntKind.i64.wrap (H : Int) = hW P + b := by rw [IntKind.wrap_i64]; unfold hW; omega
    have e1 : IntKind.i64.wrap (hW P + b - b) = hW P := by rw [IntKind.wrap_i64]; unfold hW; omega
    have HE : Hid ((L : Int) = lW P) := by show _ = _; unfold lW; omega
    clear hn hn1 hn2 q1 q2 hx hy hx1 hy1 hp hP ha hb hH hL key
    generalize hW P + b = A1 at *
    generalize hW P = A2 at *
    go_enter Tryz.func109, Tryz.ntmps109
    go_wp2_with (go_at_call 99; refine (HM.out _).mono ?_; rintro e w' ⟨rfl, rfl⟩)
    exact bodyPost_ret (v := .agg #[.int .i64 A2, .int .u64 L]) (by simp [results, Tryz.results109, go_sem]) rfl ⟨by rw [HE.out], (Below.refl _ _).alloc (Nat.le_refl _) _⟩
  · have q1 : a % 18446744073709551616 = a := by omega
    have q2 : b % 18446744073709551616 = b + 18446744073709551616 := by omega
    have hn2 : (n : Int) = P + 18446744073709551616 * a := by rw [hn1, q1, q2, ← hP, Int.mul_add, Int.mul_comm a 18446744073709551616]
    have qa : decide (a < 0) = false := by simpa using h1
    obtain ⟨H, hH⟩ : ∃ H : Nat, n / 18446744073709551616 = H := ⟨_, rfl⟩
    obtain ⟨L, hL⟩ : ∃ H : Nat, n % 18446744073709551616 = H := ⟨_, rfl⟩
    rw [hH, hL] at HM
    have e0 : IntKind.i64.wrap (H : Int) = hW P + a := by rw [IntKind.wrap_i64]; unfold hW; omega
    have e1 : IntKind.i64.wrap (hW P + a - a) = hW P := by rw [IntKind.wrap_i64]; unfold hW; omega
    have HE : Hid ((L : Int) = lW P) := by show _ = _; unfold lW; omega
    clear hn hn1 hn2 q1 q2 hx hy hx1 hy1 hp hP ha hb hH hL key
    generalize hW P + a = A1 at *
    generalize hW P = A2 at *
    go_enter Tryz.func109, Tryz.ntmps109
    go_wp2_with (go_at_call 99; refine (HM.out _).mono ?_; rintro e w' ⟨rfl, rfl⟩)
    exact bodyPost_ret (v := .agg #[.int .i64 A2, .int .u64 L]) (by simp [results, Tryz.results109, go_sem]) rfl ⟨by rw [HE.out], (Below.refl _ _).alloc (Nat.le_refl _) _⟩
  · have q1 : a % 18446744073709551616 = a := by omega
    have q2 : b % 18446744073709551616 = b := by omega
    have hn2 : (n : Int) = P := by rw [hn1, q1, q2, hP]
    have qa : decide (a < 0) = false := by simpa using h1
    have qb : decide (b < 0) = false := by simpa using h2
    obtain ⟨H, hH⟩ : ∃ H : Nat, n / 18446744073709551616 = H := ⟨_, rfl⟩
    obtain ⟨L, hL⟩ : ∃ H : Nat, n % 18446744073709551616 = H := ⟨_, rfl⟩
    rw [hH, hL] at HM
    have e0 : IntKind.i64.wrap (H : Int) = hW P := by rw [IntKind.wrap_i64]; unfold hW; omega
    have HE : Hid ((L : Int) = lW P) := by show _ = _; unfold lW; omega
    clear hn hn1 hn2 q1 q2 hx hy hx1 hy1 hp hP ha hb hH hL key
    generalize hW P = A2 at *
    go_enter Tryz.func109, Tryz.ntmps109
    go_wp2_with (go_at_call 99; refine (HM.out _).mono ?_; rintro e w' ⟨rfl, rfl⟩)
    exact bodyPost_ret (v := .agg #[.int .i64 A2, .int .u64 L]) (by simp [results, Tryz.results109, go_sem]) rfl ⟨by rw [HE.out], (Below.refl _ _).alloc (Nat.le_refl _) _⟩
theorem sub64_run (x y c : Nat) (hc : c ≤ 1) (w : World) :
    (callFunc 126 #[.int .u64 x, .int .u64 y, .int .u64 c]).run Tryz.prog w =
      .ok (.value (.tuple #[.int .u64 (((x + 18446744073709551616 - y - c) % 18446744073709551616 : Nat) : Int), .int .u64 ((if x < y + c then 1 else 0 : Nat) : Int)])) w := by
  rw [run_callFunc_extern Tryz.func126 (by kernel_rfl) (by kernel_rfl) (by kernel_rfl) (e := sub64Entry) (by kernel_rfl), run_sub64 x y c hc]
  rfl
theorem wplus_in (A B : Int) (ha : -10633823966279326983230456482242756608 ≤ A ∧ A ≤ 10633823966279326983230456482242756608) (hb : -10633823966279326983230456482242756608 ≤ B ∧ B ≤ 10633823966279326983230456482242756608) (w : World) :
    Calls Tryz.prog 108 #[.agg #[.int .i64 (hW A), .int .u64 (lW A)], .agg #[.int .i64 (hW B), .int .u64 (lW B)]] w fun e w' => e = .returned (.agg #[.int .i64 (hW (A + B)), .int .u64 (lW (A + B))]) ∧ Below w.heap.size w w' := by
  obtain ⟨x, hx⟩ : ∃ x : Nat, (lW A).toNat = x := ⟨_, rfl⟩
  obtain ⟨y, hy⟩ : ∃ x : Nat, (lW B).toNat = x := ⟨_, rfl⟩
  have hx1 : lW A = (x : Int) := by unfold lW at *; omega
  have hy1 : lW B = (y : Int) := by unfold lW at *; omega
  rw [hx1, hy1]
  obtain ⟨c, hc⟩ : ∃ c, (x + y + 0) / 18446744073709551616 = c := ⟨_, rfl⟩
  obtain ⟨l, hl⟩ : ∃ c, (x + y + 0) % 18446744073709551616 = c := ⟨_, rfl⟩
  have A1 : ∀ w, (callFunc 100 #[.int .u64 x, .int .u64 y, .int .u64 0]).run Tryz.prog w = .ok (.value (.tuple #[.int .u64 (l : Nat), .int .u64 (c : Nat)])) w := fun w => by
    have := add64_run x y 0 (by omega) w
    rw [hc, hl] at this
    exact this
  have e0 : IntKind.i64.wrap (hW A + hW B) = hW A + hW B := by rw [IntKind.wrap_i64]; unfold hW; omega
  have e1 : IntKind.i64.wrap (c : Int) = c := by rw [IntKind.wrap_i64]; unfold lW at hx1 hy1; omega
  have e2 : IntKind.i64.wrap (hW A + hW B + c) = hW (A + B) := by rw [IntKind.wrap_i64]; unfold hW; unfold lW at hx1 hy1; omega
  have HL : Hid (lW (A + B) = (l : Int)) := by show _ = _; unfold lW at *; omega
  clear hx hy hx1 hy1 hc hl ha hb
  generalize hW (A + B) = h3 at *
  generalize hW A = h1 at *
  generalize hW B = h2 at *
  generalize lW (A + B) = l3 at *
  go_enter Tryz.func108, Tryz.ntmps108
  go_wp2
  exact bodyPost_ret (v := .agg #[.int .i64 h3, .int .u64 l]) (by simp [results, Tryz.results108, go_sem]) rfl ⟨by rw [HL.out], (((Below.refl _ _).alloc (Nat.le_refl _) _).alloc (by simp) _).alloc (by simp; omega) _⟩
theorem wminus_in (A B : Int) (ha : -10633823966279326983230456482242756608 ≤ A ∧ A ≤ 10633823966279326983230456482242756608) (hb : -10633823966279326983230456482242756608 ≤ B ∧ B ≤ 10633823966279326983230456482242756608) (w : World) :
    Calls Tryz.prog 110 #[.agg #[.int .i64 (hW A), .int .u64 (lW A)], .agg #[.int .i64 (hW B), .int .u64 (lW B)]] w fun e w' => e = .returned (.agg #[.int .i64 (hW (A - B)), .int .u64 (lW (A - B))]) ∧ Below w.heap.size w w' := by
  obtain ⟨x, hx⟩ : ∃ x : Nat, (lW A).toNat = x := ⟨_, rfl⟩
  obtain ⟨y, hy⟩ : ∃ x : Nat, (lW B).toNat = x := ⟨_, rfl⟩
  have hx1 : lW A = (x : Int) := by unfold lW at *; omega
  have hy1 : lW B = (y : Int) := by unfold lW at *; omega
  rw [hx1, hy1]
  obtain ⟨c, hc⟩ : ∃ c : Nat, (if x < y + 0 then 1 else 0) = c := ⟨_, rfl⟩
  obtain ⟨l, hl⟩ : ∃ c, (x + 18446744073709551616 - y - 0) % 18446744073709551616 = c := ⟨_, rfl⟩
  have A1 : ∀ w, (callFunc 126 #[.int .u64 x, .int .u64 y, .int .u64 0]).run Tryz.prog w = .ok (.value (.tuple #[.int .u64 (l : Nat), .int .u64 (c : Nat)])) w := fun w => by
    have := sub64_run x y 0 (by omega) w
    rw [hc, hl] at this
    exact this
  have hc2 : (x < y ∧ c = 1) ∨ (y ≤ x ∧ c = 0) := by split at hc <;> omega
  have e0 : IntKind.i64.wrap (hW A - hW B) = hW A - hW B := by rw [IntKind.wrap_i64]; unfold hW; omega
  have e1 : IntKind.i64.wrap (c : Int) = c := by rw [IntKind.wrap_i64]; omega
  have e2 : IntKind.i64.wrap (hW A - hW B - c) = hW (A - B) := by rw [IntKind.wrap_i64]; unfold hW; unfold lW at hx1 hy1; omega
  have HL : Hid (lW (A - B) = (l : Int)) := by show _ = _; unfold lW at *; omega
  clear hx hy hx1 hy1 hc hl ha hb hc2
  generalize hW (A - B) = h3 at *
  generalize hW A = h1 at *
  generalize hW B = h2 at *
  generalize lW (A - B) = l3 at *
  go_enter Tryz.func110, Tryz.ntmps110
  go_wp2
  exact bodyPost_ret (v := .agg #[.int .i64 h3, .int .u64 l]) (by simp [results, Tryz.results110, go_sem]) rfl ⟨by rw [HL.out], (((Below.refl _ _).alloc (Nat.le_refl _) _).alloc (by simp) _).alloc (by simp; omega) _⟩
theorem wshort_in (A : Int) (ha : -4611686018427387904 ≤ A ∧ A ≤ 4611686018427387904) (w : World) :
    Calls Tryz.prog 111 #[.agg #[.int .i64 (hW A), .int .u64 (lW A)]] w fun e w' => e = .returned (.tuple #[.int .i64 A, .bool true]) ∧ Below w.heap.size w w' := by
  have e1 : IntKind.i64.wrap (lW A) = A := by rw [IntKind.wrap_i64]; unfold lW; omega
  rcases (show A < 0 ∨ 0 ≤ A by omega) with h | h
  · have e2 : hW A = -1 := by unfold hW; omega
    rw [e2]
    have q1 : decide (A < 0) = true := by simpa using h
    clear ha e2
    generalize lW A = l at *
    go_enter Tryz.func111, Tryz.ntmps111
    go_wp2
    go_ret2
    exact ⟨rfl, (Below.refl _ _).alloc (Nat.le_refl _) _⟩
  · have e2 : hW A = 0 := by unfold hW; omega
    rw [e2]
    have q1 : decide (A < 0) = false := by simp; omega
    have q2 : decide (0 ≤ A) = true := by simpa using h
    clear ha e2
    generalize lW A = l at *
    go_enter Tryz.func111, Tryz.ntmps111
    go_wp2
    go_ret2
    exact ⟨rfl, (Below.refl _ _).alloc (Nat.le_refl _) _⟩
end Go.Proofs.YtjimcjhgjfhbiaaGreat
