/- Contracts of package queue's row: Len, Less. -/
import Derived.Test.YtbmhnadnomngnaaQM
import Derived.Sort.Row
namespace Go.Proofs.Ytbmhnadnomngnaa
open Go.RowKit Go.Lib
open Go.ChangeMaps (setBlock heap_setBlock_same heap_setBlock_other)

theorem wf_i64 {x : Int} (h0 : -9223372036854775808 ≤ x) (h1 : x ≤ 9223372036854775807) : (Lit.int .i64 x).wf = true := by
  unfold Lit.wf; rw [Bool.and_eq_true, decide_eq_true_eq, decide_eq_true_eq]; exact ⟨h0, h1⟩
abbrev Wt := Int × Int
def wg (L : List Wt) (i : Nat) : Wt := L.getD i (0, 0)
def wV (L : List Wt) : List Value := L.flatMap fun p => [.int .u64 p.1, .int .i64 p.2]
theorem wV_length (L : List Wt) : (wV L).length = L.length * 2 := by
  unfold wV; induction L with
  | nil => rfl
  | cons p l ih => simp [List.flatMap_cons] at ih ⊢; omega
theorem wV_get : ∀ (L : List Wt) (k : Nat), k < L.length → (wV L)[k * 2]? = some (.int .u64 (wg L k).1) ∧ (wV L)[k * 2 + 1]? = some (.int .i64 (wg L k).2)
  | [], k, h => by simp at h
  | p :: l, 0, _ => by simp [wV, wg]
  | p :: l, k + 1, h => by
    have ih := wV_get l k (by simpa using h)
    have e1 : (k + 1) * 2 = k * 2 + 1 + 1 := by omega
    have e2 : wV (p :: l) = .int .u64 p.1 :: .int .i64 p.2 :: wV l := rfl
    rw [e1, e2]
    simpa [wg] using ih
def WfW (p : Wt) : Prop := (Lit.int .u64 p.1).wf = true ∧ (Lit.int .i64 p.2).wf = true
/-- f tells of each ID where it stands. -/
def Places (f : Int → Option Int) (L : List Wt) : Prop := (∀ i, i < L.length → f (wg L i).1 = some (i : Int)) ∧ ∀ id, (∀ i, i < L.length → (wg L i).1 ≠ id) → f id = none
/-- In w, block r is a row: its slice has address vo and room c, its map is block b; it holds L. -/
def RowAt (w : World) (r b : Nat) (vo : Option Addr) (c : Nat) (L : List Wt) : Prop :=
  w.cell? ⟨r, 0, none⟩ = some (.slice vo L.length c) ∧ w.cell? ⟨r, 1, none⟩ = some (.map (some b)) ∧ (∀ j, w.frozen? ⟨r, j, none⟩ = false) ∧
  w.ownsRow 0 28 2 (.slice vo L.length c) L.length (wV L) ∧ (∀ g o s, vo = some ⟨g, o, s⟩ → g ≠ r) ∧ (∃ f, MapIs w b f L.length ∧ Places f L) ∧ (∀ p ∈ L, WfW p) ∧ L.length ≤ 1000000
theorem RowAt.lt {w : World} {r b c : Nat} {vo : Option Addr} {L : List Wt} (h : RowAt w r b vo c L) : r < w.heap.size := World.block_lt_of_cell? w _ h.1
/-- What a row's slice leads to. -/
theorem RowAt.cells {w : World} {r b c : Nat} {vo : Option Addr} {L : List Wt} (h : RowAt w r b vo c L) (h0 : 0 < L.length) :
    ∃ g, vo = some ⟨g, 0, none⟩ ∧ g < w.heap.size ∧ g ≠ r ∧ (∀ j, w.frozen? ⟨g, j, none⟩ = false) ∧ ∀ i, i < L.length → w.cell? ⟨g, i * 2, none⟩ = some (.int .u64 (wg L i).1) ∧ w.cell? ⟨g, i * 2 + 1, none⟩ = some (.int .i64 (wg L i).2) := by
  have ho := h.2.2.2.1
  rcases ho.2 with ⟨_, h1⟩ | ⟨g, cap, cur, hv, _, hh, _⟩
  · omega
  · cases hv
    refine ⟨g, rfl, (Array.getElem?_eq_some_iff.1 hh).1, h.2.2.2.2.1 _ _ _ rfl, fun j => by simp [World.frozen?, hh], fun i hi => ?_⟩
    have := wV_get L i hi
    exact ⟨(ho.cellAt (i * 2) (by omega)).trans this.1, (ho.cellAt (i * 2 + 1) (by omega)).trans this.2⟩

def lessW (a b : Wt) : Bool := if a.2 = b.2 then decide (a.1 < b.1) else decide (b.2 < a.2)
theorem less_any (a b : Wt) (w : World) : Calls Try.prog 11 #[.agg #[.int .u64 a.1, .int .i64 a.2], .agg #[.int .u64 b.1, .int .i64 b.2]] w fun e w' => e = .returned (.bool (lessW a b)) ∧ Below w.heap.size w w' := by
  obtain ⟨a1, a2⟩ := a
  obtain ⟨b1, b2⟩ := b
  have hb : Below w.heap.size w ((w.alloc (.cells #[.int .u64 a1, .int .i64 a2] 28)).alloc (.cells #[.int .u64 b1, .int .i64 b2] 28)) := ((Below.refl _ _).alloc (Nat.le_refl _) _).alloc (by simp) _
  by_cases e : a2 = b2
  · subst e
    have hl : Hid (lessW (a1, a2) (b1, a2) = decide (a1 < b1)) := by show _ = _; simp [lessW]
    go_enter Try.func11, Try.ntmps11
    go_wp2
    go_ret
    exact ⟨by rw [hl.out]; rfl, hb⟩
  · have hl : Hid (lessW (a1, a2) (b1, b2) = decide (b2 < a2)) := by show _ = _; simp [lessW, e]
    go_enter Try.func11, Try.ntmps11
    go_wp2
    go_ret
    exact ⟨by rw [hl.out]; rfl, hb⟩
theorem rlen_any {w : World} {r b c : Nat} {vo : Option Addr} {L : List Wt} (h : RowAt w r b vo c L) : Calls Try.prog 65 #[.pointer (some ⟨r, 0, none⟩)] w fun e w' => e = .returned (.int .i64 L.length) ∧ w = w' := by
  have h0 := h.1
  have hr := h.lt
  clear h
  go_enter Try.func65, Try.ntmps65
  go_wp2
  go_ret
  exact ⟨rfl, rfl⟩
set_option maxRecDepth 100000 in
set_option maxHeartbeats 1000000 in
theorem rless_any {w : World} {r b c : Nat} {vo : Option Addr} {L : List Wt} (h : RowAt w r b vo c L) {i k : Nat} (hi : i < L.length) (hk : k < L.length) :
    Calls Try.prog 66 #[.pointer (some ⟨r, 0, none⟩), .int .i64 i, .int .i64 k] w fun e w' => e = .returned (.bool (lessW (wg L i) (wg L k))) ∧ Below w.heap.size w w' := by
  have h0 := h.1
  have hr := h.lt
  obtain ⟨g, rfl, hg, hgr, _, hc⟩ := h.cells (by omega)
  obtain ⟨i0, i1⟩ := hc i hi
  obtain ⟨k0, k1⟩ := hc k hk
  have HL := Lib.hid (less_any (wg L i) (wg L k))
  generalize wg L i = x at i0 i1 HL
  generalize wg L k = y at k0 k1 HL
  obtain ⟨n, hn⟩ : ∃ n, L.length = n := ⟨_, rfl⟩
  rw [hn] at h0 hi hk
  clear h hc hn
  go_enter Try.func66, Try.ntmps66
  go_wp2_with (first | (with_reducible refine wp_region_lex (by kernel_rfl) (by kernel_rfl) ?_) | (with_reducible refine OnlyG.intro (by kernel_rfl) ?_) | (go_at_call 11; refine (HL.out _).mono ?_; rintro e w' ⟨rfl, hb⟩))
  go_ret
  exact ⟨rfl, ((Below.refl _ w).drew).trans hb⟩
/-- Nothing has turned but what lies in the blocks of S, and what is new. -/
def Turn (S : Nat → Prop) (w w' : World) : Prop := w'.os = w.os ∧ w'.tape = w.tape ∧ w'.output = w.output ∧ w.heap.size ≤ w'.heap.size ∧ ∀ k, k < w.heap.size → ¬ S k → w'.heap[k]? = w.heap[k]?
theorem Turn.refl (S : Nat → Prop) (w : World) : Turn S w w := ⟨rfl, rfl, rfl, Nat.le_refl _, fun _ _ _ => rfl⟩
theorem Turn.of_below {S : Nat → Prop} {w w' : World} (h : Below w.heap.size w w') : Turn S w w' := ⟨h.os, h.tape, h.output, h.size, fun k hk _ => h.block k hk⟩
theorem Turn.trans {S T : Nat → Prop} {w w1 w2 : World} (h : Turn S w w1) (h2 : Turn T w1 w2) (hT : ∀ k, k < w.heap.size → T k → S k) : Turn S w w2 :=
  ⟨h2.1.trans h.1, h2.2.1.trans h.2.1, h2.2.2.1.trans h.2.2.1, Nat.le_trans h.2.2.2.1 h2.2.2.2.1, fun k hk hs => (h2.2.2.2.2 k (Nat.lt_of_lt_of_le hk h.2.2.2.1) (fun ht => hs (hT k hk ht))).trans (h.2.2.2.2 k hk hs)⟩
theorem Turn.below {S : Nat → Prop} {w w' : World} {B : Nat} (h : Turn S w w') (hB : B ≤ w.heap.size) (hS : ∀ k, k < B → ¬ S k) : Below B w w' := ⟨h.1, h.2.1, h.2.2.1, h.2.2.2.1, fun k hk => h.2.2.2.2 k (Nat.lt_of_lt_of_le hk hB) (hS k hk)⟩
theorem Turn.drew {S : Nat → Prop} {w w' : World} (h : Turn S w w') : Turn S w w'.drew := ⟨h.1, h.2.1, h.2.2.1, h.2.2.2.1, h.2.2.2.2⟩
theorem Turn.setCell {S : Nat → Prop} {w w' : World} (h : Turn S w w') {a : Addr} (ha : S a.block) (u : Value) : Turn S w (w'.setCell a u) :=
  ⟨h.1, h.2.1, h.2.2.1, by simpa using h.2.2.2.1, fun k hk hs => (Below.heap_setCell _ _ _ _ (fun e => hs (by rw [e]; exact ha))).trans (h.2.2.2.2 k hk hs)⟩
theorem Turn.map {S : Nat → Prop} {w w' w2 : World} {b : Nat} (h : Turn S w w') (hb : S b) (ht : w'.mapTurned w2 b) : Turn S w w2 := by
  have hg := ht.grown
  exact ⟨hg.os.trans h.1, hg.tape.trans h.2.1, hg.output.trans h.2.2.1, Nat.le_trans h.2.2.2.1 hg.size, fun k hk hs => (hg.block k (Nat.lt_of_lt_of_le hk h.2.2.2.1) (fun e => hs (by cases e; exact hb))).trans (h.2.2.2.2 k hk hs)⟩
theorem Turn.cell {S : Nat → Prop} {w w' : World} (h : Turn S w w') {p : Addr} (hp : p.block < w.heap.size) (hs : ¬ S p.block) : w'.cell? p = w.cell? p := World.cell?_of_block (h.2.2.2.2 _ hp hs)
theorem _root_.Go.World.mapTurned.heap_other {w w' : World} {b x : Nat} (h : w.mapTurned w' b) (hx : x ≠ b) : w'.heap[x]? = w.heap[x]? := by
  obtain ⟨es, clock, es', clock', hb, rfl⟩ := h
  exact heap_setBlock_other hb _ hx
/-- What a row's calls may write: its own block, its map, its slice's row. -/
def Foot (r b : Nat) (vo : Option Addr) : Nat → Prop := fun k => k = r ∨ k = b ∨ ∃ o s, vo = some ⟨k, o, s⟩
theorem RowAt.kept {S : Nat → Prop} {w w' : World} {r b c : Nat} {vo : Option Addr} {L : List Wt} (h : RowAt w r b vo c L) (ht : Turn S w w') (hS : ∀ k, Foot r b vo k → ¬ S k) : RowAt w' r b vo c L := by
  have hr := h.lt
  obtain ⟨h0, h1, h2, h3, h4, ⟨f, h5, h6⟩, h7⟩ := h
  have e : w'.heap[r]? = w.heap[r]? := ht.2.2.2.2 r hr (hS r (.inl rfl))
  refine ⟨(World.cell?_of_block e).trans h0, (World.cell?_of_block e).trans h1, fun j => (World.frozen?_of_block (a := ⟨r, j, none⟩) e).trans (h2 j), ?_, h4, ⟨f, h5.heap (ht.2.2.2.2 b h5.lt (hS b (.inr (.inl rfl)))), h6⟩, h7⟩
  refine ⟨h3.1, ?_⟩
  rcases h3.2 with h | ⟨g, cap, cur, hv, hb, hh, h⟩
  · exact .inl h
  · refine .inr ⟨g, cap, cur, hv, hb, ?_, h⟩
    rw [ht.2.2.2.2 g (Array.getElem?_eq_some_iff.1 hh).1 (hS g (.inr (.inr ⟨0, none, by cases hv; rfl⟩)))]
    exact hh
theorem RowAt.below {w w' : World} {r b c : Nat} {vo : Option Addr} {L : List Wt} (h : RowAt w r b vo c L) (hb : Below w.heap.size w w') : RowAt w' r b vo c L := h.kept (S := fun _ => False) (Turn.of_below hb) fun _ _ h => h

theorem own_set {w : World} {base n cap size g : Nat} {e : TypeId} {xs : List Value} (h : w.ownsRow base e size (.slice (some ⟨g, 0, none⟩) n cap) n xs) (j : Nat) (u : Value) :
    (w.setCell ⟨g, j, none⟩ u).ownsRow base e size (.slice (some ⟨g, 0, none⟩) n cap) n (xs.set j u) := by
  rcases h.2 with ⟨h0, _⟩ | ⟨g', cap', cur, hv, hb, hh, h1, h2, h3, h4⟩
  · cases h0
  · cases hv
    refine ⟨by simpa using h.1, .inr ⟨g, cap, cur.setIfInBounds j u, rfl, hb, ?_, h1, h2, by simpa using h3, ?_⟩⟩
    · rw [Sort.setCell_eq]
      simp [Sort.mapBlock, Array.getElem?_modify, hh, Sort.onCells]
    · rw [Array.toList_setIfInBounds, List.take_set, h4]
theorem wV_set : ∀ (L : List Wt) (i : Nat) (p : Wt), wV (L.set i p) = ((wV L).set (i * 2) (.int .u64 p.1)).set (i * 2 + 1) (.int .i64 p.2)
  | [], i, p => by simp [wV]
  | q :: l, 0, p => rfl
  | q :: l, i + 1, p => by
    have e1 : (i + 1) * 2 = i * 2 + 1 + 1 := by omega
    have e2 : wV ((q :: l).set (i + 1) p) = .int .u64 q.1 :: .int .i64 q.2 :: wV (l.set i p) := rfl
    have e3 : wV (q :: l) = .int .u64 q.1 :: .int .i64 q.2 :: wV l := rfl
    rw [e2, e3, e1, List.set_cons_succ, List.set_cons_succ, List.set_cons_succ, List.set_cons_succ, wV_set l i p]
def swapL (L : List Wt) (i k : Nat) : List Wt := (L.set i (wg L k)).set k (wg L i)
theorem swapL_length (L : List Wt) (i k : Nat) : (swapL L i k).length = L.length := by simp [swapL]
theorem wg_set {L : List Wt} {i : Nat} (hi : i < L.length) (p : Wt) (j : Nat) : wg (L.set i p) j = if j = i then p else wg L j := by
  unfold wg
  rw [List.getD_eq_getElem?_getD, List.getElem?_set, List.getD_eq_getElem?_getD]
  by_cases e : i = j
  · subst e; simp [hi]
  · rw [if_neg e, if_neg (fun h => e h.symm)]
theorem wg_swap {L : List Wt} {i k : Nat} (hi : i < L.length) (hk : k < L.length) (j : Nat) : wg (swapL L i k) j = if j = k then wg L i else if j = i then wg L k else wg L j := by
  unfold swapL
  rw [wg_set (by simpa using hk), wg_set hi]
theorem wg_mem {L : List Wt} {i : Nat} (hi : i < L.length) : wg L i ∈ L := by
  unfold wg; rw [List.getD_eq_getElem?_getD, List.getElem?_eq_getElem hi, Option.getD_some]; exact List.getElem_mem hi
theorem mem_wg {L : List Wt} {p : Wt} (h : p ∈ L) : ∃ i, i < L.length ∧ wg L i = p := by
  obtain ⟨i, hi, rfl⟩ := List.getElem_of_mem h
  exact ⟨i, hi, by unfold wg; rw [List.getD_eq_getElem?_getD, List.getElem?_eq_getElem hi, Option.getD_some]⟩
theorem Places.inj {f : Int → Option Int} {L : List Wt} (h : Places f L) {i j : Nat} (hi : i < L.length) (hj : j < L.length) (e : (wg L i).1 = (wg L j).1) : i = j := by
  have h1 := h.1 i hi
  have h2 := h.1 j hj
  rw [e, h2] at h1
  simp at h1
  omega
theorem Places.swap {f : Int → Option Int} {L : List Wt} (h : Places f L) {i k : Nat} (hi : i < L.length) (hk : k < L.length) :
    Places (upd (upd f (wg L k).1 (some i)) (wg L i).1 (some k)) (swapL L i k) := by
  refine ⟨fun j hj => ?_, fun id hid => ?_⟩
  · rw [swapL_length] at hj
    rw [wg_swap hi hk]
    unfold upd
    by_cases e1 : j = k
    · subst e1; rw [if_pos rfl, if_pos rfl]
    · rw [if_neg e1]
      by_cases e2 : j = i
      · subst e2
        rw [if_pos rfl, if_neg (fun h2 => e1 (h.inj hi hk h2.symm)), if_pos rfl]
      · rw [if_neg e2, if_neg (fun h2 => e2 (h.inj hj hi h2)), if_neg (fun h2 => e1 (h.inj hj hk h2))]
        exact h.1 j hj
  · have g1 : id ≠ (wg L i).1 := fun e => hid k (by rw [swapL_length]; exact hk) (by rw [wg_swap hi hk, if_pos rfl]; exact e.symm)
    have g2 : id ≠ (wg L k).1 := fun e => by
      by_cases e3 : i = k
      · subst e3; exact g1 e
      · exact hid i (by rw [swapL_length]; exact hi) (by rw [wg_swap hi hk, if_neg e3, if_pos rfl]; exact e.symm)
    unfold upd
    rw [if_neg g1, if_neg g2]
    refine h.2 id fun j hj e => ?_
    by_cases e1 : j = k
    · subst e1; exact g2 e.symm
    · by_cases e2 : j = i
      · subst e2; exact g1 e.symm
      · exact hid j (by rw [swapL_length]; exact hj) (by rw [wg_swap hi hk, if_neg e1, if_neg e2]; exact e)

def W4 (w : World) (g i k : Nat) (x y : Wt) : World :=
  (((w.setCell ⟨g, i * 2, none⟩ (.int .u64 y.1)).setCell ⟨g, i * 2 + 1, none⟩ (.int .i64 y.2)).setCell ⟨g, k * 2, none⟩ (.int .u64 x.1)).setCell ⟨g, k * 2 + 1, none⟩ (.int .i64 x.2)
theorem own_w4 {w : World} {g c : Nat} {L : List Wt} {i k : Nat} (h : w.ownsRow 0 28 2 (.slice (some ⟨g, 0, none⟩) L.length c) L.length (wV L)) :
    (W4 w g i k (wg L i) (wg L k)).ownsRow 0 28 2 (.slice (some ⟨g, 0, none⟩) (swapL L i k).length c) (swapL L i k).length (wV (swapL L i k)) := by
  rw [swapL_length]
  unfold swapL
  rw [wV_set, wV_set]
  exact own_set (own_set (own_set (own_set h _ _) _ _) _ _) _ _
theorem turn_w4 {S : Nat → Prop} {w : World} {g i k : Nat} {x y : Wt} (hg : S g) : Turn S w (W4 w g i k x y) := ((((Turn.refl S w).setCell hg _).setCell hg _).setCell hg _).setCell hg _
theorem cell_w4 {w : World} {g i k : Nat} {x y : Wt} {p : Addr} (hp : p.block ≠ g) : (W4 w g i k x y).cell? p = w.cell? p := by
  have h : ∀ (X : World) (j : Nat) (u : Value), (X.setCell ⟨g, j, none⟩ u).cell? p = X.cell? p := fun X j u => World.cell?_of_block (Below.heap_setCell _ _ _ _ hp)
  unfold W4
  rw [h, h, h, h]
set_option maxRecDepth 100000 in
set_option maxHeartbeats 1000000 in
theorem rswap_any {w : World} {r b c : Nat} {vo : Option Addr} {L : List Wt} (h : RowAt w r b vo c L) {i k : Nat} (hi : i < L.length) (hk : k < L.length) :
    Calls Try.prog 69 #[.pointer (some ⟨r, 0, none⟩), .int .i64 i, .int .i64 k] w fun e w' => e = .returned (.tuple #[]) ∧ RowAt w' r b vo c (swapL L i k) ∧ Turn (Foot r b vo) w w' := by
  have h0 := h.1
  have hr := h.lt
  obtain ⟨g, rfl, hg, hgr, hf, hc⟩ := h.cells (by omega)
  obtain ⟨i0, i1⟩ := hc i hi
  obtain ⟨k0, k1⟩ := hc k hk
  have fi0 := hf (i * 2)
  have fi1 := hf (i * 2 + 1)
  have fk0 := hf (k * 2)
  have fk1 := hf (k * 2 + 1)
  obtain ⟨f, hmap, hpl⟩ := h.2.2.2.2.2.1
  have hb := hmap.lt
  have hlen := h.2.2.2.2.2.2.2
  have hbg : b ≠ g := fun e => by
    rcases h.2.2.2.1.2 with ⟨h1, _⟩ | ⟨g', cap, cur, hv, _, hh, _⟩
    · cases h1
    · cases hv; rw [← e] at hh; exact hmap.notCells hh
  have hwi := (h.2.2.2.2.2.2.1 _ (wg_mem hi)).1
  have hwk := (h.2.2.2.2.2.2.1 _ (wg_mem hk)).1
  obtain ⟨w1, hw1⟩ : ∃ W, W4 w g i k (wg L i) (wg L k) = W := ⟨_, rfl⟩
  -- the world behind the first statement
  have hT1 : Turn (Foot r b (some ⟨g, 0, none⟩)) w w1 := by rw [← hw1]; exact turn_w4 (.inr (.inr ⟨0, none, rfl⟩))
  have hO1 := own_w4 (i := i) (k := k) h.2.2.2.1
  rw [hw1, swapL_length] at hO1
  have hm1 : MapIs w1.drew.drew b f L.length := by
    have : w1.heap[b]? = w.heap[b]? := by
      rw [← hw1]
      exact (Below.heap_setCell _ _ _ _ hbg).trans ((Below.heap_setCell _ _ _ _ hbg).trans ((Below.heap_setCell _ _ _ _ hbg).trans (Below.heap_setCell _ _ _ _ hbg)))
    exact hmap.heap this
  have c0 : w1.drew.cell? ⟨r, 0, none⟩ = some (.slice (some ⟨g, 0, none⟩) L.length c) := by
    have : w1.cell? ⟨r, 0, none⟩ = w.cell? ⟨r, 0, none⟩ := by rw [← hw1]; exact cell_w4 (fun e => hgr e.symm)
    exact this.trans h0
  have c1 : w1.drew.cell? ⟨r, 1, none⟩ = some (.map (some b)) := by
    have : w1.cell? ⟨r, 1, none⟩ = w.cell? ⟨r, 1, none⟩ := by rw [← hw1]; exact cell_w4 (fun e => hgr e.symm)
    exact this.trans h.2.1
  have hi' : i < (swapL L i k).length := by rw [swapL_length]; exact hi
  have hk' : k < (swapL L i k).length := by rw [swapL_length]; exact hk
  have n0 : w1.drew.cell? ⟨g, i * 2, none⟩ = some (.int .u64 (wg L k).1) := by
    have e : w1.cell? ⟨g, i * 2, none⟩ = _ := hO1.cellAt (i * 2) (by omega)
    have e2 : (wg (swapL L i k) i) = wg L k := by rw [wg_swap hi hk]; by_cases e : i = k <;> simp [e]
    exact e.trans ((wV_get _ i hi').1.trans (by rw [e2]))
  have n1 : w1.drew.cell? ⟨g, k * 2, none⟩ = some (.int .u64 (wg L i).1) := by
    have e : w1.cell? ⟨g, k * 2, none⟩ = _ := hO1.cellAt (k * 2) (by omega)
    have e2 : (wg (swapL L i k) k) = wg L i := by rw [wg_swap hi hk]; simp
    exact e.trans ((wV_get _ k hk').1.trans (by rw [e2]))
  have hi64 : (Lit.int .i64 (i : Int)).wf = true := wf_i64 (by omega) (by omega)
  have hk64 : (Lit.int .i64 (k : Int)).wf = true := wf_i64 (by omega) (by omega)
  obtain ⟨v1, s1, q1, hst1⟩ := hm1.entry (by unfold maxLen; omega) hwk (by rw [hpl.1 k hk]; rfl)
  obtain ⟨w2, q2, hm2, ht2⟩ := hst1 i hi64
  obtain ⟨v2, s2, q3, hst2⟩ := hm2.entry (by unfold maxLen; omega) hwi (by unfold upd; rw [hpl.1 i hi]; split <;> rfl)
  obtain ⟨w3, q4, hm3, ht3⟩ := hst2 k hk64
  have hT3 : Turn (Foot r b (some ⟨g, 0, none⟩)) w w3 := ((hT1.drew.drew).map (.inr (.inl rfl)) ht2).map (.inr (.inl rfl)) ht3
  have hkeep : ∀ x, x ≠ b → w3.heap[x]? = w1.heap[x]? := fun x hx => by
    rw [ht3.heap_other hx, ht2.heap_other hx]
    rfl
  have er : w3.heap[r]? = w.heap[r]? := by
    have e1 : w1.heap[r]? = w.heap[r]? := by
      rw [← hw1]
      have hne : r ≠ g := fun e => hgr e.symm
      exact (Below.heap_setCell _ _ _ _ hne).trans ((Below.heap_setCell _ _ _ _ hne).trans ((Below.heap_setCell _ _ _ _ hne).trans (Below.heap_setCell _ _ _ _ hne)))
    have hrb : r ≠ b := fun e => by
      subst e
      have h9 := h0
      obtain ⟨D, ⟨es, clock, h10, _⟩, _⟩ := hmap
      simp [World.cell?, h10] at h9
    rw [hkeep r hrb, e1]
  have HF : Hid (RowAt w3 r b (some ⟨g, 0, none⟩) c (swapL L i k)) := by
    refine ⟨?_, (World.cell?_of_block er).trans h.2.1, fun j => (World.frozen?_of_block (a := ⟨r, j, none⟩) er).trans (h.2.2.1 j), ?_, h.2.2.2.2.1, ⟨_, ?_, hpl.swap hi hk⟩, fun p hp => ?_, by rw [swapL_length]; exact hlen⟩
    · rw [swapL_length]; exact (World.cell?_of_block er).trans h0
    · rw [swapL_length]
      refine ⟨hO1.1, ?_⟩
      rcases hO1.2 with hh | ⟨g', cap, cur, hv, hb', hh, hx⟩
      · exact .inl hh
      · refine .inr ⟨g', cap, cur, hv, hb', ?_, hx⟩
        cases hv
        rw [hkeep g (fun e => hbg e.symm)]
        exact hh
    · rw [swapL_length]; exact hm3
    · obtain ⟨j, hj, rfl⟩ := mem_wg hp
      rw [swapL_length] at hj
      rw [wg_swap hi hk]
      split
      · exact h.2.2.2.2.2.2.1 _ (wg_mem hi)
      · split
        · exact h.2.2.2.2.2.2.1 _ (wg_mem hk)
        · exact h.2.2.2.2.2.2.1 _ (wg_mem hj)
  have HT := Lib.hid hT3
  have hgw : g < w1.heap.size := by have := hT1.2.2.2.1; omega
  have hrw : r < w1.heap.size := by have := hT1.2.2.2.1; omega
  have HW1 := Lib.hid hw1
  obtain ⟨n, hn⟩ : ∃ n, L.length = n := ⟨_, rfl⟩
  rw [hn] at h0 c0 hi hk
  clear h hc hn hf hmap hpl hT1 hO1 hm1 hm2 hm3 hT3 hkeep er hst1 hst2 ht2 ht3 hwi hwk hw1 hi' hk' hi64 hk64 hlen hb
  by_cases e : i = k
  · subst e
    clear k0 k1 fk0 fk1 n1 hk
    generalize wg L i = x at i0 i1 n0 q1 q2 q3 q4 HW1
    go_enter Try.func69, Try.ntmps69
    go_upto_region 1 with (first | (with_reducible refine wp_region_lex (by kernel_rfl) (by kernel_rfl) ?_) | (with_reducible refine OnlyG.intro (by kernel_rfl) ?_))
    have HW2 := HW1.out
    unfold W4 at HW2
    rw [HW2]
    clear HW2 HW1
    go_wp2_with (first | (with_reducible refine wp_region_lex (by kernel_rfl) (by kernel_rfl) ?_) | (with_reducible refine OnlyG.intro (by kernel_rfl) ?_))
    go_end0
    exact ⟨rfl, HF.out, HT.out⟩
  · have e1 : ¬ k = i := fun h => e h.symm
    generalize wg L i = x at i0 i1 n1 q3 q4 HW1
    generalize wg L k = y at k0 k1 n0 q1 q2 HW1
    go_enter Try.func69, Try.ntmps69
    go_upto_region 1 with (first | (with_reducible refine wp_region_lex (by kernel_rfl) (by kernel_rfl) ?_) | (with_reducible refine OnlyG.intro (by kernel_rfl) ?_))
    have HW2 := HW1.out
    unfold W4 at HW2
    rw [HW2]
    clear HW2 HW1
    go_wp2_with (first | (with_reducible refine wp_region_lex (by kernel_rfl) (by kernel_rfl) ?_) | (with_reducible refine OnlyG.intro (by kernel_rfl) ?_))
    go_end0
    exact ⟨rfl, HF.out, HT.out⟩
end Go.Proofs.Ytbmhnadnomngnaa
