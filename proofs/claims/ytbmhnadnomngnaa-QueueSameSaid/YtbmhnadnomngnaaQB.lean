/- Contracts of package queue's row: Push, Pop. -/
import Derived.Test.YtbmhnadnomngnaaQA
import Derived.Deep.RegionLaw
import Derived.Deep.AppendLies
namespace Go.Proofs.Ytbmhnadnomngnaa
open Go.RowKit Go.Lib
open Go.ChangeMaps (setBlock heap_setBlock_same heap_setBlock_other)

def aggW (x : Wt) : Value := .agg #[.int .u64 x.1, .int .i64 x.2]
theorem info_w : (Try.prog.info? 28).map (fun i => (i.zero, i.size, i.bytes)) = some (some (.agg #[.int .u64 0, .int .i64 0]), 2, 16) := by kernel_rfl
theorem Places.push {f : Int → Option Int} {L : List Wt} (h : Places f L) {x : Wt} (hx : f x.1 = none) : Places (upd f x.1 (some (L.length : Int))) (L ++ [x]) := by
  have hne : ∀ i, i < L.length → (wg L i).1 ≠ x.1 := fun i hi e => by have := h.1 i hi; rw [e, hx] at this; cases this
  have h1 : ∀ i, i < L.length → wg (L ++ [x]) i = wg L i := fun i hi => by
    unfold wg; rw [List.getD_eq_getElem?_getD, List.getElem?_append_left hi, List.getD_eq_getElem?_getD]
  have h2 : wg (L ++ [x]) L.length = x := by
    unfold wg; rw [List.getD_eq_getElem?_getD, List.getElem?_append_right (Nat.le_refl _)]; simp
  refine ⟨fun i hi => ?_, fun id hid => ?_⟩
  · unfold upd
    by_cases e : i = L.length
    · subst e; rw [h2, if_pos rfl]
    · have hi' : i < L.length := by simp at hi; omega
      rw [h1 i hi', if_neg (hne i hi')]
      exact h.1 i hi'
  · have g1 : id ≠ x.1 := fun e => hid L.length (by simp) (by rw [h2]; exact e.symm)
    unfold upd
    rw [if_neg g1]
    exact h.2 id fun i hi => by have := hid i (by simp; omega); rwa [h1 i hi] at this
theorem wf_snoc {L : List Wt} (h : ∀ p ∈ L, WfW p) {x : Wt} (hx : WfW x) : ∀ p ∈ L ++ [x], WfW p := fun p hp => by
  rcases List.mem_append.1 hp with h1 | h1
  · exact h p h1
  · rw [List.mem_singleton.1 h1]; exact hx
theorem wV_snoc (L : List Wt) (x : Wt) : wV (L ++ [x]) = wV L ++ [.int .u64 x.1, .int .i64 x.2] := by simp [wV]
theorem wV_cell (L : List Wt) : ∀ u ∈ wV L, u.oneCell' = true := fun u hu => by
  obtain ⟨p, _, hu⟩ := List.mem_flatMap.1 hu
  simp at hu
  rcases hu with rfl | rfl <;> rfl
theorem RowAt.apart {w : World} {r b c : Nat} {vo : Option Addr} {L : List Wt} (h : RowAt w r b vo c L) : r ≠ b ∧ ∀ g o s, vo = some ⟨g, o, s⟩ → g ≠ b ∧ g < w.heap.size := by
  obtain ⟨h0, _, _, h3, _, ⟨f, hmap, _⟩, _⟩ := h
  refine ⟨fun e => ?_, fun g o s e => ?_⟩
  · subst e
    obtain ⟨D, ⟨es, clock, h10, _⟩, _⟩ := hmap
    simp [World.cell?, h10] at h0
  · rcases h3.2 with ⟨h1, _⟩ | ⟨g', cap, cur, hv, _, hh, _⟩
    · simp only [Value.slice.injEq] at h1; rw [h1.1] at e; cases e
    · cases hv; cases e
      exact ⟨fun e => by subst e; exact hmap.notCells hh, (Array.getElem?_eq_some_iff.1 hh).1⟩
theorem Turn.grown {S : Nat → Prop} {w w1 w2 : World} (h : Turn S w w1) {row : Option Nat} (hg : w1.grownBy w2 row) (hr : ∀ k, row = some k → k < w.heap.size → S k) : Turn S w w2 :=
  ⟨hg.os.trans h.1, hg.tape.trans h.2.1, hg.output.trans h.2.2.1, Nat.le_trans h.2.2.2.1 hg.size, fun k hk hs => (hg.block k (Nat.lt_of_lt_of_le hk h.2.2.2.1) (fun e => hs (hr k e.symm hk))).trans (h.2.2.2.2 k hk hs)⟩
theorem Turn.alloc {S : Nat → Prop} {w w1 : World} (h : Turn S w w1) (o : Obj) : Turn S w (w1.alloc o) :=
  h.trans (T := S) (Turn.of_below ((Below.refl _ _).alloc (Nat.le_refl _) _)) fun _ _ h => h
theorem own_ne_r {w : World} {r b c : Nat} {vo : Option Addr} {L : List Wt} (h : RowAt w r b vo c L) (n : Nat) : some r ≠ Value.ownBlock (.slice vo n c) := fun e => by
  cases vo with
  | none => cases e
  | some a =>
    obtain ⟨g, o, s⟩ := a
    simp only [Value.ownBlock, Option.some.injEq] at e
    exact h.2.2.2.2.1 g o s rfl e.symm
theorem own_foot {r b n c : Nat} {vo : Option Addr} {k : Nat} (h : Value.ownBlock (.slice vo n c) = some k) : Foot r b vo k := by
  cases vo with
  | none => cases h
  | some a =>
    obtain ⟨g, o, s⟩ := a
    simp only [Value.ownBlock, Option.some.injEq] at h
    exact .inr (.inr ⟨o, s, by rw [h]⟩)
theorem push_fin {w w2 w3 : World} {r b c g cap : Nat} {vo : Option Addr} {L : List Wt} (h : RowAt w r b vo c L) {x : Wt} (hwx : WfW x) (hlen : L.length < 1000000) {f : Int → Option Int} (hpl : Places f L) (hfx : f x.1 = none)
    (hT : Turn (Foot r b vo) w w2) (hm : MapIs w2 b (upd f x.1 (some (L.length : Int))) (if (f x.1).isSome then L.length else L.length + 1)) (er : w2.heap[r]? = w.heap[r]?) {o : Obj}
    (hown : w3.ownsRow 0 28 2 (.slice (some ⟨g, 0, none⟩) (L.length + 1) cap) (L.length + 1) (wV L ++ [.int .u64 x.1, .int .i64 x.2]))
    (hg : (w2.alloc o).drew.grownBy w3 (Value.ownBlock (.slice vo L.length c))) (hat : Value.ownBlock (.slice vo L.length c) = some g ∨ g = (w2.alloc o).drew.heap.size) :
    RowAt (w3.setCell ⟨r, 0, none⟩ (.slice (some ⟨g, 0, none⟩) (L.length + 1) cap)) r b (some ⟨g, 0, none⟩) cap (L ++ [x]) ∧ (∀ g' o s, (some ⟨g, 0, none⟩ : Option Addr) = some ⟨g', o, s⟩ → g' < w.heap.size → Foot r b vo g') ∧
      Turn (Foot r b vo) w (w3.setCell ⟨r, 0, none⟩ (.slice (some ⟨g, 0, none⟩) (L.length + 1) cap)) := by
  have hr := h.lt
  obtain ⟨hrb, hgb⟩ := h.apart
  have hsz := hT.2.2.2.1
  have hal : (w2.alloc o).drew.heap.size = w2.heap.size + 1 := World.size_alloc w2 o
  have er3 : w3.heap[r]? = w.heap[r]? := by
    rw [hg.block r (by omega) (own_ne_r h _)]
    exact (Below.heap_alloc _ _ _ (Nat.lt_of_lt_of_le hr hsz)).trans er
  have hbl : b < w2.heap.size := hm.lt
  have hnb : some b ≠ Value.ownBlock (.slice vo L.length c) := fun e => by
    cases vo with
    | none => cases e
    | some a =>
      obtain ⟨g', o, s⟩ := a
      simp only [Value.ownBlock, Option.some.injEq] at e
      exact (hgb g' o s rfl).1 e.symm
  have eb3 : w3.heap[b]? = w2.heap[b]? := by
    rw [hg.block b (by omega) hnb]
    exact Below.heap_alloc _ _ _ hbl
  have hgr : g ≠ r := fun e => by
    subst e
    rcases hat with e1 | e1
    · exact own_ne_r h _ e1.symm
    · omega
  have hl : (L ++ [x]).length = L.length + 1 := by simp
  have c3 : w3.cell? ⟨r, 0, none⟩ = some (.slice vo L.length c) := (World.cell?_of_block (w := w) (a := ⟨r, 0, none⟩) er3).trans h.1
  refine ⟨⟨?_, ?_, fun j => ?_, ?_, fun g' o' s' e => by cases e; exact hgr, ⟨_, ?_, hpl.push hfx⟩, wf_snoc h.2.2.2.2.2.2.1 hwx, by omega⟩, fun g' o' s' e hlt => ?_, ?_⟩
  · rw [hl]; exact World.cell?_setCell_same _ _ _ c3
  · rw [World.cell?_setCell_other _ _ _ _ (by simp)]
    exact (World.cell?_of_block (w := w) (a := ⟨r, 1, none⟩) er3).trans h.2.1
  · rw [World.frozen?_setCell]
    exact (World.frozen?_of_block (w := w) (a := ⟨r, j, none⟩) er3).trans (h.2.2.1 j)
  · rw [hl, wV_snoc]
    exact ownsRow_setCell_other hown (by simpa [Value.ownBlock] using hgr) _
  · rw [hl]
    rw [hfx] at hm
    exact hm.heap ((Below.heap_setCell _ _ _ _ (fun e => hrb e.symm)).trans eb3)
  · cases e
    rcases hat with e1 | e1
    · exact own_foot e1
    · omega
  · exact (((hT.alloc o).drew).grown hg (fun k hk _ => own_foot hk)).setCell (.inl rfl) _
set_option maxRecDepth 100000 in
set_option maxHeartbeats 1000000 in
theorem rpush_any {w : World} {r b c : Nat} {vo : Option Addr} {L : List Wt} (h : RowAt w r b vo c L) (x : Wt) (hwx : WfW x) (hnew : ∀ p ∈ L, p.1 ≠ x.1) (hlen : L.length < 1000000) :
    Calls Try.prog 68 #[.pointer (some ⟨r, 0, none⟩), .iface 28 (aggW x)] w fun e w' => e = .returned (.tuple #[]) ∧ (∃ vo' c', RowAt w' r b vo' c' (L ++ [x]) ∧ ∀ g o s, vo' = some ⟨g, o, s⟩ → g < w.heap.size → Foot r b vo g) ∧ Turn (Foot r b vo) w w' := by
  obtain ⟨i0, hi, hz0, hz1, hz2⟩ := info_parts info_w
  have h0 := h.1
  have h1 := h.2.1
  have hr := h.lt
  have hfr := h.2.2.1 0
  obtain ⟨hrb, hgb⟩ := h.apart
  obtain ⟨f, hmap, hpl⟩ := h.2.2.2.2.2.1
  have hb := hmap.lt
  have hfx : f x.1 = none := hpl.2 _ fun i hi => hnew _ (wg_mem hi)
  obtain ⟨wa, hwa⟩ : ∃ W, w.alloc (.cells #[.int .u64 x.1, .int .i64 x.2] 28) = W := ⟨_, rfl⟩
  have hba : Below w.heap.size w wa := by rw [← hwa]; exact (Below.refl _ _).alloc (Nat.le_refl _) _
  have hta0 : Turn (Foot r b vo) w wa := Turn.of_below hba
  have hma : MapIs wa.drew b f L.length := hmap.heap (hba.block b hb)
  obtain ⟨w2, q2, hm2, ht2⟩ := hma.put (id := x.1) (v := L.length) (by unfold maxLen; omega) hwx.1 (wf_i64 (by omega) (by omega))
  have k2 : ∀ y, y ≠ b → w2.heap[y]? = wa.heap[y]? := fun y hy => ht2.heap_other hy
  have hsz2 : w2.heap.size = wa.heap.size := by obtain ⟨es, clock, es', clock', _, rfl⟩ := ht2; simp [setBlock]
  have hsza : wa.heap.size = w.heap.size + 1 := by rw [← hwa]; simp
  have a0 : wa.drew.cell? ⟨r, 0, none⟩ = some (.slice vo L.length c) := (hba.cell (p := ⟨r, 0, none⟩) hr).trans h0
  have a1 : wa.drew.cell? ⟨r, 1, none⟩ = some (.map (some b)) := (hba.cell (p := ⟨r, 1, none⟩) hr).trans h1
  have hx0 : wa.heap[w.heap.size]? = some (.cells #[.int .u64 x.1, .int .i64 x.2] 28 (0, 0)) := by rw [← hwa]; exact heap_new _ _ _ rfl
  have a2 : wa.drew.cell? ⟨w.heap.size, 0, none⟩ = some (.int .u64 x.1) := cell_of_row wa _ 0 _ _ _ hx0
  have d0 : w2.drew.cell? ⟨r, 0, none⟩ = some (.slice vo L.length c) := (World.cell?_of_block (w := wa) (a := ⟨r, 0, none⟩) (k2 r hrb)).trans a0
  have d1 : w2.drew.cell? ⟨w.heap.size, 0, none⟩ = some (.int .u64 x.1) := (World.cell?_of_block (w := wa) (a := ⟨w.heap.size, 0, none⟩) (k2 _ (show w.heap.size ≠ b by omega))).trans a2
  have d2 : w2.drew.cell? ⟨w.heap.size, 1, none⟩ = some (.int .i64 x.2) := (World.cell?_of_block (w := wa) (a := ⟨w.heap.size, 1, none⟩) (k2 _ (show w.heap.size ≠ b by omega))).trans (cell_of_row wa _ 1 _ _ _ hx0)
  have hO2 : w2.drew.ownsRow 0 28 2 (.slice vo L.length c) L.length (wV L) := by
    refine ⟨h.2.2.2.1.1, ?_⟩
    rcases h.2.2.2.1.2 with hh | ⟨g', cap, cur, hv, hb', hh, hx⟩
    · exact .inl hh
    · refine .inr ⟨g', cap, cur, hv, hb', ?_, hx⟩
      have hg' := (Array.getElem?_eq_some_iff.1 hh).1
      have : g' ≠ b := (hgb g' 0 none (by cases hv; rfl)).1
      show w2.heap[g']? = _
      rw [k2 g' this, hba.block g' hg']
      exact hh
  have d0' : w2.cell? ⟨r, 0, none⟩ = some (.slice vo L.length c) := d0
  have d1' : w2.cell? ⟨w.heap.size, 0, none⟩ = some (.int .u64 x.1) := d1
  have d2' : w2.cell? ⟨w.heap.size, 1, none⟩ = some (.int .i64 x.2) := d2
  have hrw : r < w2.heap.size := by omega
  have hra : r < wa.heap.size := by omega
  have hx0w : w.heap.size < w2.heap.size := by omega
  have hx0a : w.heap.size < wa.heap.size := by omega
  have hta : ∀ (a b : Int) (w : World), (Instr.typeAssert (.iface 28 (.agg #[.int .u64 a, .int .i64 b])) 20 28 true).run Try.prog w = .ok (.tuple #[.agg #[.int .u64 a, .int .i64 b], .bool true]) w := fun _ _ _ => by kernel_rfl
  have HWA := Lib.hid hwa
  have hT2 : Turn (Foot r b vo) w w2 := hta0.drew.map (.inr (.inl rfl)) ht2
  have er2 : w2.heap[r]? = w.heap[r]? := (k2 r hrb).trans (hba.block r hr)
  have D0 : Hid ((w2.drew.alloc (.cells #[.int .u64 x.1, .int .i64 x.2] 28)).cell? ⟨r, 0, none⟩ = some (.slice vo L.length c)) :=
    (World.cell?_of_block (w := w2.drew) (a := ⟨r, 0, none⟩) (Below.heap_alloc _ _ _ (show r < w2.drew.heap.size from hrw))).trans d0
  have F0 : Hid ((w2.drew.alloc (.cells #[.int .u64 x.1, .int .i64 x.2] 28)).frozen? ⟨r, 0, none⟩ = false) :=
    (World.frozen?_of_block (w := w2.drew) (a := ⟨r, 0, none⟩) (Below.heap_alloc _ _ _ (show r < w2.drew.heap.size from hrw))).trans ((World.frozen?_of_block (w := w) (a := ⟨r, 0, none⟩) er2).trans hfr)
  have NR := Lib.hid (own_ne_r h L.length)
  have SZ : Hid (r < (w2.drew.alloc (.cells #[.int .u64 x.1, .int .i64 x.2] 28)).heap.size) := by show _ < _; rw [World.size_alloc]; exact Nat.lt_succ_of_lt hrw
  have ER2 := Lib.hid er2
  clear er2
  have HALL := Lib.hid (And.intro h (And.intro hm2 (And.intro hpl (And.intro hT2 hfx))))
  have HK := Lib.hid (And.intro k2 (And.intro hba hgb))
  clear hT2 hm2 hpl hfx ht2 k2 hma hta0 hba hx0 hwa hmap hgb
  unfold aggW
  go_enter Try.func68, Try.ntmps68
  go_upto_region 2 with (fail)
  rw [HWA.out]
  go_upto_region 3 with (first | (with_reducible refine wp_region_lex (by kernel_rfl) (by kernel_rfl) ?_) | (with_reducible refine OnlyG.intro (by kernel_rfl) ?_))
  go_region_law (refine step_append_lies _ rfl (.tmp 27) (.tmp 29) 39 rfl 0 28 i0 (.agg #[.int .u64 0, .int .i64 0]) 2 16 Try.underlying39 hi hz0 hz1 hz2 rfl (by decide) (.slice vo L.length c) L.length (wV L) (by simp [Act.eval]) (hO2.alloc _) ⟨w2.heap.size, 0, none⟩ 1 1 [.int .u64 x.1, .int .i64 x.2] (by simp [Act.eval]) rfl (cells_new _ _ _ _ rfl) (by simp [Value.oneCell']) (by decide) (by unfold maxLen; omega) (by omega) (Nat.zero_le _) _ rfl ?_; intro g cap w3 hown3 hgrow hat hlt; have c3 := (hgrow.cell_far ⟨r, 0, none⟩ SZ.out NR.out).trans D0.out; have f3 := (hgrow.frozen_far ⟨r, 0, none⟩ SZ.out NR.out).trans F0.out)
  all_goals
    go_end0
    obtain ⟨h, hm2, hpl, hT2, hfx⟩ := HALL.out
    obtain ⟨r1, r2, r3⟩ := push_fin h hwx hlen hpl hfx hT2 hm2 ER2.out hown3 hgrow hat
    exact ⟨rfl, ⟨_, _, r1, r2⟩, r3⟩

theorem Places.pop {f : Int → Option Int} {L : List Wt} {x : Wt} (h : Places f (L ++ [x])) : Places (upd f x.1 none) L := by
  have h1 : ∀ i, i < L.length → wg (L ++ [x]) i = wg L i := fun i hi => by
    unfold wg; rw [List.getD_eq_getElem?_getD, List.getElem?_append_left hi, List.getD_eq_getElem?_getD]
  have h2 : wg (L ++ [x]) L.length = x := by
    unfold wg; rw [List.getD_eq_getElem?_getD, List.getElem?_append_right (Nat.le_refl _)]; simp
  refine ⟨fun i hi => ?_, fun id hid => ?_⟩
  · have hi' : i < (L ++ [x]).length := by simp; omega
    have hne : (wg L i).1 ≠ x.1 := fun e => by
      have := h.inj hi' (j := L.length) (by simp) (by rw [h1 i hi, h2, e])
      omega
    unfold upd
    rw [if_neg hne]
    have := h.1 i hi'
    rwa [h1 i hi] at this
  · unfold upd
    by_cases e : id = x.1
    · rw [if_pos e]
    · rw [if_neg e]
      refine h.2 id fun i hi => ?_
      by_cases e2 : i = L.length
      · subst e2; rw [h2]; exact fun h => e h.symm
      · have hi' : i < L.length := by simp at hi; omega
        rw [h1 i hi']; exact hid i hi'
set_option maxRecDepth 100000 in
set_option maxHeartbeats 1000000 in
theorem rpop_any {w : World} {r b c : Nat} {vo : Option Addr} {L : List Wt} {x : Wt} (h : RowAt w r b vo c (L ++ [x])) :
    Calls Try.prog 67 #[.pointer (some ⟨r, 0, none⟩)] w fun e w' => e = .returned (.iface 28 (aggW x)) ∧ RowAt w' r b vo c L ∧ Turn (Foot r b vo) w w' := by
  have h0 := h.1
  have h1 := h.2.1
  have hr := h.lt
  have hfr := h.2.2.1 0
  have hl : (L ++ [x]).length = L.length + 1 := by simp
  obtain ⟨g, rfl, hg, hgr, _, hc⟩ := h.cells (by omega)
  have hx : wg (L ++ [x]) L.length = x := by
    unfold wg; rw [List.getD_eq_getElem?_getD, List.getElem?_append_right (Nat.le_refl _)]; simp
  obtain ⟨x0, x1⟩ := hc L.length (by omega)
  rw [hx] at x0 x1
  rw [hl] at h0
  have hlen := h.2.2.2.2.2.2.2
  rw [hl] at hlen
  have hw1 : IntKind.i64.wrap ((L.length : Int) + 1 - 1) = (L.length : Int) := by rw [Int.add_sub_cancel]; exact IntWalk.i64_in _ (by omega)
  have hcap : L.length + 1 ≤ c := by
    rcases h.2.2.2.1.2 with ⟨h2, _⟩ | ⟨g', cap, cur, hv, _, _, hn, _⟩
    · cases h2
    · cases hv; omega
  obtain ⟨f, hmap, hpl⟩ := h.2.2.2.2.2.1
  obtain ⟨hrb, hgb⟩ := h.apart
  have hb := hmap.lt
  have hwx : WfW x := h.2.2.2.2.2.2.1 x (by simp)
  rw [hl] at hmap
  -- behind the second statement
  obtain ⟨wq, hwq⟩ : ∃ W, (w.setCell ⟨r, 0, none⟩ (.slice (some ⟨g, 0, none⟩) L.length c)).alloc (.cells #[.int .u64 x.1, .int .i64 x.2] 28) = W := ⟨_, rfl⟩
  have hszq : wq.heap.size = w.heap.size + 1 := by rw [← hwq]; simp
  have kq : ∀ y, y < w.heap.size → y ≠ r → wq.heap[y]? = w.heap[y]? := fun y hy hne => by
    rw [← hwq, Below.heap_alloc _ _ _ (by simpa using hy)]
    exact Below.heap_setCell _ _ _ _ hne
  have hTq : Turn (Foot r b (some ⟨g, 0, none⟩)) w wq := by
    rw [← hwq]
    exact ((Turn.refl _ _).setCell (.inl rfl) _).alloc _
  have hmq : MapIs wq.drew.drew.drew b f (L.length + 1) := hmap.heap (kq b hb (fun e => hrb e.symm))
  have hsome : (f x.1).isSome = true := by
    have := hpl.1 L.length (by omega)
    rw [show wg (L ++ [x]) L.length = x by unfold wg; rw [List.getD_eq_getElem?_getD, List.getElem?_append_right (Nat.le_refl _)]; simp] at this
    rw [this]; rfl
  obtain ⟨w3, q3, hm3, ht3⟩ := hmq.del hwx.1 hsome 0
  have rq0 : wq.cell? ⟨r, 0, none⟩ = some (.slice (some ⟨g, 0, none⟩) L.length c) := by
    rw [← hwq, World.cell?_of_block (w := w.setCell ⟨r, 0, none⟩ (.slice (some ⟨g, 0, none⟩) L.length c)) (a := ⟨r, 0, none⟩) (Below.heap_alloc _ _ _ (by simpa using hr))]
    exact World.cell?_setCell_same _ _ _ h0
  have rq1 : wq.cell? ⟨r, 1, none⟩ = some (.map (some b)) := by
    rw [← hwq, World.cell?_of_block (w := w.setCell ⟨r, 0, none⟩ (.slice (some ⟨g, 0, none⟩) L.length c)) (a := ⟨r, 1, none⟩) (Below.heap_alloc _ _ _ (by simpa using hr)), World.cell?_setCell_other _ _ _ _ (by simp)]
    exact h1
  have hx0 : wq.heap[w.heap.size]? = some (.cells #[.int .u64 x.1, .int .i64 x.2] 28 (0, 0)) := by rw [← hwq]; exact heap_new _ _ _ (by simp)
  have xq0 : wq.cell? ⟨w.heap.size, 0, none⟩ = some (.int .u64 x.1) := cell_of_row wq _ 0 _ _ _ hx0
  have hrq : r < wq.heap.size := by omega
  have hxq : w.heap.size < wq.heap.size := by omega
  have e3 : ∀ y, y ≠ b → w3.heap[y]? = wq.heap[y]? := fun y hy => ht3.heap_other hy
  have xz0 : w3.cell? ⟨w.heap.size, 0, none⟩ = some (.int .u64 x.1) := (World.cell?_of_block (w := wq) (a := ⟨w.heap.size, 0, none⟩) (e3 _ (show w.heap.size ≠ b by omega))).trans xq0
  have xz1 : w3.cell? ⟨w.heap.size, 1, none⟩ = some (.int .i64 x.2) := (World.cell?_of_block (w := wq) (a := ⟨w.heap.size, 1, none⟩) (e3 _ (show w.heap.size ≠ b by omega))).trans (cell_of_row wq _ 1 _ _ _ hx0)
  have HF : Hid (RowAt w3 r b (some ⟨g, 0, none⟩) c L) := by
    refine ⟨(World.cell?_of_block (w := wq) (a := ⟨r, 0, none⟩) (e3 r hrb)).trans rq0, (World.cell?_of_block (w := wq) (a := ⟨r, 1, none⟩) (e3 r hrb)).trans rq1, fun j => ?_, ?_, fun g' o s e => by cases e; exact hgr, ⟨_, hm3, hpl.pop⟩, fun p hp => h.2.2.2.2.2.2.1 p (List.mem_append_left _ hp), by omega⟩
    · rw [World.frozen?_of_block (w := wq) (a := ⟨r, j, none⟩) (e3 r hrb), ← hwq, World.frozen?_of_block (w := w.setCell ⟨r, 0, none⟩ (.slice (some ⟨g, 0, none⟩) L.length c)) (a := ⟨r, j, none⟩) (Below.heap_alloc _ _ _ (by simpa using hr)), World.frozen?_setCell]
      exact h.2.2.1 j
    · refine ⟨wV_length L, ?_⟩
      rcases h.2.2.2.1.2 with ⟨h2, _⟩ | ⟨g', cap, cur, hv, hb', hh, hn, hmx, hcs, htk⟩
      · cases h2
      · cases hv
        refine .inr ⟨g, c, cur, rfl, hb', ?_, by omega, hmx, hcs, ?_⟩
        · rw [e3 g (hgb g 0 none rfl).1, kq g hg hgr]; exact hh
        · have e : (cur.toList.take ((L ++ [x]).length * 2)).take (L.length * 2) = wV L := by
            rw [htk, wV_snoc, List.take_append_of_le_length (by rw [wV_length]; exact Nat.le_refl _)]
            exact List.take_of_length_le (by rw [wV_length]; exact Nat.le_refl _)
          rwa [List.take_take, Nat.min_eq_left (by omega)] at e
  have HT : Hid (Turn (Foot r b (some ⟨g, 0, none⟩)) w w3) := hTq.drew.drew.drew.map (.inr (.inl rfl)) ht3
  have HWQ := Lib.hid hwq
  have hszz : w.heap.size < w3.heap.size := by have := HT.out.2.2.2.1; have := ht3.grown.size; have e : wq.drew.drew.drew.heap.size = wq.heap.size := rfl; omega
  have hzb : w.heap.size ≠ b := by omega
  clear hc hx hmq hm3 ht3 hTq kq e3 hx0 hwq hmap hpl hgb hsome
  generalize L.length = n at *
  go_enter Try.func67, Try.ntmps67
  go_upto_region 1 with (fail)
  go_region
  go_upto_region 3 with (first | (with_reducible refine wp_region_lex (by kernel_rfl) (by kernel_rfl) ?_) | (with_reducible refine OnlyG.intro (by kernel_rfl) ?_))
  rw [HWQ.out]
  clear HWQ
  go_wp2_with (first | (with_reducible refine wp_region_lex (by kernel_rfl) (by kernel_rfl) ?_) | (with_reducible refine OnlyG.intro (by kernel_rfl) ?_))
  go_ret
  exact ⟨rfl, HF.out, HT.out⟩
end Go.Proofs.Ytbmhnadnomngnaa
