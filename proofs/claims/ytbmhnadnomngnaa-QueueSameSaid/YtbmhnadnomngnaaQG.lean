/- Contracts of package queue: Set, Push, Drop. -/
import Derived.Test.YtbmhnadnomngnaaQF
import Derived.Deep.RegionWith
namespace Go.Proofs.Ytbmhnadnomngnaa
open Go.RowKit Go.Lib

theorem set_row {w : World} {r b c g i : Nat} {L : List Wt} (h : RowAt w r b (some ⟨g, 0, none⟩) c L) (hi : i < L.length) {v : Int} (hv : (Lit.int .i64 v).wf = true) :
    RowAt (w.setCell ⟨g, i * 2 + 1, none⟩ (.int .i64 v)) r b (some ⟨g, 0, none⟩) c (L.set i ((wg L i).1, v)) := by
  have hl : (L.set i ((wg L i).1, v)).length = L.length := List.length_set ..
  have hap := h.apart
  obtain ⟨h0, h1, h2, h3, h4, ⟨f, h5, h6⟩, h7, h8⟩ := h
  have hgr := h4 g 0 none rfl
  have hgb : g ≠ b := (hap.2 g 0 none rfl).1
  have er : (w.setCell ⟨g, i * 2 + 1, none⟩ (.int .i64 v)).heap[r]? = w.heap[r]? := Below.heap_setCell _ _ _ _ (fun e => hgr e.symm)
  refine ⟨?_, (World.cell?_of_block (w := w) (a := ⟨r, 1, none⟩) er).trans h1, fun j => (World.frozen?_of_block (w := w) (a := ⟨r, j, none⟩) er).trans (h2 j), ?_, h4, ⟨f, ?_, ?_, ?_⟩, fun p hp => ?_, by rw [hl]; exact h8⟩
  · rw [hl]; exact (World.cell?_of_block (w := w) (a := ⟨r, 0, none⟩) er).trans h0
  · rw [hl, wV_set]
    have e : (wV L).set (i * 2) (.int .u64 (wg L i).1) = wV L := by
      apply List.ext_getElem?
      intro j
      rw [List.getElem?_set]
      split
      · rename_i e; subst e
        rw [(wV_get L i hi).1]
        rw [if_pos (by rw [wV_length]; omega)]
      · rfl
    simp only
    rw [e]
    exact own_set h3 _ _
  · rw [hl]; exact h5.heap (Below.heap_setCell _ _ _ _ (fun e => hgb e.symm))
  · intro j hj
    rw [hl] at hj
    rw [wg_set hi]
    split
    · rename_i e; subst e; exact h6.1 j hj
    · exact h6.1 j hj
  · intro id hid
    refine h6.2 id fun j hj e => hid j (by rw [hl]; exact hj) ?_
    rw [wg_set hi]
    split
    · rename_i e2; subst e2; exact e
    · exact e
  · rcases List.mem_or_eq_of_mem_set hp with h9 | h9
    · exact h7 p h9
    · rw [h9]; exact ⟨(h7 _ (wg_mem hi)).1, hv⟩
theorem set_off {L : List Wt} {i : Nat} (hi : i < L.length) (h : Heap L.length L) (x : Wt) : Off (L.set i x).length (L.set i x) i := by
  rw [List.length_set]
  refine ⟨fun j h1 h2 h3 h4 => ?_, fun j h1 h2 h3 h4 => ?_⟩
  · rw [wg_set hi, wg_set hi, if_neg h3, if_neg h4]
    exact h j h1 h2
  · have hp : par i < i := by unfold par; omega
    have hij : i < j := by unfold par at h3; omega
    rw [wg_set hi, wg_set hi, if_neg (by omega), if_neg (by omega)]
    have a1 := h j h1 h2
    rw [h3] at a1
    exact less_ntrans a1 (h i h4 hi)
theorem qset_no {w : World} {q : Nat} {F : Nat → Prop} {L : List Wt} (h : QIs w q F L) {id v : Int} (hid : (Lit.int .u64 id).wf = true) (hno : ∀ p ∈ L, p.1 ≠ id) :
    Calls Try.prog 14 #[.pointer (some ⟨q, 0, none⟩), .int .u64 id, .int .i64 v] w fun e w' => e = .returned (.bool false) ∧ w = w' := by
  obtain ⟨r, b, vo, c, h1, h2, h3, h4⟩ := h
  have hq := World.block_lt_of_cell? w _ h1
  have c1 := h2.1.2.1
  have hr := h2.1.lt
  dsimp only at hq
  obtain ⟨f, hm, hpl⟩ := h2.1.2.2.2.2.2.1
  have hl := hm.look hid
  have hf : f id = none := hpl.2 id fun i hi => hno _ (wg_mem hi)
  rw [hf] at hl
  clear h2 h3 h4 hm hpl hf
  go_enter Try.func14, Try.ntmps14
  go_wp2
  go_ret
  exact ⟨rfl, rfl⟩
set_option maxHeartbeats 1000000 in
theorem qset_yes {w : World} {q i : Nat} {F : Nat → Prop} {L : List Wt} (h : QIs w q F L) {id v : Int} (hi : i < L.length) (hid : (wg L i).1 = id) (hv : (Lit.int .i64 v).wf = true) :
    Calls Try.prog 14 #[.pointer (some ⟨q, 0, none⟩), .int .u64 id, .int .i64 v] w fun e w' => e = .returned (.bool true) ∧ QTo w q F (fun L' => L'.Perm (L.set i (id, v))) w' := by
  obtain ⟨r, b, vo, c, h1, h2, h3, h4⟩ := h
  have hq := World.block_lt_of_cell? w _ h1
  have c0 := h2.1.1
  have c1 := h2.1.2.1
  have hr := h2.1.lt
  dsimp only at hq
  obtain ⟨f, hm, hpl⟩ := h2.1.2.2.2.2.2.1
  have hwid : (Lit.int .u64 id).wf = true := by rw [← hid]; exact (h2.1.2.2.2.2.2.2.1 _ (wg_mem hi)).1
  have hl := hm.look hwid
  have hf : f id = some (i : Int) := by rw [← hid]; exact hpl.1 i hi
  rw [hf] at hl
  obtain ⟨g, rfl, hg, hgr, hfz, hc⟩ := h2.1.cells (by omega)
  have x1 := (hc i hi).2
  have z1 := hfz (i * 2 + 1)
  have hrow := set_row h2.1 hi hv
  rw [hid] at hrow
  have HX := Lib.hid (hfix_any hrow (set_off hi h2.2 (id, v)) (by rw [List.length_set]; exact hi))
  unfold ifc at HX
  have hqf : q ≠ g := fun e => h3 (.inr (.inr ⟨0, none, by rw [e]⟩))
  have HT1 : Hid (Turn (Foot r b (some ⟨g, 0, none⟩)) w (w.setCell ⟨g, i * 2 + 1, none⟩ (.int .i64 v))) := (Turn.refl _ _).setCell (a := ⟨g, i * 2 + 1, none⟩) (.inr (.inr ⟨0, none, rfl⟩)) _
  have k1 : (w.setCell ⟨g, i * 2 + 1, none⟩ (.int .i64 v)).cell? ⟨q, 0, none⟩ = some (.pointer (some ⟨r, 0, none⟩)) := (World.cell?_of_block (w := w) (a := ⟨q, 0, none⟩) (Below.heap_setCell _ _ _ _ hqf)).trans h1
  have H1 := Lib.hid h1
  have H3 := Lib.hid h3
  have H4 := Lib.hid h4
  generalize (wg L i).2 = y at x1
  have hin : i < L.length := hi
  obtain ⟨n, hn⟩ : ∃ n, L.length = n := ⟨_, rfl⟩
  rw [hn] at c0 hin
  clear h2 h3 h4 hm hpl hf hc hfz hrow hn hi hid
  go_enter Try.func14, Try.ntmps14
  go_wp2_with fail
  refine HX.out.mono ?_
  rintro e w2 ⟨rfl, L', hh, hp, ht⟩
  have HF : Hid (QTo w q F (fun L' => L'.Perm (L.set i (id, v))) w2) := qto H1.out H3.out H4.out hh (grows_refl _ _ _ _) (HT1.out.trans ht fun _ _ h => h) hp
  clear hh hp ht
  go_wp2
  go_ret
  exact ⟨rfl, HF.out⟩
theorem QTo.from {w w0 w' : World} {q : Nat} {F : Nat → Prop} {R : List Wt → Prop} (hb : Below w.heap.size w w0) (h : QTo w0 q F R w') : QTo w q F R w' := by
  obtain ⟨F', L', h1, h2, h3, h4⟩ := h
  exact ⟨F', L', h1, h2, (Turn.of_below (S := F) hb).trans h3 fun _ _ h => h, fun k hk hf => h4 k (Nat.lt_of_lt_of_le hk hb.size) hf⟩
set_option maxHeartbeats 1000000 in
theorem qpush_new {w : World} {q : Nat} {F : Nat → Prop} {L : List Wt} (h : QIs w q F L) (x : Wt) (hwx : WfW x) (hno : ∀ p ∈ L, p.1 ≠ x.1) (hlen : L.length < 1000000) :
    Calls Try.prog 9 #[.pointer (some ⟨q, 0, none⟩), aggW x] w fun e w' => e = .returned (.tuple #[]) ∧ QTo w q F (fun L' => L'.Perm (x :: L)) w' := by
  obtain ⟨w0, hw0⟩ : ∃ W, w.alloc (.cells #[.int .u64 x.1, .int .i64 x.2] 28) = W := ⟨_, rfl⟩
  have hb : Below w.heap.size w w0 := by rw [← hw0]; exact (Below.refl _ _).alloc (Nat.le_refl _) _
  have hS := Lib.hid (qset_no (v := x.2) (h.below hb) hwx.1 hno)
  obtain ⟨r, b, vo, c, h1, h2, h3, h4⟩ := h
  have hq := World.block_lt_of_cell? w _ h1
  dsimp only at hq
  have hbd : Below w.heap.size w w0.drew := hb.drew
  have hx0 : w0.heap[w.heap.size]? = some (.cells #[.int .u64 x.1, .int .i64 x.2] 28 (0, 0)) := by rw [← hw0]; exact heap_new _ _ _ rfl
  have c0 : w0.cell? ⟨w.heap.size, 0, none⟩ = some (.int .u64 x.1) := cell_of_row _ _ 0 _ _ _ hx0
  have c1 : w0.cell? ⟨w.heap.size, 1, none⟩ = some (.int .i64 x.2) := cell_of_row _ _ 1 _ _ _ hx0
  have k1 : w0.cell? ⟨q, 0, none⟩ = some (.pointer (some ⟨r, 0, none⟩)) := (hb.cell (p := ⟨q, 0, none⟩) hq).trans h1
  have s0 : w.heap.size < w0.heap.size := by rw [← hw0, World.size_alloc]; exact Nat.lt_succ_self _
  have hq0 : q < w0.heap.size := by omega
  have HX := Lib.hid (hpush_any (w := w0.drew) ⟨h2.1.below hbd, h2.2⟩ x hwx hno hlen)
  unfold ifc aggW at HX
  have HF : Hid (∀ e w', Pushed w0.drew r b vo L x e w' → e = .returned (.tuple #[]) ∧ QTo w q F (fun L' => L'.Perm (x :: L)) w') := fun e w' hp => by
    obtain ⟨rfl, vo', c', L', hh, hpm, hg, ht⟩ := hp
    refine ⟨rfl, QTo.from hbd (qto (w := w0.drew) k1 h3 h4 hh hg ht hpm)⟩
  have HW0 := Lib.hid hw0
  clear h2 h3 h4 hb hbd hx0 hw0
  unfold aggW
  go_enter Try.func9, Try.ntmps9
  go_wp2_with (fail)
  rw [HW0.out]
  refine hS.out.mono ?_
  rintro e w1 ⟨rfl, rfl⟩
  go_upto_region 2 with (fail)
  go_region_with (go_at_call 21; refine HX.out.mono ?_; rintro e w' hp; obtain ⟨rfl, hf⟩ := HF.out e w' hp)
  all_goals
    go_end0
    exact ⟨rfl, hf⟩
set_option maxHeartbeats 1000000 in
theorem qpush_old {w : World} {q i : Nat} {F : Nat → Prop} {L : List Wt} (h : QIs w q F L) (x : Wt) (hwx : WfW x) (hi : i < L.length) (hid : (wg L i).1 = x.1) :
    Calls Try.prog 9 #[.pointer (some ⟨q, 0, none⟩), aggW x] w fun e w' => e = .returned (.tuple #[]) ∧ QTo w q F (fun L' => L'.Perm (L.set i x)) w' := by
  obtain ⟨w0, hw0⟩ : ∃ W, w.alloc (.cells #[.int .u64 x.1, .int .i64 x.2] 28) = W := ⟨_, rfl⟩
  have hb : Below w.heap.size w w0 := by rw [← hw0]; exact (Below.refl _ _).alloc (Nat.le_refl _) _
  have hS := Lib.hid (qset_yes (v := x.2) (h.below hb) hi hid hwx.2)
  have HB := Lib.hid hb
  have HW0 := Lib.hid hw0
  clear h hb hw0 hi hid hwx
  unfold aggW
  go_enter Try.func9, Try.ntmps9
  go_wp2_with (fail)
  rw [HW0.out]
  refine hS.out.mono ?_
  rintro e w1 ⟨rfl, hq⟩
  have HQ := Lib.hid (QTo.from HB.out hq)
  clear hq
  go_wp2
  go_end0
  exact ⟨rfl, HQ.out⟩
theorem qdrop_no {w : World} {q : Nat} {F : Nat → Prop} {L : List Wt} (h : QIs w q F L) {id : Int} (hid : (Lit.int .u64 id).wf = true) (hno : ∀ p ∈ L, p.1 ≠ id) :
    Calls Try.prog 15 #[.pointer (some ⟨q, 0, none⟩), .int .u64 id] w fun e w' => e = .returned (.bool false) ∧ w = w' := by
  obtain ⟨r, b, vo, c, h1, h2, h3, h4⟩ := h
  have hq := World.block_lt_of_cell? w _ h1
  have c1 := h2.1.2.1
  have hr := h2.1.lt
  dsimp only at hq
  obtain ⟨f, hm, hpl⟩ := h2.1.2.2.2.2.2.1
  have hl := hm.look hid
  have hf : f id = none := hpl.2 id fun i hi => hno _ (wg_mem hi)
  rw [hf] at hl
  clear h2 h3 h4 hm hpl hf
  go_enter Try.func15, Try.ntmps15
  go_wp2
  go_ret
  exact ⟨rfl, rfl⟩
set_option maxHeartbeats 1000000 in
theorem qdrop_yes {w : World} {q i : Nat} {F : Nat → Prop} {L : List Wt} (h : QIs w q F L) {id : Int} (hi : i < L.length) (hid : (wg L i).1 = id) :
    Calls Try.prog 15 #[.pointer (some ⟨q, 0, none⟩), .int .u64 id] w fun e w' => e = .returned (.bool true) ∧ QTo w q F (fun L' => (wg L i :: L').Perm L) w' := by
  obtain ⟨r, b, vo, c, h1, h2, h3, h4⟩ := h
  have hq := World.block_lt_of_cell? w _ h1
  have c1 := h2.1.2.1
  have hr := h2.1.lt
  dsimp only at hq
  obtain ⟨f, hm, hpl⟩ := h2.1.2.2.2.2.2.1
  have hwid : (Lit.int .u64 id).wf = true := by rw [← hid]; exact (h2.1.2.2.2.2.2.2.1 _ (wg_mem hi)).1
  have hl := hm.look hwid
  have hf : f id = some (i : Int) := by rw [← hid]; exact hpl.1 i hi
  rw [hf] at hl
  obtain ⟨m, hL⟩ : ∃ m, L.length = m + 1 := ⟨L.length - 1, by omega⟩
  have HX := Lib.hid (hremove_any h2 hL (i := i) (by omega))
  unfold ifc at HX
  have H1 := Lib.hid h1
  have H3 := Lib.hid h3
  have H4 := Lib.hid h4
  clear h2 h3 h4 hm hpl hf hi hid hL
  go_enter Try.func15, Try.ntmps15
  go_wp2_with fail
  refine HX.out.mono ?_
  rintro e w2 ⟨rfl, L', hh, hp, ht⟩
  have HF : Hid (QTo w q F (fun L' => (wg L i :: L').Perm L) w2) := qto H1.out H3.out H4.out hh (grows_refl _ _ _ _) ht hp
  clear hh hp ht
  go_wp2
  go_ret
  exact ⟨rfl, HF.out⟩
end Go.Proofs.Ytbmhnadnomngnaa
