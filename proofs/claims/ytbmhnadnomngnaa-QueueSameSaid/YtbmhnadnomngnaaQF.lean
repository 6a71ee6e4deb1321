/- Contracts of package queue: New, Len, Peek, Pop, Set, Push, Drop. -/
import Derived.Test.YtbmhnadnomngnaaQE
import Derived.Laws.ResultCell
namespace Go.Proofs.Ytbmhnadnomngnaa
open Go.RowKit Go.Lib

/-- In w, block q is a queue of L, which lies in the blocks F. -/
def QIs (w : World) (q : Nat) (F : Nat → Prop) (L : List Wt) : Prop :=
  ∃ r b vo c, w.cell? ⟨q, 0, none⟩ = some (.pointer (some ⟨r, 0, none⟩)) ∧ HeapAt w r b vo c L ∧ ¬ Foot r b vo q ∧ ∀ k, F k ↔ k = q ∨ Foot r b vo k
theorem QIs.lt {w : World} {q : Nat} {F : Nat → Prop} {L : List Wt} (h : QIs w q F L) : ∀ k, F k → k < w.heap.size := fun k hk => by
  obtain ⟨r, b, vo, c, h1, h2, _, h4⟩ := h
  rcases (h4 k).1 hk with rfl | rfl | rfl | ⟨o, s, rfl⟩
  · exact World.block_lt_of_cell? w _ h1
  · exact h2.1.lt
  · obtain ⟨f, hm, _⟩ := h2.1.2.2.2.2.2.1; exact hm.lt
  · exact (h2.1.apart.2 _ _ _ rfl).2
theorem QIs.kept {S : Nat → Prop} {w w' : World} {q : Nat} {F : Nat → Prop} {L : List Wt} (h : QIs w q F L) (ht : Turn S w w') (hS : ∀ k, F k → ¬ S k) : QIs w' q F L := by
  obtain ⟨r, b, vo, c, h1, h2, h3, h4⟩ := h
  exact ⟨r, b, vo, c, (ht.cell (p := ⟨q, 0, none⟩) (World.block_lt_of_cell? w _ h1) (hS q ((h4 q).2 (.inl rfl)))).trans h1, ⟨h2.1.kept ht fun k hk => hS k ((h4 k).2 (.inr hk)), h2.2⟩, h3, h4⟩
theorem QIs.below {w w' : World} {q : Nat} {F : Nat → Prop} {L : List Wt} (h : QIs w q F L) (hb : Below w.heap.size w w') : QIs w' q F L := h.kept (S := fun _ => False) (Turn.of_below hb) fun _ _ h => h
/-- What a queue's call leaves. -/
def QTo (w : World) (q : Nat) (F : Nat → Prop) (R : List Wt → Prop) (w' : World) : Prop :=
  ∃ F' L', QIs w' q F' L' ∧ R L' ∧ Turn F w w' ∧ ∀ k, k < w.heap.size → F' k → F k
theorem qto {w w' : World} {q r b : Nat} {F : Nat → Prop} {vo vo' : Option Addr} {c' : Nat} {L' : List Wt} {R : List Wt → Prop} (h1 : w.cell? ⟨q, 0, none⟩ = some (.pointer (some ⟨r, 0, none⟩))) (h3 : ¬ Foot r b vo q) (h4 : ∀ k, F k ↔ k = q ∨ Foot r b vo k)
    (h : HeapAt w' r b vo' c' L') (hg : Grows w r b vo vo') (ht : Turn (Foot r b vo) w w') (hR : R L') : QTo w q F R w' := by
  have hq := World.block_lt_of_cell? w _ h1
  refine ⟨fun k => k = q ∨ Foot r b vo' k, L', ⟨r, b, vo', c', (ht.cell (p := ⟨q, 0, none⟩) hq h3).trans h1, h, fun hf => h3 (foot_trans hg q hq hf), fun k => Iff.rfl⟩, hR, ?_, fun k hk hf => ?_⟩
  · exact ⟨ht.1, ht.2.1, ht.2.2.1, ht.2.2.2.1, fun k hk hs => ht.2.2.2.2 k hk fun hf => hs ((h4 k).2 (.inr hf))⟩
  · rcases hf with rfl | hf
    · exact (h4 k).2 (.inl rfl)
    · exact (h4 k).2 (.inr (foot_trans hg k hk hf))
theorem grows_refl (w : World) (r b : Nat) (vo : Option Addr) : Grows w r b vo vo := fun _ o s e _ => .inr (.inr ⟨o, s, e⟩)

theorem qnew_any (w : World) : Calls Try.prog 8 #[] w fun e w' => ∃ q F, e = .returned (.pointer (some ⟨q, 0, none⟩)) ∧ QIs w' q F [] ∧ Below w.heap.size w w' ∧ ∀ k, F k → w.heap.size ≤ k := by
  have hb : Below w.heap.size w (((w.alloc (.map #[] 0)).alloc (.cells #[.slice none 0 0, .map (some w.heap.size)] 51)).alloc (.cells #[.pointer (some ⟨w.heap.size + 1, 0, none⟩)] 53)) :=
    (((Below.refl _ _).alloc (Nat.le_refl _) _).alloc (by simp) _).alloc (by simp; omega) _
  have hmk : ∀ w : World, (Instr.makeMap 49 none).run Try.prog w = .ok (.map (some w.heap.size)) (w.alloc (.map #[] 0)) := fun _ => by kernel_rfl
  go_enter Try.func8, Try.ntmps8
  have s1 : (w.alloc (.map #[] 0)).heap.size = w.heap.size + 1 := by simp
  have s2 : ((w.alloc (.map #[] 0)).alloc (.cells #[.slice none 0 0, .map (some w.heap.size)] 51)).heap.size = w.heap.size + 1 + 1 := by simp
  have er : (((w.alloc (.map #[] 0)).alloc (.cells #[.slice none 0 0, .map (some w.heap.size)] 51)).alloc (.cells #[.pointer (some ⟨w.heap.size + 1, 0, none⟩)] 53)).heap[w.heap.size + 1]? = some (.cells #[.slice none 0 0, .map (some w.heap.size)] 51 (0, 0)) := by
    rw [Below.heap_alloc _ _ _ (by omega)]
    exact heap_new _ _ _ s1
  have eb : (((w.alloc (.map #[] 0)).alloc (.cells #[.slice none 0 0, .map (some w.heap.size)] 51)).alloc (.cells #[.pointer (some ⟨w.heap.size + 1, 0, none⟩)] 53)).heap[w.heap.size]? = (w.alloc (.map #[] 0)).heap[w.heap.size]? := by
    rw [Below.heap_alloc _ _ _ (by omega), Below.heap_alloc _ _ _ (by omega)]
  have eq : (((w.alloc (.map #[] 0)).alloc (.cells #[.slice none 0 0, .map (some w.heap.size)] 51)).alloc (.cells #[.pointer (some ⟨w.heap.size + 1, 0, none⟩)] 53)).heap[w.heap.size + 1 + 1]? = some (.cells #[.pointer (some ⟨w.heap.size + 1, 0, none⟩)] 53 (0, 0)) := heap_new _ _ _ s2
  have HQ : Hid (∃ F, QIs (((w.alloc (.map #[] 0)).alloc (.cells #[.slice none 0 0, .map (some w.heap.size)] 51)).alloc (.cells #[.pointer (some ⟨w.heap.size + 1, 0, none⟩)] 53)) (w.heap.size + 1 + 1) F [] ∧ ∀ k, F k → w.heap.size ≤ k) := by
    generalize (((w.alloc (.map #[] 0)).alloc (.cells #[.slice none 0 0, .map (some w.heap.size)] 51)).alloc (.cells #[.pointer (some ⟨w.heap.size + 1, 0, none⟩)] 53)) = W at er eb eq ⊢
    have hrow : RowAt W (w.heap.size + 1) w.heap.size none 0 [] :=
      ⟨cell_of_row _ _ 0 _ _ _ er, cell_of_row _ _ 1 _ _ _ er, (fun j => by simp [World.frozen?, er]), World.ownsRow_nil _ _ _ _, (fun g o s e => by cases e), ⟨_, (mapIs_new w).heap eb, (fun i hi => absurd hi (Nat.not_lt_zero _)), fun _ _ => rfl⟩, (fun p hp => by cases hp), by simp⟩
    refine ⟨fun k => k = w.heap.size + 1 + 1 ∨ Foot (w.heap.size + 1) w.heap.size none k, ⟨w.heap.size + 1, w.heap.size, none, 0, ?_, ⟨hrow, fun j h1 h2 => absurd h2 (Nat.not_lt_zero _)⟩, ?_, fun k => Iff.rfl⟩, fun k hk => ?_⟩
    · exact cell_of_row _ _ 0 _ _ _ eq
    · rintro (h | h | ⟨o, s, h⟩)
      · omega
      · omega
      · cases h
    · rcases hk with h | h | h | ⟨o, s, h⟩
      · omega
      · omega
      · omega
      · cases h
  clear s1 s2 er eb eq
  go_wp2
  go_ret
  obtain ⟨F, h1, h2⟩ := HQ.out
  exact ⟨_, F, rfl, h1, hb, h2⟩
theorem qlen_any {w : World} {q : Nat} {F : Nat → Prop} {L : List Wt} (h : QIs w q F L) : Calls Try.prog 12 #[.pointer (some ⟨q, 0, none⟩)] w fun e w' => e = .returned (.int .i64 L.length) ∧ w = w' := by
  obtain ⟨r, b, vo, c, h1, h2, h3, h4⟩ := h
  have hq := World.block_lt_of_cell? w _ h1
  have c0 := h2.1.1
  have hr := h2.1.lt
  dsimp only at hq
  clear h2 h3 h4
  go_enter Try.func12, Try.ntmps12
  go_wp2
  go_ret
  exact ⟨rfl, rfl⟩
set_option maxHeartbeats 1000000 in
theorem qpeek_any {w : World} {q : Nat} {F : Nat → Prop} {L : List Wt} (h : QIs w q F L) : Calls Try.prog 18 #[.pointer (some ⟨q, 0, none⟩)] w fun e w' => e = .returned (.tuple #[aggW (wg L 0), .bool (decide (0 < L.length))]) ∧ Below w.heap.size w w' := by
  obtain ⟨r, b, vo, c, h1, h2, h3, h4⟩ := h
  have hq := World.block_lt_of_cell? w _ h1
  have c0 := h2.1.1
  have hr := h2.1.lt
  dsimp only at hq
  by_cases h0 : L.length = 0
  · obtain rfl : L = [] := List.eq_nil_of_length_eq_zero h0
    clear h2 h3 h4 h0
    unfold aggW
    go_enter Try.func18, Try.ntmps18
    go_wp2
    refine bodyPost_ret (v := .tuple #[.agg #[.int .u64 (wg [] 0).1, .int .i64 (wg [] 0).2], .bool (decide (0 < 0))]) ?_ rfl ?_
    · rw [results_cell_tmp rfl]; go_simp; exact ⟨rfl, rfl⟩
    · exact ⟨rfl, (Below.refl _ _).alloc (Nat.le_refl _) _⟩
  · obtain ⟨g, rfl, hg, hgr, hf, hc⟩ := h2.1.cells (by omega)
    obtain ⟨x0, x1⟩ := hc 0 (by omega)
    have q0 : decide (0 < L.length) = true := by simp; omega
    have q1 : ((L.length : Int) == 0) = false := by rw [beq_eq_false_iff_ne]; omega
    have hpos : 0 < L.length := by omega
    have HQ0 := Lib.hid q0
    obtain ⟨n, hn⟩ : ∃ n, L.length = n := ⟨_, rfl⟩
    rw [hn] at c0 q0 q1 hpos HQ0 ⊢
    generalize wg L 0 = x at *
    clear hc h2 h3 h4 h0 hn
    unfold aggW
    go_enter Try.func18, Try.ntmps18
    go_wp2
    refine bodyPost_ret (v := .tuple #[.agg #[.int .u64 x.1, .int .i64 x.2], .bool true]) ?_ rfl ?_
    · rw [results_cell_tmp rfl]; go_simp
    · exact ⟨by rw [HQ0.out], (Below.refl _ _).alloc (Nat.le_refl _) _⟩
theorem Turn.newCell {S : Nat → Prop} {w w' : World} (h : Turn S w w') {a : Addr} (ha : w.heap.size ≤ a.block) (u : Value) : Turn S w (w'.setCell a u) :=
  ⟨h.1, h.2.1, h.2.2.1, by simpa using h.2.2.2.1, fun k hk hs => (Below.heap_setCell _ _ _ _ (by omega)).trans (h.2.2.2.2 k hk hs)⟩
theorem frozen_of_row {w : World} {g j : Nat} {cs : Array Value} {t : TypeId} (h : w.heap[g]? = some (.cells cs t (0, 0))) : w.frozen? ⟨g, j, none⟩ = false := by simp [World.frozen?, h]
/-- What behind a peek into a new variable is known of the variable. -/
theorem new_kept {w w1 : World} {a b : Value} {t : TypeId} (hb : Below (w.alloc (.cells #[a, b] t)).heap.size (w.alloc (.cells #[a, b] t)) w1) :
    w1.cell? ⟨w.heap.size, 0, none⟩ = some a ∧ w1.cell? ⟨w.heap.size, 1, none⟩ = some b ∧ (∀ j, w1.frozen? ⟨w.heap.size, j, none⟩ = false) ∧ w.heap.size < w1.heap.size := by
  have hs := hb.size
  rw [World.size_alloc] at hs
  have hh := heap_new w (.cells #[a, b] t) _ rfl
  have e : w1.heap[w.heap.size]? = _ := hb.block w.heap.size (by rw [World.size_alloc]; omega)
  rw [hh] at e
  exact ⟨cell_of_row _ _ 0 _ _ _ e, cell_of_row _ _ 1 _ _ _ e, fun j => frozen_of_row e, by omega⟩
theorem qto_new {w w1 : World} {q : Nat} {F : Nat → Prop} {L : List Wt} {R : List Wt → Prop} (h : QIs w q F L) (hb : Turn (fun _ => False) w w1) (hR : R L) : QTo w q F R w1 :=
  ⟨F, L, h.kept hb fun _ _ h => h, hR, hb.trans (T := fun _ => False) (Turn.refl _ _) (fun _ _ h => h) |>.trans (T := fun _ => False) (Turn.refl _ _) (fun _ _ h => h) |> fun ht => ⟨ht.1, ht.2.1, ht.2.2.1, ht.2.2.2.1, fun k hk _ => ht.2.2.2.2 k hk id⟩, fun _ _ h => h⟩
def QPop (w : World) (q : Nat) (F : Nat → Prop) (L : List Wt) (e : Ending) (w' : World) : Prop :=
  e = .returned (.tuple #[aggW (wg L 0), .bool (decide (0 < L.length))]) ∧ QTo w q F (fun L' => if 0 < L.length then (wg L 0 :: L').Perm L else L' = []) w'
set_option maxHeartbeats 2000000 in
set_option maxRecDepth 100000 in
theorem qpop_any {w : World} {q : Nat} {F : Nat → Prop} {L : List Wt} (h : QIs w q F L) : Calls Try.prog 10 #[.pointer (some ⟨q, 0, none⟩)] w (QPop w q F L) := by
  have hb0 : Below w.heap.size w (w.alloc (.cells #[.int .u64 0, .int .i64 0] 28)) := (Below.refl _ _).alloc (Nat.le_refl _) _
  have HP := Lib.hid (qpeek_any (h.below hb0))
  have HB0 := Lib.hid hb0
  have HQ := Lib.hid h
  clear h hb0
  by_cases h0 : L.length = 0
  · obtain rfl : L = [] := List.eq_nil_of_length_eq_zero h0
    clear h0
    unfold aggW at HP
    go_enter Try.func10, Try.ntmps10
    go_wp2_with fail
    refine HP.out.mono ?_
    rintro e w1 ⟨rfl, hb1⟩
    obtain ⟨hp1, hp2, hf, hs1⟩ := new_kept hb1
    have hf0 := hf 0
    have hf1 := hf 1
    have HB1 := Lib.hid (HB0.out.trans (hb1.mono HB0.out.size))
    clear hb1 hf
    go_wp2
    refine bodyPost_ret (v := .tuple #[aggW (wg [] 0), .bool (decide (0 < 0))]) ?_ rfl ?_
    · rw [results_cell_tmp rfl]; go_simp; rfl
    · refine ⟨rfl, qto_new HQ.out ?_ (by simp)⟩
      exact (((Turn.of_below HB1.out).newCell (Nat.le_refl _) _).newCell (Nat.le_refl _) _).alloc _
  · obtain ⟨m, hm⟩ : ∃ m, L.length = m + 1 := ⟨L.length - 1, by omega⟩
    obtain ⟨r, b, vo, c, h1, hh, h3, h4⟩ := HQ.out
    have HLT := Lib.hid HQ.out.lt
    have HHK : Hid (∀ wx, Below w.heap.size w wx → HeapAt wx r b vo c L ∧ wx.cell? ⟨q, 0, none⟩ = some (.pointer (some ⟨r, 0, none⟩)) ∧ q < wx.heap.size) := fun wx hx => by
      have hq := World.block_lt_of_cell? w _ h1
      exact ⟨⟨hh.1.below hx, hh.2⟩, (hx.cell (p := ⟨q, 0, none⟩) hq).trans h1, Nat.lt_of_lt_of_le hq hx.size⟩
    have HFT : Hid (∀ k, Foot r b vo k → k < w.heap.size) := fun k hk => HLT.out k ((h4 k).2 (.inr hk))
    have H1 := Lib.hid h1
    have H3 := Lib.hid h3
    have H4 := Lib.hid h4
    have HM := Lib.hid hm
    have hd : decide (0 < L.length) = true := by simp; omega
    rw [hd] at HP
    have HD := Lib.hid hd
    have HW0 : Hid (0 < L.length) := by show _ < _; omega
    clear h1 h3 h4 hh h0 hm hd HQ
    unfold aggW at HP
    go_enter Try.func10, Try.ntmps10
    go_wp2_with fail
    refine HP.out.mono ?_
    rintro e w1 ⟨rfl, hb1⟩
    obtain ⟨hp1, hp2, hf, hs1⟩ := new_kept hb1
    have HP1 := Lib.hid hp1
    have HP2 := Lib.hid hp2
    have HFZ := Lib.hid hf
    have HB1 := Lib.hid (HB0.out.trans (hb1.mono HB0.out.size))
    have HB2 : Hid (Below w.heap.size w (w1.alloc (.cells #[.int .u64 (wg L 0).1, .int .i64 (wg L 0).2] 28))) := HB1.out.alloc HB1.out.size _
    obtain ⟨hh2, hq2, hql⟩ := HHK.out _ HB2.out
    have HPP := Lib.hid (hpop_any hh2 HM.out)
    unfold ifc at HPP
    have hqe : q < w1.heap.size := (HHK.out _ HB1.out).2.2
    have hqc : w1.cell? ⟨q, 0, none⟩ = some (.pointer (some ⟨r, 0, none⟩)) := (HHK.out _ HB1.out).2.1
    clear hb1 hf hp1 hp2 hh2 hq2 hql
    go_wp2_with fail
    refine HPP.out.mono ?_
    rintro e w3 ⟨rfl, L', hh3, hpm, ht3⟩
    have e1 : (w1.alloc (.cells #[.int .u64 (wg L 0).1, .int .i64 (wg L 0).2] 28)).heap.size = w1.heap.size + 1 := World.size_alloc _ _
    have s3 := ht3.2.2.2.1
    rw [e1] at s3
    have np : ¬ Foot r b vo w.heap.size := fun h => Nat.lt_irrefl _ (HFT.out _ h)
    have nx : ¬ Foot r b vo w1.heap.size := fun h => by have := HFT.out _ h; omega
    have ep : w3.heap[w.heap.size]? = w1.heap[w.heap.size]? := (ht3.2.2.2.2 w.heap.size (by omega) np).trans (Below.heap_alloc _ _ _ hs1)
    have ex : w3.heap[w1.heap.size]? = some (.cells #[.int .u64 (wg L 0).1, .int .i64 (wg L 0).2] 28 (0, 0)) := (ht3.2.2.2.2 w1.heap.size (by omega) nx).trans (heap_new _ _ _ rfl)
    have p1 : w3.cell? ⟨w.heap.size, 0, none⟩ = some (.int .u64 0) := (World.cell?_of_block (w := w1) (a := ⟨w.heap.size, 0, none⟩) ep).trans HP1.out
    have p2 : w3.cell? ⟨w.heap.size, 1, none⟩ = some (.int .i64 0) := (World.cell?_of_block (w := w1) (a := ⟨w.heap.size, 1, none⟩) ep).trans HP2.out
    have f1 : w3.frozen? ⟨w.heap.size, 0, none⟩ = false := (World.frozen?_of_block (w := w1) (a := ⟨w.heap.size, 0, none⟩) ep).trans (HFZ.out 0)
    have f2 : w3.frozen? ⟨w.heap.size, 1, none⟩ = false := (World.frozen?_of_block (w := w1) (a := ⟨w.heap.size, 1, none⟩) ep).trans (HFZ.out 1)
    have x1 : w3.cell? ⟨w1.heap.size, 0, none⟩ = some (.int .u64 (wg L 0).1) := cell_of_row _ _ 0 _ _ _ ex
    have x2 : w3.cell? ⟨w1.heap.size, 1, none⟩ = some (.int .i64 (wg L 0).2) := cell_of_row _ _ 1 _ _ _ ex
    have sp : w.heap.size < w3.heap.size := by omega
    have sx : w1.heap.size < w3.heap.size := by omega
    have HEND : Hid (∀ u v, QTo w q F (fun L' => if 0 < L.length then (wg L 0 :: L').Perm L else L' = []) ((w3.setCell ⟨w.heap.size, 0, none⟩ u).setCell ⟨w.heap.size, 1, none⟩ v)) := fun u v => by
      have t4 : Turn (fun k => k = w.heap.size) w3 ((w3.setCell ⟨w.heap.size, 0, none⟩ u).setCell ⟨w.heap.size, 1, none⟩ v) := ((Turn.refl (fun k => k = w.heap.size) w3).setCell (a := ⟨w.heap.size, 0, none⟩) rfl u).setCell (a := ⟨w.heap.size, 1, none⟩) rfl v
      refine qto H1.out H3.out H4.out (L' := L') (c' := c) ⟨hh3.1.kept t4 fun k hk e => ?_, hh3.2⟩ (grows_refl _ _ _ _) ?_ (by rw [if_pos HW0.out]; exact hpm)
      · have := HFT.out k hk
        omega
      · have t3 : Turn (Foot r b vo) w w3 := (Turn.of_below (S := Foot r b vo) HB2.out).trans ht3 fun _ _ h => h
        exact (t3.newCell (Nat.le_refl _) _).newCell (Nat.le_refl _) _
    have HD2 := HD.out
    clear hh3 hpm ht3 np nx ep ex s3 e1 HPP HP hqe hqc HP1 HP2 HFZ
    go_wp2
    refine bodyPost_ret (v := .tuple #[aggW (wg L 0), .bool (decide (0 < L.length))]) ?_ rfl ?_
    · rw [results_cell_tmp rfl, HD2]; go_simp; rfl
    · exact ⟨rfl, HEND.out _ _⟩
end Go.Proofs.Ytbmhnadnomngnaa
