/- queue.Top's order: slices.SortFunc at weights. -/
import Derived.Test.YtbmhnadnomngnaaQR
import Derived.Shelf.SlSortCmp.NoneTotal
import Derived.Laws.EntriesVeiled
import Derived.Test.YtbmhnadnomngnaaSlfQ
namespace Go.Proofs.Ytbmhnadnomngnaa
open Go.RowKit Go.Lib

def encW (x : Wt) : List Value := [.int .u64 x.1, .int .i64 x.2]
def cfW (x y : Wt) : Int := if lessW x y then -1 else if lessW y x then 1 else 0
theorem lt_cfW (x y : Wt) : ltOf cfW x y = lessW x y := by
  unfold ltOf cfW
  cases h1 : lessW x y <;> cases h2 : lessW y x <;> simp
theorem swoW : Go.Sort.SWO (ltOf cfW) where
  irrefl x := by rw [lt_cfW]; exact less_irrefl x
  trans x y z h1 h2 := by rw [lt_cfW] at *; exact less_trans h1 h2
  ntrans x y z h1 h2 := by rw [lt_cfW] at *; exact less_ntrans h1 h2
theorem less_grow (a b : Wt) (w : World) : Calls Try.prog 11 #[.agg #[.int .u64 a.1, .int .i64 a.2], .agg #[.int .u64 b.1, .int .i64 b.2]] w fun e w' => e = .returned (.bool (lessW a b)) ∧ ∃ os, w' = Go.Sort.grow w os := by
  obtain ⟨a1, a2⟩ := a
  obtain ⟨b1, b2⟩ := b
  have hb : ∃ os, (w.alloc (.cells #[.int .u64 a1, .int .i64 a2] 28)).alloc (.cells #[.int .u64 b1, .int .i64 b2] 28) = Go.Sort.grow w os := ⟨_, by rw [Go.Sort.alloc_eq_grow, Go.Sort.alloc_eq_grow, Go.Sort.grow_grow]⟩
  by_cases e : a2 = b2
  · subst e
    have hl : Hid (lessW (a1, a2) (b1, a2) = decide (a1 < b1)) := by show _ = _; simp [lessW]
    go_enter Try.func11, Try.ntmps11
    go_wp2
    go_ret
    exact ⟨by rw [hl.out]; rfl, hb⟩
  · have hl : Hid (lessW (a1, a2) (b1, b2) = decide (b2 < a2)) := by show _ = _; simp [lessW, e]
    go_enter Try.func11, Try.ntmps11
    go_wp2
    go_ret
    exact ⟨by rw [hl.out]; rfl, hb⟩
set_option maxHeartbeats 1000000 in
theorem topcmp_any (lb : Nat) (x y : Wt) (w : World) (hc : w.cell? ⟨lb, 0, none⟩ = some (.func (.func 11) #[] #[])) (hl : lb < w.heap.size) :
    Calls Try.prog 27 #[.agg #[.int .u64 x.1, .int .i64 x.2], .agg #[.int .u64 y.1, .int .i64 y.2], .pointer (some ⟨lb, 0, none⟩)] w fun e w' => e = .returned (.int .i64 (cfW x y)) ∧ ∃ q os, w' = Go.Sort.grow (w.drewN q) os := by
  have HXY := Lib.hid (less_grow x y)
  have HYX := Lib.hid (less_grow y x)
  have eg : ∀ args w, (callFunc 11 args).run Try.prog w = .ok (.enter 11 args) w := enters_of Try.func11 (by kernel_rfl) rfl
  have HCF : Hid (cfW x y = if lessW x y then -1 else if lessW y x then 1 else 0) := rfl
  generalize cfW x y = r at HCF ⊢
  obtain ⟨p, hp⟩ : ∃ p, lessW x y = p := ⟨_, rfl⟩
  obtain ⟨q, hq⟩ : ∃ q, lessW y x = q := ⟨_, rfl⟩
  rw [hp] at HXY HCF
  rw [hq] at HYX HCF
  clear hp hq
  have H0 : Hid (((w.alloc (.cells #[.int .u64 x.1, .int .i64 x.2] 28)).alloc (.cells #[.int .u64 y.1, .int .i64 y.2] 28)) = Go.Sort.grow w #[.cells #[.int .u64 x.1, .int .i64 x.2] 28, .cells #[.int .u64 y.1, .int .i64 y.2] 28]) := by show _ = _; rw [Go.Sort.alloc_eq_grow, Go.Sort.alloc_eq_grow, Go.Sort.grow_grow]; rfl
  go_enter Try.func27, Try.ntmps27
  go_wp2_with fail
  refine (HXY.out _).mono ?_
  rintro e w1 ⟨rfl, os, hw1⟩
  have hs0 : ((w.alloc (.cells #[.int .u64 x.1, .int .i64 x.2] 28)).alloc (.cells #[.int .u64 y.1, .int .i64 y.2] 28)).heap.size = w.heap.size + 2 := by rw [World.size_alloc, World.size_alloc]
  have hb0 : Below w.heap.size w ((w.alloc (.cells #[.int .u64 x.1, .int .i64 x.2] 28)).alloc (.cells #[.int .u64 y.1, .int .i64 y.2] 28)) := ((Below.refl _ _).alloc (Nat.le_refl _) _).alloc (by rw [World.size_alloc]; omega) _
  have hx0 : ((w.alloc (.cells #[.int .u64 x.1, .int .i64 x.2] 28)).alloc (.cells #[.int .u64 y.1, .int .i64 y.2] 28)).heap[w.heap.size]? = some (.cells #[.int .u64 x.1, .int .i64 x.2] 28 (0, 0)) := (Below.heap_alloc _ _ _ (by rw [World.size_alloc]; omega)).trans (heap_new _ _ _ rfl)
  have hy0 : ((w.alloc (.cells #[.int .u64 x.1, .int .i64 x.2] 28)).alloc (.cells #[.int .u64 y.1, .int .i64 y.2] 28)).heap[w.heap.size + 1]? = some (.cells #[.int .u64 y.1, .int .i64 y.2] 28 (0, 0)) := heap_new _ _ _ (by rw [World.size_alloc])
  have c0 : w1.cell? ⟨lb, 0, none⟩ = some (.func (.func 11) #[] #[]) := by rw [hw1, Go.Sort.cell?_grow _ _ _ (by rw [hs0]; exact Nat.lt_of_lt_of_le hl (by omega))]; exact (hb0.cell (p := ⟨lb, 0, none⟩) hl).trans hc
  have hx1 : w1.heap[w.heap.size]? = some (.cells #[.int .u64 x.1, .int .i64 x.2] 28 (0, 0)) := by rw [hw1, Go.Sort.heap_grow_old _ _ (by rw [hs0]; omega)]; exact hx0
  have hy1 : w1.heap[w.heap.size + 1]? = some (.cells #[.int .u64 y.1, .int .i64 y.2] 28 (0, 0)) := by rw [hw1, Go.Sort.heap_grow_old _ _ (by rw [hs0]; omega)]; exact hy0
  have x0 : w1.cell? ⟨w.heap.size, 0, none⟩ = some (.int .u64 x.1) := cell_of_row _ _ 0 _ _ _ hx1
  have x1 : w1.cell? ⟨w.heap.size, 1, none⟩ = some (.int .i64 x.2) := cell_of_row _ _ 1 _ _ _ hx1
  have y0 : w1.cell? ⟨w.heap.size + 1, 0, none⟩ = some (.int .u64 y.1) := cell_of_row _ _ 0 _ _ _ hy1
  have y1 : w1.cell? ⟨w.heap.size + 1, 1, none⟩ = some (.int .i64 y.2) := cell_of_row _ _ 1 _ _ _ hy1
  have hsw : w.heap.size + 2 ≤ w1.heap.size := by rw [hw1, Go.Sort.size_grow, hs0]; omega
  have hsw1 : w.heap.size < w1.heap.size := by omega
  have hsw2 : w.heap.size + 1 < w1.heap.size := by omega
  have hsw3 : lb < w1.heap.size := by omega
  have H1 : Hid (∃ os, w1 = Go.Sort.grow w os) := ⟨_, by rw [hw1, H0.out, Go.Sort.grow_grow]⟩
  clear hw1 hs0 hb0 hx0 hy0 hx1 hy1 hsw hc hl HXY H0
  cases p
  case true =>
    go_wp2
    go_ret
    obtain ⟨os, h⟩ := H1.out
    exact ⟨by rw [HCF.out]; rfl, 0, os, h⟩
  case false =>
    go_wp2_with fail
    refine (HYX.out _).mono ?_
    rintro e w2 ⟨rfl, os2, hw2⟩
    have H2 : Hid (∃ os, w2 = Go.Sort.grow w os) := by
      obtain ⟨os, h⟩ := H1.out
      exact ⟨_, by rw [hw2, h, Go.Sort.grow_grow]⟩
    clear hw2 H1
    cases q
    all_goals
      go_wp2
      go_ret
      obtain ⟨os, h⟩ := H2.out
      exact ⟨by rw [HCF.out]; rfl, 0, os, h⟩
theorem cmpLays_w (blk off size lb : Nat) (w : World) (hc : w.cell? ⟨lb, 0, none⟩ = some (.func (.func 11) #[] #[])) (hl : lb < w.heap.size) (hne : lb ≠ blk) :
    CmpLays Try.prog 27 #[.pointer (some ⟨lb, 0, none⟩)] encW 2 cfW blk off size w := fun m os dk _ x y => by
  have hs : (Go.Sort.putRowK encW 2 (Go.Sort.ahead w m) blk off dk).heap.size = w.heap.size := Go.Sort.size_putRow _ _ _ _ _
  have h1 : (sortWorldK encW 2 w blk off m dk os).cell? ⟨lb, 0, none⟩ = some (.func (.func 11) #[] #[]) := by
    unfold sortWorldK
    rw [Go.Sort.cell?_grow _ _ _ (by rw [hs]; exact hl), Go.Sort.cell?_putRowK_other encW 2 _ _ _ _ _ hne]
    exact hc
  have h2 : lb < (sortWorldK encW 2 w blk off m dk os).heap.size := by
    unfold sortWorldK
    rw [Go.Sort.size_grow, hs]; omega
  exact topcmp_any lb x y _ h1 h2
theorem flatW {d : Array Wt} {t : Nat} (h : t < d.size * 2) : (wV d.toList)[t]? = some (Go.Sort.flatK encW 2 d)[t]! := by
  rw [Go.Sort.get_flatK _ _ _ _ h]
  have hd : t / 2 < d.size := by omega
  have e : wg d.toList (t / 2) = d[t / 2]! := by
    unfold wg
    rw [getElem!_pos d _ hd, List.getD_eq_getElem?_getD, Array.getElem?_toList, Array.getElem?_eq_getElem hd, Option.getD_some]
  have h2 := wV_get d.toList (t / 2) (by simpa using hd)
  rw [e] at h2
  rcases (show t % 2 = 0 ∨ t % 2 = 1 by omega) with q | q
  · rw [show t / 2 * 2 = t by omega] at h2
    rw [h2.1, q]; rfl
  · rw [show t / 2 * 2 + 1 = t by omega] at h2
    rw [h2.2, q]; rfl
theorem own_block {w : World} {base g n cap : Nat} {xs : List Value} (h : w.ownsRow base 28 2 (.slice (some ⟨g, 0, none⟩) n cap) n xs) :
    ∃ cur : Array Value, w.heap[g]? = some (.cells cur 28 (0, 0)) ∧ base ≤ g ∧ n ≤ cap ∧ cap ≤ maxLen ∧ cur.size = cap * 2 ∧ cur.toList.take (n * 2) = xs := by
  rcases h.2 with ⟨hv, _⟩ | ⟨g', cap', cur, hv, hbg, hh, hnc, hcm, hcs, htake⟩
  · simp only [Value.slice.injEq] at hv; cases hv.1
  · simp only [Value.slice.injEq, Option.some.injEq, Addr.mk.injEq] at hv
    obtain ⟨⟨rfl, _⟩, _, rfl⟩ := hv
    exact ⟨cur, hh, hbg, hnc, hcm, hcs, htake⟩
theorem holds_own {w : World} {base g n cap : Nat} {l : List Wt} (hn : n = l.length) (h : w.ownsRow base 28 2 (.slice (some ⟨g, 0, none⟩) n cap) n (wV l)) : Go.Sort.HoldsK encW 2 w g 0 l.toArray := by
  obtain ⟨cur, hh, _, hnc, _, hcs, htake⟩ := own_block h
  intro t ht
  have ht' : t < l.toArray.size * 2 := by simpa using ht
  have h1 := flatW ht'
  have hsz : l.toArray.size = l.length := by simp
  have h2 : cur[t]? = (wV l)[t]? := by rw [← htake, List.getElem?_take_of_lt (by omega), Array.getElem?_toList]
  refine ⟨?_, frozen_of_row hh⟩
  rw [Nat.zero_add]
  have h3 : w.cell? ⟨g, t, none⟩ = cur[t]? := by simp [World.cell?, hh]
  rw [h3, h2, h1]
  rfl
theorem own_sorted {w : World} {base g n cap : Nat} {l : List Wt} (hn : n = l.length) (h : w.ownsRow base 28 2 (.slice (some ⟨g, 0, none⟩) n cap) n (wV l)) (d' : Array Wt) (hd : d'.size = n) (q : Nat) (os : Array Obj) :
    (sortWorldK encW 2 w g 0 q d' os).ownsRow base 28 2 (.slice (some ⟨g, 0, none⟩) n cap) n (wV d'.toList) ∧ Turn (fun k => k = g) w (sortWorldK encW 2 w g 0 q d' os) := by
  obtain ⟨cur, hh, hbg, hnc, hcm, hcs, htake⟩ := own_block h
  have hg : g < w.heap.size := (Array.getElem?_eq_some_iff.1 hh).1
  have hs : (Go.Sort.putRowK encW 2 (Go.Sort.ahead w q) g 0 d').heap.size = w.heap.size := Go.Sort.size_putRow _ _ _ _ _
  have hold : ∀ k, k < w.heap.size → (sortWorldK encW 2 w g 0 q d' os).heap[k]? = (Go.Sort.mapBlock w g (Go.Sort.putCells id 0 (Go.Sort.flatK encW 2 d'))).heap[k]? := fun k hk => by
    unfold sortWorldK
    rw [Go.Sort.heap_grow_old _ _ (by rw [hs]; exact hk)]
    rfl
  have hnew : (sortWorldK encW 2 w g 0 q d' os).heap[g]? = some (.cells (Go.Sort.putCells id 0 (Go.Sort.flatK encW 2 d') cur) 28 (0, 0)) := by
    rw [hold g hg]
    simp [Go.Sort.mapBlock, Array.getElem?_modify, hh, Go.Sort.onCells]
  refine ⟨⟨by rw [wV_length]; simp [hd], .inr ⟨g, cap, _, rfl, hbg, hnew, hnc, hcm, by simp [Go.Sort.putCells, hcs], ?_⟩⟩, rfl, rfl, rfl, ?_, fun k hk hs => ?_⟩
  · apply List.ext_getElem?
    intro t
    by_cases ht : t < n * 2
    · rw [List.getElem?_take_of_lt ht, Array.getElem?_toList, flatW (by rw [hd]; exact ht)]
      have hb : t < cur.size := by omega
      simp only [Go.Sort.putCells, Array.getElem?_mapIdx, Array.getElem?_eq_getElem hb, Option.map_some]
      rw [if_pos (by simp [hd]; omega)]
      rfl
    · rw [List.getElem?_take_eq_none (by omega), List.getElem?_eq_none (by rw [wV_length]; simp [hd]; omega)]
  · unfold sortWorldK
    rw [Go.Sort.size_grow, hs]; omega
  · rw [hold k hk]
    simp [Go.Sort.mapBlock, Array.getElem?_modify, Ne.symm hs]
/-- slices.SortFunc at a row of the call's own. -/
theorem sortf_any {w : World} {base n cap lb : Nat} {ao : Option Addr} {l : List Wt} (hn : n = l.length) (h : w.ownsRow base 28 2 (.slice ao n cap) n (wV l)) (hc : w.cell? ⟨lb, 0, none⟩ = some (.func (.func 11) #[] #[])) (hl : lb < w.heap.size) (hne : ∀ g o s, ao = some ⟨g, o, s⟩ → lb ≠ g) (hbig : n < 4611686018427387904) :
    Calls Try.prog 26 #[.slice ao n cap, .func (.func 27) #[] #[.pointer (some ⟨lb, 0, none⟩)]] w fun e w' => e = .returned (.tuple #[]) ∧ ∃ R, R.Perm l ∧ SortedW R ∧ w'.ownsRow base 28 2 (.slice ao n cap) n (wV R) ∧ Turn (fun k => ∃ o s, ao = some ⟨k, o, s⟩) w w' := by
  rcases Nat.eq_zero_or_pos n with h0 | h0
  · subst h0
    obtain rfl : l = [] := List.eq_nil_of_length_eq_zero hn.symm
    refine (AnyF.slices_SortFunc_none laySortW ao cap _ w).mono ?_
    rintro e w' ⟨rfl, rfl⟩
    exact ⟨rfl, [], List.Perm.refl _, fun i j hij hj => by simp at hj, h, Turn.refl _ _⟩
  · obtain ⟨ao', c', e, _, hh⟩ := own_form h
    cases e
    obtain ⟨g, rfl, _⟩ := hh h0
    have eg : ∀ args w, (callFunc 27 args).run Try.prog w = .ok (.enter 27 args) w := enters_of Try.func27 (by kernel_rfl) rfl
    have hsz : l.toArray.size = n := by simp [hn]
    have hcon := AnyQ.slices_SortFunc laySortW 2 (by exact Try.isAgg28) (by exact Try.sizeOf28) encW (fun _ => rfl) (fun x v hv => by simp [encW] at hv; rcases hv with rfl | rfl <;> rfl) cfW swoW 27 #[.pointer (some ⟨lb, 0, none⟩)] g 0 cap l.toArray w eg (cmpLays_w g 0 _ lb w hc hl (hne g 0 none rfl)) (holds_own hn h) (Array.getElem?_eq_some_iff.1 (own_block h).choose_spec.1).1 (by rw [hsz]; exact hbig)
    rw [hsz] at hcon
    refine hcon.mono ?_
    rintro e w' ⟨rfl, d', q, os, hp, hs, rfl⟩
    have hd : d'.size = n := by rw [hp.1, hsz]
    obtain ⟨h1, h2⟩ := own_sorted hn h d' hd q os
    refine ⟨rfl, d'.toList, ?_, fun i j hij hj => ?_, h1, ⟨h2.1, h2.2.1, h2.2.2.1, h2.2.2.2.1, fun k hk hs => h2.2.2.2.2 k hk fun e => hs ⟨0, none, by rw [e]⟩⟩⟩
    · have := hp.2.2
      rw [← hsz] at hd
      rw [show n = l.toArray.size from hsz.symm] at this
      rw [show d'.extract 0 l.toArray.size = d' by rw [← hd]; simp, show l.toArray.extract 0 l.toArray.size = l.toArray by simp] at this
      simpa using this
    · have hj' : j < d'.size := by simpa using hj
      have e1 : ∀ k, k < d'.size → wg d'.toList k = d'[k]! := fun k hk => by
        unfold wg
        rw [getElem!_pos d' _ hk, List.getD_eq_getElem?_getD, Array.getElem?_toList, Array.getElem?_eq_getElem hk, Option.getD_some]
      rw [e1 i (by omega), e1 j hj', ← lt_cfW]
      exact hs i j (Nat.zero_le _) hij (by omega)
theorem clone_w (ao : Option Addr) (c : Nat) (l : List Wt) (w : World) (h : WAt w ao l) (hn : l.length ≤ 1000) :
    Calls Try.prog 25 #[.slice ao l.length c] w fun e w' => ∃ ao' c', e = .returned (.slice ao' l.length c') ∧ w'.ownsRow w.heap.size 28 2 (.slice ao' l.length c') l.length (wV l) ∧ Below w.heap.size w w' := by
  obtain ⟨i0, hi, hz0, hz1, hz2⟩ := info_parts info_w
  have q22 : ∀ (w : World) (a : Option Addr) (n c n' c' : Nat), (binOp .eql 39 (.slice a n c) (.slice none n' c')).run Try.prog w = .ok (.bool a.isNone) w := fun w a n c n' c' => Lib.run_eql_slice_nil w _ _ a n c n' c' Try.underlying39
  cases ao with
  | none =>
    obtain rfl : l = [] := List.eq_nil_of_length_eq_zero (by
      rcases Nat.eq_zero_or_pos l.length with h1 | h1
      · exact h1
      · obtain ⟨b, off, e, _⟩ := h h1; cases e)
    clear h
    go_enter Try.func25, Try.ntmps25
    go_wp2
    go_ret
    exact ⟨none, 0, rfl, World.ownsRow_nil _ _ _ _, Below.refl _ _⟩
  | some a =>
    have HWA : Hid (∀ j u, (wV l)[j]? = some u → w.cell? (a.add j) = some u ∧ (a.add j).block < w.heap.size) := fun j u hj => by
      have hjl : j < (wV l).length := (List.getElem?_eq_some_iff.1 hj).1
      rw [wV_length] at hjl
      obtain ⟨b, off, e, hb, hc⟩ := h (by omega)
      cases e
      have := news_part (w := w) hc (p := []) (q := l) (r := []) (k := 0) (by simp) rfl j u hj
      rw [Nat.zero_mul, Nat.add_zero] at this
      refine ⟨this, ?_⟩
      unfold Addr.add; split <;> exact hb
    have HE0 : Hid ((w.alloc (.cells #[] 28)).ownsRow w.heap.size 28 2 (.slice (some ⟨w.heap.size, 0, none⟩) 0 0) 0 []) := World.ownsRow_lit (size := 2) (e := 28) w #[] 0 (Nat.le_refl _) (by decide) rfl
    have HLL : Hid ((wV l).length = l.length * 2) := wV_length l
    have HB0 : Hid (Below w.heap.size w (w.alloc (.cells #[] 28))) := (Below.refl w.heap.size w).alloc (Nat.le_refl _) _
    clear h
    go_enter Try.func25, Try.ntmps25
    go_wp2_with (at_builtin; refine wpList_append_own _ rfl _ _ 39 rfl w.heap.size 28 i0 (.agg #[.int .u64 0, .int .i64 0]) 2 16 Try.underlying39 hi hz0 hz1 hz2 rfl (by decide) _ _ _ rfl HE0.out a l.length c (wV l) rfl HLL.out ?qc2 (wV_cell _) (by unfold maxLen; omega) (by omega) HB0.out.size ?_)
    case qc2 =>
      intro j u hj
      have := HWA.out j u hj
      exact (HB0.out.cell this.2).trans this.1
    intro v' w1 hown hgrow hnil
    have HF : Hid (w1.ownsRow w.heap.size 28 2 v' l.length (wV l) ∧ Below w.heap.size w w1) := by
      exact ⟨by first | exact hown | (rwa [Nat.zero_add, List.nil_append] at hown), below_append HB0.out HE0.out HB0.out.size hgrow⟩
    clear hown hgrow hnil
    go_wp2
    go_ret
    obtain ⟨ao', c', rfl, _⟩ := own_form HF.out.1
    exact ⟨ao', c', rfl, HF.out.1, HF.out.2⟩
theorem clip_w (ao : Option Addr) (n c : Nat) (w : World) (hnc : n ≤ c) (hn : ao = none → n = 0) : Calls Try.prog 28 #[.slice ao n c] w fun e w' => e = .returned (.slice ao n n) ∧ w' = w := by
  cases ao with
  | none =>
    obtain rfl := hn rfl
    go_enter Try.func28, Try.ntmps28
    go_wp2
    go_ret
    exact ⟨rfl, rfl⟩
  | some a =>
    clear hn
    go_enter Try.func28, Try.ntmps28
    go_wp2
    go_ret
    exact ⟨rfl, rfl⟩
theorem wAt_take {w : World} {ao : Option Addr} {l : List Wt} {m : Nat} (h : WAt w ao l) (hm : m ≤ l.length) : WAt w ao (l.take m) := fun h0 => by
  have e : (l.take m).length = m := by rw [List.length_take]; omega
  rw [e] at h0
  obtain ⟨b, off, rfl, hb, hc⟩ := h (by omega)
  refine ⟨b, off, rfl, hb, fun i hi => ?_⟩
  rw [e] at hi
  have : wg (l.take m) i = wg l i := wg_take hi
  rw [this]
  exact hc i (by omega)
/-- What queue.Top tells. -/
def Topped (w : World) (l : List Wt) (k : Int) (e : Ending) (w' : World) : Prop :=
  ∃ ao R m, e = .returned (.slice ao m m) ∧ (m : Int) = min (max k 0) (l.length : Int) ∧ m ≤ l.length ∧ R.Perm l ∧ SortedW R ∧ WAt w' ao (R.take m) ∧ Below w.heap.size w w' ∧ ∀ g o s, ao = some ⟨g, o, s⟩ → w.heap.size ≤ g ∧ g < w'.heap.size
set_option maxRecDepth 100000 in
set_option maxHeartbeats 2000000 in
theorem top_any (ao : Option Addr) (c : Nat) (l : List Wt) (k : Int) (w : World) (h : WAt w ao l) (hn : l.length ≤ 1000) :
    Calls Try.prog 19 #[.slice ao l.length c, .int .i64 k] w (Topped w l k) := by
  have HCL := Lib.hid (clone_w ao c l w h hn)
  obtain ⟨n, hln⟩ : ∃ n, l.length = n := ⟨_, rfl⟩
  have HLN := Lib.hid hln
  rw [hln] at hn HCL ⊢
  obtain ⟨m, hm⟩ : ∃ m : Nat, min (max k 0) (n : Int) = (m : Int) := ⟨(min (max k 0) (n : Int)).toNat, by omega⟩
  have hmn : m ≤ n := by omega
  have HM := Lib.hid hm
  clear h hln
  go_enter Try.func19, Try.ntmps19
  go_wp2_with fail
  refine HCL.out.mono ?_
  rintro e w1 ⟨ao', c', rfl, ho, hb⟩
  have hlt : ∀ g o s, ao' = some ⟨g, o, s⟩ → g < w1.heap.size := row_lt ⟨ho.1, ho.2.imp (fun h => h) fun ⟨g, cap, cur, hv, _, r⟩ => ⟨g, cap, cur, hv, Nat.zero_le _, r⟩⟩
  have hnc : n ≤ c' := by obtain ⟨_, _, e, h1, _⟩ := own_form ho; cases e; exact h1
  have hn0 : ao' = none → n = 0 := fun e => by
    obtain ⟨_, _, e2, _, hh⟩ := own_form ho
    cases e2
    rcases Nat.eq_zero_or_pos n with h1 | h1
    · exact h1
    · obtain ⟨g, e3, _⟩ := hh h1; rw [e] at e3; cases e3
  have HC0 := Lib.hid hn0
  have hal : Below w1.heap.size w1 (w1.alloc (.cells #[.func (.func 11) #[] #[]] 31)) := (Below.refl _ _).alloc (Nat.le_refl _) _
  have HBA : Hid (Below w.heap.size w (w1.alloc (.cells #[.func (.func 11) #[] #[]] 31))) := hb.trans (hal.mono hb.size)
  have HSO := Lib.hid (sortf_any (lb := w1.heap.size) HLN.out.symm (ho.alloc (.cells #[.func (.func 11) #[] #[]] 31)) (cell_of_row _ _ 0 _ _ _ (heap_new _ _ _ rfl)) (by rw [World.size_alloc]; omega) (fun g o s e => Nat.ne_of_gt (hlt g o s e)) (by omega))
  have HOG : Hid (∀ g o s, ao' = some ⟨g, o, s⟩ → w.heap.size ≤ g) := fun g o s e => by
    rcases ho.2 with ⟨hv, _⟩ | ⟨g', cap, cur, hv, hbg, _⟩
    · simp only [Value.slice.injEq] at hv; rw [hv.1] at e; cases e
    · simp only [Value.slice.injEq] at hv; rw [hv.1] at e; cases e; exact hbg
  clear hlt hn0 hal hb ho HCL
  go_wp2_with fail
  refine HSO.out.mono ?_
  rintro e w2 ⟨rfl, R, hp, hs, hown, ht⟩
  have HB2 : Hid (Below w.heap.size w w2) := HBA.out.trans (ht.below HBA.out.size fun k hk ⟨o, s, e⟩ => by have := HOG.out k o s e; omega)
  have HLG : Hid (∀ g o s, ao' = some ⟨g, o, s⟩ → w.heap.size ≤ g ∧ g < w2.heap.size) := fun g o s e => ⟨HOG.out g o s e, row_lt ⟨hown.1, hown.2.imp (fun h => h) fun ⟨g, cap, cur, hv, _, r⟩ => ⟨g, cap, cur, hv, Nat.zero_le _, r⟩⟩ g o s e⟩
  have HR : Hid (R.Perm l ∧ SortedW R ∧ WAt w2 ao' (R.take m)) := ⟨hp, hs, wAt_take (wAt_own (by rw [hp.length_eq]; exact HLN.out.symm) hown) (by rw [hp.length_eq, HLN.out]; exact hmn)⟩
  clear hp hs hown ht HSO HBA
  have HCP := Lib.hid (clip_w ao' m c' w2 (by omega) (fun e => by have := HC0.out e; omega))
  go_wp2_with fail
  refine HCP.out.mono ?_
  rintro e w3 ⟨rfl, rfl⟩
  have HF : Hid (Topped w l k (.returned (.slice ao' m m)) w3) := ⟨ao', R, m, rfl, by rw [HLN.out]; exact HM.out.symm, by rw [HLN.out]; exact hmn, HR.out.1, HR.out.2.1, HR.out.2.2, HB2.out, HLG.out⟩
  clear hm
  go_wp2
  go_ret
  exact HF.out
theorem sorted_same {R S : List Wt} (h : R.Perm S) (hr : SortedW R) (hs : SortedW S) : R = S := by
  have pw : ∀ {L : List Wt}, SortedW L → L.Pairwise fun a b => lessW b a = false := fun {L} h => by
    rw [List.pairwise_iff_getElem]
    intro i j hi hj hij
    have := h i j hij hj
    unfold wg at this
    simpa [List.getD_eq_getElem?_getD, List.getElem?_eq_getElem hi, List.getElem?_eq_getElem hj] using this
  exact List.Perm.eq_of_pairwise (fun a b _ _ h1 h2 => less_total h2 h1) (pw hr) (pw hs) h
end Go.Proofs.Ytbmhnadnomngnaa
