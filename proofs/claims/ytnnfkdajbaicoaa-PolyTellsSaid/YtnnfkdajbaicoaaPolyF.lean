/- The contract of poly.Box. -/
import Derived.Test.YtnnfkdajbaicoaaPolyE
import Derived.BigRegion
import Derived.Deep.CutRange
namespace Go.Proofs.Ytnnfkdajbaicoaa
open Go.RowKit

structure Bx where
  a : Int
  b : Int
  c : Int
  d : Int
def bstep (s : Bx) (x y : Int) : Bx := ⟨min s.a x, min s.b y, max s.c x, max s.d y⟩
def bxR (l : List Pt) (s : Bx) (j : Nat) : Bx := (List.range j).foldl (fun s i => bstep s (px l i) (py l i)) s
def bx0 (ls : List (List Pt)) : Bx := ⟨px (rg ls 0) 0, py (rg ls 0) 0, px (rg ls 0) 0, py (rg ls 0) 0⟩
def bxTo (ls : List (List Pt)) (k : Nat) : Bx := (List.range k).foldl (fun s i => bxR (rg ls i) s (rg ls i).length) (bx0 ls)
def boxF (ls : List (List Pt)) : Bx := if checkF ls = 0 then bxTo ls ls.length else ⟨0, 0, 0, 0⟩
theorem bxR_succ (l : List Pt) (s : Bx) (j : Nat) : bxR l s (j + 1) = bstep (bxR l s j) (px l j) (py l j) := by unfold bxR; rw [List.range_succ]; simp
theorem bxTo_succ (ls : List (List Pt)) (k : Nat) : bxTo ls (k + 1) = bxR (rg ls k) (bxTo ls k) (rg ls k).length := by unfold bxTo; rw [List.range_succ]; simp

def boxV (s : Bx) : Value := .tuple #[.agg #[.int .i64 s.a, .int .i64 s.b], .agg #[.int .i64 s.c, .int .i64 s.d]]
theorem check_zero {ls : List (List Pt)} (h : checkF ls = 0) : 0 < ls.length ∧ ∀ k, k < ls.length → 3 ≤ (rg ls k).length := by
  unfold checkF at h
  split at h
  · omega
  · split at h
    · omega
    · rename_i h2
      unfold shTo at h2
      simp only [Bool.or_eq_true, decide_eq_true_eq, not_or] at h2
      refine ⟨by omega, fun k hk => ?_⟩
      have h3 := h2.2
      simp only [List.any_eq_true, decide_eq_true_eq, not_exists, not_and] at h3
      have := h3 (rg ls k) (by simp [rg, hk])
      omega

/-- Two blocks of two numbers each, which may be written. -/
structure BoxAt (w : World) (g : Nat) (s : Bx) : Prop where
  c0 : w.cell? ⟨g, 0, none⟩ = some (.int .i64 s.a)
  c1 : w.cell? ⟨g, 1, none⟩ = some (.int .i64 s.b)
  d0 : w.cell? ⟨g + 1, 0, none⟩ = some (.int .i64 s.c)
  d1 : w.cell? ⟨g + 1, 1, none⟩ = some (.int .i64 s.d)
  f0 : w.frozen? ⟨g, 0, none⟩ = false
  f1 : w.frozen? ⟨g, 1, none⟩ = false
  f2 : w.frozen? ⟨g + 1, 0, none⟩ = false
  f3 : w.frozen? ⟨g + 1, 1, none⟩ = false
  sz : g + 1 < w.heap.size
theorem BoxAt.below {w w' : World} {g : Nat} {s : Bx} (h : BoxAt w g s) (hb : Below w.heap.size w w') : BoxAt w' g s := by
  have hs := h.sz
  have hz := hb.size
  exact ⟨(hb.cell (p := ⟨g, 0, none⟩) (by show g < _; omega)).trans h.c0, (hb.cell (p := ⟨g, 1, none⟩) (by show g < _; omega)).trans h.c1, (hb.cell (p := ⟨g + 1, 0, none⟩) hs).trans h.d0, (hb.cell (p := ⟨g + 1, 1, none⟩) hs).trans h.d1,
    (hb.frozen (p := ⟨g, 0, none⟩) (by show g < _; omega)).trans h.f0, (hb.frozen (p := ⟨g, 1, none⟩) (by show g < _; omega)).trans h.f1, (hb.frozen (p := ⟨g + 1, 0, none⟩) hs).trans h.f2, (hb.frozen (p := ⟨g + 1, 1, none⟩) hs).trans h.f3, by omega⟩
theorem BoxAt.drew {w : World} {g : Nat} {s : Bx} (h : BoxAt w g s) : BoxAt w.drew g s := ⟨h.c0, h.c1, h.d0, h.d1, h.f0, h.f1, h.f2, h.f3, h.sz⟩
theorem BoxAt.new (w : World) (t : TypeId) (a b c d : Int) : BoxAt ((w.alloc (.cells #[.int .i64 a, .int .i64 b] t)).alloc (.cells #[.int .i64 c, .int .i64 d] t)) w.heap.size ⟨a, b, c, d⟩ := by
  have h1 : ((w.alloc (.cells #[.int .i64 a, .int .i64 b] t)).alloc (.cells #[.int .i64 c, .int .i64 d] t)).heap[w.heap.size]? = some (.cells #[.int .i64 a, .int .i64 b] t) := by
    rw [Below.heap_alloc _ _ _ (by simp)]; exact heap_new _ _ _ rfl
  have h2 : ((w.alloc (.cells #[.int .i64 a, .int .i64 b] t)).alloc (.cells #[.int .i64 c, .int .i64 d] t)).heap[w.heap.size + 1]? = some (.cells #[.int .i64 c, .int .i64 d] t) := heap_new _ _ _ (by simp)
  refine ⟨?_, ?_, ?_, ?_, ?_, ?_, ?_, ?_, by simp⟩
  · rw [cell_of_row _ _ _ _ _ _ h1]; rfl
  · rw [cell_of_row _ _ _ _ _ _ h1]; rfl
  · rw [cell_of_row _ _ _ _ _ _ h2]; rfl
  · rw [cell_of_row _ _ _ _ _ _ h2]; rfl
  · exact frozen_of_row _ _ _ _ _ h1
  · exact frozen_of_row _ _ _ _ _ h1
  · exact frozen_of_row _ _ _ _ _ h2
  · exact frozen_of_row _ _ _ _ _ h2
theorem BoxAt.put {w : World} {g : Nat} {s : Bx} (h : BoxAt w g s) (x y : Int) (s' : Bx) (k : Nat)
    (hk : (k = 0 ∧ s' = ⟨x, s.b, y, s.d⟩) ∨ (k = 1 ∧ s' = ⟨s.a, x, s.c, y⟩)) : BoxAt ((w.setCell ⟨g, k, none⟩ (.int .i64 x)).setCell ⟨g + 1, k, none⟩ (.int .i64 y)) g s' := by
  have hs := h.sz
  have e1 : ∀ (w : World) (i j : Nat) (v : Value), i ≠ j → (w.setCell ⟨g, i, none⟩ v).cell? ⟨g, j, none⟩ = w.cell? ⟨g, j, none⟩ := fun w i j v hij => World.cell?_setCell_other _ _ _ _ (fun h => hij (congrArg Addr.off h))
  have e2 : ∀ (w : World) (i j : Nat) (v : Value), i ≠ j → (w.setCell ⟨g + 1, i, none⟩ v).cell? ⟨g + 1, j, none⟩ = w.cell? ⟨g + 1, j, none⟩ := fun w i j v hij => World.cell?_setCell_other _ _ _ _ (fun h => hij (congrArg Addr.off h))
  have e3 : ∀ (w : World) (i j : Nat) (v : Value), (w.setCell ⟨g, i, none⟩ v).cell? ⟨g + 1, j, none⟩ = w.cell? ⟨g + 1, j, none⟩ := fun w i j v => World.cell?_setCell_other _ _ _ _ (by simp)
  have e4 : ∀ (w : World) (i j : Nat) (v : Value), (w.setCell ⟨g + 1, i, none⟩ v).cell? ⟨g, j, none⟩ = w.cell? ⟨g, j, none⟩ := fun w i j v => World.cell?_setCell_other _ _ _ _ (by simp)
  rcases hk with ⟨rfl, rfl⟩ | ⟨rfl, rfl⟩
  · refine ⟨?_, ?_, ?_, ?_, ?_, ?_, ?_, ?_, ?_⟩
    · rw [e4]; exact World.cell?_setCell_same _ _ _ h.c0
    · rw [e4, e1 _ _ _ _ (by decide)]; exact h.c1
    · exact World.cell?_setCell_same _ _ _ ((e3 _ _ _ _).trans h.d0)
    · rw [e2 _ _ _ _ (by decide), e3]; exact h.d1
    · rw [World.frozen?_setCell, World.frozen?_setCell]; exact h.f0
    · rw [World.frozen?_setCell, World.frozen?_setCell]; exact h.f1
    · rw [World.frozen?_setCell, World.frozen?_setCell]; exact h.f2
    · rw [World.frozen?_setCell, World.frozen?_setCell]; exact h.f3
    · simpa using hs
  · refine ⟨?_, ?_, ?_, ?_, ?_, ?_, ?_, ?_, ?_⟩
    · rw [e4, e1 _ _ _ _ (by decide)]; exact h.c0
    · rw [e4]; exact World.cell?_setCell_same _ _ _ h.c1
    · rw [e2 _ _ _ _ (by decide), e3]; exact h.d0
    · exact World.cell?_setCell_same _ _ _ ((e3 _ _ _ _).trans h.d1)
    · rw [World.frozen?_setCell, World.frozen?_setCell]; exact h.f0
    · rw [World.frozen?_setCell, World.frozen?_setCell]; exact h.f1
    · rw [World.frozen?_setCell, World.frozen?_setCell]; exact h.f2
    · rw [World.frozen?_setCell, World.frozen?_setCell]; exact h.f3
    · simpa using hs
/-- Both boxes stored whole. -/
theorem BoxAt.put4 {w : World} {g : Nat} {s : Bx} (h : BoxAt w g s) (a b c d : Int) :
    BoxAt ((((w.setCell ⟨g, 0, none⟩ (.int .i64 a)).setCell ⟨g, 1, none⟩ (.int .i64 b)).setCell ⟨g + 1, 0, none⟩ (.int .i64 c)).setCell ⟨g + 1, 1, none⟩ (.int .i64 d)) g ⟨a, b, c, d⟩ := by
  have hs := h.sz
  have e1 : ∀ (w : World) (i j : Nat) (v : Value), i ≠ j → (w.setCell ⟨g, i, none⟩ v).cell? ⟨g, j, none⟩ = w.cell? ⟨g, j, none⟩ := fun w i j v hij => World.cell?_setCell_other _ _ _ _ (fun h => hij (congrArg Addr.off h))
  have e2 : ∀ (w : World) (i j : Nat) (v : Value), i ≠ j → (w.setCell ⟨g + 1, i, none⟩ v).cell? ⟨g + 1, j, none⟩ = w.cell? ⟨g + 1, j, none⟩ := fun w i j v hij => World.cell?_setCell_other _ _ _ _ (fun h => hij (congrArg Addr.off h))
  have e3 : ∀ (w : World) (i j : Nat) (v : Value), (w.setCell ⟨g, i, none⟩ v).cell? ⟨g + 1, j, none⟩ = w.cell? ⟨g + 1, j, none⟩ := fun w i j v => World.cell?_setCell_other _ _ _ _ (by simp)
  have e4 : ∀ (w : World) (i j : Nat) (v : Value), (w.setCell ⟨g + 1, i, none⟩ v).cell? ⟨g, j, none⟩ = w.cell? ⟨g, j, none⟩ := fun w i j v => World.cell?_setCell_other _ _ _ _ (by simp)
  refine ⟨?_, ?_, ?_, ?_, ?_, ?_, ?_, ?_, ?_⟩
  · rw [e4, e4, e1 _ _ _ _ (by decide)]; exact World.cell?_setCell_same _ _ _ h.c0
  · rw [e4, e4]; exact World.cell?_setCell_same _ _ _ ((e1 _ _ _ _ (by decide)).trans h.c1)
  · rw [e2 _ _ _ _ (by decide)]; exact World.cell?_setCell_same _ _ _ (((e3 _ _ _ _).trans (e3 _ _ _ _)).trans h.d0)
  · exact World.cell?_setCell_same _ _ _ (((e2 _ _ _ _ (by decide)).trans ((e3 _ _ _ _).trans (e3 _ _ _ _))).trans h.d1)
  · simp only [World.frozen?_setCell]; exact h.f0
  · simp only [World.frozen?_setCell]; exact h.f1
  · simp only [World.frozen?_setCell]; exact h.f2
  · simp only [World.frozen?_setCell]; exact h.f3
  · simpa using hs
theorem below_put {B g k : Nat} {a w : World} (h : Below B a w) (hB : B ≤ g) (x y : Value) : Below B a ((w.setCell ⟨g, k, none⟩ x).setCell ⟨g + 1, k, none⟩ y) :=
  (h.setCell (p := ⟨g, k, none⟩) hB x).setCell (p := ⟨g + 1, k, none⟩) (by show B ≤ g + 1; omega) y
theorem below_put4 {B g : Nat} {a w : World} (h : Below B a w) (hB : B ≤ g) (x y z t : Value) : Below B a ((((w.setCell ⟨g, 0, none⟩ x).setCell ⟨g, 1, none⟩ y).setCell ⟨g + 1, 0, none⟩ z).setCell ⟨g + 1, 1, none⟩ t) :=
  (((h.setCell (p := ⟨g, 0, none⟩) hB x).setCell (p := ⟨g, 1, none⟩) hB y).setCell (p := ⟨g + 1, 0, none⟩) (by show B ≤ g + 1; omega) z).setCell (p := ⟨g + 1, 1, none⟩) (by show B ≤ g + 1; omega) t

set_option maxHeartbeats 2000000 in
theorem box_no (ao : Option Addr) (c : Nat) (ls : List (List Pt)) (w : World) (B : Nat) (hB : B ≤ w.heap.size) (h : RingsAt w B ao ls) (hn : ls.length ≤ 1000000000) (ht : totTo ls ls.length ≤ 1000000000) (hz : checkF ls ≠ 0) :
    Calls Try.prog 16 #[.slice ao ls.length c] w fun e w' => e = .returned (boxV (boxF ls)) ∧ Below w.heap.size w w' := by
  have HC := Lib.hid (fun w1 (hb : Below w.heap.size w w1) => check_any ao c ls w1 B (by have := hb.size; omega) (h.below hb hB) hn ht)
  obtain ⟨n, hnn⟩ : ∃ n, ls.length = n := ⟨_, rfl⟩
  rw [hnn] at hn HC ⊢
  have HN : Hid (ls.length = n) := hnn
  clear hnn ht
  have HF : Hid (boxF ls = ⟨0, 0, 0, 0⟩) := by show _ = _; unfold boxF; rw [if_neg hz]
  have hzb : (checkF ls != 0) = true := by simpa using hz
  go_enter Try.func16, Try.ntmps16
  go_wp2_with fail
  have HB : Hid (BoxAt _ _ _) := BoxAt.new w 27 0 0 0 0
  have HBl : Hid (Below w.heap.size w ((w.alloc (.cells #[.int .i64 0, .int .i64 0] 27)).alloc (.cells #[.int .i64 0, .int .i64 0] 27))) := ((Below.refl _ _).alloc (Nat.le_refl _) _).alloc (by simp) _
  refine (HC.out _ HBl.out).mono ?_
  rintro e w1 ⟨rfl, hb1⟩
  have hbx := HB.out.below hb1
  have hbw : Below w.heap.size w w1 := HBl.out.trans (hb1.mono (by simp; omega))
  obtain ⟨c0, c1, d0, d1, f0, f1, f2, f3, sz⟩ := hbx
  have HX : Hid (BoxAt w1 w.heap.size ⟨0, 0, 0, 0⟩) := HB.out.below hb1
  clear HB HBl hb1 HC
  go_upto_region 2 with (fail)
  go_region
  go_wp2
  have HY := (HX.out.put4 0 0 0 0).drew
  refine bodyPost_ret (v := boxV ⟨0, 0, 0, 0⟩) (by have c0 := HY.c0; have c1 := HY.c1; have d0 := HY.d0; have d1 := HY.d1; simp [results, Try.results16, go_sem, boxV, *]) rfl ⟨by rw [HF.out], (below_put4 hbw (Nat.le_refl _) _ _ _ _).drew⟩

theorem iminD (a x : Int) : (if x < a then x else a) = min a x := by split <;> omega
theorem imaxD (a x : Int) : (if a < x then x else a) = max a x := by split <;> omega
def bpart (s : Bx) (x y : Int) : Nat → Bx
  | 0 => s
  | 1 => ⟨min s.a x, s.b, max s.c x, s.d⟩
  | _ => bstep s x y

set_option maxHeartbeats 4000000 in
theorem box_yes (ao : Option Addr) (c : Nat) (ls : List (List Pt)) (w : World) (B : Nat) (hB : B ≤ w.heap.size) (h : RingsAt w B ao ls) (hn : ls.length ≤ 1000000000) (ht : totTo ls ls.length ≤ 1000000000) (hz : checkF ls = 0) :
    Calls Try.prog 16 #[.slice ao ls.length c] w fun e w' => e = .returned (boxV (boxF ls)) ∧ Below w.heap.size w w' := by
  have HC := Lib.hid (fun w1 (hb : Below w.heap.size w w1) => check_any ao c ls w1 B (by have := hb.size; omega) (h.below hb hB) hn ht)
  obtain ⟨hl0, hl3⟩ := check_zero hz
  have HTT : Hid (∀ k, k < ls.length → (rg ls k).length ≤ 1000000000) := fun k hk => by
    have h1 := totTo_succ ls k hk
    have h2 := totTo_le ls (k + 1) (by omega)
    omega
  have HL3 := Lib.hid hl3
  have HR := Lib.hid h
  obtain ⟨n, hnn⟩ : ∃ n, ls.length = n := ⟨_, rfl⟩
  rw [hnn] at hn HC hl0 HTT HL3 ⊢
  have HN : Hid (ls.length = n) := hnn
  clear hnn ht hl3 h
  have HF : Hid (boxF ls = bxTo ls n) := by show _ = _; unfold boxF; rw [if_pos hz, HN.out]
  have hzb : (checkF ls != 0) = false := by simpa using hz
  go_enter Try.func16, Try.ntmps16
  go_wp2_with fail
  have HB : Hid (BoxAt _ _ _) := BoxAt.new w 27 0 0 0 0
  have HBl : Hid (Below w.heap.size w ((w.alloc (.cells #[.int .i64 0, .int .i64 0] 27)).alloc (.cells #[.int .i64 0, .int .i64 0] 27))) := ((Below.refl _ _).alloc (Nat.le_refl _) _).alloc (by simp) _
  refine (HC.out _ HBl.out).mono ?_
  rintro e w1 ⟨rfl, hb1⟩
  have hbx := HB.out.below hb1
  have hbw : Below w.heap.size w w1 := HBl.out.trans (hb1.mono (by simp; omega))
  obtain ⟨c0, c1, d0, d1, f0, f1, f2, f3, sz⟩ := hbx
  have HX : Hid (BoxAt w1 w.heap.size ⟨0, 0, 0, 0⟩) := HB.out.below hb1
  clear HB HBl hb1 HC
  obtain ⟨b, off, rfl, hb, hc⟩ := (HR.out.below hbw hB) (by rw [HN.out]; omega)
  obtain ⟨ri, ci, r0, hri⟩ := hc 0 (by rw [HN.out]; omega)
  obtain ⟨rb, ro, rfl, hrb, hrc⟩ := hri (by have := HL3.out 0 (by omega); omega)
  obtain ⟨p0, p1⟩ := hrc 0 (by have := HL3.out 0 (by omega); omega)
  have hlen : 3 ≤ (rg ls 0).length := HL3.out 0 (by omega)
  clear hc hrc
  generalize (rg ls 0).length = m0 at r0 hlen
  simp only [Nat.add_zero, Nat.zero_mul] at p0 p1 r0
  have hbw0 : b < w.heap.size := by omega
  have hrbw0 : rb < w.heap.size := by omega
  go_upto_region 3 with (fail)
  go_region
  go_wp2
  go_loopw [27] (fun i wr => ∃ k : Nat, k ≤ n ∧ i = .int .i64 k ∧ Hid (BoxAt wr w.heap.size (bxTo ls k)) ∧ Below w.heap.size w wr) (fun i _ => n - (intOf i).toNat)
  case atStart => exact ⟨0, Nat.zero_le _, rfl, (HX.out.put4 _ _ _ _).drew, (below_put4 hbw (Nat.le_refl _) _ _ _ _).drew⟩
  case round =>
    obtain ⟨k, hk, rfl, HY, hnx⟩ := hrel
    clear c0 c1 d0 d1 f0 f1 f2 f3 sz HX p0 p1 r0 hri hbw hrb
    have hsz := hnx.size
    by_cases hlt : k < n
    · obtain ⟨b', off', e', hb', hc⟩ := (HR.out.below hnx hB) (by rw [HN.out]; omega)
      cases e'
      obtain ⟨ri, ci, r0, hri⟩ := hc k (by rw [HN.out]; omega)
      clear hc
      have hm3 := HL3.out k hlt
      have hmb := HTT.out k hlt
      have HS := Lib.hid (bxTo_succ ls k)
      have HRI := Lib.hid hri
      clear hri
      obtain ⟨l, hl⟩ : ∃ l, rg ls k = l := ⟨_, rfl⟩
      rw [hl] at HRI hm3 hmb HS r0
      clear hl
      obtain ⟨m, hm⟩ : ∃ m, l.length = m := ⟨_, rfl⟩
      rw [hm] at r0 hm3 hmb HS
      have HM : Hid (l.length = m) := hm
      clear hm
      obtain ⟨rb, ro, rfl, hrb, _⟩ := HRI.out (by rw [HM.out]; omega)
      have HRB : Hid (∀ wx, Below w.heap.size wr wx → ∀ j, j < m → wx.cell? ⟨rb, ro + j * 2, none⟩ = some (.int .i64 (px l j)) ∧ wx.cell? ⟨rb, ro + j * 2 + 1, none⟩ = some (.int .i64 (py l j))) := fun wx hbx j hj => by
        obtain ⟨rb', ro', e', _, hc⟩ := (HRI.out.below hbx hB) (by rw [HM.out]; omega)
        cases e'
        exact hc j (by rw [HM.out]; exact hj)
      obtain ⟨wo, hwo⟩ : ∃ wo : World, wo = wr := ⟨_, rfl⟩
      subst hwo
      go_wp2
      go_loopw [33] (fun i wi => ∃ j : Nat, j ≤ m ∧ i = .int .i64 j ∧ Hid (BoxAt wi w.heap.size (bxR l (bxTo ls k) j)) ∧ Below w.heap.size wo wi) (fun i _ => m - (intOf i).toNat)
      case atStart => exact ⟨0, Nat.zero_le _, rfl, HY, Below.refl _ _⟩
      case round =>
        obtain ⟨j, hj, rfl, HZ, hni⟩ := hrel
        have hsi := hni.size
        by_cases hjl : j < m
        · obtain ⟨p0, p1⟩ := HRB.out _ hni j hjl
          have HSJ := Lib.hid (bxR_succ l (bxTo ls k) j)
          generalize px l j = x at p0 HSJ
          generalize py l j = y at p1 HSJ
          generalize bxR l (bxTo ls k) j = s at HZ HSJ
          have hrbi : rb < wr.heap.size := by omega
          obtain ⟨wj, hwj⟩ : ∃ wj : World, wj = wr := ⟨_, rfl⟩
          subst hwj
          go_wp2
          go_loopw [38] (fun i wt => ∃ t : Nat, t ≤ 2 ∧ i = .int .i64 t ∧ Hid (BoxAt wt w.heap.size (bpart s x y t)) ∧ Below w.heap.size wj wt) (fun i _ => 2 - (intOf i).toNat)
          case atStart => exact ⟨0, Nat.zero_le _, rfl, HZ.out.below ((Below.refl _ _).alloc (Nat.le_refl _) _), (Below.refl _ _).alloc (by omega) _⟩
          case round =>
            obtain ⟨t, ht, rfl, HT, hnt⟩ := hrel
            have hst := hnt.size
            have i0 : ∀ w, (Instr.index 27 (.agg #[.int .i64 x, .int .i64 y]) (.int .i64 0)).run Try.prog w = .ok (.int .i64 x) w := fun _ => by kernel_rfl
            have i1 : ∀ w, (Instr.index 27 (.agg #[.int .i64 x, .int .i64 y]) (.int .i64 1)).run Try.prog w = .ok (.int .i64 y) w := fun _ => by kernel_rfl
            rcases (show t = 0 ∨ t = 1 ∨ t = 2 by omega) with rfl | rfl | rfl
            · obtain ⟨c0, c1, d0, d1, f0, f1, f2, f3, sz⟩ := HT.out
              simp only [bpart] at c0 c1 d0 d1
              go_upto_region 13 with (fail)
              go_region
              go_wp2
              refine ⟨⟨1, by omega, rfl, ?_, (below_put hnt (Nat.le_refl _) _ _).drew⟩, by simp [intOf]⟩
              rw [iminD, imaxD]
              exact (HT.out.put (k := 0) _ _ _ (.inl ⟨rfl, rfl⟩)).drew
            · obtain ⟨c0, c1, d0, d1, f0, f1, f2, f3, sz⟩ := HT.out
              simp only [bpart] at c0 c1 d0 d1
              go_upto_region 13 with (fail)
              go_region
              go_wp2
              refine ⟨⟨2, by omega, rfl, ?_, (below_put hnt (Nat.le_refl _) _ _).drew⟩, by simp [intOf]⟩
              rw [iminD, imaxD]
              exact (HT.out.put (k := 1) _ _ _ (.inr ⟨rfl, rfl⟩)).drew
            · go_wp2
              go_roundw
              case rel => exact ⟨j + 1, by omega, by go_num, by rw [HSJ.out]; exact HT, hni.trans hnt⟩
              case measure => simp [intOf]; omega
        · obtain rfl : j = m := by omega
          go_wp2
          go_roundw
          case rel => exact ⟨k + 1, by omega, by go_num, by rw [HS.out]; exact HZ, hnx.trans hni⟩
          case measure => simp [intOf]; omega
    · obtain rfl : k = n := by omega
      obtain ⟨c0, c1, d0, d1, f0, f1, f2, f3, sz⟩ := HY.out
      have HP := (HY.out.put4 (bxTo ls k).a (bxTo ls k).b (bxTo ls k).c (bxTo ls k).d).drew
      have HP' := Lib.hid HP
      clear HP
      have HFF := HF
      generalize bxTo ls k = s at *
      go_upto_region 17 with (fail)
      go_region
      go_wp2
      refine bodyPost_ret (v := boxV s) (by have c0 := HP'.out.c0; have c1 := HP'.out.c1; have d0 := HP'.out.d0; have d1 := HP'.out.d1; simp [results, Try.results16, go_sem, boxV, *]) rfl ⟨by rw [HF.out], (below_put4 hnx (Nat.le_refl _) _ _ _ _).drew⟩

theorem box_any (ao : Option Addr) (c : Nat) (ls : List (List Pt)) (w : World) (B : Nat) (hB : B ≤ w.heap.size) (h : RingsAt w B ao ls) (hn : ls.length ≤ 1000000000) (ht : totTo ls ls.length ≤ 1000000000) :
    Calls Try.prog 16 #[.slice ao ls.length c] w fun e w' => e = .returned (boxV (boxF ls)) ∧ Below w.heap.size w w' := by
  by_cases hz : checkF ls = 0
  · exact box_yes ao c ls w B hB h hn ht hz
  · exact box_no ao c ls w B hB h hn ht hz
end Go.Proofs.Ytnnfkdajbaicoaa
