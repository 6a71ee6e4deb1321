/- Joined: CvE, CvF, FhL, FlA, FlB, FlC, NrU, WdX, RfX, Lex9, LexA: contracts and plain laws, each with its own heading below. -/
import Derived.Test.YtdbfimdcaacjhaaGreatPackAG
import Derived.Test.YtdbfimdcaacjhaaGreatPackAC
import Derived.Test.YtdbfimdcaacjhaaGreatPackAB
import Derived.Lib.Walk
import Derived.Lib.SliceRun
import Derived.Lib.SlicesCompact
import Derived.Deep.LoopGhost
import Derived.Deep.Draws
import Derived.Laws.CopyOwn
import Derived.Lib.OwnBridge
import Derived.OwnWalk
import Derived.Deep.RegionLaw
import Derived.Test.YtdbfimdcaacjhaaGreatPackAD
/- Contracts of package cover: inThirds, Touches. -/
namespace Go.Proofs.YtdbfimdcaacjhaaGreat
open Go.RowKit Go.Lib Wd

/-- A box that may be written. -/
def Quad (w : World) (b : Nat) (x y : E2) : Prop := w.heap[b]? = some (.cells #[.int .i64 x.1, .int .i64 x.2, .int .i64 y.1, .int .i64 y.2] 76 (0, 0))
theorem Quad.lt {w : World} {b : Nat} {x y : E2} (h : Quad w b x y) : b < w.heap.size := (Array.getElem?_eq_some_iff.1 h).1
theorem Quad.turn {S : Nat → Prop} {w w' : World} {b : Nat} {x y : E2} (h : Quad w b x y) (ht : Turn S w w') (hs : ¬ S b) : Quad w' b x y := (ht.2.2.2.2 b h.lt hs).trans h
theorem Quad.later {w w' : World} {b : Nat} {x y : E2} (h : Quad w b x y) (hb : Below w.heap.size w w') : Quad w' b x y := (hb.block b h.lt).trans h
theorem Quad.cells {w : World} {b : Nat} {x y : E2} (h : Quad w b x y) : w.cell? ⟨b, 0, none⟩ = some (.int .i64 x.1) ∧ w.cell? ⟨b, 1, none⟩ = some (.int .i64 x.2) ∧ w.cell? ⟨b, 2, none⟩ = some (.int .i64 y.1) ∧ w.cell? ⟨b, 3, none⟩ = some (.int .i64 y.2) ∧ w.frozen? ⟨b, 0, none⟩ = false ∧ w.frozen? ⟨b, 1, none⟩ = false ∧ w.frozen? ⟨b, 2, none⟩ = false ∧ w.frozen? ⟨b, 3, none⟩ = false ∧ b < w.heap.size :=
  ⟨cell_of_row _ _ 0 _ _ _ h, cell_of_row _ _ 1 _ _ _ h, cell_of_row _ _ 2 _ _ _ h, cell_of_row _ _ 3 _ _ _ h, frozen_of_row _ _ _ _ _ h, frozen_of_row _ _ _ _ _ h, frozen_of_row _ _ _ _ _ h, frozen_of_row _ _ _ _ _ h, h.lt⟩
theorem Quad.put0 {w : World} {b : Nat} {x y : E2} (h : Quad w b x y) (s t : Int) : Quad ((w.setCell ⟨b, 0, none⟩ (.int .i64 s)).setCell ⟨b, 2, none⟩ (.int .i64 t)) b (s, x.2) (t, y.2) := by
  unfold Quad at *
  rw [Sort.setCell_eq, Sort.setCell_eq]
  simp [Sort.mapBlock, Array.getElem?_modify, h, Sort.onCells]
theorem Quad.put1 {w : World} {b : Nat} {x y : E2} (h : Quad w b x y) (s t : Int) : Quad ((w.setCell ⟨b, 1, none⟩ (.int .i64 s)).setCell ⟨b, 3, none⟩ (.int .i64 t)) b (x.1, s) (y.1, t) := by
  unfold Quad at *
  rw [Sort.setCell_eq, Sort.setCell_eq]
  simp [Sort.mapBlock, Array.getElem?_modify, h, Sort.onCells]
/-- Which boxes may be held against a cell. -/
def axOk (lo hi : E2) (i : Nat) : Bool := !(decide (axG lo i < -2147483648) || decide (2147483648 < axG hi i) || decide (axG hi i < axG lo i))
def bxOk (lo hi : E2) : Bool := axOk lo hi 0 && axOk lo hi 1
def triE (p : E2) : E2 := (3 * p.1, 3 * p.2)
/-- What inThirds tells: the box only where it is one. -/
def InThP (X : Bool) (xl xh : E2) (e : Ending) : Prop := ∃ x y : E2, e = .returned (.tuple #[vB x y, .bool X]) ∧ (X = true → x = xl ∧ y = xh)
set_option maxRecDepth 100000 in
set_option maxHeartbeats 8000000 in
theorem inth_any (lo hi : E2) (w : World) :
    Calls Tryz.prog 40 #[vE lo, vE hi] w fun e w' => InThP (bxOk lo hi) (triE lo) (triE hi) e ∧ Below w.heap.size w w' := by
  obtain ⟨l1, l2⟩ := lo
  obtain ⟨h1, h2⟩ := hi
  have HX : Hid (bxOk (l1, l2) (h1, h2) = (axOk (l1, l2) (h1, h2) 0 && axOk (l1, l2) (h1, h2) 1)) := rfl
  have HA0 : Hid (axOk (l1, l2) (h1, h2) 0 = !(decide (l1 < -2147483648) || decide (2147483648 < h1) || decide (h1 < l1))) := rfl
  have HA1 : Hid (axOk (l1, l2) (h1, h2) 1 = !(decide (l2 < -2147483648) || decide (2147483648 < h2) || decide (h2 < l2))) := rfl
  have HE : Hid (triE (l1, l2) = (3 * l1, 3 * l2) ∧ triE (h1, h2) = (3 * h1, 3 * h2)) := ⟨rfl, rfl⟩
  generalize bxOk (l1, l2) (h1, h2) = X at *
  generalize axOk (l1, l2) (h1, h2) 0 = A at *
  generalize axOk (l1, l2) (h1, h2) 1 = B at *
  generalize triE (l1, l2) = xl at *
  generalize triE (h1, h2) = xh at *
  simp only [vE]
  have L0 : Hid (Two ((((w.alloc (.cells #[.int .i64 l1, .int .i64 l2] 30)).alloc (.cells #[.int .i64 h1, .int .i64 h2] 30)).alloc (.cells #[.int .i64 0, .int .i64 0, .int .i64 0, .int .i64 0] 76)).alloc (.cells #[.int .i64 0, .int .i64 0, .int .i64 0, .int .i64 0] 76)) w.heap.size (.int .i64 l1) (.int .i64 l2)) := (Two.of_row (t := 30) (f := _) (heap_new _ _ _ rfl)).later (by simp) ((((Below.refl _ _).alloc (Nat.le_refl _) _).alloc (by simp) _).alloc (by simp <;> omega) _)
  have H0 : Hid (Two ((((w.alloc (.cells #[.int .i64 l1, .int .i64 l2] 30)).alloc (.cells #[.int .i64 h1, .int .i64 h2] 30)).alloc (.cells #[.int .i64 0, .int .i64 0, .int .i64 0, .int .i64 0] 76)).alloc (.cells #[.int .i64 0, .int .i64 0, .int .i64 0, .int .i64 0] 76)) (w.heap.size + 1) (.int .i64 h1) (.int .i64 h2)) := (Two.of_row (t := 30) (f := _) (heap_new _ _ _ (by simp))).later (by simp) (((Below.refl _ _).alloc (Nat.le_refl _) _).alloc (by simp) _)
  have R0 : Hid (Quad ((((w.alloc (.cells #[.int .i64 l1, .int .i64 l2] 30)).alloc (.cells #[.int .i64 h1, .int .i64 h2] 30)).alloc (.cells #[.int .i64 0, .int .i64 0, .int .i64 0, .int .i64 0] 76)).alloc (.cells #[.int .i64 0, .int .i64 0, .int .i64 0, .int .i64 0] 76)) (w.heap.size + 1 + 1) (0, 0) (0, 0)) := (show Quad (((w.alloc (.cells #[.int .i64 l1, .int .i64 l2] 30)).alloc (.cells #[.int .i64 h1, .int .i64 h2] 30)).alloc (.cells #[.int .i64 0, .int .i64 0, .int .i64 0, .int .i64 0] 76)) (w.heap.size + 1 + 1) (0, 0) (0, 0) from heap_new _ _ _ (by simp)).later ((Below.refl _ _).alloc (Nat.le_refl _) _)
  have Q0 : Hid (Quad ((((w.alloc (.cells #[.int .i64 l1, .int .i64 l2] 30)).alloc (.cells #[.int .i64 h1, .int .i64 h2] 30)).alloc (.cells #[.int .i64 0, .int .i64 0, .int .i64 0, .int .i64 0] 76)).alloc (.cells #[.int .i64 0, .int .i64 0, .int .i64 0, .int .i64 0] 76)) (w.heap.size + 1 + 1 + 1) (0, 0) (0, 0)) := heap_new _ _ _ (by simp)
  have B0 : Hid (Below w.heap.size w ((((w.alloc (.cells #[.int .i64 l1, .int .i64 l2] 30)).alloc (.cells #[.int .i64 h1, .int .i64 h2] 30)).alloc (.cells #[.int .i64 0, .int .i64 0, .int .i64 0, .int .i64 0] 76)).alloc (.cells #[.int .i64 0, .int .i64 0, .int .i64 0, .int .i64 0] 76))) := ((((Below.refl w.heap.size w).alloc (Nat.le_refl _) _).alloc (by simp) _).alloc (by simp <;> omega) _).alloc (by simp <;> omega) _
  have s0 : w.heap.size + 4 ≤ ((((w.alloc (.cells #[.int .i64 l1, .int .i64 l2] 30)).alloc (.cells #[.int .i64 h1, .int .i64 h2] 30)).alloc (.cells #[.int .i64 0, .int .i64 0, .int .i64 0, .int .i64 0] 76)).alloc (.cells #[.int .i64 0, .int .i64 0, .int .i64 0, .int .i64 0] 76)).heap.size := by simp
  go_enter Tryz.func40, Tryz.ntmps40
  go_upto_region 2 with (fail)
  generalize (((w.alloc (.cells #[.int .i64 l1, .int .i64 l2] 30)).alloc (.cells #[.int .i64 h1, .int .i64 h2] 30)).alloc (.cells #[.int .i64 0, .int .i64 0, .int .i64 0, .int .i64 0] 76)).alloc (.cells #[.int .i64 0, .int .i64 0, .int .i64 0, .int .i64 0] 76) = w1 at *
  go_wp2
  go_loopw [8] (fun iv wr => ∃ (i : Nat) (x y : E2), i ≤ 2 ∧ iv = .int .i64 i ∧ Hid (Quad wr (w.heap.size + 1 + 1 + 1) x y ∧ Turn (fun k => k = w.heap.size + 1 + 1 + 1) w1 wr) ∧ Hid ((0 < i → A = true ∧ x.1 = 3 * l1 ∧ y.1 = 3 * h1) ∧ (1 < i → B = true ∧ x.2 = 3 * l2 ∧ y.2 = 3 * h2))) (fun i _ => 2 - (intOf i).toNat)
  case atStart => exact ⟨0, (0, 0), (0, 0), by omega, rfl, ⟨Q0.out, Turn.refl _ _⟩, fun h => by omega, fun h => by omega⟩
  case round =>
    obtain ⟨i, x, y, hi2, rfl, HQ, HD⟩ := hrel
    obtain ⟨wo, rfl⟩ : ∃ wo, wo = wr := ⟨_, rfl⟩
    have hso := HQ.out.2.2.2.2.1
    rcases (show i = 0 ∨ i = 1 ∨ i = 2 by omega) with rfl | rfl | rfl
    · have p1 : decide (((0 : Nat) : Int) < 2) = true := by decide
      obtain ⟨c0, c1, c2, c3, f0, f1, f2, f3, lq⟩ := HQ.out.1.cells
      obtain ⟨a0, a1⟩ := L0.out.turn HQ.out.2 (by omega) (by omega)
      obtain ⟨b0, b1⟩ := H0.out.turn HQ.out.2 (by omega) (by omega)
      obtain ⟨r0, r1, r2, r3, g0, g1, g2, g3, lr⟩ := (R0.out.turn HQ.out.2 (by omega)).cells
      have HB : Hid (Below w.heap.size w wo) := B0.out.trans (HQ.out.2.below (by omega) fun k hk e => by omega)
      rcases (show l1 < -2147483648 ∨ (¬ l1 < -2147483648 ∧ 2147483648 < h1) ∨ (¬ l1 < -2147483648 ∧ ¬ 2147483648 < h1 ∧ h1 < l1) ∨ (¬ l1 < -2147483648 ∧ ¬ 2147483648 < h1 ∧ ¬ h1 < l1) by omega) with e1 | ⟨e1, e2⟩ | ⟨e1, e2, e3⟩ | ⟨e1, e2, e3⟩
      · have q1 : decide (l1 < -2147483648) = true := decide_eq_true e1
        have HAF : Hid (A = false) := by show _ = _; rw [HA0.out, q1]; rfl
        have HXF : Hid (X = false) := by show _ = _; rw [HX.out, HAF.out]; simp
        clear HAF
        go_wp2_with (first | (with_reducible refine wp_region_lex (by kernel_rfl) (by kernel_rfl) ?_) | (with_reducible refine OnlyG.intro (by kernel_rfl) ?_))
        exact bodyPost_ret (v := .tuple #[.agg #[.int .i64 x.1, .int .i64 x.2, .int .i64 y.1, .int .i64 y.2], .bool false]) (by simp [results, Tryz.results40, go_sem, *]) rfl ⟨⟨x, y, by rw [HXF.out], fun h => by rw [HXF.out] at h; cases h⟩, (((HB.out.drew.setCell (p := ⟨w.heap.size + 1 + 1, 0, none⟩) (by simp <;> omega) _).setCell (p := ⟨w.heap.size + 1 + 1, 1, none⟩) (by simp <;> omega) _).setCell (p := ⟨w.heap.size + 1 + 1, 2, none⟩) (by simp <;> omega) _).setCell (p := ⟨w.heap.size + 1 + 1, 3, none⟩) (by simp <;> omega) _⟩
      · have q1 : decide (l1 < -2147483648) = false := decide_eq_false e1
        have q2 : decide (2147483648 < h1) = true := decide_eq_true e2
        have HAF : Hid (A = false) := by show _ = _; rw [HA0.out, q1, q2]; rfl
        have HXF : Hid (X = false) := by show _ = _; rw [HX.out, HAF.out]; simp
        clear HAF
        go_wp2_with (first | (with_reducible refine wp_region_lex (by kernel_rfl) (by kernel_rfl) ?_) | (with_reducible refine OnlyG.intro (by kernel_rfl) ?_))
        exact bodyPost_ret (v := .tuple #[.agg #[.int .i64 x.1, .int .i64 x.2, .int .i64 y.1, .int .i64 y.2], .bool false]) (by simp [results, Tryz.results40, go_sem, *]) rfl ⟨⟨x, y, by rw [HXF.out], fun h => by rw [HXF.out] at h; cases h⟩, (((HB.out.drew.setCell (p := ⟨w.heap.size + 1 + 1, 0, none⟩) (by simp <;> omega) _).setCell (p := ⟨w.heap.size + 1 + 1, 1, none⟩) (by simp <;> omega) _).setCell (p := ⟨w.heap.size + 1 + 1, 2, none⟩) (by simp <;> omega) _).setCell (p := ⟨w.heap.size + 1 + 1, 3, none⟩) (by simp <;> omega) _⟩
      · have q1 : decide (l1 < -2147483648) = false := decide_eq_false e1
        have q2 : decide (2147483648 < h1) = false := decide_eq_false e2
        have q3 : decide (h1 < l1) = true := decide_eq_true e3
        have HAF : Hid (A = false) := by show _ = _; rw [HA0.out, q1, q2, q3]; rfl
        have HXF : Hid (X = false) := by show _ = _; rw [HX.out, HAF.out]; simp
        clear HAF
        go_wp2_with (first | (with_reducible refine wp_region_lex (by kernel_rfl) (by kernel_rfl) ?_) | (with_reducible refine OnlyG.intro (by kernel_rfl) ?_))
        exact bodyPost_ret (v := .tuple #[.agg #[.int .i64 x.1, .int .i64 x.2, .int .i64 y.1, .int .i64 y.2], .bool false]) (by simp [results, Tryz.results40, go_sem, *]) rfl ⟨⟨x, y, by rw [HXF.out], fun h => by rw [HXF.out] at h; cases h⟩, (((HB.out.drew.setCell (p := ⟨w.heap.size + 1 + 1, 0, none⟩) (by simp <;> omega) _).setCell (p := ⟨w.heap.size + 1 + 1, 1, none⟩) (by simp <;> omega) _).setCell (p := ⟨w.heap.size + 1 + 1, 2, none⟩) (by simp <;> omega) _).setCell (p := ⟨w.heap.size + 1 + 1, 3, none⟩) (by simp <;> omega) _⟩
      · have q1 : decide (l1 < -2147483648) = false := decide_eq_false e1
        have q2 : decide (2147483648 < h1) = false := decide_eq_false e2
        have q3 : decide (h1 < l1) = false := decide_eq_false e3
        have HAF : Hid (A = true) := by show _ = _; rw [HA0.out, q1, q2, q3]; rfl
        have HP := Lib.hid (HQ.out.1.put0 (3 * l1) (3 * h1))
        have HT := Lib.hid ((HQ.out.2.setCell (a := ⟨w.heap.size + 1 + 1 + 1, 0, none⟩) rfl (.int .i64 (3 * l1))).setCell (a := ⟨w.heap.size + 1 + 1 + 1, 2, none⟩) rfl (.int .i64 (3 * h1)))
        clear r0 r1 r2 r3 g0 g1 g2 g3 lr HB HQ
        go_upto_region 7 with (first | (with_reducible refine wp_region_lex (by kernel_rfl) (by kernel_rfl) ?_) | (with_reducible refine OnlyG.intro (by kernel_rfl) ?_))
        go_region
        all_goals
          go_wp2
          go_roundw
          case rel => exact ⟨0 + 1, (3 * l1, x.2), (3 * h1, y.2), by omega, rfl, ⟨HP.out, HT.out.drew.drew⟩, fun _ => ⟨HAF.out, rfl, rfl⟩, fun h => by omega⟩
          case measure => simp [intOf]
    · have p1 : decide (((1 : Nat) : Int) < 2) = true := by decide
      obtain ⟨c0, c1, c2, c3, f0, f1, f2, f3, lq⟩ := HQ.out.1.cells
      obtain ⟨a0, a1⟩ := L0.out.turn HQ.out.2 (by omega) (by omega)
      obtain ⟨b0, b1⟩ := H0.out.turn HQ.out.2 (by omega) (by omega)
      obtain ⟨r0, r1, r2, r3, g0, g1, g2, g3, lr⟩ := (R0.out.turn HQ.out.2 (by omega)).cells
      have HB : Hid (Below w.heap.size w wo) := B0.out.trans (HQ.out.2.below (by omega) fun k hk e => by omega)
      rcases (show l2 < -2147483648 ∨ (¬ l2 < -2147483648 ∧ 2147483648 < h2) ∨ (¬ l2 < -2147483648 ∧ ¬ 2147483648 < h2 ∧ h2 < l2) ∨ (¬ l2 < -2147483648 ∧ ¬ 2147483648 < h2 ∧ ¬ h2 < l2) by omega) with e1 | ⟨e1, e2⟩ | ⟨e1, e2, e3⟩ | ⟨e1, e2, e3⟩
      · have q1 : decide (l2 < -2147483648) = true := decide_eq_true e1
        have HAF : Hid (B = false) := by show _ = _; rw [HA1.out, q1]; rfl
        have HXF : Hid (X = false) := by show _ = _; rw [HX.out, HAF.out]; simp
        clear HAF
        go_wp2_with (first | (with_reducible refine wp_region_lex (by kernel_rfl) (by kernel_rfl) ?_) | (with_reducible refine OnlyG.intro (by kernel_rfl) ?_))
        exact bodyPost_ret (v := .tuple #[.agg #[.int .i64 x.1, .int .i64 x.2, .int .i64 y.1, .int .i64 y.2], .bool false]) (by simp [results, Tryz.results40, go_sem, *]) rfl ⟨⟨x, y, by rw [HXF.out], fun h => by rw [HXF.out] at h; cases h⟩, (((HB.out.drew.setCell (p := ⟨w.heap.size + 1 + 1, 0, none⟩) (by simp <;> omega) _).setCell (p := ⟨w.heap.size + 1 + 1, 1, none⟩) (by simp <;> omega) _).setCell (p := ⟨w.heap.size + 1 + 1, 2, none⟩) (by simp <;> omega) _).setCell (p := ⟨w.heap.size + 1 + 1, 3, none⟩) (by simp <;> omega) _⟩
      · have q1 : decide (l2 < -2147483648) = false := decide_eq_false e1
        have q2 : decide (2147483648 < h2) = true := decide_eq_true e2
        have HAF : Hid (B = false) := by show _ = _; rw [HA1.out, q1, q2]; rfl
        have HXF : Hid (X = false) := by show _ = _; rw [HX.out, HAF.out]; simp
        clear HAF
        go_wp2_with (first | (with_reducible refine wp_region_lex (by kernel_rfl) (by kernel_rfl) ?_) | (with_reducible refine OnlyG.intro (by kernel_rfl) ?_))
        exact bodyPost_ret (v := .tuple #[.agg #[.int .i64 x.1, .int .i64 x.2, .int .i64 y.1, .int .i64 y.2], .bool false]) (by simp [results, Tryz.results40, go_sem, *]) rfl ⟨⟨x, y, by rw [HXF.out], fun h => by rw [HXF.out] at h; cases h⟩, (((HB.out.drew.setCell (p := ⟨w.heap.size + 1 + 1, 0, none⟩) (by simp <;> omega) _).setCell (p := ⟨w.heap.size + 1 + 1, 1, none⟩) (by simp <;> omega) _).setCell (p := ⟨w.heap.size + 1 + 1, 2, none⟩) (by simp <;> omega) _).setCell (p := ⟨w.heap.size + 1 + 1, 3, none⟩) (by simp <;> omega) _⟩
      · have q1 : decide (l2 < -2147483648) = false := decide_eq_false e1
        have q2 : decide (2147483648 < h2) = false := decide_eq_false e2
        have q3 : decide (h2 < l2) = true := decide_eq_true e3
        have HAF : Hid (B = false) := by show _ = _; rw [HA1.out, q1, q2, q3]; rfl
        have HXF : Hid (X = false) := by show _ = _; rw [HX.out, HAF.out]; simp
        clear HAF
        go_wp2_with (first | (with_reducible refine wp_region_lex (by kernel_rfl) (by kernel_rfl) ?_) | (with_reducible refine OnlyG.intro (by kernel_rfl) ?_))
        exact bodyPost_ret (v := .tuple #[.agg #[.int .i64 x.1, .int .i64 x.2, .int .i64 y.1, .int .i64 y.2], .bool false]) (by simp [results, Tryz.results40, go_sem, *]) rfl ⟨⟨x, y, by rw [HXF.out], fun h => by rw [HXF.out] at h; cases h⟩, (((HB.out.drew.setCell (p := ⟨w.heap.size + 1 + 1, 0, none⟩) (by simp <;> omega) _).setCell (p := ⟨w.heap.size + 1 + 1, 1, none⟩) (by simp <;> omega) _).setCell (p := ⟨w.heap.size + 1 + 1, 2, none⟩) (by simp <;> omega) _).setCell (p := ⟨w.heap.size + 1 + 1, 3, none⟩) (by simp <;> omega) _⟩
      · have q1 : decide (l2 < -2147483648) = false := decide_eq_false e1
        have q2 : decide (2147483648 < h2) = false := decide_eq_false e2
        have q3 : decide (h2 < l2) = false := decide_eq_false e3
        have HAF : Hid (B = true) := by show _ = _; rw [HA1.out, q1, q2, q3]; rfl
        have HP := Lib.hid (HQ.out.1.put1 (3 * l2) (3 * h2))
        have HT := Lib.hid ((HQ.out.2.setCell (a := ⟨w.heap.size + 1 + 1 + 1, 1, none⟩) rfl (.int .i64 (3 * l2))).setCell (a := ⟨w.heap.size + 1 + 1 + 1, 3, none⟩) rfl (.int .i64 (3 * h2)))
        clear r0 r1 r2 r3 g0 g1 g2 g3 lr HB HQ
        go_upto_region 7 with (first | (with_reducible refine wp_region_lex (by kernel_rfl) (by kernel_rfl) ?_) | (with_reducible refine OnlyG.intro (by kernel_rfl) ?_))
        go_region
        all_goals
          go_wp2
          go_roundw
          case rel => exact ⟨1 + 1, (x.1, 3 * l2), (y.1, 3 * h2), by omega, rfl, ⟨HP.out, HT.out.drew.drew⟩, fun _ => HD.out.1 (by decide), fun _ => ⟨HAF.out, rfl, rfl⟩⟩
          case measure => simp [intOf]
    · have p1 : decide (((2 : Nat) : Int) < 2) = false := by decide
      obtain ⟨c0, c1, c2, c3, f0, f1, f2, f3, lq⟩ := HQ.out.1.cells
      obtain ⟨r0, r1, r2, r3, g0, g1, g2, g3, lr⟩ := (R0.out.turn HQ.out.2 (by omega)).cells
      have HB : Hid (Below w.heap.size w wo) := B0.out.trans (HQ.out.2.below (by omega) fun k hk e => by omega)
      obtain ⟨d1, d2⟩ := HD.out
      obtain ⟨d1a, d1b, d1c⟩ := d1 (by decide)
      obtain ⟨d2a, d2b, d2c⟩ := d2 (by decide)
      have HXF : Hid (X = true ∧ xl = x ∧ xh = y) := by
        refine ⟨by rw [HX.out, d1a, d2a]; rfl, ?_, ?_⟩
        · rw [HE.out.1, ← d1b, ← d2b]
        · rw [HE.out.2, ← d1c, ← d2c]
      clear d1 d2 d1a d1b d1c d2a d2b d2c HD HQ
      go_wp2
      exact bodyPost_ret (v := .tuple #[.agg #[.int .i64 x.1, .int .i64 x.2, .int .i64 y.1, .int .i64 y.2], .bool true]) (by simp [results, Tryz.results40, go_sem, *]) rfl ⟨⟨x, y, by rw [HXF.out.1], fun _ => ⟨HXF.out.2.1.symm, HXF.out.2.2.symm⟩⟩, (((HB.out.setCell (p := ⟨w.heap.size + 1 + 1, 0, none⟩) (by simp <;> omega) _).setCell (p := ⟨w.heap.size + 1 + 1, 1, none⟩) (by simp <;> omega) _).setCell (p := ⟨w.heap.size + 1 + 1, 2, none⟩) (by simp <;> omega) _).setCell (p := ⟨w.heap.size + 1 + 1, 3, none⟩) (by simp <;> omega) _⟩
end Go.Proofs.YtdbfimdcaacjhaaGreat
/- The contract of cover.Touches. -/
namespace Go.Proofs.YtdbfimdcaacjhaaGreat
open Go.RowKit Go.Lib Wd

theorem d_sm {m : Nat} (hm : m ≤ 12) : Sm 16777216 (d0E m) ∧ Sm 16777216 (d1E m) ∧ Sm 16777216 (subE (d1E m) (d0E m)) := by
  unfold Sm
  rcases upto12 hm with rfl | rfl | rfl | rfl | rfl | rfl | rfl | rfl | rfl | rfl | rfl | rfl | rfl <;> decide
/-- A ring about a middle that is not too far. -/
theorem ring_sm {m : Nat} (hm : m ≤ 12) {z : E2} (hc : Sm 90000000000 (cenE m z)) : RingSm (hexL m z) := fun k hk => by
  obtain ⟨h0, h1, h2, h3, h4, h5⟩ := hexC_eq m z
  obtain ⟨e0, e1, e2⟩ := d_sm hm
  rw [hexL_get m z hk, hexL_get m z (show (k + 1) % 6 < 6 by omega)]
  generalize d0E m = d at *
  generalize d1E m = e at *
  generalize cenE m z = o at *
  unfold Sm subE at *
  simp only at e2
  rcases (show k = 0 ∨ k = 1 ∨ k = 2 ∨ k = 3 ∨ k = 4 ∨ k = 5 by omega) with rfl | rfl | rfl | rfl | rfl | rfl
  · rw [show (0 + 1) % 6 = 1 from rfl, h0, h1]; (try unfold addE); simp only; omega
  · rw [show (1 + 1) % 6 = 2 from rfl, h1, h2]; (try unfold addE); simp only; omega
  · rw [show (2 + 1) % 6 = 3 from rfl, h2, h3]; (try unfold addE); simp only; omega
  · rw [show (3 + 1) % 6 = 4 from rfl, h3, h4]; (try unfold addE); simp only; omega
  · rw [show (4 + 1) % 6 = 5 from rfl, h4, h5]; (try unfold addE); simp only; omega
  · rw [show (5 + 1) % 6 = 0 from rfl, h5, h0]; (try unfold addE); simp only; omega
theorem ok_near {r : Nat} {z : E2} (h : okB r z = true) : r ≤ 12 ∧ Sm 1073741824 z ∧ Sm 90000000000 (cenE (12 - r) z) := by
  obtain ⟨hs, hb⟩ := (okB_iff _ _).1 h
  have hs := (shapeB_iff _ _).1 hs
  have hr : r ≤ 12 := by omega
  refine ⟨hr, by unfold Sm; omega, ?_⟩
  have h0 : Hex (tN (12 - r) 0) (errE (12 - r) z (2340 * (mulE (bE (12 - r)) z).1, 2340 * (mulE (bE (12 - r)) z).2)) := by
    have : (0 : Int) ≤ tN (12 - r) 0 := by rcases upto12 hr with rfl | rfl | rfl | rfl | rfl | rfl | rfl | rfl | rfl | rfl | rfl | rfl | rfl <;> decide
    unfold errE Hex
    simp only
    omega
  have h2 := err_ups h0 (k := r) (by omega)
  rw [show 12 - r + r = 12 by omega] at h2
  have ht : tN (12 - r) r ≤ 4000000000 := by rcases upto12 hr with rfl | rfl | rfl | rfl | rfl | rfl | rfl | rfl | rfl | rfl | rfl | rfl | rfl <;> decide
  have h3 := h2.mono ht
  rw [show ((r : Int)).toNat = r by omega] at hb
  generalize upN r z = b at *
  obtain ⟨_, _, _, _, _, _, _, _, _, _, _, _, q12⟩ := bE_tab
  rw [baseB_iff] at hb
  obtain ⟨b1, b2⟩ := b
  have hm : midE (12 - r) z = (3 * (mulE (bE (12 - r)) z).1, 3 * (mulE (bE (12 - r)) z).2) := by
    unfold midE mulE
    generalize bE (12 - r) = c
    ext <;> simp only <;> grind
  unfold cenE spotE
  rw [hm]
  generalize mulE (bE (12 - r)) z = u at *
  simp only [Hex, errE, mulE, q12] at h3 hb
  unfold Sm
  simp only
  omega
/-- Whether a cell and a box have a point in common, as it is told. -/
def ctB (r : Int) (z lo hi : E2) : Bool := bxOk lo hi && (okB r z && touchB (prG (hexL (12 - r.toNat) z)) (triE lo) (triE hi))
theorem tri_sm {lo hi : E2} (h : bxOk lo hi = true) : Sm 10000000000 (triE lo) ∧ Sm 10000000000 (triE hi) := by
  unfold bxOk axOk axG at h
  simp at h
  unfold Sm triE
  simp only
  omega
set_option maxRecDepth 100000 in
set_option maxHeartbeats 4000000 in
theorem ctouch_any (r : Int) (z lo hi : E2) (w : World) :
    Calls Tryz.prog 16 #[vC r z, vE lo, vE hi] w fun e w' => e = .returned (.bool (ctB r z lo hi)) ∧ Below w.heap.size w w' := by
  have HIN := Lib.hid (inth_any lo hi)
  have HOK := Lib.hid (ok_any r z)
  have HV : Hid (ctB r z lo hi = (bxOk lo hi && (okB r z && touchB (prG (hexL (12 - r.toNat) z)) (triE lo) (triE hi)))) := rfl
  have HTO : Hid (okB r z = true → bxOk lo hi = true → (∀ w, Calls Tryz.prog 49 #[vE z, .int .i64 r] w fun e w' => ∃ ao c, e = .returned (.tuple #[.slice ao 6 c, .bool true]) ∧ w'.ownsRow w.heap.size 30 2 (.slice ao 6 c) 6 (prV (hexL (12 - r.toNat) z)) ∧ Below w.heap.size w w') ∧
      ∀ ao c w, PrAt w ao (hexL (12 - r.toNat) z) → Calls Tryz.prog 41 #[vB (triE lo) (triE hi), .slice ao 6 c] w fun e w' => e = .returned (.bool (touchB (prG (hexL (12 - r.toNat) z)) (triE lo) (triE hi))) ∧ Below w.heap.size w w') := fun h1 h2 => by
    obtain ⟨k, rfl, hk⟩ := okB_nat h1
    obtain ⟨g1, g2, g3⟩ := ok_near h1
    obtain ⟨t1, t2⟩ := tri_sm h2
    rw [show ((k : Int)).toNat = k by omega]
    exact ⟨fun w => hex_in z g2 k g1 w, fun ao c w h => touches_any ao c _ _ _ w h (hexL_len _ _) (ring_sm (by omega) g3) t1 t2⟩
  have HL := Lib.hid (hexL_len (12 - r.toNat) z)
  generalize touchB (prG (hexL (12 - r.toNat) z)) (triE lo) (triE hi) = T at *
  generalize hexL (12 - r.toNat) z = L at *
  generalize ctB r z lo hi = X at *
  generalize okB r z = o at *
  generalize bxOk lo hi = b at *
  obtain ⟨x, hx⟩ : ∃ x, triE lo = x := ⟨_, rfl⟩
  obtain ⟨y, hy⟩ : ∃ y, triE hi = y := ⟨_, rfl⟩
  rw [hx, hy] at HIN HTO
  clear hx hy
  obtain ⟨z1, z2⟩ := z
  obtain ⟨l1, l2⟩ := lo
  obtain ⟨h1, h2⟩ := hi
  simp only [vE, vC] at *
  have T0 : Hid (Tri (((w.alloc (.cells #[.int .i64 r, .int .i64 z1, .int .i64 z2] 27)).alloc (.cells #[.int .i64 l1, .int .i64 l2] 30)).alloc (.cells #[.int .i64 h1, .int .i64 h2] 30)) w.heap.size r (z1, z2)) := (show Tri (w.alloc (.cells #[.int .i64 r, .int .i64 z1, .int .i64 z2] 27)) w.heap.size r (z1, z2) from heap_new _ _ _ rfl).later (((Below.refl _ _).alloc (Nat.le_refl _) _).alloc (by simp) _)
  have L0 : Hid (Two (((w.alloc (.cells #[.int .i64 r, .int .i64 z1, .int .i64 z2] 27)).alloc (.cells #[.int .i64 l1, .int .i64 l2] 30)).alloc (.cells #[.int .i64 h1, .int .i64 h2] 30)) (w.heap.size + 1) (.int .i64 l1) (.int .i64 l2)) := (Two.of_row (t := 30) (f := _) (heap_new _ _ _ (by simp))).later (by simp) ((Below.refl _ _).alloc (Nat.le_refl _) _)
  have H0 : Hid (Two (((w.alloc (.cells #[.int .i64 r, .int .i64 z1, .int .i64 z2] 27)).alloc (.cells #[.int .i64 l1, .int .i64 l2] 30)).alloc (.cells #[.int .i64 h1, .int .i64 h2] 30)) (w.heap.size + 1 + 1) (.int .i64 h1) (.int .i64 h2)) := Two.of_row (t := 30) (f := _) (heap_new _ _ _ (by simp))
  have B0 : Hid (Below w.heap.size w (((w.alloc (.cells #[.int .i64 r, .int .i64 z1, .int .i64 z2] 27)).alloc (.cells #[.int .i64 l1, .int .i64 l2] 30)).alloc (.cells #[.int .i64 h1, .int .i64 h2] 30))) := (((Below.refl w.heap.size w).alloc (Nat.le_refl _) _).alloc (by simp) _).alloc (by simp <;> omega) _
  have s0 : w.heap.size + 3 ≤ (((w.alloc (.cells #[.int .i64 r, .int .i64 z1, .int .i64 z2] 27)).alloc (.cells #[.int .i64 l1, .int .i64 l2] 30)).alloc (.cells #[.int .i64 h1, .int .i64 h2] 30)).heap.size := by simp
  go_enter Tryz.func16, Tryz.ntmps16
  go_upto_region 1 with (fail)
  generalize ((w.alloc (.cells #[.int .i64 r, .int .i64 z1, .int .i64 z2] 27)).alloc (.cells #[.int .i64 l1, .int .i64 l2] 30)).alloc (.cells #[.int .i64 h1, .int .i64 h2] 30) = w1 at *
  obtain ⟨a0, a1⟩ := L0.out
  obtain ⟨b0, b1⟩ := H0.out
  go_wp2_with fail
  refine (HIN.out _).mono ?_
  rintro e w2 ⟨⟨u, v, rfl, huv⟩, hb2⟩
  have HUV := Lib.hid huv
  have K2 := hb2.alloc hb2.size (.cells #[.int .i64 u.1, .int .i64 u.2, .int .i64 v.1, .int .i64 v.2] 76)
  have Q2 : Hid (Quad (w2.alloc (.cells #[.int .i64 u.1, .int .i64 u.2, .int .i64 v.1, .int .i64 v.2] 76)) w2.heap.size u v) := heap_new _ _ _ rfl
  have T2 := Lib.hid (T0.out.later K2)
  have B2 : Hid (Below w.heap.size w (w2.alloc (.cells #[.int .i64 u.1, .int .i64 u.2, .int .i64 v.1, .int .i64 v.2] 76))) := B0.out.trans (K2.mono B0.out.size)
  have s2 : w2.heap.size < (w2.alloc (.cells #[.int .i64 u.1, .int .i64 u.2, .int .i64 v.1, .int .i64 v.2] 76)).heap.size := by simp
  clear huv hb2 K2 T0 L0 H0 B0 HIN a0 a1 b0 b1
  go_upto_region 2 with (fail)
  generalize w2.alloc (.cells #[.int .i64 u.1, .int .i64 u.2, .int .i64 v.1, .int .i64 v.2] 76) = w3 at *
  cases b with
  | false =>
    have HX : Hid (X = false) := by show _ = _; rw [HV.out]; rfl
    clear HV HTO HUV HOK
    go_wp2
    go_ret
    rw [HX.out]
    exact ⟨rfl, B2.out⟩
  | true =>
    obtain ⟨rfl, rfl⟩ := HUV.out (by first | rfl | trivial)
    obtain ⟨t0, t1, t2, -, -, -, -⟩ := T2.out.cells
    go_wp2_with fail
    refine (HOK.out _).mono ?_
    rintro e w4 ⟨rfl, hb4⟩
    have Q4 := Lib.hid (Q2.out.later hb4)
    have T4 := Lib.hid (T2.out.later hb4)
    have B4 := Lib.hid (B2.out.trans (hb4.mono B2.out.size))
    clear hb4 Q2 T2 B2 t0 t1 t2 HUV HOK
    cases o with
    | false =>
      have HX : Hid (X = false) := by show _ = _; rw [HV.out]; rfl
      clear HV HTO
      go_wp2
      go_ret
      rw [HX.out]
      exact ⟨rfl, B4.out⟩
    | true =>
      obtain ⟨hhx, htc⟩ := HTO.out (by first | rfl | trivial) (by first | rfl | trivial)
      have HX : Hid (X = T) := by show _ = _; rw [HV.out]; rfl
      have HHX := Lib.hid hhx
      have HTC := Lib.hid htc
      obtain ⟨t0, t1, t2, -, -, -, -⟩ := T4.out.cells
      clear HV HTO hhx htc
      go_wp2_with fail
      refine (HHX.out _).mono ?_
      rintro e w5 ⟨ao, c, rfl, ho5, hb5⟩
      have HP5 := Lib.hid (prAt_own HL.out.symm ho5)
      obtain ⟨q0, q1, q2, q3, -, -, -, -, -⟩ := (Q4.out.later hb5).cells
      have B5 := Lib.hid (B4.out.trans (hb5.mono B4.out.size))
      have HTC2 := Lib.hid (HTC.out ao c w5 HP5.out)
      clear ho5 hb5 Q4 T4 B4 t0 t1 t2 HHX HTC
      go_wp2_with fail
      refine HTC2.out.mono ?_
      rintro e w6 ⟨rfl, hb6⟩
      have B6 := Lib.hid (B5.out.trans (hb6.mono B5.out.size))
      clear hb6 B5 q0 q1 q2 q3
      go_wp2
      go_ret
      rw [HX.out]
      exact ⟨rfl, B6.out⟩
end Go.Proofs.YtdbfimdcaacjhaaGreat
/- The contract of (*flood).look. -/
namespace Go.Proofs.YtdbfimdcaacjhaaGreat
open Go.RowKit Go.Lib Wd
open Go.ChangeMaps (setBlock heap_setBlock_same heap_setBlock_other)

theorem turned_other {w w' : World} {b x : Nat} (h : w.mapTurned w' b) (hx : x ≠ b) : w'.heap[x]? = w.heap[x]? := by
  obtain ⟨es, clock, es', clock', hb, rfl⟩ := h
  exact heap_setBlock_other hb _ hx
theorem Turn.mapT {S : Nat → Prop} {w w' w2 : World} {b : Nat} (h : Turn S w w') (hb : S b) (ht : w'.mapTurned w2 b) : Turn S w w2 := by
  have hg := ht.grown
  exact ⟨hg.os.trans h.1, hg.tape.trans h.2.1, hg.output.trans h.2.2.1, Nat.le_trans h.2.2.2.1 hg.size, fun k hk hs => (hg.block k (Nat.lt_of_lt_of_le hk h.2.2.2.1) (fun e => hs (by cases e; exact hb))).trans (h.2.2.2.2 k hk hs)⟩
/-- Block fb is a flood at size r about a box in thirds; its map is block mb: f, of m entries; still to do: L. -/
def FloodAt (w : World) (B fb mb : Nat) (r : Nat) (lo hi : E2) (vo : Option Addr) (c : Nat) (L : List E2) (f : E2 → Option Int) (m : Nat) : Prop :=
  (w.cell? ⟨fb, 0, none⟩ = some (.int .i64 r) ∧ w.cell? ⟨fb, 1, none⟩ = some (.func (.func 41) #[vB lo hi] #[]) ∧ w.cell? ⟨fb, 3, none⟩ = some (.map (some mb))) ∧ RowE w B fb 2 vo c L ∧ MapE w mb f m ∧ B ≤ fb ∧ B ≤ mb
def FootF (fb mb : Nat) (vo : Option Addr) : Nat → Prop := fun k => FootE fb vo k ∨ k = mb
theorem FloodAt.apart {w : World} {B fb mb r c m : Nat} {lo hi : E2} {vo : Option Addr} {L : List E2} {f : E2 → Option Int} (h : FloodAt w B fb mb r lo hi vo c L f m) : ∀ k, FootE fb vo k → k ≠ mb := fun k hk e => by
  obtain ⟨⟨h0, -, -⟩, hR, hM, -, -⟩ := h
  subst e
  rcases hk with e | ⟨o, s, e⟩
  · subst e
    obtain ⟨D, ⟨es, clock, h10, _⟩, _⟩ := hM
    simp [World.cell?, h10] at h0
  · rcases hR.2.2.1.2 with ⟨h1, _⟩ | ⟨g', cap, cur, hv, _, hh, _⟩
    · simp only [Value.slice.injEq] at h1; rw [h1.1] at e; cases e
    · cases hv; cases e; exact hM.notCells hh
theorem FloodAt.below {w w' : World} {B fb mb r c m : Nat} {lo hi : E2} {vo : Option Addr} {L : List E2} {f : E2 → Option Int} (h : FloodAt w B fb mb r lo hi vo c L f m) (hb : Below w.heap.size w w') : FloodAt w' B fb mb r lo hi vo c L f m := by
  obtain ⟨⟨h0, h1, h2⟩, hR, hM, h5⟩ := h
  have e := hb.block fb hR.lt
  exact ⟨⟨(World.cell?_of_block (a := ⟨fb, 0, none⟩) e).trans h0, (World.cell?_of_block (a := ⟨fb, 1, none⟩) e).trans h1, (World.cell?_of_block (a := ⟨fb, 3, none⟩) e).trans h2⟩, hR.below hb, hM.heap (hb.block mb hM.lt), h5⟩
theorem FloodAt.mapped {w w' : World} {B fb mb r c m m' : Nat} {lo hi : E2} {vo : Option Addr} {L : List E2} {f f' : E2 → Option Int} (h : FloodAt w B fb mb r lo hi vo c L f m) (hm : MapE w' mb f' m') (ht : w.mapTurned w' mb) : FloodAt w' B fb mb r lo hi vo c L f' m' := by
  have ha := h.apart
  obtain ⟨⟨h0, h1, h2⟩, hR, hM, h5⟩ := h
  have e := turned_other ht (ha fb (.inl rfl))
  have hT : Turn (fun k => k = mb) w w' := (Turn.refl _ _).mapT rfl ht
  exact ⟨⟨(World.cell?_of_block (a := ⟨fb, 0, none⟩) e).trans h0, (World.cell?_of_block (a := ⟨fb, 1, none⟩) e).trans h1, (World.cell?_of_block (a := ⟨fb, 3, none⟩) e).trans h2⟩, hR.kept hT ha, hm, h5⟩
theorem FloodAt.rowed {w w' : World} {B fb mb r c c' m : Nat} {lo hi : E2} {vo vo' : Option Addr} {L L' : List E2} {f : E2 → Option Int} (h : FloodAt w B fb mb r lo hi vo c L f m) (hr : RowE w' B fb 2 vo' c' L') (ht : TE fb 2 vo w w') : FloodAt w' B fb mb r lo hi vo' c' L' f m := by
  have ha := h.apart
  obtain ⟨⟨h0, h1, h2⟩, hR, hM, h5⟩ := h
  exact ⟨⟨(ht.2.1 0 (by decide)).trans h0, (ht.2.1 1 (by decide)).trans h1, (ht.2.1 3 (by decide)).trans h2⟩, hr, hM.heap (ht.1.2.2.2.2 mb hM.lt fun hf => ha mb hf rfl), h5⟩
/-- Behind a look at z. -/
def Looked (w : World) (B fb mb : Nat) (r : Nat) (lo hi : E2) (vo : Option Addr) (L : List E2) (f : E2 → Option Int) (m : Nat) (z : E2) (t : Bool) (w' : World) : Prop :=
  ∃ vo' c' L', FloodAt w' B fb mb r lo hi vo' c' L' (updE f z (some ((f z).getD 0 + 1))) (if (f z).isSome then m else m + 1) ∧ GrowsE w fb vo vo' ∧ Turn (FootF fb mb vo) w w' ∧
    L'.Perm (if (f z).getD 0 = 0 ∧ t = true then z :: L else L)
set_option maxRecDepth 100000 in
set_option maxHeartbeats 4000000 in
theorem look_any {w : World} {B fb mb r c m : Nat} {lo hi : E2} {vo : Option Addr} {L : List E2} {f : E2 → Option Int} (h : FloodAt w B fb mb r lo hi vo c L f m) (z : E2) (hz : Sm 1073741824 z) (hr : r ≤ 12) (hs : RingSm (hexL (12 - r) z)) (hlo : Sm 10000000000 lo) (hhi : Sm 10000000000 hi)
    (hL : L.length < 1000000) (hm : m < 1000000) (hf : 0 ≤ (f z).getD 0 ∧ (f z).getD 0 < 1000000) :
    Calls Tryz.prog 42 #[.pointer (some ⟨fb, 0, none⟩), vE z] w fun e w' => e = .returned (.tuple #[]) ∧ Looked w B fb mb r lo hi vo L f m z (touchB (prG (hexL (12 - r) z)) lo hi) w' := by
  have hwz := wfE_sm hz (by decide)
  have HHX := Lib.hid (fun w => hex_in z hz r hr w)
  have HTO : Hid (∀ ao c w, PrAt w ao (hexL (12 - r) z) → Calls Tryz.prog 41 #[vB lo hi, .slice ao 6 c] w fun e w' => e = .returned (.bool (touchB (prG (hexL (12 - r) z)) lo hi)) ∧ Below w.heap.size w w') := fun ao c w h => touches_any ao c _ _ _ w h (hexL_len _ _) hs hlo hhi
  have HLN := Lib.hid (hexL_len (12 - r) z)
  generalize touchB (prG (hexL (12 - r) z)) lo hi = T at *
  generalize hexL (12 - r) z = H at *
  obtain ⟨v, hv⟩ : ∃ v, (f z).getD 0 = v := ⟨_, rfl⟩
  obtain ⟨m', hm'⟩ : ∃ n, (if (f z).isSome then m else m + 1) = n := ⟨_, rfl⟩
  have HF : Hid (∀ w' vo' c' L', FloodAt w' B fb mb r lo hi vo' c' L' (updE f z (some (v + 1))) m' → GrowsE w fb vo vo' → Turn (FootF fb mb vo) w w' → L'.Perm (if v = 0 ∧ T = true then z :: L else L) → Looked w B fb mb r lo hi vo L f m z T w') := fun w' vo' c' L' h1 h2 h3 h4 =>
    ⟨vo', c', L', by rw [hv, hm']; exact h1, h2, h3, by rw [hv]; exact h4⟩
  rw [hv] at hf
  -- the world with z in a block of its own
  obtain ⟨w1, hw1⟩ : ∃ W, w.alloc (.cells #[.int .i64 z.1, .int .i64 z.2] 23) = W := ⟨_, rfl⟩
  have hb1 : Below w.heap.size w w1 := by rw [← hw1]; exact (Below.refl _ _).alloc (Nat.le_refl _) _
  have hsz : w1.heap.size = w.heap.size + 1 := by rw [← hw1]; exact World.size_alloc _ _
  have hx0 : w1.heap[w.heap.size]? = some (.cells #[.int .i64 z.1, .int .i64 z.2] 23 (0, 0)) := by rw [← hw1]; exact heap_new _ _ _ rfl
  have h1 := h.below hb1
  have hM1 : MapE w1.drew mb f m := h1.2.2.1
  have hmb := h.2.2.1.lt
  obtain ⟨v0, st, we, q2, ht1, q3, hst⟩ := hM1.entry (by unfold maxLen; omega) hwz
  have q1 := hM1.get hwz
  obtain ⟨w2, q4, hM2, ht2⟩ := hst (v + 1) (wf_i64 (by omega) (by omega))
  rw [hv] at q1 q3
  rw [hm'] at hM2
  have h2 : FloodAt w2 B fb mb r lo hi vo c L (updE f z (some (v + 1))) m' := FloodAt.mapped (w := w1.drew) h1 hM2 ht2
  have hT2 : Turn (FootF fb mb vo) w w2 := Turn.mapT (w' := w1.drew) ((Turn.of_below hb1).drew) (.inr rfl) ht2
  have hx2 : w2.heap[w.heap.size]? = some (.cells #[.int .i64 z.1, .int .i64 z.2] 23 (0, 0)) := (turned_other ht2 (by omega)).trans hx0
  have hg2 : (Instr.lookup 81 (.map (some mb)) (vE z) false).run Tryz.prog w2.drew = .ok (.int .i64 (v + 1)) w2.drew := by
    have := (show MapE w2.drew mb _ m' from hM2).get hwz
    rw [this]; unfold updE; rw [if_pos rfl]; rfl
  have d1 : w1.cell? ⟨w.heap.size, 0, none⟩ = some (.int .i64 z.1) := cell_of_row w1 _ 0 _ _ _ hx0
  have d2 : w1.cell? ⟨w.heap.size, 1, none⟩ = some (.int .i64 z.2) := cell_of_row w1 _ 1 _ _ _ hx0
  have e1 : w2.cell? ⟨w.heap.size, 0, none⟩ = some (.int .i64 z.1) := cell_of_row w2 _ 0 _ _ _ hx2
  have e2 : w2.cell? ⟨w.heap.size, 1, none⟩ = some (.int .i64 z.2) := cell_of_row w2 _ 1 _ _ _ hx2
  obtain ⟨⟨a0, a1, a3⟩, -⟩ := id h1
  obtain ⟨⟨b0, b1, b3⟩, -⟩ := id h2
  have HW1 := Lib.hid hw1
  have H2 := Lib.hid h2
  have HT2 := Lib.hid hT2
  have HX2 := Lib.hid hx2
  have hfb : fb < w1.heap.size := h1.2.1.lt
  have hfb2 : fb < w2.heap.size := h2.2.1.lt
  have hbx2 : w.heap.size < w2.heap.size := (Array.getElem?_eq_some_iff.1 hx2).1
  clear hT2 hx2 hx0 hst hM1 hM2 h1 h2 ht1 ht2 hwz hw1 hb1 hs h hv hm'
  simp only [vE, vB] at *
  go_enter Tryz.func42, Tryz.ntmps42
  go_upto_region 1 with (fail)
  rw [HW1.out]
  go_region
  by_cases hv0 : v = 0
  · subst hv0
    go_upto_region 3 with (first | (with_reducible refine wp_region_lex (by kernel_rfl) (by kernel_rfl) ?_) | (with_reducible refine OnlyG.intro (by kernel_rfl) ?_))
    go_upto_region 4 with (first | (with_reducible refine wp_region_lex (by kernel_rfl) (by kernel_rfl) ?_) | (with_reducible refine OnlyG.intro (by kernel_rfl) ?_) | (go_at_call 49; refine (HHX.out _).mono ?_; rintro e w4 ⟨ao, ac, rfl, ho4, hb4⟩))
    have HP4 := Lib.hid (prAt_own HLN.out.symm ho4)
    have K4 := hb4
    have F4 := Lib.hid ((show FloodAt w2.drew.drew B fb mb r lo hi vo c L (updE f z (some (0 + 1))) m' from H2.out).below hb4)
    have HT4 : Hid (Turn (FootF fb mb vo) w w4) := (HT2.out.drew.drew).trans (T := fun _ => False) (Turn.of_below hb4) fun _ _ h => h.elim
    have HX4 : Hid (w4.heap[w.heap.size]? = some (.cells #[.int .i64 z.1, .int .i64 z.2] 23 (0, 0))) := (hb4.block w.heap.size hbx2).trans HX2.out
    obtain ⟨⟨-, k1, -⟩, -⟩ := id F4.out
    have hfb4 : fb < w4.heap.size := F4.out.2.1.lt
    have HT5 := Lib.hid (HTO.out ao ac w4 HP4.out)
    clear ho4 hb4 K4 H2 HT2 HX2 HHX HTO d1 d2 e1 e2 a0 a1 a3 b0 b1 b3 q1 q2 q3 q4 hg2
    go_wp2_with fail
    refine HT5.out.mono ?_
    rintro e w5 ⟨rfl, hb5⟩
    have F5 := Lib.hid (F4.out.below hb5)
    have T5 : Hid (Turn (FootF fb mb vo) w w5) := HT4.out.trans (T := fun _ => False) (Turn.of_below hb5) fun _ _ h => h.elim
    have hx5 : w5.heap[w.heap.size]? = some (.cells #[.int .i64 z.1, .int .i64 z.2] 23 (0, 0)) := (hb5.block w.heap.size (Array.getElem?_eq_some_iff.1 HX4.out).1).trans HX4.out
    clear hb5 HT5 HX4 HT4 F4 k1 HP4
    cases T with
    | false =>
      have HE := Lib.hid (HF.out w5 vo c L F5.out (fun g o s e _ => .inr ⟨o, s, e⟩) T5.out (by rw [if_neg (by simp)]))
      clear HF hx5 F5 T5
      go_wp2_with fail
      go_end0
      exact ⟨rfl, HE.out⟩
    | true =>
      have d1 : w5.cell? ⟨w.heap.size, 0, none⟩ = some (.int .i64 z.1) := cell_of_row w5 _ 0 _ _ _ hx5
      have d2 : w5.cell? ⟨w.heap.size, 1, none⟩ = some (.int .i64 z.2) := cell_of_row w5 _ 1 _ _ _ hx5
      have hbx5 : w.heap.size < w5.heap.size := (Array.getElem?_eq_some_iff.1 hx5).1
      have hfb5 : fb < w5.heap.size := F5.out.2.1.lt
      have F6 : Hid (FloodAt w5.drew B fb mb r lo hi vo c L (updE f z (some (0 + 1))) m') := F5.out
      have HPU := Lib.hid (hpushE_any F6.out.2.1 (show B ≤ w5.drew.heap.size by have := F5.out.2.2.2.1; show B ≤ w5.heap.size; omega) z hL)
      have HE : Hid (∀ w6, HPushed w5.drew B fb 2 vo L z w6 → Looked w B fb mb r lo hi vo L f m z true w6) := fun w6 ⟨M, hM, ⟨vo', c', hr6, hg6⟩, ht6⟩ =>
        HF.out w6 vo' c' M (F6.out.rowed hr6 ht6) (fun g o s e hlt => hg6 g o s e (Nat.lt_of_lt_of_le hlt T5.out.2.2.2.1)) (T5.out.drew.trans ht6.1 fun _ _ h => .inl h) (by rw [if_pos ⟨by first | rfl | trivial, by first | rfl | trivial⟩]; exact hM)
      unfold ifcE at HPU
      clear HF hx5 F5 F6 T5
      go_upto_region 5 with (fail)
      go_region_with (go_at_call 76; refine HPU.out.mono ?_; rintro e w6 ⟨rfl, h6⟩; have HEE := Lib.hid (HE.out w6 h6); clear h6)
      all_goals
        go_end0
        exact ⟨rfl, HEE.out⟩
  · have qt : decide (1 < v + 1) = true := by simp; omega
    go_wp2_with (first | (with_reducible refine wp_region_lex (by kernel_rfl) (by kernel_rfl) ?_) | (with_reducible refine OnlyG.intro (by kernel_rfl) ?_))
    refine bodyPost_ret (results_none rfl _ _ _) rfl ?_
    exact ⟨rfl, HF.out _ vo c L (H2.out.below (Below.refl _ _).drew) (fun g o s e _ => .inr ⟨o, s, e⟩) HT2.out.drew (by rw [if_neg (fun h => hv0 h.1)])⟩
end Go.Proofs.YtdbfimdcaacjhaaGreat
/- Plain laws of the flood: bounds of what touches a box of the world; what a look and a pop do. -/
namespace Go.Proofs.YtdbfimdcaacjhaaGreat
open Go.RowKit Go.Lib Wd

/-- Whether a cell touches a box in thirds. -/
def ttB (m : Nat) (lo hi : E2) (z : E2) : Bool := touchB (prG (hexL m z)) lo hi
theorem tt_iff (m : Nat) (lo hi z : E2) : ttB m lo hi z = true ↔ TouchP (hexC m z) lo hi := by
  unfold ttB
  rw [touchB_iff]
  unfold TouchP
  have e : ∀ k, k < 6 → prG (hexL m z) k = hexC m z k := fun k hk => hexL_get m z hk
  constructor
  · rintro ⟨⟨⟨a, a1, a2⟩, b, b1, b2⟩, ⟨⟨c, c1, c2⟩, d, d1, d2⟩, h⟩
    exact ⟨⟨⟨a, a1, by rw [← e a a1]; exact a2⟩, b, b1, by rw [← e b b1]; exact b2⟩, ⟨⟨c, c1, by rw [← e c c1]; exact c2⟩, d, d1, by rw [← e d d1]; exact d2⟩, fun k hk => by rw [← e k hk, ← e _ (show (k + 1) % 6 < 6 by omega)]; exact h k hk⟩
  · rintro ⟨⟨⟨a, a1, a2⟩, b, b1, b2⟩, ⟨⟨c, c1, c2⟩, d, d1, d2⟩, h⟩
    exact ⟨⟨⟨a, a1, by rw [e a a1]; exact a2⟩, b, b1, by rw [e b b1]; exact b2⟩, ⟨⟨c, c1, by rw [e c c1]; exact c2⟩, d, d1, by rw [e d d1]; exact d2⟩, fun k hk => by rw [e k hk, e _ (show (k + 1) % 6 < 6 by omega)]; exact h k hk⟩
theorem touch_sm {m : Nat} (hm : m ≤ 12) {z lo hi : E2} (h : TouchP (hexC m z) lo hi) (hlo : Sm 3300000000 lo) (hhi : Sm 3300000000 hi) : Sm 3400000000 (cenE m z) := by
  obtain ⟨⟨⟨a, a1, a2⟩, b, b1, b2⟩, ⟨⟨c, c1, c2⟩, d, d1, d2⟩, -⟩ := h
  obtain ⟨h0, h1, h2, h3, h4, h5⟩ := hexC_eq m z
  obtain ⟨e0, e1, e2⟩ := d_sm hm
  have key : ∀ k, k < 6 → ∃ v : E2, Sm 16777216 v ∧ hexC m z k = addE (cenE m z) v := fun k hk => by
    have neg : ∀ v : E2, Sm 16777216 v → Sm 16777216 (-v.1, -v.2) := fun v hv => by unfold Sm at *; simp only; omega
    rcases (show k = 0 ∨ k = 1 ∨ k = 2 ∨ k = 3 ∨ k = 4 ∨ k = 5 by omega) with rfl | rfl | rfl | rfl | rfl | rfl
    · exact ⟨_, e0, h0⟩
    · exact ⟨_, e1, h1⟩
    · exact ⟨_, e2, h2⟩
    · exact ⟨_, neg _ e0, by rw [h3]; unfold subE addE; ext <;> simp only <;> omega⟩
    · exact ⟨_, neg _ e1, by rw [h4]; unfold subE addE; ext <;> simp only <;> omega⟩
    · exact ⟨_, neg _ e2, by rw [h5]; unfold subE addE; ext <;> simp only <;> omega⟩
  obtain ⟨va, sa, ea⟩ := key a a1
  obtain ⟨vb, sb, eb⟩ := key b b1
  obtain ⟨vc, sc, ec⟩ := key c c1
  obtain ⟨vd, sd, ed⟩ := key d d1
  rw [ea] at a2
  rw [eb] at b2
  rw [ec] at c2
  rw [ed] at d2
  unfold Sm addE at *
  simp only at *
  omega
theorem cen_sm {m : Nat} (hm : m ≤ 12) {z : E2} (h : Sm 3400000000 (cenE m z)) : Sm 1000000000 z := by
  obtain ⟨q0, q1, q2, q3, q4, q5, q6, q7, q8, q9, q10, q11, q12⟩ := bE_tab
  obtain ⟨z1, z2⟩ := z
  rcases upto12 hm with rfl | rfl | rfl | rfl | rfl | rfl | rfl | rfl | rfl | rfl | rfl | rfl | rfl <;>
    simp only [Sm, cenE, midE, spotE, mulE, q0, q1, q2, q3, q4, q5, q6, q7, q8, q9, q10, q11, q12] at h ⊢ <;> omega
theorem next_sm {m : Nat} (hm : m ≤ 12) {z : E2} (h : Sm 3400000000 (cenE m z)) {k : Nat} (hk : k < 6) : Sm 1073741824 (addE z (unitE k)) ∧ RingSm (hexL m (addE z (unitE k))) := by
  have hz := cen_sm hm h
  have hu : Sm 1 (unitE k) := by
    rcases (show k = 0 ∨ k = 1 ∨ k = 2 ∨ k = 3 ∨ k = 4 ∨ k = 5 by omega) with rfl | rfl | rfl | rfl | rfl | rfl <;> simp [Sm, unitE]
  have hc : cenE m (addE z (unitE k)) = addE (cenE m z) (spotE (mulE (bE m) (3 * (unitE k).1, 3 * (unitE k).2))) := by
    unfold cenE midE spotE mulE addE
    generalize bE m = b
    ext <;> simp only <;> grind
  have hs : Sm 100000000 (spotE (mulE (bE m) (3 * (unitE k).1, 3 * (unitE k).2))) := by
    obtain ⟨q0, q1, q2, q3, q4, q5, q6, q7, q8, q9, q10, q11, q12⟩ := bE_tab
    generalize unitE k = u at hu
    obtain ⟨u1, u2⟩ := u
    rcases upto12 hm with rfl | rfl | rfl | rfl | rfl | rfl | rfl | rfl | rfl | rfl | rfl | rfl | rfl <;>
      simp only [Sm, spotE, mulE, q0, q1, q2, q3, q4, q5, q6, q7, q8, q9, q10, q11, q12] at hu ⊢ <;> omega
  refine ⟨by generalize unitE k = u at hu; unfold Sm addE at *; simp only; omega, ring_sm hm ?_⟩
  rw [hc]
  generalize spotE (mulE (bE m) (3 * (unitE k).1, 3 * (unitE k).2)) = s at hs
  unfold Sm addE at *
  simp only
  omega
/-- What the flood has at hand: D are found, L are to do, f counts the looks. -/
def Flow (T : E2 → Bool) (f : E2 → Option Int) (D L : List E2) (K mm : Nat) : Prop :=
  (D ++ L).Nodup ∧ (∀ y, y ∈ D ++ L ↔ T y = true ∧ 0 < (f y).getD 0) ∧ (∀ y, 0 ≤ (f y).getD 0 ∧ (f y).getD 0 ≤ K) ∧ L.length ≤ K ∧ mm ≤ K
theorem seen_upd (f : E2 → Option Int) (h : ∀ y, 0 ≤ (f y).getD 0) (n y : E2) : 0 < ((updE f n (some ((f n).getD 0 + 1))) y).getD 0 ↔ y = n ∨ 0 < (f y).getD 0 := by
  unfold updE
  by_cases e : y = n
  · subst e; rw [if_pos rfl]; have := h y; simp only [Option.getD_some, true_or, iff_true]; omega
  · rw [if_neg e]; simp [e]
theorem flow_look {T : E2 → Bool} {f : E2 → Option Int} {D L L' : List E2} {K mm : Nat} (h : Flow T f D L K mm) {n : E2} (hp : L'.Perm (if (f n).getD 0 = 0 ∧ T n = true then n :: L else L)) :
    Flow T (updE f n (some ((f n).getD 0 + 1))) D L' (K + 1) (if (f n).isSome then mm else mm + 1) := by
  obtain ⟨h1, h2, h3, h4, h5⟩ := h
  have hs := seen_upd f (fun y => (h3 y).1) n
  refine ⟨?_, fun y => ?_, fun y => ?_, ?_, by split <;> omega⟩
  · by_cases c : (f n).getD 0 = 0 ∧ T n = true
    · rw [if_pos c] at hp
      have hn : n ∉ D ++ L := fun hm => by have := ((h2 n).1 hm).2; omega
      have h6 : (D ++ L').Perm (n :: (D ++ L)) := (hp.append_left D).trans List.perm_middle
      exact h6.nodup_iff.2 (List.nodup_cons.2 ⟨hn, h1⟩)
    · rw [if_neg c] at hp
      exact (hp.append_left D).nodup_iff.2 h1
  · rw [hs y]
    by_cases c : (f n).getD 0 = 0 ∧ T n = true
    · rw [if_pos c] at hp
      have h6 : (D ++ L').Perm (n :: (D ++ L)) := (hp.append_left D).trans List.perm_middle
      rw [h6.mem_iff, List.mem_cons, h2 y]
      constructor
      · rintro (rfl | ⟨a, b⟩)
        · exact ⟨c.2, .inl rfl⟩
        · exact ⟨a, .inr b⟩
      · rintro ⟨a, rfl | b⟩
        · exact .inl rfl
        · exact .inr ⟨a, b⟩
    · rw [if_neg c] at hp
      rw [(hp.append_left D).mem_iff, h2 y]
      constructor
      · rintro ⟨a, b⟩; exact ⟨a, .inr b⟩
      · rintro ⟨a, rfl | b⟩
        · have := (h3 y).1
          refine ⟨a, ?_⟩
          rcases (show (f y).getD 0 = 0 ∨ 0 < (f y).getD 0 by omega) with e | e
          · exact absurd ⟨e, a⟩ c
          · exact e
        · exact ⟨a, b⟩
  · unfold updE
    have a := h3 y
    have b := h3 n
    by_cases e : y = n
    · rw [if_pos e]; simp only [Option.getD_some]; omega
    · rw [if_neg e]; omega
  · have := hp.length_eq
    split at this
    · simp only [List.length_cons] at this; omega
    · omega
theorem flow_pop {T : E2 → Bool} {f : E2 → Option Int} {D L L' : List E2} {K mm : Nat} (h : Flow T f D L K mm) {z : E2} (hp : (z :: L').Perm L) : Flow T f (D ++ [z]) L' K mm ∧ T z = true := by
  obtain ⟨h1, h2, h3, h4, h5⟩ := h
  have h6 : ((D ++ [z]) ++ L').Perm (D ++ L) := by rw [List.append_assoc]; exact hp.append_left D
  have hl := hp.length_eq
  simp only [List.length_cons] at hl
  refine ⟨⟨h6.nodup_iff.2 h1, fun y => by rw [h6.mem_iff]; exact h2 y, h3, by omega, h5⟩, ?_⟩
  exact ((h2 z).1 (List.mem_append_right _ (hp.mem_iff.1 List.mem_cons_self))).1
theorem flow_new (T : E2 → Bool) : Flow T (fun _ => none) [] [] 0 0 := ⟨List.nodup_nil, fun y => by simp, fun y => by simp, by simp, by simp⟩
/-- All that touch the box, each once. -/
def AllOf (m : Nat) (lo hi : E2) (F : List E2) : Prop := F.Nodup ∧ ∀ z, z ∈ F ↔ TouchP (hexC m z) lo hi
theorem all_of {m : Nat} (hm : m ≤ 12) {lo hi z0 : E2} (hx : lo.1 ≤ hi.1) (hy : lo.2 ≤ hi.2) (h0 : InZ m z0 lo.1 lo.2) {f : E2 → Option Int} {D : List E2} {K mm : Nat} (h : Flow (ttB m lo hi) f D [] K mm)
    (hs : 0 < (f z0).getD 0) (hc : ∀ y ∈ D, ∀ k, k < 6 → 0 < (f (addE y (unitE k))).getD 0) : AllOf m lo hi D := by
  obtain ⟨h1, h2, -⟩ := h
  rw [List.append_nil] at h1
  simp only [List.append_nil] at h2
  have hxr : (lo.1 : Rat) ≤ hi.1 := by exact_mod_cast hx
  have hyr : (lo.2 : Rat) ≤ hi.2 := by exact_mod_cast hy
  have ht0 : TouchP (hexC m z0) lo hi := (touch_iff hm z0 lo hi hx hy).2 ⟨lo.1, lo.2, Rat.le_refl, hxr, Rat.le_refl, hyr, h0⟩
  refine ⟨h1, fun z => ⟨fun hz => (tt_iff _ _ _ _).1 ((h2 z).1 hz).1, ?_⟩⟩
  exact flood_all hm hx hy h0 (fun y => y ∈ D) ((h2 z0).2 ⟨(tt_iff _ _ _ _).2 ht0, hs⟩) (fun y hy _ k hk ht => (h2 _).2 ⟨(tt_iff _ _ _ _).2 ht, hc y hy k hk⟩) z
end Go.Proofs.YtdbfimdcaacjhaaGreat
/- The contract of cover.check. -/
namespace Go.Proofs.YtdbfimdcaacjhaaGreat
open Go.RowKit Go.Lib Wd

/-- The error of a box. -/
def chE (lo hi : E2) (r : Int) : Int := if r < 0 ∨ 12 < r then 1 else if worldB lo.1 lo.2 = true ∧ worldB hi.1 hi.2 = true then (if hi.1 < lo.1 ∨ hi.2 < lo.2 then 1 else 0) else 4
set_option maxRecDepth 100000 in
set_option maxHeartbeats 4000000 in
theorem check_any (lo hi : E2) (r : Int) (w : World) : Calls Tryz.prog 39 #[vE lo, vE hi, .int .i64 r] w fun e w' => e = .returned (.int .i64 (chE lo hi r)) ∧ Below w.heap.size w w' := by
  obtain ⟨l1, l2⟩ := lo
  obtain ⟨h1, h2⟩ := hi
  have HX : Hid (chE (l1, l2) (h1, h2) r = if r < 0 ∨ 12 < r then 1 else if worldB l1 l2 = true ∧ worldB h1 h2 = true then (if h1 < l1 ∨ h2 < l2 then 1 else 0) else 4) := rfl
  generalize chE (l1, l2) (h1, h2) r = X at *
  have HPL := Lib.hid (fun w => pok_any l1 l2 w)
  have HPH := Lib.hid (fun w => pok_any h1 h2 w)
  generalize worldB l1 l2 = p at *
  generalize worldB h1 h2 = q at *
  obtain ⟨w1, hw1⟩ : ∃ W, (w.alloc (.cells #[.int .i64 l1, .int .i64 l2] 30)).alloc (.cells #[.int .i64 h1, .int .i64 h2] 30) = W := ⟨_, rfl⟩
  have hb1 : Below w.heap.size w w1 := by rw [← hw1]; exact ((Below.refl _ _).alloc (Nat.le_refl _) _).alloc (by simp) _
  have hx : w1.heap[w.heap.size]? = some (.cells #[.int .i64 l1, .int .i64 l2] 30 (0, 0)) := by
    rw [← hw1, Below.heap_alloc _ _ _ (by simp)]; exact heap_new _ _ _ rfl
  have hy : w1.heap[w.heap.size + 1]? = some (.cells #[.int .i64 h1, .int .i64 h2] 30 (0, 0)) := by rw [← hw1]; exact heap_new _ _ _ (by simp)
  have a0 : w1.cell? ⟨w.heap.size, 0, none⟩ = some (.int .i64 l1) := cell_of_row w1 _ 0 _ _ _ hx
  have a1 : w1.cell? ⟨w.heap.size, 1, none⟩ = some (.int .i64 l2) := cell_of_row w1 _ 1 _ _ _ hx
  have b0 : w1.cell? ⟨w.heap.size + 1, 0, none⟩ = some (.int .i64 h1) := cell_of_row w1 _ 0 _ _ _ hy
  have b1 : w1.cell? ⟨w.heap.size + 1, 1, none⟩ = some (.int .i64 h2) := cell_of_row w1 _ 1 _ _ _ hy
  have s0 := (Array.getElem?_eq_some_iff.1 hx).1
  have s1 := (Array.getElem?_eq_some_iff.1 hy).1
  have HW1 := Lib.hid hw1
  have HB1 := Lib.hid hb1
  clear hw1 hb1 hx hy
  simp only [vE]
  by_cases c1 : r < 0
  · have HXX : Hid (X = 1) := by show _ = _; rw [HX.out, if_pos (.inl c1)]
    clear HX
    go_enter Tryz.func39, Tryz.ntmps39
    go_upto_region 1 with (fail)
    rw [HW1.out]
    go_wp2
    go_ret
    exact ⟨by rw [HXX.out]; rfl, HB1.out⟩
  by_cases c2 : 12 < r
  · have HXX : Hid (X = 1) := by show _ = _; rw [HX.out, if_pos (.inr c2)]
    clear HX
    go_enter Tryz.func39, Tryz.ntmps39
    go_upto_region 1 with (fail)
    rw [HW1.out]
    go_wp2
    go_ret
    exact ⟨by rw [HXX.out]; rfl, HB1.out⟩
  rw [if_neg (by omega)] at HX
  cases p with
  | false =>
    have HXX : Hid (X = 4) := by show _ = _; rw [HX.out, if_neg (by simp)]
    clear HX
    go_enter Tryz.func39, Tryz.ntmps39
    go_upto_region 1 with (fail)
    rw [HW1.out]
    go_wp2_with fail
    refine (HPL.out _).mono ?_
    rintro e w2 ⟨rfl, rfl⟩
    go_wp2
    go_ret
    exact ⟨by rw [HXX.out]; rfl, HB1.out⟩
  | true =>
    cases q with
    | false =>
      have HXX : Hid (X = 4) := by show _ = _; rw [HX.out, if_neg (by simp)]
      clear HX
      go_enter Tryz.func39, Tryz.ntmps39
      go_upto_region 1 with (fail)
      rw [HW1.out]
      go_wp2_with fail
      refine (HPL.out _).mono ?_
      rintro e w2 ⟨rfl, rfl⟩
      go_wp2_with fail
      refine (HPH.out _).mono ?_
      rintro e w2 ⟨rfl, rfl⟩
      go_wp2
      go_ret
      exact ⟨by rw [HXX.out]; rfl, HB1.out⟩
    | true =>
      rw [if_pos ⟨rfl, rfl⟩] at HX
      by_cases c3 : h1 < l1
      · have HXX : Hid (X = 1) := by show _ = _; rw [HX.out, if_pos (.inl c3)]
        clear HX
        go_enter Tryz.func39, Tryz.ntmps39
        go_upto_region 1 with (fail)
        rw [HW1.out]
        go_wp2_with fail
        refine (HPL.out _).mono ?_
        rintro e w2 ⟨rfl, rfl⟩
        go_wp2_with fail
        refine (HPH.out _).mono ?_
        rintro e w2 ⟨rfl, rfl⟩
        go_wp2
        go_ret
        exact ⟨by rw [HXX.out]; rfl, HB1.out⟩
      by_cases c4 : h2 < l2
      · have HXX : Hid (X = 1) := by show _ = _; rw [HX.out, if_pos (.inr c4)]
        clear HX
        go_enter Tryz.func39, Tryz.ntmps39
        go_upto_region 1 with (fail)
        rw [HW1.out]
        go_wp2_with fail
        refine (HPL.out _).mono ?_
        rintro e w2 ⟨rfl, rfl⟩
        go_wp2_with fail
        refine (HPH.out _).mono ?_
        rintro e w2 ⟨rfl, rfl⟩
        go_wp2
        go_ret
        exact ⟨by rw [HXX.out]; rfl, HB1.out⟩
      have HXX : Hid (X = 0) := by show _ = _; rw [HX.out, if_neg (by omega)]
      clear HX
      go_enter Tryz.func39, Tryz.ntmps39
      go_upto_region 1 with (fail)
      rw [HW1.out]
      go_wp2_with fail
      refine (HPL.out _).mono ?_
      rintro e w2 ⟨rfl, rfl⟩
      go_wp2_with fail
      refine (HPH.out _).mono ?_
      rintro e w2 ⟨rfl, rfl⟩
      go_wp2
      go_ret
      exact ⟨by rw [HXX.out]; rfl, HB1.out⟩
end Go.Proofs.YtdbfimdcaacjhaaGreat
/- The flood's steps as the walk of Box meets them: look, pop, Len. -/
namespace Go.Proofs.YtdbfimdcaacjhaaGreat
open Go.RowKit Go.Lib Wd

theorem FloodAt.kept {S : Nat → Prop} {w w' : World} {B fb mb r c m : Nat} {lo hi : E2} {vo : Option Addr} {L : List E2} {f : E2 → Option Int} (h : FloodAt w B fb mb r lo hi vo c L f m) (ht : Turn S w w') (hS : ∀ k, FootF fb mb vo k → ¬ S k) : FloodAt w' B fb mb r lo hi vo c L f m := by
  obtain ⟨⟨h0, h1, h2⟩, hR, hM, h5⟩ := h
  have e := ht.2.2.2.2 fb hR.lt (hS fb (.inl (.inl rfl)))
  exact ⟨⟨(World.cell?_of_block (a := ⟨fb, 0, none⟩) e).trans h0, (World.cell?_of_block (a := ⟨fb, 1, none⟩) e).trans h1, (World.cell?_of_block (a := ⟨fb, 3, none⟩) e).trans h2⟩, hR.kept ht fun k hk => hS k (.inl hk), hM.heap (ht.2.2.2.2 mb hM.lt (hS mb (.inr rfl))), h5⟩
theorem FloodAt.foot {w : World} {B fb mb r c m : Nat} {lo hi : E2} {vo : Option Addr} {L : List E2} {f : E2 → Option Int} (h : FloodAt w B fb mb r lo hi vo c L f m) : ∀ k, FootF fb mb vo k → B ≤ k ∧ k < w.heap.size := fun k hk => by
  obtain ⟨-, hR, hM, h5, h6⟩ := h
  rcases hk with (rfl | ⟨o, s, e⟩) | rfl
  · exact ⟨h5, hR.lt⟩
  · exact own_lt hR.2.2.1 k o s e
  · exact ⟨h6, hM.lt⟩
/-- The flood, beside blocks Q that stay. -/
def FlSt (Q : Nat → Prop) (w0 wr : World) (B fb mb r : Nat) (lo hi : E2) (L : List E2) (f : E2 → Option Int) (m : Nat) : Prop :=
  ∃ vo c, FloodAt wr B fb mb r lo hi vo c L f m ∧ (∀ k, Q k → k < wr.heap.size ∧ ¬ FootF fb mb vo k) ∧ Below B w0 wr
theorem FlSt.later {Q : Nat → Prop} {w0 wr w' : World} {B fb mb r m : Nat} {lo hi : E2} {L : List E2} {f : E2 → Option Int} (h : FlSt Q w0 wr B fb mb r lo hi L f m) (hb : Below wr.heap.size wr w') : FlSt Q w0 w' B fb mb r lo hi L f m := by
  obtain ⟨vo, c, h1, h2, h3⟩ := h
  have hB : B ≤ wr.heap.size := by have := h1.foot fb (.inl (.inl rfl)); omega
  exact ⟨vo, c, h1.below hb, fun k hk => ⟨Nat.lt_of_lt_of_le (h2 k hk).1 hb.size, (h2 k hk).2⟩, h3.trans (hb.mono hB)⟩
/-- Blocks Q turn, others stay. -/
theorem FlSt.beside {Q Q' S : Nat → Prop} {w0 wr w' : World} {B fb mb r m : Nat} {lo hi : E2} {L : List E2} {f : E2 → Option Int} (h : FlSt Q w0 wr B fb mb r lo hi L f m) (ht : Turn S wr w') (hS : ∀ k, S k → k < wr.heap.size → Q k) (hB : ∀ k, S k → B ≤ k)
    (hQ : ∀ k, Q' k → k < w'.heap.size ∧ (Q k ∨ wr.heap.size ≤ k)) : FlSt Q' w0 w' B fb mb r lo hi L f m := by
  obtain ⟨vo, c, h1, h2, h3⟩ := h
  have hBB : B ≤ wr.heap.size := by have := h1.foot fb (.inl (.inl rfl)); omega
  refine ⟨vo, c, h1.kept ht fun k hk hs => (h2 k (hS k hs (h1.foot k hk).2)).2 hk, fun k hk => ⟨(hQ k hk).1, fun hf => ?_⟩, h3.trans (ht.below hBB fun k hk hs => by have := hB k hs; omega)⟩
  rcases (hQ k hk).2 with e | e
  · exact (h2 k e).2 hf
  · have := (h1.foot k hf).2; omega
def Fls (Q : Nat → Prop) (w0 wr : World) (B fb mb r : Nat) (lo hi : E2) (D L : List E2) (f : E2 → Option Int) (K : Nat) : Prop :=
  ∃ mm, FlSt Q w0 wr B fb mb r lo hi L f mm ∧ Flow (ttB (12 - r) lo hi) f D L K mm
def LookS (Q : Nat → Prop) (w0 wr : World) (B fb mb r : Nat) (lo hi : E2) (D : List E2) (f : E2 → Option Int) (K : Nat) (z : E2) (w' : World) : Prop :=
  ∃ L', Fls Q w0 w' B fb mb r lo hi D L' (updE f z (some ((f z).getD 0 + 1))) (K + 1) ∧ wr.heap.size ≤ w'.heap.size ∧ ∀ k, Q k → w'.heap[k]? = wr.heap[k]?
theorem look_st {Q : Nat → Prop} {w0 wr : World} {B fb mb r : Nat} {lo hi : E2} {D L : List E2} {f : E2 → Option Int} {K : Nat} (h : Fls Q w0 wr B fb mb r lo hi D L f K) (z : E2) (hz : Sm 1073741824 z) (hs : RingSm (hexL (12 - r) z)) (hr : r ≤ 12) (hlo : Sm 10000000000 lo) (hhi : Sm 10000000000 hi) (hK : K < 999999) :
    Calls Tryz.prog 42 #[.pointer (some ⟨fb, 0, none⟩), vE z] wr fun e w' => e = .returned (.tuple #[]) ∧ LookS Q w0 wr B fb mb r lo hi D f K z w' := by
  obtain ⟨mm, ⟨vo, c, h1, h2, h3⟩, hF⟩ := h
  have hBB : B ≤ wr.heap.size := by have := h1.foot fb (.inl (.inl rfl)); omega
  obtain ⟨f1, f2, f3, f4, f5⟩ := hF
  have hv := f3 z
  refine (look_any h1 z hz hr hs hlo hhi (by omega) (by omega) ⟨hv.1, by omega⟩).mono ?_
  rintro e w' ⟨rfl, vo', c', L', g1, g2, g3, g4⟩
  refine ⟨rfl, L', ⟨_, ⟨vo', c', g1, fun k hk => ⟨Nat.lt_of_lt_of_le (h2 k hk).1 g3.2.2.2.1, fun hf => ?_⟩, h3.trans (g3.below hBB fun k hk hf => by have := h1.foot k hf; omega)⟩, flow_look ⟨f1, f2, f3, f4, f5⟩ g4⟩, g3.2.2.2.1, fun k hk => g3.2.2.2.2 k (h2 k hk).1 (h2 k hk).2⟩
  rcases hf with (e | ⟨o, s, e⟩) | e
  · exact (h2 k hk).2 (.inl (.inl e))
  · exact (h2 k hk).2 (.inl (g2 k o s e (h2 k hk).1))
  · exact (h2 k hk).2 (.inr e)
def PopS (Q : Nat → Prop) (w0 wr : World) (B fb mb r : Nat) (lo hi : E2) (D : List E2) (f : E2 → Option Int) (K : Nat) (z : E2) (w' : World) : Prop :=
  ∃ L', Fls Q w0 w' B fb mb r lo hi (D ++ [z]) L' f K ∧ ttB (12 - r) lo hi z = true ∧ wr.heap.size ≤ w'.heap.size ∧ ∀ k, Q k → w'.heap[k]? = wr.heap[k]?
theorem pop_st {Q : Nat → Prop} {w0 wr : World} {B fb mb r n : Nat} {lo hi : E2} {D L : List E2} {f : E2 → Option Int} {K : Nat} (h : Fls Q w0 wr B fb mb r lo hi D L f K) (hn : L.length = n + 1) :
    Calls Tryz.prog 44 #[ifcE fb 2] wr fun e w' => e = .returned (.iface 23 (.agg #[.int .i64 (prG L 0).1, .int .i64 (prG L 0).2])) ∧ PopS Q w0 wr B fb mb r lo hi D f K (prG L 0) w' := by
  obtain ⟨mm, ⟨vo, c, h1, h2, h3⟩, hF⟩ := h
  have hBB : B ≤ wr.heap.size := by have := h1.foot fb (.inl (.inl rfl)); omega
  refine (hpopE_any h1.2.1 hn).mono ?_
  rintro e w' ⟨rfl, L', g1, g2, g3⟩
  obtain ⟨q1, q2⟩ := flow_pop hF g1
  exact ⟨rfl, L', ⟨mm, ⟨vo, c, h1.rowed g2 g3, fun k hk => ⟨Nat.lt_of_lt_of_le (h2 k hk).1 g3.1.2.2.2.1, (h2 k hk).2⟩, h3.trans (g3.1.below hBB fun k hk hf => by have := h1.foot k (.inl hf); omega)⟩, q1⟩, q2, g3.1.2.2.2.1, fun k hk => g3.1.2.2.2.2 k (h2 k hk).1 fun hf => (h2 k hk).2 (.inl hf)⟩
theorem Fls.row {Q : Nat → Prop} {w0 wr : World} {B fb mb r : Nat} {lo hi : E2} {D L : List E2} {f : E2 → Option Int} {K : Nat} (h : Fls Q w0 wr B fb mb r lo hi D L f K) : fb < wr.heap.size ∧ ∃ vo c, wr.cell? ⟨fb, 2, none⟩ = some (.slice vo L.length c) := by
  obtain ⟨mm, ⟨vo, c, h1, h2, h3⟩, hF⟩ := h
  exact ⟨h1.2.1.lt, vo, c, h1.2.1.1⟩
theorem Fls.later {Q : Nat → Prop} {w0 wr w' : World} {B fb mb r : Nat} {lo hi : E2} {D L : List E2} {f : E2 → Option Int} {K : Nat} (h : Fls Q w0 wr B fb mb r lo hi D L f K) (hb : Below wr.heap.size wr w') : Fls Q w0 w' B fb mb r lo hi D L f K := by
  obtain ⟨mm, h1, h2⟩ := h
  exact ⟨mm, h1.later hb, h2⟩
theorem Fls.beside {Q Q' S : Nat → Prop} {w0 wr w' : World} {B fb mb r : Nat} {lo hi : E2} {D L : List E2} {f : E2 → Option Int} {K : Nat} (h : Fls Q w0 wr B fb mb r lo hi D L f K) (ht : Turn S wr w') (hS : ∀ k, S k → k < wr.heap.size → Q k) (hB : ∀ k, S k → B ≤ k)
    (hQ : ∀ k, Q' k → k < w'.heap.size ∧ (Q k ∨ wr.heap.size ≤ k)) : Fls Q' w0 w' B fb mb r lo hi D L f K := by
  obtain ⟨mm, h1, h2⟩ := h
  exact ⟨mm, h1.beside ht hS hB hQ, h2⟩
theorem Fls.below {Q : Nat → Prop} {w0 wr : World} {B fb mb r : Nat} {lo hi : E2} {D L : List E2} {f : E2 → Option Int} {K : Nat} (h : Fls Q w0 wr B fb mb r lo hi D L f K) : Below B w0 wr := by
  obtain ⟨mm, ⟨vo, c, h1, h2, h3⟩, hF⟩ := h
  exact h3
/-- The blocks of a row. -/
def InRow (v : Value) (k : Nat) : Prop := v.ownBlock = some k
/-- All neighbours of D have been looked at. -/
def Shut (D : List E2) (f : E2 → Option Int) : Prop := ∀ y ∈ D, ∀ k, k < 6 → 0 < (f (addE y (unitE k))).getD 0
theorem shut_upd {D : List E2} {f : E2 → Option Int} (h0 : ∀ y, 0 ≤ (f y).getD 0) (n : E2) (h : Shut D f) : Shut D (updE f n (some ((f n).getD 0 + 1))) := fun y hy k hk => (seen_upd f h0 n _).2 (.inr (h y hy k hk))
theorem Fls.nonneg {Q : Nat → Prop} {w0 wr : World} {B fb mb r : Nat} {lo hi : E2} {D L : List E2} {f : E2 → Option Int} {K : Nat} (h : Fls Q w0 wr B fb mb r lo hi D L f K) : ∀ y, 0 ≤ (f y).getD 0 := by
  obtain ⟨mm, h1, h2⟩ := h
  exact fun y => (h2.2.2.1 y).1
end Go.Proofs.YtdbfimdcaacjhaaGreat
/- Lists of words in memory; the plain set; apiaryref1's Has, Same, Set. (Put together by gen_nr.py out of my texts on package cells.) -/
namespace Go.Proofs.YtdbfimdcaacjhaaGreat
open Go.RowKit Go.Lib Go.Sort

theorem info_u : (Tryz.prog.info? 35).map (fun i => (i.zero, i.size, i.bytes)) = some (some (.int .u64 0), 1, 8) := by kernel_rfl
def uV (l : List Int) : List Value := l.map (Value.int .u64)
theorem uV_len (l : List Int) : (uV l).length = l.length := by simp [uV]
theorem uV_cell (l : List Int) : ∀ u ∈ uV l, u.oneCell' = true := fun u hu => by
  obtain ⟨x, _, rfl⟩ := List.mem_map.1 hu; rfl
theorem uV_get (l : List Int) (j : Nat) (h : j < l.length) : (uV l)[j]? = some (.int .u64 (l.getD j 0)) := by simp [uV, List.getD_eq_getElem?_getD, h]
/-- In w, below block B, a slice's address leads to words. -/
def WordsAt (w : World) (B : Nat) (ao : Option Addr) (l : List Int) : Prop :=
  0 < l.length → ∃ b off, ao = some ⟨b, off, none⟩ ∧ b < B ∧ ∀ i, i < l.length → w.cell? ⟨b, off + i, none⟩ = some (.int .u64 (l.getD i 0))
theorem WordsAt.below {w w' : World} {B : Nat} {ao : Option Addr} {l : List Int} (h : WordsAt w B ao l) {C : Nat} (hb : Below C w w') (hC : B ≤ C) : WordsAt w' B ao l := fun h0 => by
  obtain ⟨b, off, e, hlt, hc⟩ := h h0
  exact ⟨b, off, e, hlt, fun i hi => by rw [hb.cell (p := ⟨b, _, none⟩) (show b < C by omega)]; exact hc i hi⟩
theorem WordsAt.wider {w : World} {B C : Nat} {ao : Option Addr} {l : List Int} (h : WordsAt w B ao l) (hC : B ≤ C) : WordsAt w C ao l := fun h0 => by
  obtain ⟨b, off, e, hlt, hc⟩ := h h0
  exact ⟨b, off, e, by omega, hc⟩
def srt (l : List Int) : List Int := l.mergeSort fun x y => decide (x ≤ y)
def setF (l : List Int) : List Int := compactUpTo (srt l).toArray (srt l).length
theorem srt_length (l : List Int) : (srt l).length = l.length := List.length_mergeSort l
theorem cut_length (d : Array Int) (m : Nat) : (compactUpTo d m).length ≤ m := by
  induction m with
  | zero => simp [compactUpTo]
  | succ m ih => rw [compactUpTo_succ, List.length_append]; split <;> simp <;> omega
theorem setF_nil : setF [] = [] := by simp [setF, srt, compactUpTo]
theorem below_growU {B : Nat} {w0 w : World} {os : Array Obj} (h : Below B w0 w) (hB : B ≤ w.heap.size) : Below B w0 (grow w os) :=
  ⟨h.os, h.tape, h.output, by have := h.size; simp [grow]; omega, fun k hk => by rw [← h.block k hk]; exact heap_grow_old w os (show k < w.heap.size by omega)⟩
theorem holds_own {w : World} {base n c : Nat} {ao : Option Addr} {l : List Int} (hn : 0 < n) (h : w.ownsRow base 35 1 (.slice ao n c) n (uV l)) :
    ∃ g, ao = some ⟨g, 0, none⟩ ∧ base ≤ g ∧ g < w.heap.size ∧ n ≤ c ∧ Holds encU w g 0 l.toArray := by
  obtain ⟨ao', c', e, hnc, hh⟩ := own_form h
  cases e
  obtain ⟨g, rfl, hb, hg, hc⟩ := hh hn
  refine ⟨g, rfl, hb, hg, hnc, fun j hj => ?_⟩
  have hj' : j < l.length := by simpa using hj
  refine ⟨?_, h.frozenAt _⟩
  rw [hc (0 + j) _ (by rw [Nat.zero_add]; exact uV_get l j hj')]
  congr 2
  simp [List.getD_eq_getElem?_getD, hj', getElem!_pos]
theorem words_of_holds {w : World} {g : Nat} {l : List Int} (hg : g < w.heap.size) (h : Holds encU w g 0 l.toArray) (k : Nat) (hk : k ≤ l.length) : WordsAt w w.heap.size (some ⟨g, 0, none⟩) (l.take k) := fun _ => by
  refine ⟨g, 0, rfl, hg, fun i hi => ?_⟩
  have hi' : i < k ∧ i < l.length := by simp at hi; omega
  rw [(h i (by simpa using hi'.2)).1]
  congr 2
  simp [List.getD_eq_getElem?_getD, hi'.1, hi'.2, getElem!_pos]
def hasF (l : List Int) (x : Int) : Bool := l.contains x
theorem hasF_yes {l : List Int} {x : Int} {j : Nat} (hj : j < l.length) (h : l.getD j 0 = x) : hasF l x = true := by
  unfold hasF
  rw [List.contains_iff_mem]
  rw [← h, List.getD_eq_getElem?_getD, List.getElem?_eq_getElem hj, Option.getD_some]
  exact List.getElem_mem _
theorem hasF_no {l : List Int} {x : Int} (h : ∀ j, j < l.length → l.getD j 0 ≠ x) : hasF l x = false := by
  unfold hasF
  rw [Bool.eq_false_iff, ne_eq, List.contains_iff_mem]
  intro hm
  obtain ⟨j, hj, e⟩ := List.getElem_of_mem hm
  exact h j hj (by rw [List.getD_eq_getElem?_getD, List.getElem?_eq_getElem hj, Option.getD_some, e])
/-- Words, rising (each once or not). -/
def Rising (l : List Int) : Prop := ∀ i j, i ≤ j → j < l.length → l.getD i 0 ≤ l.getD j 0
set_option maxRecDepth 100000 in
set_option maxHeartbeats 2000000 in
theorem rhas_any (ao : Option Addr) (c : Nat) (l : List Int) (x : Int) (w : World) (B : Nat) (h : WordsAt w B ao l) (hn : l.length ≤ 1000000000) (hr : Rising l) :
    Calls Tryz.prog 15 #[.slice ao l.length c, .int .u64 x] w fun e w' => e = .returned (.bool (hasF l x)) ∧ w = w' := by
  obtain ⟨n, hnn⟩ : ∃ n, l.length = n := ⟨_, rfl⟩
  have HN := Lib.hid hnn
  have HW := Lib.hid h
  have HR := Lib.hid hr
  rw [hnn] at hn ⊢
  clear hnn h hr
  go_enter Tryz.func15, Tryz.ntmps15
  go_wp2
  go_loop [5, 6] (fun i j => ∃ lo hi : Nat, lo ≤ hi ∧ hi ≤ n ∧ i = .int .i64 lo ∧ j = .int .i64 hi ∧ Hid ((∀ k, k < lo → l.getD k 0 < x) ∧ ∀ k, hi ≤ k → k < n → x ≤ l.getD k 0)) (fun i j => (intOf j).toNat - (intOf i).toNat)
  case atStart => exact ⟨0, n, Nat.zero_le _, Nat.le_refl _, rfl, rfl, fun k hk => by omega, fun k h1 h2 => by omega⟩
  case round =>
    obtain ⟨lo, hi, h1, h2, rfl, rfl, HA⟩ := hrel
    by_cases hlt : lo < hi
    · obtain ⟨b, off, rfl, hb, hc⟩ := HW.out (by rw [HN.out]; omega)
      obtain ⟨m, hm⟩ : ∃ m, (lo + hi) / 2 = m := ⟨_, rfl⟩
      have hm1 : lo ≤ m := by omega
      have hm2 : m < hi := by omega
      have hmI : ((lo : Int) + (hi : Int)) / 2 = (m : Int) := by omega
      have c0 := hc m (by rw [HN.out]; omega)
      have HL1 : Hid (l.getD m 0 < x → ∀ k, k < m + 1 → l.getD k 0 < x) := fun e k hk => by
        have := HR.out k m (by omega) (by rw [HN.out]; omega)
        omega
      have HL2 : Hid (¬ l.getD m 0 < x → ∀ k, m ≤ k → k < n → x ≤ l.getD k 0) := fun e k h3 h4 => by
        have := HR.out m k h3 (by rw [HN.out]; exact h4)
        omega
      generalize l.getD m 0 = y at c0 HL1 HL2
      clear hc hm
      by_cases hyx : y < x
      · have HLL := Lib.hid (HL1.out hyx)
        clear HL1 HL2
        go_wp2
        go_round
        case rel => exact ⟨m + 1, hi, by omega, h2, by go_num, rfl, HLL.out, HA.out.2⟩
        case measure => simp [intOf]; omega
      · have HLL := Lib.hid (HL2.out hyx)
        clear HL1 HL2
        go_wp2
        go_round
        case rel => exact ⟨lo, m, by omega, by omega, rfl, by go_num, HA.out.1, HLL.out⟩
        case measure => simp [intOf]; omega
    · obtain rfl : lo = hi := by omega
      by_cases hln : lo < n
      · obtain ⟨b, off, rfl, hb, hc⟩ := HW.out (by rw [HN.out]; omega)
        have c0 := hc lo (by rw [HN.out]; exact hln)
        have HF : Hid ((l.getD lo 0 == x) = hasF l x) := by
          show _ = _
          by_cases e : l.getD lo 0 = x
          · rw [hasF_yes (by rw [HN.out]; exact hln) e]; simpa using e
          · rw [hasF_no fun j hj => by
              rw [HN.out] at hj
              by_cases hjl : j < lo
              · have := HA.out.1 j hjl; omega
              · have h3 := HA.out.2 lo (Nat.le_refl _) hln
                have h4 := HR.out lo j (by omega) (by rw [HN.out]; exact hj)
                omega]
            simpa using e
        generalize l.getD lo 0 = y at c0 HF
        clear hc
        have q0 : decide ((lo : Int) < (n : Int)) = true := by simp; omega
        go_wp2
        go_ret
        exact ⟨ret_bool HF.out, rfl⟩
      · obtain rfl : lo = n := by omega
        have HF : Hid (hasF l x = false) := hasF_no fun j hj => by
          rw [HN.out] at hj
          have := HA.out.1 j hj
          omega
        have q0 : decide ((lo : Int) < (lo : Int)) = false := by simp
        go_wp2
        go_ret
        exact ⟨ret_bool HF.out.symm, rfl⟩
def Up (l : List Int) : Prop := l.Pairwise (· < ·)
theorem getD_mem {l : List Int} {j : Nat} (h : j < l.length) : l.getD j 0 ∈ l := by
  rw [List.getD_eq_getElem?_getD, List.getElem?_eq_getElem h, Option.getD_some]; exact List.getElem_mem h
theorem hasF_iff (l : List Int) (x : Int) : hasF l x = true ↔ x ∈ l := by unfold hasF; exact List.contains_iff_mem
theorem srt_mem (l : List Int) (x : Int) : x ∈ srt l ↔ x ∈ l := List.mem_mergeSort
theorem srt_sorted (l : List Int) : (srt l).Pairwise (· ≤ ·) := by
  have := List.pairwise_mergeSort (le := fun x y : Int => decide (x ≤ y)) (fun a b c h1 h2 => by simp at *; omega) (fun a b => by simp; omega) l
  exact this.imp fun h => by simpa using h
theorem cut_mem (d : Array Int) (x : Int) : ∀ m, m ≤ d.size → (x ∈ compactUpTo d m ↔ ∃ j, j < m ∧ d[j]! = x)
  | 0, _ => by simp [compactUpTo]
  | m + 1, h => by
    rw [compactUpTo_succ, List.mem_append, cut_mem d x m (by omega)]
    by_cases hk : 0 < m ∧ d[m]! = d[m - 1]!
    · rw [keeps_neg hk.1 hk.2]
      simp only [Bool.false_eq_true, if_false, List.not_mem_nil, or_false]
      constructor
      · rintro ⟨j, hj, e⟩; exact ⟨j, by omega, e⟩
      · rintro ⟨j, hj, e⟩
        by_cases ej : j = m
        · subst ej; exact ⟨j - 1, by omega, by rw [← hk.2]; exact e⟩
        · exact ⟨j, by omega, e⟩
    · have hkk : keeps d m = true := by
        by_cases h0 : m = 0
        · exact keeps_lt_one d m (by omega)
        · exact keeps_pos fun e => hk ⟨by omega, e⟩
      rw [hkk]
      simp only [if_true, List.mem_singleton]
      constructor
      · rintro (⟨j, hj, e⟩ | e)
        · exact ⟨j, by omega, e⟩
        · exact ⟨m, by omega, e.symm⟩
      · rintro ⟨j, hj, e⟩
        by_cases ej : j = m
        · subst ej; exact .inr e.symm
        · exact .inl ⟨j, by omega, e⟩
theorem cut_up (d : Array Int) (hs : ∀ i j, i ≤ j → j < d.size → d[i]! ≤ d[j]!) : ∀ m, m ≤ d.size → Up (compactUpTo d m)
  | 0, _ => by simp [compactUpTo, Up]
  | m + 1, h => by
    rw [compactUpTo_succ]
    have ih := cut_up d hs m (by omega)
    by_cases hk : 0 < m ∧ d[m]! = d[m - 1]!
    · rw [keeps_neg hk.1 hk.2]; simpa using ih
    · have hkk : keeps d m = true := by
        by_cases h0 : m = 0
        · exact keeps_lt_one d m (by omega)
        · exact keeps_pos fun e => hk ⟨by omega, e⟩
      rw [hkk]
      simp only [if_true]
      unfold Up at *
      rw [List.pairwise_append]
      refine ⟨ih, by simp, fun a ha b hb => ?_⟩
      obtain rfl : b = d[m]! := by simpa using hb
      obtain ⟨j, hj, e⟩ := (cut_mem d a m (by omega)).1 ha
      have h1 := hs j (m - 1) (by omega) (by omega)
      have h2 := hs (m - 1) m (by omega) (by omega)
      have h3 : d[m]! ≠ d[m - 1]! := fun e => hk ⟨by omega, e⟩
      omega
theorem arr_get (l : List Int) (j : Nat) (h : j < l.length) : l.toArray[j]! = l.getD j 0 := by simp [List.getD_eq_getElem?_getD, h, getElem!_pos]
theorem sorted_getD {l : List Int} (h : l.Pairwise (· ≤ ·)) : ∀ i j, i ≤ j → j < l.length → l.getD i 0 ≤ l.getD j 0 := fun i j hij hj => by
  rw [List.getD_eq_getElem?_getD, List.getD_eq_getElem?_getD, List.getElem?_eq_getElem hj, List.getElem?_eq_getElem (by omega), Option.getD_some, Option.getD_some]
  by_cases e : i = j
  · subst e; exact Int.le_refl _
  · exact List.pairwise_iff_getElem.1 h i j (by omega) hj (by omega)
theorem setF_up (l : List Int) : Up (setF l) := by
  unfold setF
  refine cut_up _ (fun i j hij hj => ?_) _ (by simp)
  have hj' : j < (srt l).length := by simpa using hj
  rw [arr_get _ i (by omega), arr_get _ j hj']
  exact sorted_getD (srt_sorted l) i j hij hj'
theorem setF_mem (l : List Int) (x : Int) : x ∈ setF l ↔ x ∈ l := by
  unfold setF
  rw [cut_mem _ _ _ (by simp), ← srt_mem l x]
  constructor
  · rintro ⟨j, hj, rfl⟩; rw [arr_get _ j hj]; exact getD_mem hj
  · intro h
    obtain ⟨j, hj, e⟩ := List.getElem_of_mem h
    exact ⟨j, hj, by rw [arr_get _ j hj, List.getD_eq_getElem?_getD, List.getElem?_eq_getElem hj, Option.getD_some, e]⟩
theorem Up.rising {l : List Int} (h : Up l) : Rising l := fun i j hij hj => sorted_getD (h.imp fun h => by omega) i j hij hj
/-- Rising words, each once, are one list if they are the same words. -/
theorem Up.ext : ∀ {l m : List Int}, Up l → Up m → (∀ x, x ∈ l ↔ x ∈ m) → l = m
  | [], [], _, _, _ => rfl
  | [], b :: m, _, _, h => absurd ((h b).2 (by simp)) (by simp)
  | a :: l, [], _, _, h => absurd ((h a).1 (by simp)) (by simp)
  | a :: l, b :: m, h1, h2, h => by
    unfold Up at *
    rw [List.pairwise_cons] at h1 h2
    have hab : a = b := by
      have p1 := (h a).1 (by simp)
      have p2 := (h b).2 (by simp)
      rcases List.mem_cons.1 p1 with e | p1
      · exact e
      · rcases List.mem_cons.1 p2 with e | p2
        · exact e.symm
        · have := h1.1 _ p2; have := h2.1 _ p1; omega
    subst hab
    congr 1
    refine Up.ext h1.2 h2.2 fun x => ⟨fun hx => ?_, fun hx => ?_⟩
    · rcases List.mem_cons.1 ((h x).1 (by simp [hx])) with e | p
      · have := h1.1 _ hx; omega
      · exact p
    · rcases List.mem_cons.1 ((h x).2 (by simp [hx])) with e | p
      · have := h2.1 _ hx; omega
      · exact p
theorem setF_length (l : List Int) : (setF l).length ≤ l.length := by
  unfold setF
  exact Nat.le_trans (cut_length _ _) (Nat.le_of_eq (srt_length l))
theorem filter_up {l : List Int} (h : Up l) (p : Int → Bool) : Up (l.filter p) := h.filter p
theorem setF_up_eq {l : List Int} (h : Up l) : setF l = l := (setF_up l).ext h fun x => setF_mem l x
theorem uV_snoc (l : List Int) (x : Int) : uV (l ++ [x]) = uV l ++ [.int .u64 x] := by simp [uV]
/-- A nil row of a call's own has no room. -/
theorem own_nil {w : World} {base n c size : Nat} {e : TypeId} {ao : Option Addr} {xs : List Value} (h : w.ownsRow base e size (.slice ao n c) n xs) : ao = none → c = 0 := fun h0 => by
  subst h0
  rcases h.2 with ⟨h1, _⟩ | ⟨g, cap, cur, hv, _⟩
  · cases h1; rfl
  · cases hv
theorem words_own {w : World} {base n c : Nat} {ao : Option Addr} {l : List Int} (hn : n = l.length) (h : w.ownsRow base 35 1 (.slice ao n c) n (uV l)) : WordsAt w w.heap.size ao l := fun h0 => by
  subst hn
  obtain ⟨ao', c', e, _, hh⟩ := own_form h
  cases e
  obtain ⟨g, rfl, _, hg, hc⟩ := hh h0
  exact ⟨g, 0, rfl, hg, fun i hi => by rw [hc (0 + i) _ (by rw [Nat.zero_add]; exact uV_get l i hi)]⟩
set_option maxRecDepth 100000 in
set_option maxHeartbeats 2000000 in
theorem same_any (ao bo : Option Addr) (c d : Nat) (a b : List Int) (w : World) (B C : Nat) (ha : WordsAt w B ao a) (hb : WordsAt w C bo b) (hna : a.length ≤ 1000000000) :
    Calls Tryz.prog 27 #[.slice ao a.length c, .slice bo b.length d] w fun e w' => e = .returned (.bool (decide (a = b))) ∧ Below w.heap.size w w' := by
  obtain ⟨r, hr⟩ : ∃ r : Bool, decide (a = b) = r := ⟨_, rfl⟩
  rw [hr]
  by_cases hl : a.length = b.length
  · obtain ⟨n, hn⟩ : ∃ n, a.length = n := ⟨_, rfl⟩
    rw [← hl, hn]
    rw [hn] at hna
    have HA := Lib.hid ha
    have HB := Lib.hid hb
    have HN := Lib.hid hn
    have HL : Hid (b.length = n) := by show _ = _; rw [← hl, hn]
    have HR := Lib.hid hr
    have q0 : ((n : Int) != (n : Int)) = false := by simp
    clear ha hb hl hn hr
    go_enter Tryz.func27, Tryz.ntmps27
    go_wp2
    go_loopw [5] (fun i wr => ∃ k : Nat, k ≤ n ∧ i = .int .i64 k ∧ Hid (∀ j, j < k → a.getD j 0 = b.getD j 0) ∧ Below w.heap.size w wr ∧ Hid (∀ x, wr.cell? x = w.cell? x)) (fun i _ => n - (intOf i).toNat)
    case atStart => exact ⟨0, Nat.zero_le _, rfl, fun j hj => by omega, Below.refl _ _, fun x => rfl⟩
    case round =>
      obtain ⟨k, hk, rfl, HE, hnx, HCA⟩ := hrel
      by_cases hlt : k < n
      · obtain ⟨g, off, rfl, hg, hc⟩ := HA.out (by rw [HN.out]; omega)
        obtain ⟨g2, off2, rfl, hg2, hc2⟩ := HB.out (by rw [HL.out]; omega)
        have c0 := (HCA.out _).trans (hc k (by rw [HN.out]; exact hlt))
        have c1 := (HCA.out _).trans (hc2 k (by rw [HL.out]; exact hlt))
        have hg' := World.block_lt_of_cell? wr _ c0
        have hg2' := World.block_lt_of_cell? wr _ c1
        have HNO : Hid (a.getD k 0 ≠ b.getD k 0 → r = false) := fun h => by rw [← HR.out]; simp; intro e; exact h (by rw [e])
        have HYES : Hid (a.getD k 0 = b.getD k 0 → ∀ j, j < k + 1 → a.getD j 0 = b.getD j 0) := fun h j hj => by
          by_cases e : j = k
          · rw [e]; exact h
          · exact HE.out j (by omega)
        generalize a.getD k 0 = x at c0 HNO HYES
        generalize b.getD k 0 = y at c1 HNO HYES
        clear hc hc2
        dsimp only at hg' hg2'
        by_cases hxy : x = y
        · have hq : (x != y) = false := by simpa using hxy
          have HY := Lib.hid (HYES.out hxy)
          clear hxy HNO HYES
          go_wp2
          go_quiet (fail)
          go_wp2
          go_roundw
          case rel => exact ⟨k + 1, by omega, by go_num, HY.out, below_drewN hnx _, fun x => HCA.out x⟩
          case measure => simp [intOf]; omega
        · have hq : (x != y) = true := by simpa using hxy
          have HY := Lib.hid (HNO.out hxy)
          clear hxy HNO HYES
          go_wp2
          go_quiet (fail)
          go_wp2
          go_ret
          exact ⟨ret_bool HY.out.symm, below_drewN hnx _⟩
      · obtain rfl : k = n := by omega
        have HT : Hid (r = true) := by
          show _ = _
          rw [← HR.out]
          simp only [decide_eq_true_eq]
          refine List.ext_getElem (by rw [HN.out, HL.out]) fun i h1 h2 => ?_
          have := HE.out i (by rw [HN.out] at h1; exact h1)
          rwa [List.getD_eq_getElem?_getD, List.getD_eq_getElem?_getD, List.getElem?_eq_getElem h1, List.getElem?_eq_getElem h2, Option.getD_some, Option.getD_some] at this
        go_wp2
        go_ret
        exact ⟨ret_bool HT.out.symm, hnx⟩
  · have HF : Hid (r = false) := by show _ = _; rw [← hr]; simp; intro e; exact hl (by rw [e])
    have q0 : ((a.length : Int) != (b.length : Int)) = true := by simp; omega
    clear hr ha hb
    go_enter Tryz.func27, Tryz.ntmps27
    go_wp2
    go_ret
    exact ⟨ret_bool HF.out.symm, Below.refl _ _⟩
/-- Two lists, one behind the other. -/
def Joined (w : World) (l : List Int) (e : Ending) (w' : World) : Prop :=
  ∃ ao c, e = .returned (.slice ao l.length c) ∧ WordsAt w' w'.heap.size ao l ∧ Below w.heap.size w w' ∧ (ao = none → c = 0)
theorem take_one {l : List Int} {k : Nat} (h : k < l.length) : l.take (k + 1) = l.take k ++ [l.getD k 0] := by
  rw [List.take_succ_eq_append_getElem h, List.getD_eq_getElem?_getD, List.getElem?_eq_getElem h, Option.getD_some]
theorem setF_old {l : List Int} {k : Nat} (h : k < l.length) (hm : l.getD k 0 ∈ setF (l.take k)) : setF (l.take (k + 1)) = setF (l.take k) := by
  refine (setF_up _).ext (setF_up _) fun x => ?_
  rw [setF_mem, setF_mem, take_one h, List.mem_append, List.mem_singleton]
  rw [setF_mem] at hm
  constructor
  · rintro (h1 | rfl)
    · exact h1
    · exact hm
  · exact Or.inl
theorem setF_put {l s : List Int} {k lo : Nat} (h : k < l.length) (hs : setF (l.take k) = s) (h1 : ∀ j, j < lo → s.getD j 0 < l.getD k 0) (h2 : ∀ j, lo ≤ j → j < s.length → l.getD k 0 < s.getD j 0) :
    setF (l.take (k + 1)) = s.take lo ++ l.getD k 0 :: s.drop lo := by
  have hu : Up s := by rw [← hs]; exact setF_up _
  refine (setF_up _).ext ?_ fun x => ?_
  · refine List.pairwise_append.2 ⟨hu.take, List.pairwise_cons.2 ⟨fun y hy => ?_, hu.drop⟩, fun y hy z hz => ?_⟩
    · obtain ⟨j, hj, rfl⟩ := List.getElem_of_mem hy
      have hj' : lo + j < s.length := by simp at hj; omega
      have := h2 (lo + j) (by omega) hj'
      rw [List.getElem_drop]
      rwa [List.getD_eq_getElem?_getD (l := s), List.getElem?_eq_getElem hj', Option.getD_some] at this
    · have hy2 : y < l.getD k 0 := by
        obtain ⟨j, hj, rfl⟩ := List.getElem_of_mem hy
        have hj' : j < lo ∧ j < s.length := by simp at hj; omega
        have := h1 j hj'.1
        rw [List.getElem_take]
        rwa [List.getD_eq_getElem?_getD (l := s), List.getElem?_eq_getElem hj'.2, Option.getD_some] at this
      rcases List.mem_cons.1 hz with rfl | hz
      · exact hy2
      · obtain ⟨j, hj, rfl⟩ := List.getElem_of_mem hz
        have hj' : lo + j < s.length := by simp at hj; omega
        have := h2 (lo + j) (by omega) hj'
        rw [List.getElem_drop]
        rw [List.getD_eq_getElem?_getD (l := s), List.getElem?_eq_getElem hj', Option.getD_some] at this
        omega
  · rw [setF_mem, take_one h, List.mem_append, List.mem_singleton, List.mem_append, List.mem_cons, ← setF_mem (l.take k), hs]
    conv => lhs; rw [← List.take_append_drop lo s]
    rw [List.mem_append]
    constructor
    · rintro ((h | h) | h)
      · exact .inl h
      · exact .inr (.inr h)
      · exact .inr (.inl h)
    · rintro (h | h | h)
      · exact .inl (.inl h)
      · exact .inr h
      · exact .inl (.inr h)
/-- A row of a call's own, behind the cells from lo on moved by one and one put there. -/
theorem own_put {w : World} {base g cap m lo : Nat} {s : List Int} {x : Int} {cur : List Value} (hb : base ≤ g) (hl : s.length = m) (hlo : lo ≤ m) (hm : m + 1 ≤ cap) (hc : cap ≤ maxLen) (hcur : cur.length = cap) (htk : cur.take (m + 1) = uV s ++ [.int .u64 0])
    (h : w.heap[g]? = some (.cells (splice cur (lo + 1) (uV (s.drop lo))).toArray 35 (0, 0))) :
    (w.setCell ⟨g, lo, none⟩ (.int .u64 x)).ownsRow base 35 1 (.slice (some ⟨g, 0, none⟩) (m + 1) cap) (m + 1) (uV (s.take lo ++ x :: s.drop lo)) := by
  have hsz : (splice cur (lo + 1) (uV (s.drop lo))).length = cap := by rw [length_splice _ _ _ (by rw [uV_len, List.length_drop]; omega)]; exact hcur
  have hh : (w.setCell ⟨g, lo, none⟩ (.int .u64 x)).heap[g]? = some (.cells ((splice cur (lo + 1) (uV (s.drop lo))).toArray.setIfInBounds lo (.int .u64 x)) 35 (0, 0)) := by
    rw [setCell_eq]
    simp [mapBlock, Array.getElem?_modify, h, onCells]
  refine ⟨by rw [uV_len, List.length_append, List.length_cons, List.length_take, List.length_drop]; omega, .inr ⟨g, cap, _, rfl, hb, hh, hm, hc, by simpa using hsz, ?_⟩⟩
  have hs0 : cur.take lo = uV (s.take lo) := by
    have : (cur.take (m + 1)).take lo = (uV s ++ [Value.int .u64 0]).take lo := by rw [htk]
    rw [List.take_take, Nat.min_eq_left (by omega), List.take_append_of_le_length (by rw [uV_len]; omega)] at this
    rw [this]; simp [uV, List.map_take]
  apply List.ext_getElem?
  intro j
  rw [Nat.mul_one]
  by_cases hj : j < m + 1
  · rw [List.getElem?_take_of_lt hj, Array.getElem?_toList, Array.getElem?_setIfInBounds]
    by_cases e : lo = j
    · subst e
      rw [if_pos rfl, if_pos (by rw [List.size_toArray, hsz]; omega)]
      simp [uV, hl, hlo]
    · rw [if_neg e, List.getElem?_toArray]
      unfold splice
      have huv : uV (s.take lo ++ x :: s.drop lo) = uV (s.take lo) ++ .int .u64 x :: uV (s.drop lo) := by simp [uV]
      rw [huv]
      have h2 : (uV (s.take lo)).length = lo := by rw [uV_len, List.length_take]; omega
      rcases Nat.lt_or_gt_of_ne e with h3 | h3
      · have hA : (cur.take (lo + 1)).length = lo + 1 := by rw [List.length_take]; omega
        rw [List.getElem?_append_right (l₁ := cur.take (lo + 1)) (by rw [hA]; omega), hA, List.getElem?_append_right (l₁ := uV (s.take lo)) (by rw [h2]; omega), h2, List.getElem?_append_left (by rw [uV_len, List.length_drop]; omega)]
        obtain ⟨i, hi⟩ : ∃ i, j - lo = i + 1 := ⟨j - lo - 1, by omega⟩
        rw [hi, List.getElem?_cons_succ]
        congr 1
        omega
      · rw [List.getElem?_append_left (by rw [List.length_take]; omega), List.getElem?_append_left (by omega), List.getElem?_take_of_lt (by omega), ← hs0, List.getElem?_take_of_lt h3]
  · rw [List.getElem?_take_eq_none (by omega), List.getElem?_eq_none (by rw [uV_len, List.length_append, List.length_cons, List.length_take, List.length_drop]; omega)]
theorem cell_heap {X w : World} (h : X.heap = w.heap) (a : Addr) : X.cell? a = w.cell? a := World.cell?_of_block (by rw [h])
theorem words_heap {X w : World} (h : X.heap = w.heap) {B : Nat} {ao : Option Addr} {l : List Int} (hw : WordsAt w B ao l) : WordsAt X B ao l := fun h0 => by
  obtain ⟨b, off, e, hlt, hc⟩ := hw h0
  exact ⟨b, off, e, hlt, fun i hi => by rw [cell_heap h]; exact hc i hi⟩
theorem own_heap {X w : World} (h : X.heap = w.heap) {base n size : Nat} {e : TypeId} {v : Value} {xs : List Value} (ho : w.ownsRow base e size v n xs) : X.ownsRow base e size v n xs := by
  unfold World.ownsRow; rw [h]; exact ho
set_option maxRecDepth 100000 in
set_option maxHeartbeats 4000000 in
theorem rset_any (ao : Option Addr) (c : Nat) (l : List Int) (w : World) (h : WordsAt w w.heap.size ao l) (hn : l.length ≤ 1000000000) :
    Calls Tryz.prog 29 #[.slice ao l.length c] w (Joined w (setF l)) := by
  obtain ⟨i0, hi, hz0, hz1, hz2⟩ := info_parts info_u
  have hsz1 : (Tryz.prog.info? 35).map (·.size) = some 1 := by kernel_rfl
  obtain ⟨n, hnn⟩ : ∃ n, l.length = n := ⟨_, rfl⟩
  have HN := Lib.hid hnn
  have HW := Lib.hid h
  rw [hnn] at hn ⊢
  clear hnn h
  go_enter Tryz.func29, Tryz.ntmps29
  go_wp2
  go_loopw [3, 4] (fun v i wr => ∃ (k m : Nat), k ≤ n ∧ m ≤ k ∧ i = .int .i64 k ∧ Hid ((setF (l.take k)).length = m) ∧ wr.ownsRow w.heap.size 35 1 v m (uV (setF (l.take k))) ∧ Below w.heap.size w wr) (fun _ i _ => n - (intOf i).toNat)
  case atStart => exact ⟨0, 0, Nat.zero_le _, Nat.le_refl _, rfl, by show _ = _; rw [List.take_zero, setF_nil]; rfl, by rw [List.take_zero, setF_nil]; exact World.ownsRow_nil _ _ _ _, Below.refl _ _⟩
  case round =>
    obtain ⟨k, m, hk, hm, rfl, HM0, hown, hnx⟩ := hrel
    have hsz := hnx.size
    obtain ⟨s, hs⟩ : ∃ s, setF (l.take k) = s := ⟨_, rfl⟩
    have HM : Hid (s.length = m) := by show _ = _; rw [← hs]; exact HM0.out
    rw [hs] at hown
    have HUP : Hid (Rising s) := by show Rising s; rw [← hs]; exact (setF_up _).rising
    have HS := Lib.hid hs
    clear hs HM0
    obtain ⟨vo, vc, rfl, _, _⟩ := own_form hown
    have HWD := Lib.hid (words_own HM.out.symm hown)
    have HOWN := Lib.hid hown
    have HNX := Lib.hid hnx
    by_cases hlt : k < n
    · obtain ⟨b, off, rfl, hb, hc⟩ := (HW.out.below hnx (Nat.le_refl _)) (by rw [HN.out]; omega)
      have c0 := hc k (by rw [HN.out]; exact hlt)
      obtain ⟨x, hx⟩ : ∃ x, l.getD k 0 = x := ⟨_, rfl⟩
      rw [hx] at c0
      have HX := Lib.hid hx
      have hbw : b < wr.heap.size := by omega
      have KEEP : Hid (∀ X : World, X.heap = wr.heap → X.cell? ⟨b, off + k, none⟩ = some (.int .u64 x) ∧ b < X.heap.size ∧ WordsAt X X.heap.size vo s ∧ X.ownsRow w.heap.size 35 1 (.slice vo m vc) m (uV s)) := fun X hX => by
        refine ⟨?_, by rw [hX]; exact hbw, ?_, own_heap hX HOWN.out⟩
        · rw [cell_heap hX]; exact c0
        · have := words_heap hX HWD.out
          rwa [← hX] at this
      clear hc hx hown hnx c0 hbw HWD hsz
      obtain ⟨wo, hwo⟩ : ∃ wo : World, wo = wr := ⟨_, rfl⟩
      subst hwo
      go_wp2
      go_loopw [5, 6] (fun i j wr => ∃ lo hi : Nat, lo ≤ hi ∧ hi ≤ m ∧ i = .int .i64 lo ∧ j = .int .i64 hi ∧ Hid ((∀ k, k < lo → s.getD k 0 < x) ∧ ∀ k, hi ≤ k → k < m → x ≤ s.getD k 0) ∧ Hid (wr.heap = wo.heap) ∧ Below w.heap.size w wr) (fun i j _ => (intOf j).toNat - (intOf i).toNat)
      case atStart => exact ⟨0, m, Nat.zero_le _, Nat.le_refl _, rfl, rfl, ⟨fun k hk => by omega, fun k h1 h2 => by omega⟩, rfl, HNX.out⟩
      case round =>
        obtain ⟨lo, hi', h1, h2, rfl, rfl, HA, HH, hbx⟩ := hrel
        obtain ⟨c0, hbw, hwd, hown⟩ := KEEP.out wr HH.out
        have HWD := Lib.hid hwd
        have HOWN := Lib.hid hown
        have HBX := Lib.hid hbx
        have hsz := hbx.size
        clear hwd hown hbx
        by_cases hlt2 : lo < hi'
        · obtain ⟨g1, off1, rfl, hg1, hc1⟩ := HWD.out (by rw [HM.out]; omega)
          obtain ⟨t, ht⟩ : ∃ t, (lo + hi') / 2 = t := ⟨_, rfl⟩
          have hm1 : lo ≤ t := by omega
          have hm2 : t < hi' := by omega
          have hmI : ((lo : Int) + (hi' : Int)) / 2 = (t : Int) := by omega
          have c1 := hc1 t (by rw [HM.out]; omega)
          have HL1 : Hid (s.getD t 0 < x → ∀ k, k < t + 1 → s.getD k 0 < x) := fun e k hk => by
            have := HUP.out k t (by omega) (by rw [HM.out]; omega)
            omega
          have HL2 : Hid (¬ s.getD t 0 < x → ∀ k, t ≤ k → k < m → x ≤ s.getD k 0) := fun e k h3 h4 => by
            have := HUP.out t k h3 (by rw [HM.out]; exact h4)
            omega
          generalize s.getD t 0 = y at c1 HL1 HL2
          clear hc1 ht
          by_cases hyx : y < x
          · have HLL := Lib.hid (HL1.out hyx)
            clear HL1 HL2
            go_wp2_with (first | (with_reducible refine wp_region_lex (by kernel_rfl) (by kernel_rfl) ?_) | (with_reducible refine OnlyG.intro (by kernel_rfl) ?_))
            go_roundw
            case rel => exact ⟨t + 1, hi', by omega, h2, by go_num, rfl, ⟨HLL.out, HA.out.2⟩, HH.out, HBX.out.drew⟩
            case measure => simp [intOf]; omega
          · have HLL := Lib.hid (HL2.out hyx)
            clear HL1 HL2
            go_wp2_with (first | (with_reducible refine wp_region_lex (by kernel_rfl) (by kernel_rfl) ?_) | (with_reducible refine OnlyG.intro (by kernel_rfl) ?_))
            go_roundw
            case rel => exact ⟨lo, t, by omega, by omega, rfl, by go_num, ⟨HA.out.1, HLL.out⟩, HH.out, HBX.out.drew⟩
            case measure => simp [intOf]; omega
        · obtain rfl : lo = hi' := by omega
          by_cases hin : lo < m ∧ s.getD lo 0 = x
          · obtain ⟨g1, off1, rfl, hg1, hc1⟩ := HWD.out (by rw [HM.out]; omega)
            have c1 := hc1 lo (by rw [HM.out]; exact hin.1)
            obtain ⟨y, hy⟩ : ∃ y, s.getD lo 0 = y := ⟨_, rfl⟩
            have q1 : (y == x) = true := by rw [← hy]; simpa using hin.2
            rw [hy] at c1
            have HOLD : Hid (setF (l.take (k + 1)) = s) := by
              show _ = _
              rw [setF_old (by rw [HN.out]; exact hlt) (by rw [HS.out, HX.out, ← hin.2]; exact getD_mem (by rw [HM.out]; exact hin.1)), HS.out]
            have q0 : decide (lo < m) = true := by simpa using hin.1
            have hlm := hin.1
            clear hc1 hin hy
            go_wp2_with (first | (with_reducible refine wp_region_lex (by kernel_rfl) (by kernel_rfl) ?_) | (with_reducible refine OnlyG.intro (by kernel_rfl) ?_))
            go_roundw
            case rel => exact ⟨k + 1, m, by omega, by omega, by go_num, by show _ = _; rw [HOLD.out]; exact HM.out, by rw [HOLD.out]; exact HOWN.out, HBX.out.drew⟩
            case measure => simp [intOf]; omega
          · have HPUT : Hid (setF (l.take (k + 1)) = s.take lo ++ x :: s.drop lo) := by
              show _ = _
              rw [setF_put (by rw [HN.out]; exact hlt) HS.out (lo := lo) (by rw [HX.out]; exact HA.out.1) (by
                rw [HX.out]
                intro j h3 h4
                rw [HM.out] at h4
                have e1 := HA.out.2 j h3 h4
                have e2 := HUP.out lo j h3 (by rw [HM.out]; exact h4)
                have e3 := HA.out.2 lo (Nat.le_refl _) (by omega)
                by_cases e4 : s.getD lo 0 = x
                · exact absurd ⟨by omega, e4⟩ hin
                · omega), HX.out]
            have key : decide (lo < m) = false ∨ (lo < m ∧ decide (lo < m) = true ∧ ∃ g1 off1 y, vo = some ⟨g1, off1, none⟩ ∧ g1 < wr.heap.size ∧ wr.cell? ⟨g1, off1 + lo, none⟩ = some (.int .u64 y) ∧ (y == x) = false) := by
              by_cases e : lo < m
              · refine .inr ⟨e, by simpa using e, ?_⟩
                obtain ⟨g1, off1, rfl, hg1, hc1⟩ := HWD.out (by rw [HM.out]; omega)
                exact ⟨g1, off1, _, rfl, hg1, hc1 lo (by rw [HM.out]; exact e), by simpa using fun h => hin ⟨e, h⟩⟩
              · exact .inl (by simpa using e)
            clear hin hlt2
            rcases key with q0 | ⟨hlm, q0, g1, off1, y, rfl, hg1, c1, q1⟩
            all_goals
              have hown := HOWN.out
              go_upto_region 13 with (first | (with_reducible refine wp_region_lex (by kernel_rfl) (by kernel_rfl) ?_) | (with_reducible refine OnlyG.intro (by kernel_rfl) ?_) | (at_builtin; refine wpList_append_own _ rfl (.tmp 50) (.tmp 51) 31 rfl w.heap.size 35 i0 (.int .u64 0) 1 8 Tryz.underlying31 hi hz0 hz1 hz2 rfl (by decide) _ _ _ rfl (hown.alloc _) ⟨wr.heap.size, 0, none⟩ 1 1 [.int .u64 0] rfl rfl (cells_new _ _ _ _ rfl) (by simp [Value.oneCell']) (by unfold maxLen; omega) (by omega) (by simp; omega) ?_; intro v' w3 hown1 hgrow _))
              have hbel : Below w.heap.size w w3 := below_append (HBX.out.drew.alloc hsz _) (hown.alloc _) (by simp; omega) hgrow
              rcases hown1.2 with ⟨_, h0⟩ | ⟨g, cap, ⟨cur⟩, rfl, hbg, hheap, hcap, hmax, hcsz, htake⟩
              · omega
              obtain ⟨e, he⟩ : ∃ e, s.drop lo = e := ⟨_, rfl⟩
              have hdl : (uV e).length = m - lo := by rw [uV_len, ← he, List.length_drop, HM.out]
              have hmin : (uV e).length = Nat.min (m + 1 - lo) (m - lo) := by rw [hdl]; show _ = min _ _; omega
              have hfit : lo + 1 + (uV e).length ≤ cur.length := by rw [hdl]; have : cur.length = cap := by simpa using hcsz
                                                                    omega
              have HPOS : Hid (0 < (uV e).length → (if cap = lo + 1 then some (⟨g, 0, none⟩ : Addr) else some ⟨g, lo + 1, none⟩) = some ⟨g, lo + 1, none⟩ ∧ ∃ ad, some (⟨g, lo, none⟩ : Addr) = some ad ∧ ∀ j v, (uV e)[j]? = some v → w3.drew.cell? (ad.add j) = some v) := fun h0 => by
                refine ⟨by rw [if_neg (by omega)], _, rfl, fun j v hj => ?_⟩
                have hj' : j < (uV e).length := (List.getElem?_eq_some_iff.1 hj).1
                have hadd : (⟨g, lo, none⟩ : Addr).add j = ⟨g, lo + j, none⟩ := by unfold Addr.add; split <;> simp_all
                rw [hadd, cell_heap (X := w3.drew) (w := w3) rfl, hown1.cellAt (lo + j) (by omega), List.getElem?_append_left (by rw [uV_len, HM.out]; omega), ← hj, ← he]
                simp [uV]
              have HTK : Hid (cur.take (m + 1) = uV s ++ [.int .u64 0]) := by show _ = _; rw [← htake, Nat.mul_one]
              have HCL : Hid (cur.length = cap) := by show _ = _; simpa using hcsz
              have HDE := Lib.hid he
              have hheap' : w3.drew.heap[g]? = some (.cells cur.toArray 35 (0, 0)) := hheap
              have hbel' := hbel.drew
              have hw1 : IntKind.i64.wrap ((lo : Int) + 1) = (lo : Int) + 1 := IntWalk.i64_in _ (by omega)
              have hb1 : (lo : Int) + 1 ≤ (m : Int) + 1 := by omega
              have hb2 : (lo : Int) ≤ (m : Int) + 1 := by omega
              have hb0 : (0 : Int) ≤ (lo : Int) + 1 := by omega
              have hne : ¬ cap = lo := by omega
              clear htake hcsz hown1 hgrow hown he hdl
              go_region_law (refine step_copy_splice rfl (.tmp 56) (.tmp 59) 31 31 rfl 35 Tryz.underlying31 hsz1 (if cap = lo + 1 then some (⟨g, 0, none⟩ : Addr) else some ⟨g, lo + 1, none⟩) (some ⟨g, lo, none⟩) (m - lo) (cap - (lo + 1)) (m + 1 - lo) (cap - lo) (by simp [Act.eval, Act.put]) (by simp [Act.eval, Act.put]) g (lo + 1) cur 35 hheap' (uV e) hmin HPOS.out hfit (uV_cell _) w.heap.size w hbel' hbg ?_; intro w4 HG4 hb4)
              have hput := HG4.out
              have c4 : w4.cell? ⟨b, off + k, none⟩ = some (.int .u64 x) := (hb4.cell (p := ⟨b, off + k, none⟩) hb).trans ((HBX.out.cell (p := ⟨b, off + k, none⟩) hb).symm.trans c0)
              have hbw4 : b < w4.heap.size := by have := hb4.size; omega
              have hg4 : g < w4.heap.size := (Array.getElem?_eq_some_iff.1 hput).1
              have hsl : lo < (splice cur (lo + 1) (uV e)).length := by rw [length_splice _ _ _ hfit, HCL.out]; omega
              have c5 : w4.cell? ⟨g, lo, none⟩ = some (splice cur (lo + 1) (uV e))[lo] := by
                rw [cell_of_row _ _ _ _ _ _ hput, List.getElem?_toArray, List.getElem?_eq_getElem hsl]
              have hf5 : w4.frozen? ⟨g, lo, none⟩ = false := by simp [World.frozen?, hput]
              have HG5 := Lib.hid (hput)
              generalize (splice cur (lo + 1) (uV e))[lo] = y5 at c5
              have HB5 : Hid (Below w.heap.size w (w4.setCell ⟨g, lo, none⟩ (.int .u64 x))) := hb4.setCell hbg _
              have HOWN5 : Hid ((w4.setCell ⟨g, lo, none⟩ (.int .u64 x)).ownsRow w.heap.size 35 1 (.slice (some ⟨g, 0, none⟩) (m + 1) cap) (m + 1) (uV (setF (l.take (k + 1))))) := by
                have hh : w4.heap[g]? = some (.cells (splice cur (lo + 1) (uV (s.drop lo))).toArray 35 (0, 0)) := by rw [HDE.out]; exact hput
                have := own_put (x := x) hbg HM.out h2 hcap hmax HCL.out HTK.out hh
                rw [← HPUT.out] at this
                exact this
              have HLEN : Hid ((setF (l.take (k + 1))).length = m + 1) := by
                show _ = _
                rw [HPUT.out, List.length_append, List.length_cons, List.length_take, List.length_drop, HM.out]
                omega
              clear hput hb4 hsl hheap hheap' hbel hbel' hfit hmin
              go_wp2_with (first | (with_reducible refine wp_region_lex (by kernel_rfl) (by kernel_rfl) ?_) | (with_reducible refine OnlyG.intro (by kernel_rfl) ?_))
              go_roundw
              case rel => exact ⟨k + 1, m + 1, by omega, by omega, by go_num, HLEN.out, HOWN5.out, HB5.out⟩
              case measure => simp [intOf]; omega
    · obtain rfl : k = n := by omega
      have HT : Hid (s = setF l) := by show _ = _; rw [← HS.out, ← HN.out, List.take_length]
      have hwd := words_own HM.out.symm hown
      have hJ : Hid (Joined w (setF l) (.returned (.slice vo m vc)) wr) := ⟨vo, vc, by rw [← HT.out, HM.out], by rw [← HT.out]; exact hwd, hnx, own_nil hown⟩
      clear hwd hown hnx
      go_wp2
      go_ret
      exact hJ.out
end Go.Proofs.YtdbfimdcaacjhaaGreat
/- Contracts of the numbers of 128 bits (apiaryref1.Wide): below nought, less (what WdM leaves of Wide). -/
namespace Go.Proofs.YtdbfimdcaacjhaaGreat
open Go.RowKit

set_option maxHeartbeats 400000 in
theorem below_rep {h l : Nat} {A : Int} (hr : Rep h l A) (h1 : -170141183460469231731687303715884105728 ≤ A) (h2 : A < 170141183460469231731687303715884105728) (w : World) :
    Calls Tryz.prog 120 #[.agg #[.int .u64 h, .int .u64 l]] w fun e w' => e = .returned (.bool (decide (A < 0))) ∧ Below w.heap.size w w' := by
  have HE : Hid (((h : Int) / 9223372036854775808 == 1) = decide (A < 0)) := by
    show _ = _
    obtain ⟨a1, a2, a3⟩ := hr
    rw [Bool.eq_iff_iff]; simp; omega
  clear h1 h2 hr
  go_enter Tryz.func120, Tryz.ntmps120
  go_wp2
  go_ret
  exact ⟨ret_bool HE.out, (Below.refl _ _).alloc (Nat.le_refl _) _⟩

set_option maxHeartbeats 1000000 in
theorem less_rep {ah al bh bl : Nat} {A B : Int} (h1 : Rep ah al A) (h2 : Rep bh bl B) (k1 : -85070591730234615856620279821087277056 ≤ A) (k2 : A ≤ 85070591730234615865843651857942052864) (k3 : -85070591730234615856620279821087277056 ≤ B) (k4 : B ≤ 85070591730234615865843651857942052864) (w : World) :
    Calls Tryz.prog 85 #[.agg #[.int .u64 ah, .int .u64 al], .agg #[.int .u64 bh, .int .u64 bl]] w fun e w' => e = .returned (.bool (decide (A < B))) ∧ Below w.heap.size w w' := by
  have HE : Hid (decide (A + -B < 0) = decide (A < B)) := by show _ = _; rw [decide_eq_decide]; omega
  have HB : Hid (∀ h l, Rep h l (A + -B) → ∀ w, Calls Tryz.prog 120 #[.agg #[.int .u64 h, .int .u64 l]] w fun e w' => e = .returned (.bool (decide (A < B))) ∧ Below w.heap.size w w') := fun h l hr w => by
    have := below_rep hr (by omega) (by omega) w
    rw [HE.out] at this
    exact this
  have HT := Lib.hid h2
  have HA := Lib.hid h1
  have HC : Hid (∀ W w1 : World, Below W.heap.size W w1 → W.heap = ((w.alloc (.cells #[.int .u64 ah, .int .u64 al] 118)).alloc (.cells #[.int .u64 bh, .int .u64 bl] 118)).heap →
      w1.cell? ⟨w.heap.size, 0, none⟩ = some (.int .u64 ah) ∧ w1.cell? ⟨w.heap.size, 1, none⟩ = some (.int .u64 al)) := fun W w1 hb hW => by
    have hz : w.heap.size < W.heap.size := by rw [hW]; simp; omega
    have hg : W.heap[w.heap.size]? = some (.cells #[.int .u64 ah, .int .u64 al] 118) := by rw [hW, Below.heap_alloc _ _ _ (by simp)]; exact heap_new _ _ _ rfl
    rw [hb.cell (p := ⟨w.heap.size, 0, none⟩) hz, hb.cell (p := ⟨w.heap.size, 1, none⟩) hz, cell_of_row _ _ _ _ _ _ hg, cell_of_row _ _ _ _ _ _ hg]
    exact ⟨rfl, rfl⟩
  clear k1 k2 k3 k4 HE h1 h2
  go_enter Tryz.func85, Tryz.ntmps85
  go_wp2_with fail
  have hw0 : Hid (Below w.heap.size w ((w.alloc (.cells #[.int .u64 ah, .int .u64 al] 118)).alloc (.cells #[.int .u64 bh, .int .u64 bl] 118))) := ((Below.refl _ _).alloc (Nat.le_refl _) _).alloc (by simp) _
  go_region_with (first
    | (go_at_call 70; refine (turned_rep HT.out _).mono ?_; rintro e w1 ⟨h', l', rfl, hr1, hb1⟩; have HR1 := Lib.hid hr1; clear hr1; obtain ⟨c0, c1⟩ := HC.out _ _ hb1 rfl)
    | (go_at_call 69; refine (plus_rep HA.out HR1.out _).mono ?_; rintro e w2 ⟨h2, l2, rfl, hr2, hb2⟩; have HR2 := Lib.hid hr2; clear hr2)
    | (go_at_call 120; refine (HB.out _ _ HR2.out _).mono ?_; rintro e w3 ⟨rfl, hb3⟩))
  all_goals go_wp2
  all_goals go_ret
  all_goals exact ⟨rfl, below_later hw0.out.drew (by simp; omega) (below_later hb1 hb1.size (below_later hb2 hb2.size hb3))⟩

end Go.Proofs.YtdbfimdcaacjhaaGreat
/- The contract of apiaryref9.cross (on WdX). -/
namespace Go.Proofs.YtdbfimdcaacjhaaGreat
open Go.RowKit

def crossF (a b c d x y : Int) : Int :=
  if wrap64 (c - a) * wrap64 (y - b) < wrap64 (d - b) * wrap64 (x - a) then -1
  else if wrap64 (d - b) * wrap64 (x - a) < wrap64 (c - a) * wrap64 (y - b) then 1 else 0
theorem wrap64_bd (z : Int) : -9223372036854775808 ≤ wrap64 z ∧ wrap64 z ≤ 9223372036854775807 := by
  unfold wrap64; omega

set_option maxHeartbeats 2000000 in
theorem cross_any (a b c d x y : Int) (w : World) :
    Calls Tryz.prog 52 #[.agg #[.int .i64 a, .int .i64 b], .agg #[.int .i64 c, .int .i64 d], .int .i64 x, .int .i64 y] w fun e w' => e = .returned (.int .i64 (crossF a b c d x y)) ∧ Below w.heap.size w w' := by
  have T1 : Hid (∀ w : World, _) := fun w => times_rep (wrap64 (c - a)) (wrap64 (y - b)) (wrap64_bd _) (wrap64_bd _) w
  have T2 : Hid (∀ w : World, _) := fun w => times_rep (wrap64 (d - b)) (wrap64 (x - a)) (wrap64_bd _) (wrap64_bd _) w
  have k1 := prod_bound (wrap64_bd (c - a)) (wrap64_bd (y - b))
  have k2 := prod_bound (wrap64_bd (d - b)) (wrap64_bd (x - a))
  have HF : Hid (crossF a b c d x y = if wrap64 (c - a) * wrap64 (y - b) < wrap64 (d - b) * wrap64 (x - a) then -1 else if wrap64 (d - b) * wrap64 (x - a) < wrap64 (c - a) * wrap64 (y - b) then 1 else 0) := rfl
  generalize wrap64 (c - a) * wrap64 (y - b) = A at *
  generalize wrap64 (d - b) * wrap64 (x - a) = B at *
  have L1 : Hid (∀ (ah al bh bl : Nat), Rep ah al A → Rep bh bl B → ∀ w, Calls Tryz.prog 85 #[.agg #[.int .u64 ah, .int .u64 al], .agg #[.int .u64 bh, .int .u64 bl]] w fun e w' => e = .returned (.bool (decide (A < B))) ∧ Below w.heap.size w w') := fun _ _ _ _ h1 h2 w => less_rep h1 h2 k1.1 k1.2 k2.1 k2.2 w
  have L2 : Hid (∀ (ah al bh bl : Nat), Rep ah al B → Rep bh bl A → ∀ w, Calls Tryz.prog 85 #[.agg #[.int .u64 ah, .int .u64 al], .agg #[.int .u64 bh, .int .u64 bl]] w fun e w' => e = .returned (.bool (decide (B < A))) ∧ Below w.heap.size w w') := fun _ _ _ _ h1 h2 w => less_rep h1 h2 k2.1 k2.2 k1.1 k1.2 w
  have HC : Hid (∀ w1 : World, Below ((w.alloc (.cells #[.int .i64 a, .int .i64 b] 30)).alloc (.cells #[.int .i64 c, .int .i64 d] 30)).heap.size ((w.alloc (.cells #[.int .i64 a, .int .i64 b] 30)).alloc (.cells #[.int .i64 c, .int .i64 d] 30)) w1 →
      (w1.cell? ⟨w.heap.size, 0, none⟩ = some (.int .i64 a) ∧ w1.cell? ⟨w.heap.size, 1, none⟩ = some (.int .i64 b)) ∧ (w1.cell? ⟨w.heap.size + 1, 0, none⟩ = some (.int .i64 c) ∧ w1.cell? ⟨w.heap.size + 1, 1, none⟩ = some (.int .i64 d)) ∧ w.heap.size + 1 < w1.heap.size ∧ Below w.heap.size w w1) := fun w1 hb => by
    have h1 : ((w.alloc (.cells #[.int .i64 a, .int .i64 b] 30)).alloc (.cells #[.int .i64 c, .int .i64 d] 30)).heap[w.heap.size]? = some (.cells #[.int .i64 a, .int .i64 b] 30) := by
      rw [Below.heap_alloc _ _ _ (by simp)]; exact heap_new _ _ _ rfl
    have h2 : ((w.alloc (.cells #[.int .i64 a, .int .i64 b] 30)).alloc (.cells #[.int .i64 c, .int .i64 d] 30)).heap[w.heap.size + 1]? = some (.cells #[.int .i64 c, .int .i64 d] 30) := heap_new _ _ _ (by simp)
    have hz := hb.size
    rw [hb.cell (p := ⟨w.heap.size, 0, none⟩) (by simp; omega), hb.cell (p := ⟨w.heap.size, 1, none⟩) (by simp; omega), hb.cell (p := ⟨w.heap.size + 1, 0, none⟩) (by simp), hb.cell (p := ⟨w.heap.size + 1, 1, none⟩) (by simp),
      cell_of_row _ _ _ _ _ _ h1, cell_of_row _ _ _ _ _ _ h1, cell_of_row _ _ _ _ _ _ h2, cell_of_row _ _ _ _ _ _ h2]
    exact ⟨⟨rfl, rfl⟩, ⟨rfl, rfl⟩, by simp at hz; omega, ((Below.refl _ _).alloc (Nat.le_refl _) _).alloc (by simp) _ |>.trans (hb.mono (by simp; omega))⟩
  clear k1 k2
  go_enter Tryz.func52, Tryz.ntmps52
  go_wp2_with fail
  refine (T1.out _).mono ?_
  rintro e w1 ⟨h1, l1, rfl, hr1, hb1⟩
  obtain ⟨⟨c0, c1⟩, ⟨d0, d1⟩, hz1, hbw⟩ := HC.out _ hb1
  have hz0 : w.heap.size < w1.heap.size := by omega
  have HR1 := Lib.hid hr1
  have HB1 := Lib.hid hbw
  clear hb1 hr1 hbw HC T1
  go_wp2_with fail
  refine (T2.out _).mono ?_
  rintro e w2 ⟨h2, l2, rfl, hr2, hb2⟩
  obtain ⟨e0, e1, hz2⟩ := pair_kept hb2
  have HR2 := Lib.hid hr2
  have HB2 := Lib.hid (below_alloc' HB1.out hb2)
  clear hb2 hr2 c0 c1 d0 d1 T2 HB1
  go_wp2_with fail
  refine (L1.out _ _ _ _ HR1.out HR2.out _).mono ?_
  rintro e w3 ⟨rfl, hb3⟩
  obtain ⟨f0, f1, hz3⟩ := pair_kept hb3
  have g0 := (hb3.cell (p := ⟨w1.heap.size, 0, none⟩) (by simp; omega)).trans ((World.cell?_alloc_lt w2 _ _ hz2).trans e0)
  have g1 := (hb3.cell (p := ⟨w1.heap.size, 1, none⟩) (by simp; omega)).trans ((World.cell?_alloc_lt w2 _ _ hz2).trans e1)
  have HB3 := Lib.hid (below_alloc' HB2.out hb3)
  clear hb3 HB2 e0 e1 L1
  by_cases hab : A < B
  · go_wp2
    go_ret
    exact ⟨ret_int (by rw [HF.out, if_pos hab]), HB3.out⟩
  · go_wp2_with fail
    refine (L2.out _ _ _ _ HR2.out HR1.out _).mono ?_
    rintro e w4 ⟨rfl, hb4⟩
    have HB4 := Lib.hid (below_later HB3.out HB3.out.size hb4)
    clear hb4 HB3 L2
    by_cases hba : B < A
    · go_wp2
      go_ret
      exact ⟨ret_int (by rw [HF.out, if_neg (by omega), if_pos hba]), HB4.out⟩
    · go_wp2
      go_ret
      exact ⟨ret_int (by rw [HF.out, if_neg (by omega), if_neg (by omega)]), HB4.out⟩

end Go.Proofs.YtdbfimdcaacjhaaGreat
/- For regions that draw their order, some of whose operations make memory in no order, the last ones behind all others: what is known of values as long as memory stays (with the law of Lex7). -/
namespace Go.Proofs.YtdbfimdcaacjhaaGreat
open Go Go.RowKit

theorem want_stays {L : List Want} {i : Nat} {v : Value} {w w' : World} (hb : Below w.heap.size w w') (h : (wantAt L i).holds v w) : (wantAt L i).holds v w' := by
  cases e : wantAt L i with
  | inl u => rw [e] at h; exact h
  | inr p => rw [e] at h; exact p.2 v w w' hb h
/-- A new block, laid so. -/
def pNew (base : Nat) (cs : Array Value) (t : TypeId) : SP := ⟨fun v w => ∃ g, v = .pointer (some ⟨g, 0, none⟩) ∧ base ≤ g ∧ g < w.heap.size ∧ w.heap[g]? = some (.cells cs t (0, 0)), fun _ _ _ hb ⟨g, e, h1, h2, h3⟩ => ⟨g, e, h1, Nat.lt_of_lt_of_le h2 hb.size, (hb.block g h2).trans h3⟩⟩
end Go.Proofs.YtdbfimdcaacjhaaGreat
/- The law of Lex6 once more, where what an operation leaves may be known of an earlier one's value: a store into what an operation of the same region has made. -/
namespace Go.Proofs.YtdbfimdcaacjhaaGreat
open Go Go.RowKit
section
variable {P : Program} {ops : Array Oper}
/-- A value; what is known of it; what is known, behind this operation, of an earlier one's value (a place that it writes). -/
inductive Want3 where
  | val (u : Value)
  | prop (p : SP)
  | of (i : Nat) (p : SP)
def Want3.fixed : Want3 → Bool
  | .val _ => true
  | _ => false
def want3At (L : List Want3) (j : Nat) : Want3 := L.getD j (.val undef)
def Want3.holdsAt (j : Nat) : Want3 → Value → (Nat → Value) → World → Prop
  | .val u, v, _, _ => v = u
  | .prop p, v, _, w => p.1 v w
  | .of i p, _, V, w => i < j → p.1 (V i) w
def dep3 (L : List Want3) (j i : Nat) : Bool := match want3At L j with
  | .of q _ => decide (q < j) && (q == i)
  | _ => false
theorem dep3_lt {L : List Want3} {j i : Nat} (h : dep3 L j i = true) : i < j := by
  unfold dep3 at h
  split at h
  · rw [Bool.and_eq_true, decide_eq_true_eq, beq_iff_eq] at h; omega
  · cases h
def dep3B (ops : Array Oper) (L : List Want3) : Bool := (List.range ops.size).all fun j => (List.range ops.size).all fun i => !dep3 L j i || ((waits ops.toList []).getD j 0).testBit i
theorem stepV_mono {o : Oper} {S S' : Value → World → Prop} {a : Act} {w : World} (hs : ∀ v w', S v w' → S' v w') (h : stepV P ops o S a w) : stepV P ops o S' a w := by
  unfold stepV at *
  split at h
  · rename_i hw
    rw [if_pos hw]
    exact Oper.wp_mono (fun a' w' hh => by obtain ⟨v, e, hv⟩ := hh; exact ⟨v, e, hs v w' hv⟩) h
  · rename_i hw
    rw [if_neg hw]
    obtain ⟨v, e, hv⟩ := h
    exact ⟨v, e, hs v w hv⟩
/-- Each operation once, in the order of the text, from whatever world it may meet; T i: what operation i may turn; alive j: is told at the end. -/
def invList3 (P : Program) (ops : Array Oper) (G : World → World → Prop) (T : Nat → World → World → Prop) (alive : Nat → Bool) (w0 : World) (R : Nat → (Nat → Value) → World → Prop) (K : Act → World → Prop) : List Oper → List Value → Act → Prop
  | [], vs, a => ∀ w, G w0 w → (∀ j, j < vs.length → alive j = true → R j (fun q => vs.getD q undef) w) → K a w
  | o :: r, vs, a => (∀ w, G w0 w → (∀ j, j < vs.length → uses o j = true → R j (fun q => vs.getD q undef) w) → wpList P ops (Leaves a o.dst fun v w' => T vs.length w w' ∧ R vs.length (fun q => (vs ++ [v]).getD q undef) w') [o] a w) ∧
      ∀ v, invList3 P ops G T alive w0 R K r (vs ++ [v]) (a.put o.dst v)
theorem inv3_at {G : World → World → Prop} {T : Nat → World → World → Prop} {alive : Nat → Bool} {w0 : World} {R : Nat → (Nat → Value) → World → Prop} {K : Act → World → Prop} {dep : Nat → Nat → Bool} (hlt : ∀ j i, dep j i = true → i < j) (hdep : ∀ j V V' w, (∀ i, (i = j ∨ dep j i = true) → V i = V' i) → R j V w → R j V' w) (V : Nat → Value) : ∀ (r : List Oper) (m : Nat) (a : Act), invList3 P ops G T alive w0 R K r ((List.range m).map V) a →
    (∀ k o, r[k]? = some o → ∀ w, G w0 w → (∀ j, j < m + k → uses o j = true → R j V w) →
      stepV P ops o (fun v w' => T (m + k) w w' ∧ R (m + k) (fun q => if q = m + k then v else V q) w') (fillD (fun j => decide (j < m + k)) V r m a) w) ∧
    (∀ w, G w0 w → (∀ j, j < m + r.length → alive j = true → R j V w) → K (fillD (fun _ => true) V r m a) w)
  | [], m, a, h => ⟨fun k o hk => by simp at hk, fun w hg hr => h w hg fun j hj hl => by
      have hj' : j < m := by simpa using hj
      refine hdep j V _ w (fun i hi => ?_) (hr j (by simpa using hj') hl)
      have hi' : i < m := by rcases hi with rfl | hi; exact hj'; have := hlt j i hi; omega
      exact (range_get V hi').symm⟩
  | o :: r, m, a, h => by
    obtain ⟨h1, h2⟩ := h
    have h3 := h2 (V m)
    rw [range_snoc] at h3
    obtain ⟨i1, i2⟩ := inv3_at hlt hdep V r (m + 1) _ h3
    refine ⟨fun k o' hk w hg hr => ?_, fun w hg hr => ?_⟩
    · cases k with
      | zero =>
        obtain rfl : o = o' := by simpa using hk
        rw [Nat.add_zero] at hr ⊢
        rw [fill_none _ _ _ _ _ fun j hj => by simp; omega]
        have := h1 w hg fun j hj hn => by
          have hj' : j < m := by simpa using hj
          refine hdep j V _ w (fun i hi => ?_) (hr j hj' hn)
          have hi' : i < m := by rcases hi with rfl | hi; exact hj'; have := hlt j i hi; omega
          exact (range_get V hi').symm
        refine stepV_mono (fun v w' hh => ⟨by simpa using hh.1, ?_⟩) (stepV_of_list this)
        have h5 := hh.2
        rw [show ((List.range m).map V).length = m by simp] at h5
        refine hdep m _ _ w' (fun i hi => ?_) h5
        rcases hi with rfl | hi
        · simp
        · have := hlt m i hi
          rw [if_neg (by omega), List.getD_eq_getElem?_getD, List.getElem?_append_left (by simpa using this)]
          have := range_get V this
          rw [List.getD_eq_getElem?_getD] at this
          exact this
      | succ k =>
        have := i1 k o' (by simpa using hk) w hg fun j hj hn => hr j (by omega) hn
        simp only [show m + 1 + k = m + (k + 1) from by omega] at this
        have e : fillD (fun j => decide (j < m + (k + 1))) V (o :: r) m a = fillD (fun j => decide (j < m + (k + 1))) V r (m + 1) (a.put o.dst (V m)) := by
          show fillD _ V r (m + 1) _ = _
          rw [if_pos (by simp)]
        rw [e]
        exact this
    · have := i2 w hg fun j hj hl => hr j (by simp; omega) hl
      exact this
theorem inv3_any {l : List Oper} {G : World → World → Prop} {T : Nat → World → World → Prop} {w0 : World} {R : Nat → (Nat → Value) → World → Prop} {K : Act → World → Prop} {a0 : Act} {st bar : Nat → Bool} {dep : Nat → Nat → Bool} (hlt' : ∀ j i, dep j i = true → i < j) (hdep : ∀ j V V' w, (∀ i, (i = j ∨ dep j i = true) → V i = V' i) → R j V w → R j V' w) (hdw : ∀ j i, j < l.length → dep j i = true → ((waits l.toArray.toList []).getD j 0).testBit i = true) (hB : invB l.toArray = true) (hK : barB l.toArray st bar = true)
    (Gt : ∀ w w1 w2, G w w1 → G w1 w2 → G w w2) (TG : ∀ i w w', G w0 w → T i w w' → G w w') (mono : ∀ i j v w w', bar i = false → G w0 w → T i w w' → R j v w → R j v w')
    (monoS : ∀ j v w w', st j = true → G w0 w → G w w' → R j v w → R j v w')
    (h : invList3 P l.toArray G T (aliveB l.toArray st bar) w0 R K l [] a0) :
    ∀ (fuel : Nat) (listed : Array Bool) (V : Nat → Value) (w : World), listed.size = l.length → Closed l.toArray listed → G w0 w →
    (∀ j, listed.getD j false = true → (∀ i, bar i = true → listed.getD i false = true → ((waits l.toArray.toList []).getD i 0).testBit j = true → st j = true) → R j V w) →
    (rem l.toArray listed).length ≤ fuel → wpAny P .any l.toArray (Only K) fuel listed (fillD (fun j => listed.getD j false) V l 0 a0) w := by
  unfold invB at hB
  simp only [Bool.and_eq_true, List.all_eq_true, List.mem_range] at hB
  obtain ⟨hsel, hB⟩ := hB
  have hB' : ∀ i oi, l.toArray[i]? = some oi → _ := fun i oi hi => by
    have := hB i (Array.getElem?_eq_some_iff.1 hi).1
    simp only [hi, Bool.and_eq_true, List.all_eq_true, List.mem_range] at this
    exact this
  have hback : ∀ i oi, l.toArray[i]? = some oi → ∀ e ∈ oi.after, Region.binds .any e = true → e.on < i := fun i oi hi e he hb => by
    have := (hB' i oi hi).1 e (by simpa using he)
    simpa [hb] using this
  have htr : Truth l.toArray (waits l.toArray.toList []) := waits_truth hback l.toArray.toList [] (fun j => by simp) (fun i t hi => by simp at hi)
  have hlen : (waits l.toArray.toList []).length = l.length := by rw [waits_length]; simp
  have hanc : ∀ listed : Array Bool, Closed l.toArray listed → ∀ i t, i < l.length → listed.getD i false = true → ((waits l.toArray.toList []).getD i 0).testBit t = true → listed.getD t false = true := fun listed hcl i t hi hli hb => by
    have hlt : i < l.toArray.size := by simpa using hi
    exact htr.listed hcl i _ t (by rw [hlen]; exact hi) (Array.getElem?_eq_getElem hlt) (hcl i _ (Array.getElem?_eq_getElem hlt) hli) hb
  unfold barB at hK
  simp only [List.all_eq_true, List.mem_range] at hK
  have hK1 : ∀ i, i < l.length → bar i = true → ∀ j, j < l.length → j = i ∨ ((waits l.toArray.toList []).getD i 0).testBit j = true ∨ ((waits l.toArray.toList []).getD j 0).testBit i = true ∨ st j = true := fun i hi hb j hj => by
    have := hK i (by simpa using hi)
    rw [hb, Bool.not_true, Bool.false_or, List.all_eq_true] at this
    have := this j (List.mem_range.2 (by simpa using hj))
    simp only [Bool.and_eq_true, Bool.or_eq_true, beq_iff_eq] at this
    rcases this.1 with ((h | h) | h) | h
    · exact .inl h
    · exact .inr (.inl h)
    · exact .inr (.inr (.inl h))
    · exact .inr (.inr (.inr h))
  have hK2 : ∀ i, i < l.length → bar i = true → ∀ j, j < l.length → ((waits l.toArray.toList []).getD i 0).testBit j = true → st j = false → ∀ k o, l.toArray[k]? = some o → uses o j = true → k = i ∨ ((waits l.toArray.toList []).getD i 0).testBit k = true := fun i hi hb j hj ht hs k o hk hn => by
    have := hK i (by simpa using hi)
    rw [hb, Bool.not_true, Bool.false_or, List.all_eq_true] at this
    have := this j (List.mem_range.2 (by simpa using hj))
    simp only [Bool.and_eq_true, Bool.or_eq_true, hs, ht, Bool.not_true, List.all_eq_true] at this
    have h3 := this.2
    simp at h3
    have hkl : k < l.length := by have := (Array.getElem?_eq_some_iff.1 hk).1; simpa using this
    have h4 := h3 k hkl
    have hk' : l[k]? = some o := by simpa using hk
    simp [hk', hn] at h4
    rcases h4 with h | h
    · exact .inl h
    · exact .inr h
  have hall : ∀ listed : Array Bool, listed.size = l.length → Region.ready .any l.toArray listed = [] → ∀ i, i < l.length → listed.getD i false = true := fun listed hs hr i hi =>
    rem_nil hback listed (by simpa using hs) hr i (by simpa using hi)
  have hend : ∀ (listed : Array Bool) (V : Nat → Value) (w : World), (∀ i, i < l.length → listed.getD i false = true) → G w0 w → (∀ j, listed.getD j false = true → (∀ i, bar i = true → listed.getD i false = true → ((waits l.toArray.toList []).getD i 0).testBit j = true → st j = true) → R j V w) →
      listed.size = l.length → K (fillD (fun j => listed.getD j false) V l 0 a0) w := fun listed V w hd hg hr hsz => by
    have := (inv3_at hlt' hdep V l 0 a0 h).2 w hg fun j hj hl => hr j (hd j (by simpa using hj)) fun i hb hi ht => by
      unfold aliveB at hl
      rw [Bool.or_eq_true] at hl
      rcases hl with hl | hl
      · exact hl
      · rw [List.all_eq_true] at hl
        have hil : i < l.length := by
          rcases Nat.lt_or_ge i listed.size with h | h
          · omega
          · simp [Nat.not_lt.2 h] at hi
        have := hl i (List.mem_range.2 (by simpa using hil))
        rw [hb, ht] at this; simp at this
    rw [fill_congr _ (fun _ => true) V V l 0 a0 fun j _ hj => ⟨hd j (by simpa using hj), fun _ => rfl⟩]
    exact this
  intro fuel
  induction fuel with
  | zero =>
    intro listed V w hs hcl hg hr hf
    have hnil : rem l.toArray listed = [] := List.eq_nil_of_length_eq_zero (by omega)
    have hd : ∀ i, i < l.length → listed.getD i false = true := fun i hi => by
      by_cases hd : listed.getD i false = true
      · exact hd
      · exfalso
        have : i ∈ rem l.toArray listed := mem_rem.2 ⟨by simpa using hi, by
          have : i < listed.size := by omega
          simp [this] at hd ⊢; exact hd⟩
        rw [hnil] at this
        cases this
    refine ⟨?_, hend listed V w hd hg hr hs⟩
    cases hrd : Region.ready .any l.toArray listed with
    | nil => rfl
    | cons i q =>
      have hi : i ∈ Region.ready .any l.toArray listed := by rw [hrd]; simp
      obtain ⟨hun, o, ho, _⟩ := mem_ready.1 hi
      have : i ∈ rem l.toArray listed := mem_rem.2 ⟨(Array.getElem?_eq_some_iff.1 ho).1, hun⟩
      rw [hnil] at this
      cases this
  | succ fuel ih =>
    intro listed V w hs hcl hg hr hf
    refine ⟨fun hrd => hend listed V w (hall listed hs hrd) hg hr hs, fun i hi => ?_⟩
    obtain ⟨hun, o, ho, hdone⟩ := mem_ready.1 hi
    have hlt : i < l.toArray.size := (Array.getElem?_eq_some_iff.1 ho).1
    have hltl : i < l.length := by simpa using hlt
    have hlis : i < listed.size := by omega
    have hun' : listed.getD i false = false := by simp [hlis] at hun ⊢; exact hun
    have hol : l[i]? = some o := by simpa using ho
    have hin : ∀ q, listed.getD q false = true → q < l.length := fun q hq => by
      rcases Nat.lt_or_ge q listed.size with h | h
      · omega
      · simp [Nat.not_lt.2 h] at hq
    have hst := (inv3_at hlt' hdep V l 0 a0 h).1 i o hol w hg fun j hj hn => by
      have hdj : listed.getD j false = true := by
        have hn' := uses_needs hn
        unfold needs at hn'
        simp only [List.any_eq_true, Bool.and_eq_true, beq_iff_eq] at hn'
        obtain ⟨e, he, hb, rfl⟩ := hn'
        exact hdone e (by simpa using he) hb
      refine hr j hdj fun i' hb' hl' ht' => ?_
      cases hsj : st j with
      | true => rfl
      | false =>
        exfalso
        rcases hK2 i' (hin i' hl') hb' j (hin j hdj) ht' hsj i o ho hn with h | h
        · rw [← h, hun'] at hl'; cases hl'
        · have := hanc listed hcl i' i (hin i' hl') hl' h
          rw [hun'] at this; cases this
    rw [Nat.zero_add] at hst
    have hsel' : ∀ cs b, o.op ≠ .select cs b := by
      intro cs b hc
      unfold Region.noSelect at hsel
      simp only [Array.all_eq_true] at hsel
      have := hsel i (by simpa using hlt)
      rw [(Array.getElem?_eq_some_iff.1 ho).2] at this
      rw [hc] at this
      simp at this
    have hsv := stepV_congr (a := fillD (fun j => listed.getD j false) V l 0 a0) hsel' (by rw [fill_size, fill_size]) (fun d hd => ?_) hst
    · refine stepV_wpOp ho ?_ hsv
      rintro v w' ⟨hgw, hR⟩
      rw [fill_take (fun j => listed.getD j false) V v l 0 a0 i o hol (by rw [Nat.zero_add]; exact hun') fun q o' hq hne d hd1 hd2 => by
        have h1 := (hB' i o ho).2 q (by have := (List.getElem?_eq_some_iff.1 hq).1; simpa using this)
        have hq' : l.toArray[q]? = some o' := by simpa using hq
        simp [hne, hq', hd2, hd1] at h1]
      have hcl' := hcl.set hi
      have e : (fun j => if j = 0 + i then true else listed.getD j false) = fun j => (listed.setIfInBounds i true).getD j false := by
        funext j
        rw [Nat.zero_add]
        by_cases hj : j = i
        · subst hj; simp [hlis]
        · rw [if_neg hj, getD_set_ne false (fun e => hj e.symm)]
      rw [e]
      refine ih _ _ w' (by simpa using hs) hcl' (Gt _ _ _ hg (TG i _ _ hg hgw)) (fun j hj hal => ?_) ?_
      · have hzi : (fun q => if q = 0 + i then v else V q) = fun q => if q = i then v else V q := by funext q; rw [Nat.zero_add]
        rw [hzi]
        by_cases hji : j = i
        · subst hji; exact hR
        · rw [getD_set_ne false (fun e => hji e.symm)] at hj
          refine hdep j V _ w' (fun q hq => ?_) ?_
          · show V q = if q = i then v else V q
            rw [if_neg]
            rintro rfl
            rcases hq with h | h
            · exact hji h.symm
            · have := hanc listed hcl j q (hin j hj) hj (hdw j q (hin j hj) h)
              rw [hun'] at this; cases this
          have hold := hr j hj fun i' hb' hl' ht' => hal i' hb' (by
            by_cases h : i' = i
            · subst h; simp [hlis]
            · rw [getD_set_ne false (fun e => h e.symm)]; exact hl') ht'
          cases hbi : bar i with
          | false => exact mono i j _ w w' hbi hg hgw hold
          | true =>
            refine monoS j _ w w' ?_ hg (TG i _ _ hg hgw) hold
            rcases hK1 i hltl hbi j (hin j hj) with h | h | h | h
            · exact absurd h hji
            · exact hal i hbi (by simp [hlis]) h
            · have := hanc listed hcl j i (hin j hj) hj h
              rw [hun'] at this; cases this
            · exact h
      · obtain ⟨τ, ρ, e1, e2, _⟩ := rem_split (by simpa using hs) (mem_rem.2 ⟨hlt, hun⟩)
        rw [e2]
        rw [e1] at hf
        simp only [List.length_append, List.length_cons] at hf ⊢
        omega
    · refine fill_at _ _ V d l 0 a0 a0 rfl rfl fun q o' hq hod => ?_
      rw [Nat.zero_add]
      have hq' : l.toArray[q]? = some o' := by simpa using hq
      have hql : q < l.length := (List.getElem?_eq_some_iff.1 hq).1
      by_cases hqi : q = i
      · subst hqi; rw [hun']; simp
      · have h1 := (hB' i o ho).2 q (by simpa using hql)
        have hdc : (o.looksAt l.toArray).contains d = true := by simpa using hd
        simp only [hqi, beq_iff_eq, hq', Option.bind_some, hod, hdc, Bool.not_true, Bool.false_or, Bool.or_eq_true, Bool.and_eq_true, decide_eq_true_eq, false_or] at h1
        rcases h1.2 with ⟨h2, h3⟩ | ⟨h2, h3⟩
        · rw [decide_eq_true h2]
          unfold needs at h3
          simp only [List.any_eq_true, Bool.and_eq_true, beq_iff_eq] at h3
          obtain ⟨e, he, hb, rfl⟩ := h3
          exact hdone e (by simpa using he) hb
        · rw [decide_eq_false (by omega)]
          by_cases hqd : listed.getD q false = true
          · exfalso
            have := htr.listed hcl q o' i (by omega) hq' (fun e he hb => hcl q o' hq' hqd e he hb) h3
            rw [hun'] at this
            cases this
          · simpa using hqd
/-- THE LAW. -/
theorem wp_region_ind {id : Nat} {l : List Oper} {Q : Exit → Act → World → Prop} {a : Act} {w : World} (L : List Want3) (bar : List Nat) (hm : P.follows .mixedOrders = true) (hB : invB l.toArray = true)
    (hK : barB l.toArray (fun j => (want3At L j).fixed) (fun i => bar.contains i) = true)
    (hD : dep3B l.toArray L = true)
    (h : invList3 P l.toArray (Below w.heap.size) (Turns w.heap.size bar) (aliveB l.toArray (fun j => (want3At L j).fixed) (fun i => bar.contains i)) w.drew (fun j V w => (want3At L j).holdsAt j (V j) V w) (Q .normal) l [] a) : (Code.region id l.toArray true).wp P Q a w := by
  refine Code.wp_mono (Q := Only (Q .normal)) (fun e a w hq => by cases e <;> first | exact hq | exact hq.elim) ?_
  refine wp_region_any hm ?_
  have hsz : ∀ {x : World}, Below w.heap.size w.drew x → w.heap.size ≤ x.heap.size := fun hx => hx.size
  have hmono : ∀ {i j : Nat} {V : Nat → Value} {x y : World}, Below x.heap.size x y → (want3At L j).holdsAt j (V j) V x → (want3At L j).holdsAt j (V j) V y := fun {i j V x y} hb hr => by
      cases e : want3At L j with
      | val u => rw [e] at hr; exact hr
      | prop p => rw [e] at hr; exact p.2 _ x y hb hr
      | of q p => rw [e] at hr; exact fun h => p.2 _ x y hb (hr h)
  have h0 := inv3_any (w0 := w.drew) (R := fun j V w => (want3At L j).holdsAt j (V j) V w) (dep := dep3 L) (fun j i hd => (dep3_lt hd)) (fun j V V' w hv hr => by
      cases e : want3At L j with
      | val u => rw [e] at hr; exact (hv j (.inl rfl)).symm.trans hr
      | prop p => rw [e] at hr; exact (hv j (.inl rfl)) ▸ hr
      | of q p =>
        rw [e] at hr
        by_cases hq : q < j
        · have := hv q (.inr (by unfold dep3; rw [e]; simp [hq]))
          exact fun h => this ▸ hr h
        · exact fun h => absurd h hq) (fun j i hj hd => by
      unfold dep3B at hD
      rw [List.all_eq_true] at hD
      have h1 := hD j (List.mem_range.2 (by simpa using hj))
      rw [List.all_eq_true] at h1
      have h2 := h1 i (List.mem_range.2 (by have := dep3_lt hd; simp; omega))
      rw [hd] at h2
      simpa using h2) hB hK (fun _ _ _ h1 h2 => h1.trans h2) (fun i x y hg ht => by
      unfold Turns at ht
      split at ht
      · exact ht
      · exact ht.mono (hsz hg)) (fun i j v x y hbi hg ht hr => by
      unfold Turns at ht
      rw [hbi] at ht
      exact hmono (i := i) ht hr) (fun j v x y hs hg ht hr => by
      cases e : want3At L j with
      | val u => rw [e] at hr; exact hr
      | prop p => rw [e] at hs; cases hs
      | of q p => rw [e] at hs; cases hs) h l.toArray.size (Array.replicate l.toArray.size false) (fun _ => undef) w.drew (by simp) (fun j oj _ hl => by rw [getD_replicate0] at hl; cases hl) ((Below.refl _ _)) (fun j hj => by rw [getD_replicate0] at hj; cases hj) ?_
  · rw [fill_none] at h0
    · exact h0
    · intro j _; exact getD_replicate0 _ _
  · refine Nat.le_trans (List.length_filter_le _ _) ?_
    simp
theorem ind_cons {G : World → World → Prop} {T : Nat → World → World → Prop} {alive : Nat → Bool} {w0 : World} {R : Nat → (Nat → Value) → World → Prop} {K : Act → World → Prop} {o : Oper} {r : List Oper} {vs : List Value} {a : Act}
    (h1 : ∀ w, G w0 w → (∀ j, j < vs.length → uses o j = true → R j (fun q => vs.getD q undef) w) → wpList P ops (Leaves a o.dst fun v w' => T vs.length w w' ∧ R vs.length (fun q => (vs ++ [v]).getD q undef) w') [o] a w)
    (h2 : ∀ v, invList3 P ops G T alive w0 R K r (vs ++ [v]) (a.put o.dst v)) : invList3 P ops G T alive w0 R K (o :: r) vs a := ⟨h1, h2⟩
theorem ind_done {G : World → World → Prop} {T : Nat → World → World → Prop} {alive : Nat → Bool} {w0 : World} {R : Nat → (Nat → Value) → World → Prop} {K : Act → World → Prop} {vs : List Value} {a : Act}
    (h : ∀ w, G w0 w → (∀ j, j < vs.length → alive j = true → R j (fun q => vs.getD q undef) w) → K a w) : invList3 P ops G T alive w0 R K [] vs a := h
end
end Go.Proofs.YtdbfimdcaacjhaaGreat
