/- The walk of the law PolyThree. -/
import Derived.Test.YtnnfkdajbaicoaaPolyH
import Derived.Test.YtnnfkdajbaicoaaPolyT
import Derived.BigRegion
import Derived.Deep.CutRange
namespace Go.Proofs.Ytnnfkdajbaicoaa.polyThree
open Go.RowKit

theorem inside_new (ao : Option Addr) (n c g : Nat) (l : List Pt) (hn : n = l.length) (hl : n ≤ 1000000000) (x y : Int) (w : World) (hg : w.heap.size = g) (h : RingAt w w.heap.size ao l) (v : Bool) (hv : insideF [l] x y = v) :
    Calls Try.prog 12 #[.slice (some ⟨g, 0, none⟩) 1 1, .int .i64 x, .int .i64 y] (w.alloc (.cells #[.slice ao n c] 26)) fun e w' => e = .returned (.bool v) ∧ Below w.heap.size w w' := by
  subst hn hg hv
  exact (inside_any (some ⟨w.heap.size, 0, none⟩) 1 [l] x y (w.alloc (.cells #[.slice ao l.length c] 26)) (w.heap.size + 1) (by simp) (rings_one c 26 h (Nat.le_refl _)) (by simp) (by simpa [totTo] using hl)).mono
    fun e w' ⟨he, hb⟩ => ⟨he, below_alloc hb⟩
theorem on_new (ao : Option Addr) (n c g : Nat) (l : List Pt) (hn : n = l.length) (hl : n ≤ 1000000000) (x y : Int) (w : World) (hg : w.heap.size = g) (h : RingAt w w.heap.size ao l) (v : Bool) (hv : onF [l] x y = v) :
    Calls Try.prog 13 #[.slice (some ⟨g, 0, none⟩) 1 1, .int .i64 x, .int .i64 y] (w.alloc (.cells #[.slice ao n c] 26)) fun e w' => e = .returned (.bool v) ∧ Below w.heap.size w w' := by
  subst hn hg hv
  exact (onall_any (some ⟨w.heap.size, 0, none⟩) 1 [l] x y (w.alloc (.cells #[.slice ao l.length c] 26)) (w.heap.size + 1) (by simp) (rings_one c 26 h (Nat.le_refl _)) (by simp) (by simpa [totTo] using hl)).mono
    fun e w' ⟨he, hb⟩ => ⟨he, below_alloc hb⟩

/-- How many of the first k are so. -/
def cnt (p : Nat → Bool) (k : Nat) : Nat := ((List.range k).filter p).length
theorem cnt_succ (p : Nat → Bool) (k : Nat) : cnt p (k + 1) = cnt p k + (p k).toNat := by
  unfold cnt; rw [List.range_succ, List.filter_append]; cases h : p k <;> simp [h]
theorem cnt_le (p : Nat → Bool) (k : Nat) : cnt p k ≤ k := by unfold cnt; have := List.length_filter_le p (List.range k); simpa using this
/-- Where the point lies of edge k. -/
def crk (l : List Pt) (x y : Int) (k : Nat) : Int := crs (px l k) (py l k) (px l ((k + 1) % 3)) (py l ((k + 1) % 3)) x y
def W0 (w : World) (A B C D E F : Int) : World := (((w.alloc (.cells #[.int .i64 A, .int .i64 B] 27)).alloc (.cells #[.int .i64 C, .int .i64 D] 27)).alloc (.cells #[.int .i64 E, .int .i64 F] 27)).drew
theorem W0_cells (w : World) (A B C D E F : Int) :
    (W0 w A B C D E F).cell? ⟨w.heap.size, 0, none⟩ = some (.int .i64 A) ∧ (W0 w A B C D E F).cell? ⟨w.heap.size, 1, none⟩ = some (.int .i64 B) ∧
    (W0 w A B C D E F).cell? ⟨w.heap.size + 1, 0, none⟩ = some (.int .i64 C) ∧ (W0 w A B C D E F).cell? ⟨w.heap.size + 1, 1, none⟩ = some (.int .i64 D) ∧
    (W0 w A B C D E F).cell? ⟨w.heap.size + 1 + 1, 0, none⟩ = some (.int .i64 E) ∧ (W0 w A B C D E F).cell? ⟨w.heap.size + 1 + 1, 1, none⟩ = some (.int .i64 F) := by
  have e1 : ∀ (w : World) (o : Obj) (k : Nat), k < w.heap.size → (w.alloc o).heap[k]? = w.heap[k]? := fun w o k h => Below.heap_alloc w o k h
  have h1 : (W0 w A B C D E F).heap[w.heap.size]? = some (.cells #[.int .i64 A, .int .i64 B] 27) := by
    show (World.alloc (World.alloc (World.alloc w _) _) _).heap[_]? = _
    rw [e1 _ _ _ (by simp <;> omega), e1 _ _ _ (by simp)]; exact heap_new _ _ _ rfl
  have h2 : (W0 w A B C D E F).heap[w.heap.size + 1]? = some (.cells #[.int .i64 C, .int .i64 D] 27) := by
    show (World.alloc (World.alloc (World.alloc w _) _) _).heap[_]? = _
    rw [e1 _ _ _ (by simp)]; exact heap_new _ _ _ (by simp)
  have h3 : (W0 w A B C D E F).heap[w.heap.size + 1 + 1]? = some (.cells #[.int .i64 E, .int .i64 F] 27) := by
    show (World.alloc (World.alloc (World.alloc w _) _) _).heap[_]? = _
    exact heap_new _ _ _ (by simp)
  refine ⟨?_, ?_, ?_, ?_, ?_, ?_⟩
  · rw [cell_of_row _ _ _ _ _ _ h1]; rfl
  · rw [cell_of_row _ _ _ _ _ _ h1]; rfl
  · rw [cell_of_row _ _ _ _ _ _ h2]; rfl
  · rw [cell_of_row _ _ _ _ _ _ h2]; rfl
  · rw [cell_of_row _ _ _ _ _ _ h3]; rfl
  · rw [cell_of_row _ _ _ _ _ _ h3]; rfl

theorem two_cells (w : World) (p q r s : Value) :
    (((w.alloc (.cells #[p, q] 27)).alloc (.cells #[r, s] 27)).drew).cell? ⟨w.heap.size, 0, none⟩ = some p ∧ (((w.alloc (.cells #[p, q] 27)).alloc (.cells #[r, s] 27)).drew).cell? ⟨w.heap.size, 1, none⟩ = some q ∧
    (((w.alloc (.cells #[p, q] 27)).alloc (.cells #[r, s] 27)).drew).cell? ⟨w.heap.size + 1, 0, none⟩ = some r ∧ (((w.alloc (.cells #[p, q] 27)).alloc (.cells #[r, s] 27)).drew).cell? ⟨w.heap.size + 1, 1, none⟩ = some s := by
  have h1 : (((w.alloc (.cells #[p, q] 27)).alloc (.cells #[r, s] 27)).drew).heap[w.heap.size]? = some (.cells #[p, q] 27) := by
    show (World.alloc (World.alloc w _) _).heap[_]? = _
    rw [Below.heap_alloc _ _ _ (by simp)]; exact heap_new _ _ _ rfl
  have h2 : (((w.alloc (.cells #[p, q] 27)).alloc (.cells #[r, s] 27)).drew).heap[w.heap.size + 1]? = some (.cells #[r, s] 27) := by
    show (World.alloc (World.alloc w _) _).heap[_]? = _
    exact heap_new _ _ _ (by simp)
  refine ⟨?_, ?_, ?_, ?_⟩
  · rw [cell_of_row _ _ _ _ _ _ h1]; rfl
  · rw [cell_of_row _ _ _ _ _ _ h1]; rfl
  · rw [cell_of_row _ _ _ _ _ _ h2]; rfl
  · rw [cell_of_row _ _ _ _ _ _ h2]; rfl

set_option maxHeartbeats 4000000 in
theorem walk {w : World} (a b c d e f : Int) (x : Int) (_wx : (Lit.int .i64 x).wf = true) (y : Int) (_wy : (Lit.int .i64 y).wf = true) :
    Calls Try.prog 6 #[.agg #[.int .i64 a, .int .i64 b], .agg #[.int .i64 c, .int .i64 d], .agg #[.int .i64 e, .int .i64 f], .int .i64 x, .int .i64 y] w fun e w' => e = .returned (.bool true) ∧ Below w.heap.size w w' := by
  obtain ⟨A, q1, hA⟩ : ∃ A, bits BinOp.and IntKind.i64 a 63 = A ∧ 0 ≤ A ∧ A ≤ 63 := ⟨_, i64_and_mask a 6 (by omega) 63 rfl, by omega, by omega⟩
  obtain ⟨B, q2, hB⟩ : ∃ A, bits BinOp.and IntKind.i64 b 63 = A ∧ 0 ≤ A ∧ A ≤ 63 := ⟨_, i64_and_mask b 6 (by omega) 63 rfl, by omega, by omega⟩
  obtain ⟨C, q3, hC⟩ : ∃ A, bits BinOp.and IntKind.i64 c 63 = A ∧ 0 ≤ A ∧ A ≤ 63 := ⟨_, i64_and_mask c 6 (by omega) 63 rfl, by omega, by omega⟩
  obtain ⟨D, q4, hD⟩ : ∃ A, bits BinOp.and IntKind.i64 d 63 = A ∧ 0 ≤ A ∧ A ≤ 63 := ⟨_, i64_and_mask d 6 (by omega) 63 rfl, by omega, by omega⟩
  obtain ⟨E, q5, hE⟩ : ∃ A, bits BinOp.and IntKind.i64 e 63 = A ∧ 0 ≤ A ∧ A ≤ 63 := ⟨_, i64_and_mask e 6 (by omega) 63 rfl, by omega, by omega⟩
  obtain ⟨F, q6, hF⟩ : ∃ A, bits BinOp.and IntKind.i64 f 63 = A ∧ 0 ≤ A ∧ A ≤ 63 := ⟨_, i64_and_mask f 6 (by omega) 63 rfl, by omega, by omega⟩
  obtain ⟨X, q7, hX⟩ : ∃ A, bits BinOp.and IntKind.i64 x 127 = A + 30 ∧ -30 ≤ A ∧ A ≤ 97 := ⟨x % 128 - 30, by rw [i64_and_mask x 7 (by omega) 127 rfl]; omega, by omega, by omega⟩
  obtain ⟨Y, q8, hY⟩ : ∃ A, bits BinOp.and IntKind.i64 y 127 = A + 30 ∧ -30 ≤ A ∧ A ≤ 97 := ⟨y % 128 - 30, by rw [i64_and_mask y 7 (by omega) 127 rfl]; omega, by omega, by omega⟩
  obtain ⟨L0, L1⟩ := tri_law hA hB hC hD hE hF hX hY
  have HO : Hid (Tri.One (crs A B C D X Y) (crs C D E F X Y) (crs E F A B X Y) ↔ (cnt (fun k => decide (crk (tri A B C D E F) X Y k < 0)) 3 = 0 ∨ cnt (fun k => decide (0 < crk (tri A B C D E F) X Y k)) 3 = 0)) := by
    show _ ↔ _
    have e1 : crk (tri A B C D E F) X Y 0 = crs A B C D X Y := rfl
    have e2 : crk (tri A B C D E F) X Y 1 = crs C D E F X Y := rfl
    have e3 : crk (tri A B C D E F) X Y 2 = crs E F A B X Y := rfl
    rw [cnt_succ, cnt_succ, cnt_succ, cnt_succ, cnt_succ, cnt_succ, e1, e2, e3]
    show _ ↔ (0 + _ + _ + _ = 0 ∨ 0 + _ + _ + _ = 0)
    unfold Tri.One
    generalize crs A B C D X Y = d1
    generalize crs C D E F X Y = d2
    generalize crs E F A B X Y = d3
    by_cases h1 : d1 < 0 <;> by_cases h2 : d2 < 0 <;> by_cases h3 : d3 < 0 <;> by_cases k1 : 0 < d1 <;> by_cases k2 : 0 < d2 <;> by_cases k3 : 0 < d3 <;> simp [h1, h2, h3, k1, k2, k3] <;> omega
  have HV : Hid (∃ v, area2F (tri A B C D E F) = v) := ⟨_, rfl⟩
  have HL0 := Lib.hid L0
  have HL1 := Lib.hid L1
  clear L0 L1
  have HB : Hid (∀ k, k < 3 → (0 ≤ px (tri A B C D E F) k ∧ px (tri A B C D E F) k ≤ 63) ∧ (0 ≤ py (tri A B C D E F) k ∧ py (tri A B C D E F) k ≤ 63)) := by
    intro k hk
    rcases (show k = 0 ∨ k = 1 ∨ k = 2 by omega) with rfl | rfl | rfl
    · exact ⟨hA, hB⟩
    · exact ⟨hC, hD⟩
    · exact ⟨hE, hF⟩
  go_enter Try.func6, Try.ntmps6
  go_upto_region 1 with fail
  go_cut [] from 18 to 39 (fun wx => wx = W0 w A B C D E F)
  case first =>
    clear HO HV HL0 HL1 HB q7 q8 hX hY hA hB hC hD hE hF
    go_region
    go_wp2
    go_meet
    exact rfl
  case rest =>
    subst hcut
    have hb0 : Below w.heap.size w (W0 w A B C D E F) := ((((Below.refl _ w).alloc (Nat.le_refl _) _).alloc (by simp) _).alloc (by simp; omega) _).drew
    obtain ⟨c1, c2, c3, c4, c5, c6⟩ := W0_cells w A B C D E F
    have hs0 := hb0.size
    generalize W0 w A B C D E F = wc at *
    obtain ⟨V, hV⟩ := HV.out
    have HV2 := Lib.hid hV
    clear HV hV
    by_cases hv : V = 0
    · have hq : (V == 0) = true := by simp [hv]
      obtain ⟨P, hP⟩ : ∃ P, onF [tri A B C D E F] X Y = P := ⟨_, rfl⟩
      have HP1 := Lib.hid hP
      have HP2 := Lib.hid ((HL0.out (HV2.out.trans hv)).trans hP)
      clear hP HL0 HL1 HO HB
      have t1 : True := trivial
      cases P
      all_goals
        go_wp2_with (first
          | (go_at_call 15; refine (area_one _ 3 _ (tri A B C D E F) rfl (by omega) _ (ringAt_new' _ (tri A B C D E F) _) _ HV2.out).mono ?_; rintro e w1 ⟨rfl, hb1⟩; have hr1 := (ringAt_new' wc (tri A B C D E F) 27).below hb1 (Nat.le_refl _); have hb1' := below_alloc hb1; have hs1 := hb1.size)
          | (go_at_call 12; refine (inside_new _ 3 _ _ (tri A B C D E F) rfl (by omega) _ _ _ rfl (ring_wider hr1 hs1) _ HP2.out).mono ?_; rintro e w2 ⟨rfl, hb2⟩)
          | (go_at_call 13; refine (on_new _ 3 _ _ (tri A B C D E F) rfl (by omega) _ _ _ rfl (ring_wider (hr1.below hb2 hs1) (by have := hb2.size; omega)) _ HP1.out).mono ?_; rintro e w3 ⟨rfl, hb3⟩)
          | (go_at_call 11; refine (awake_any _).mono ?_; rintro e w4 ⟨rfl, hb4⟩))
        go_ret
        have g1 := below_later hb0 hs0 hb1'
        have g2 := below_later g1 g1.size hb2
        have g3 := below_later g2 g2.size hb3
        exact ⟨rfl, below_later g3 g3.size hb4⟩
    have hq : (V == 0) = false := by simp [hv]
    obtain ⟨P, hP⟩ : ∃ P, insideF [tri A B C D E F] X Y = P := ⟨_, rfl⟩
    have HP2 := Lib.hid hP
    have HP : Hid (P = decide (cnt (fun k => decide (crk (tri A B C D E F) X Y k < 0)) 3 = 0 ∨ cnt (fun k => decide (0 < crk (tri A B C D E F) X Y k)) 3 = 0)) := by
      show _ = _
      rw [← hP, HL1.out (by rw [HV2.out]; exact hv), decide_eq_decide]
      exact HO.out
    clear hP HL0 HL1 HO
    go_upto_region 7 with (first | (go_at_call 15; refine (area_one _ 3 _ (tri A B C D E F) rfl (by omega) _ (ringAt_new' _ (tri A B C D E F) _) _ HV2.out).mono ?_; rintro e w1 ⟨rfl, hb1⟩; have hr1 := (ringAt_new' wc (tri A B C D E F) 27).below hb1 (Nat.le_refl _); have hb1' := below_alloc hb1; have hs1 := hb1.size))
    clear c1 c2 c3 c4 c5 c6 hq hv q1 q2 q3 q4 q5 q6 q7 q8 hA hB hC hD hE hF
    have hg1 := below_later hb0 hs0 hb1'
    replace hr1 := ring_wider hr1 hs1
    have hlt1 : wc.heap.size + 1 ≤ w1.heap.size := by have : (wc.alloc (Obj.cells (ringV (tri A B C D E F)).toArray 27)).heap.size = wc.heap.size + 1 := by simp
                                                      omega
    generalize wc.heap.size = g at *
    clear hb1 hb1' hb0 hs0 HV2 hs1
    generalize hl : tri A B C D E F = l at *
    have hl3 : l.length = 3 := by rw [← hl]; rfl
    clear hl
    obtain ⟨NEG, hNEG⟩ : ∃ f, (fun k => decide (crk l X Y k < 0)) = f := ⟨_, rfl⟩
    obtain ⟨POS, hPOS⟩ : ∃ f, (fun k => decide (0 < crk l X Y k)) = f := ⟨_, rfl⟩
    have HN : Hid (∀ k, NEG k = decide (crk l X Y k < 0)) := fun k => by rw [← hNEG]
    have HQ : Hid (∀ k, POS k = decide (0 < crk l X Y k)) := fun k => by rw [← hPOS]
    rw [hNEG, hPOS] at HP
    clear hNEG hPOS
    go_wp2
    go_loopw [12, 13, 14] (fun u v i wr => ∃ k : Nat, k ≤ 3 ∧ i = .int .i64 k ∧ u = .int .i64 (cnt NEG k) ∧ v = .int .i64 (cnt POS k) ∧ Below w1.heap.size w1 wr) (fun _ _ i _ => 3 - (intOf i).toNat)
    case atStart => exact ⟨0, by omega, rfl, rfl, rfl, Below.refl _ _⟩
    case round =>
      obtain ⟨k, hk, rfl, rfl, rfl, hnx⟩ := hrel
      have hsz := hnx.size
      by_cases hlt : k < 3
      · obtain ⟨b', off', e', hbB, hc⟩ := hr1.below hnx (Nat.le_refl _) (by rw [hl3]; omega)
        cases e'
        obtain ⟨m, hm, hm3⟩ : ∃ m, (k + 1) % 3 = m ∧ m < 3 := ⟨_, rfl, by omega⟩
        have hmI : ((k : Int) + 1) % 3 = (m : Int) := by omega
        have hn1 := cnt_le NEG k
        have hn2 := cnt_le POS k
        obtain ⟨d0, d1⟩ := hc k (by rw [hl3]; exact hlt)
        obtain ⟨f0, f1⟩ := hc m (by rw [hl3]; exact hm3)
        clear hc
        rw [Nat.zero_add] at d0 d1 f0 f1
        have hgw : g < wr.heap.size := by omega
        obtain ⟨x1, y1⟩ := HB.out k hlt
        obtain ⟨x2, y2⟩ := HB.out m hm3
        have HC : Hid (crk l X Y k = (px l m - px l k) * (Y - py l k) - (py l m - py l k) * (X - px l k)) := by show _ = _; unfold crk crs; rw [hm]
        have hbd := crs_bound x1 y1 x2 y2 hX hY
        have S1 := Lib.hid (cnt_succ NEG k)
        have S2 := Lib.hid (cnt_succ POS k)
        generalize px l k = x1v at *
        generalize py l k = y1v at *
        generalize px l m = x2v at *
        generalize py l m = y2v at *
        clear hm
        generalize cnt NEG k = cn at *
        generalize cnt POS k = cp at *
        go_upto_region 10 with fail
        go_cut [15, 16] from 66 to 108 (fun p q wx => ∃ g1 g2, p = .pointer (some ⟨g1, 0, none⟩) ∧ q = .pointer (some ⟨g2, 0, none⟩) ∧ wx.cell? ⟨g1, 0, none⟩ = some (.int .i64 x1v) ∧ wx.cell? ⟨g1, 1, none⟩ = some (.int .i64 y1v) ∧ wx.cell? ⟨g2, 0, none⟩ = some (.int .i64 x2v) ∧ wx.cell? ⟨g2, 1, none⟩ = some (.int .i64 y2v) ∧ Below w1.heap.size w1 wx)
        case first =>
          clear hbd x1 x2 y1 y2 hX hY
          go_region
          all_goals
            go_wp2
            go_meet
          · exact ⟨_, _, rfl, rfl, (two_cells wr _ _ _ _).1, (two_cells wr _ _ _ _).2.1, (two_cells wr _ _ _ _).2.2.1, (two_cells wr _ _ _ _).2.2.2, ((hnx.alloc hsz _).alloc (by simp; omega) _).drew⟩
          · exact ⟨_, _, rfl, rfl, (two_cells wr _ _ _ _).2.2.1, (two_cells wr _ _ _ _).2.2.2, (two_cells wr _ _ _ _).1, (two_cells wr _ _ _ _).2.1, ((hnx.alloc hsz _).alloc (by simp; omega) _).drew⟩
        case rest =>
          obtain ⟨g1, g2, rfl, rfl, e0, e1, e2, e3, hnx2⟩ := hcut
          have hN := HN.out k
          have hQ := HQ.out k
          rw [HC.out] at hN hQ
          have HN' : Hid (cnt NEG (k + 1) = cn + (decide ((x2v - x1v) * (Y - y1v) - (y2v - y1v) * (X - x1v) < 0)).toNat) := by show _ = _; rw [S1.out, hN]
          have HQ' : Hid (cnt POS (k + 1) = cp + (decide (0 < (x2v - x1v) * (Y - y1v) - (y2v - y1v) * (X - x1v))).toNat) := by show _ = _; rw [S2.out, hQ]
          clear hN hQ
          go_wp2
          all_goals
            go_roundw
            case rel =>
              refine ⟨k + 1, by omega, by go_num, ?_, ?_, hnx2⟩
              · rw [HN'.out]
                first
                  | (rw [decide_eq_true (by omega)]; rfl)
                  | (rw [decide_eq_false (by omega)]; rfl)
              · rw [HQ'.out]
                first
                  | (rw [decide_eq_true (by omega)]; rfl)
                  | (rw [decide_eq_false (by omega)]; rfl)
            case measure => simp [intOf] <;> omega
      · obtain rfl : k = 3 := by omega
        have hn1 := cnt_le NEG 3
        have hn2 := cnt_le POS 3
        generalize cnt NEG 3 = cn at *
        generalize cnt POS 3 = cp at *
        by_cases h1 : cn = 0
        · have z1 : ((cn : Int) == 0) = true := by simp [h1]
          have hP : P = true := by rw [HP.out]; simp [h1]
          subst hP
          go_wp2_with (first
            | (go_at_call 12; refine (inside_new _ 3 _ _ l hl3.symm (by omega) _ _ _ rfl (ring_wider (hr1.below hnx (Nat.le_refl _)) hsz) _ HP2.out).mono ?_; rintro e w2 ⟨rfl, hb2⟩)
            | (go_at_call 11; refine (awake_any _).mono ?_; rintro e w4 ⟨rfl, hb4⟩))
          go_ret
          have g1 := below_later hg1 hg1.size (below_later hnx hsz hb2)
          exact ⟨rfl, below_later g1 g1.size hb4⟩
        · have z1 : ((cn : Int) == 0) = false := by simp [h1]
          by_cases h2 : cp = 0
          · have z2 : ((cp : Int) == 0) = true := by simp [h2]
            have hP : P = true := by rw [HP.out]; simp [h2]
            subst hP
            go_wp2_with (first
              | (go_at_call 12; refine (inside_new _ 3 _ _ l hl3.symm (by omega) _ _ _ rfl (ring_wider (hr1.below hnx (Nat.le_refl _)) hsz) _ HP2.out).mono ?_; rintro e w2 ⟨rfl, hb2⟩)
              | (go_at_call 11; refine (awake_any _).mono ?_; rintro e w4 ⟨rfl, hb4⟩))
            go_ret
            have g1 := below_later hg1 hg1.size (below_later hnx hsz hb2)
            exact ⟨rfl, below_later g1 g1.size hb4⟩
          · have z2 : ((cp : Int) == 0) = false := by simp [h2]
            have hP : P = false := by rw [HP.out]; simp [h1, h2]
            subst hP
            go_wp2_with (first
              | (go_at_call 12; refine (inside_new _ 3 _ _ l hl3.symm (by omega) _ _ _ rfl (ring_wider (hr1.below hnx (Nat.le_refl _)) hsz) _ HP2.out).mono ?_; rintro e w2 ⟨rfl, hb2⟩)
              | (go_at_call 11; refine (awake_any _).mono ?_; rintro e w4 ⟨rfl, hb4⟩))
            go_ret
            have g1 := below_later hg1 hg1.size (below_later hnx hsz hb2)
            exact ⟨rfl, below_later g1 g1.size hb4⟩
end Go.Proofs.Ytnnfkdajbaicoaa.polyThree
