/- Contracts of near.two and near.Distance. -/
import Derived.Test.YticbkdignmlfiaaWdJ
import Derived.Test.YticbkdignmlfiaaWdI
namespace Go.Proofs.Yticbkdignmlfiaa
open Go.RowKit Go.Lib Wd

def yR (a b : Nat) : Int := if isW a = true then cvR b else 0
def yZ (a b : Nat) : E2 := if isW a = true then cvZ b else (0, 0)
theorem cv_sm (a : Nat) : Sm 1073741824 (cvZ a) := by
  unfold cvZ
  by_cases h : isW a = true
  · rw [if_pos h]
    have h1 := (okB_iff _ _).1 (cell_word h).1
    have h2 := (shapeB_iff _ _).1 h1.1
    exact ⟨h2.2.2.1, h2.2.2.2.1, h2.2.2.2.2.1, h2.2.2.2.2.2⟩
  · rw [if_neg h]; unfold Sm; simp
theorem cvR_in (a : Nat) : 0 ≤ cvR a ∧ cvR a ≤ 12 := by
  unfold cvR
  by_cases h : isW a = true
  · rw [if_pos h]
    have := ((isW_iff a).1 h).2.1
    omega
  · rw [if_neg h]; omega
set_option maxRecDepth 100000 in
set_option maxHeartbeats 4000000 in
theorem two_any (a b : Nat) (ha : a < 18446744073709551616) (hb : b < 18446744073709551616) (w : World) :
    Calls Try.prog 36 #[.int .u64 a, .int .u64 b] w fun e w' => e = .returned (.tuple #[vC (cvR a) (cvZ a), vC (yR a b) (yZ a b), .int .i64 (dsN a b), .int .i64 (dsE a b)]) ∧ Below w.heap.size w w' := by
  have HCA := Lib.hid (cell_any a ha)
  have HCB := Lib.hid (cell_any b hb)
  have kC : w.heap.size < (w.alloc (.cells #[.int .i64 0, .int .i64 0, .int .i64 0] 29)).heap.size := by simp
  have G0 : Hid (Tri ((w.alloc (.cells #[.int .i64 0, .int .i64 0, .int .i64 0] 29)).alloc (.cells #[.int .i64 0, .int .i64 0, .int .i64 0] 29)) w.heap.size 0 (0, 0)) := by
    show _ = _
    rw [Below.heap_alloc _ _ _ (by simp)]
    exact heap_new _ _ _ rfl
  have H0 : Hid (Tri ((w.alloc (.cells #[.int .i64 0, .int .i64 0, .int .i64 0] 29)).alloc (.cells #[.int .i64 0, .int .i64 0, .int .i64 0] 29)) (w.heap.size + 1) 0 (0, 0)) := heap_new _ _ _ (by simp)
  have HB0 : Hid (Below w.heap.size w ((w.alloc (.cells #[.int .i64 0, .int .i64 0, .int .i64 0] 29)).alloc (.cells #[.int .i64 0, .int .i64 0, .int .i64 0] 29))) := ((Below.refl _ _).alloc (Nat.le_refl _) _).alloc (by simp) _
  have k2 : ((w.alloc (.cells #[.int .i64 0, .int .i64 0, .int .i64 0] 29)).alloc (.cells #[.int .i64 0, .int .i64 0, .int .i64 0] 29)).heap.size = w.heap.size + 2 := by simp
  by_cases hA : isW a = true
  · have eA : cvE a = 0 := by unfold cvE; rw [if_pos hA]
    have rA : cvR a = rW a := by unfold cvR; rw [if_pos hA]
    have zA : cvZ a = zW a := by unfold cvZ; rw [if_pos hA]
    have yRe : yR a b = cvR b := by unfold yR; rw [if_pos hA]
    have yZe : yZ a b = cvZ b := by unfold yZ; rw [if_pos hA]
    have sA := cv_sm a
    have sB := cv_sm b
    have rA1 := cvR_in a
    have rB1 := cvR_in b
    rw [yRe, yZe]
    rw [eA] at HCA
    have HDS : Hid ((cvE b = 5 ∧ dsE a b = 5 ∧ dsN a b = 0) ∨ (cvE b = 0 ∧ cvR a ≠ cvR b ∧ dsE a b = 8 ∧ dsN a b = 0) ∨ (cvE b = 0 ∧ cvR a = cvR b ∧ dsE a b = 0 ∧ dsN a b = stepsN (subE (cvZ a) (cvZ b)))) := by
      by_cases hB : isW b = true
      · have eB : cvE b = 0 := by unfold cvE; rw [if_pos hB]
        have rB : cvR b = rW b := by unfold cvR; rw [if_pos hB]
        have zB : cvZ b = zW b := by unfold cvZ; rw [if_pos hB]
        by_cases hr : rW a = rW b
        · have hd : dsE a b = 0 := by unfold dsE; rw [if_pos hA, if_pos hB, if_pos hr]
          exact .inr (.inr ⟨eB, by rw [rA, rB, hr], hd, by unfold dsN; rw [if_pos hd, zA, zB]⟩)
        · have hd : dsE a b = 8 := by unfold dsE; rw [if_pos hA, if_pos hB, if_neg hr]
          exact .inr (.inl ⟨eB, by rw [rA, rB]; omega, hd, by unfold dsN; rw [hd]; rfl⟩)
      · have hd : dsE a b = 5 := by unfold dsE; rw [if_pos hA, if_neg hB]
        exact .inl ⟨by unfold cvE; rw [if_neg hB], hd, by unfold dsN; rw [hd]; rfl⟩
    clear rA zA yRe yZe hA eA
    obtain ⟨z, hz⟩ : ∃ z, cvZ a = z := ⟨_, rfl⟩
    obtain ⟨y, hy⟩ : ∃ z, cvZ b = z := ⟨_, rfl⟩
    rw [hz] at HCA HDS sA
    rw [hy] at HCB HDS sB
    rw [hz, hy]
    clear hz hy
    obtain ⟨ra, hra⟩ : ∃ z, cvR a = z := ⟨_, rfl⟩
    obtain ⟨rb, hrb⟩ : ∃ z, cvR b = z := ⟨_, rfl⟩
    rw [hra] at HCA HDS rA1
    rw [hrb] at HCB HDS rB1
    rw [hra, hrb]
    clear hra hrb
    generalize cvE b = eb at *
    generalize dsN a b = n at *
    generalize dsE a b = er at *
    obtain ⟨ra1, ra2⟩ := rA1
    obtain ⟨rb1, rb2⟩ := rB1
    simp only [vC] at *
    go_enter Try.func36, Try.ntmps36
    go_wp2_with fail
    refine (HCA.out _).mono ?_
    rintro e w1 ⟨rfl, hb1⟩
    have G1 := Lib.hid (G0.out.later hb1)
    have H1 := Lib.hid (H0.out.later hb1)
    have B1 := Lib.hid (HB0.out.trans (hb1.mono (by omega)))
    have hz1 := hb1.size
    rw [k2] at hz1
    clear hb1 G0 H0 HB0 k2 kC
    obtain ⟨c0, c1, c2, c3, c4, c5, c6⟩ := G1.out.cells
    go_upto_region 3 with (fail)
    clear c0 c1 c2 c3 c4 c5 c6
    have hput := (G1.out).put ra z
    obtain ⟨w2, hw2⟩ : ∃ w2, (((w1.setCell ⟨w.heap.size, 0, none⟩ (.int .i64 ra)).setCell ⟨w.heap.size, 1, none⟩ (.int .i64 z.1)).setCell ⟨w.heap.size, 2, none⟩ (.int .i64 z.2)) = w2 := ⟨_, rfl⟩
    rw [hw2] at hput ⊢
    have hz2 := hput.2.2.2.2.1
    have G2 := Lib.hid hput.1
    have H2 := Lib.hid (H1.out.turn hput.2 (by omega))
    have B2 : Hid (Below w.heap.size w w2) := B1.out.trans (hput.2.below (by omega) fun q hq e => by omega)
    clear hw2 hput G1 H1 B1
    go_wp2_with fail
    refine (HCB.out _).mono ?_
    rintro e w3 ⟨rfl, hb3⟩
    have G3 := Lib.hid (G2.out.later hb3)
    have H3 := Lib.hid (H2.out.later hb3)
    have B3 := Lib.hid (B2.out.trans (hb3.mono (by omega)))
    have hz3 := hb3.size
    clear hb3 G2 H2 B2
    obtain ⟨c0, c1, c2, c3, c4, c5, c6⟩ := H3.out.cells
    go_upto_region 4 with (fail)
    clear c0 c1 c2 c3 c4 c5 c6
    have hput := (H3.out).put rb y
    obtain ⟨w4, hw4⟩ : ∃ w4, (((w3.setCell ⟨w.heap.size + 1, 0, none⟩ (.int .i64 rb)).setCell ⟨w.heap.size + 1, 1, none⟩ (.int .i64 y.1)).setCell ⟨w.heap.size + 1, 2, none⟩ (.int .i64 y.2)) = w4 := ⟨_, rfl⟩
    rw [hw4] at hput ⊢
    have hz4 := hput.2.2.2.2.1
    have H4 := Lib.hid hput.1
    have G4 := Lib.hid (G3.out.turn hput.2 (by omega))
    have B4 : Hid (Below w.heap.size w w4) := B3.out.trans (hput.2.below (by omega) fun q hq e => by omega)
    clear hw4 hput G3 H3 B3
    obtain ⟨c0, c1, c2, c3, c4, c5, c6⟩ := G4.out.cells
    obtain ⟨d0, d1, d2, d3, d4, d5, d6⟩ := H4.out.cells
    rcases HDS.out with ⟨rfl, rfl, rfl⟩ | ⟨rfl, hne, rfl, rfl⟩ | ⟨rfl, hne, rfl, hn⟩
    · go_wp2
      exact bodyPost_ret (v := .tuple #[.agg #[.int .i64 ra, .int .i64 z.1, .int .i64 z.2], .agg #[.int .i64 rb, .int .i64 y.1, .int .i64 y.2], .int .i64 0, .int .i64 5]) (by simp [results, Try.results36, go_sem, *]) rfl ⟨rfl, B4.out⟩
    · have q1 : (ra != rb) = true := by simp [hne]
      clear hne
      go_upto_region 6 with (fail)
      go_region
      go_wp2
      exact bodyPost_ret (v := .tuple #[.agg #[.int .i64 ra, .int .i64 z.1, .int .i64 z.2], .agg #[.int .i64 rb, .int .i64 y.1, .int .i64 y.2], .int .i64 0, .int .i64 8]) (by simp [results, Try.results36, go_sem, *]) rfl ⟨rfl, (((((((B4.out.setCell (p := ⟨w.heap.size, 0, none⟩) (Nat.le_refl _) _).setCell (p := ⟨w.heap.size, 1, none⟩) (Nat.le_refl _) _).setCell (p := ⟨w.heap.size, 2, none⟩) (Nat.le_refl _) _).setCell (p := ⟨w.heap.size + 1, 0, none⟩) (Nat.le_succ _) _).setCell (p := ⟨w.heap.size + 1, 1, none⟩) (Nat.le_succ _) _).setCell (p := ⟨w.heap.size + 1, 2, none⟩) (Nat.le_succ _) _).drew)⟩
    · have q1 : (ra != rb) = false := by simp [hne]
      subst hne
      have HSU := Lib.hid (sub_in z y (sA.mono (by decide)) (sB.mono (by decide)))
      have HST := Lib.hid (steps_in (subE z y) (by unfold Sm subE at *; simp only; omega))
      rw [← hn] at HST
      clear hn HDS
      generalize subE z y = d at *
      simp only [vE] at *
      go_wp2_with fail
      refine (HSU.out _).mono ?_
      rintro e w5 ⟨rfl, hb5⟩
      have hz5 := hb5.size
      have B5 := Lib.hid (B4.out.trans (hb5.mono (by omega)))
      have G5 := Lib.hid (G4.out.later hb5)
      have H5 := Lib.hid (H4.out.later hb5)
      clear hb5 G4 H4 B4 c0 c1 c2 c3 c4 c5 c6 d0 d1 d2 d3 d4 d5 d6
      go_wp2_with fail
      refine (HST.out _).mono ?_
      rintro e w6 ⟨rfl, hb6⟩
      have hal : Below w5.heap.size w5 (w5.alloc (.cells #[.int .i64 d.1, .int .i64 d.2] 23)) := (Below.refl _ _).alloc (Nat.le_refl _) _
      have hb7 := hal.trans (hb6.mono hal.size)
      have hz7 := hb7.size
      have B4 := Lib.hid (B5.out.trans (hb7.mono (by omega)))
      have G4 := Lib.hid (G5.out.later hb7)
      have H4 := Lib.hid (H5.out.later hb7)
      clear hal hb6 hb7 B5 G5 H5
      obtain ⟨c0, c1, c2, c3, c4, c5, c6⟩ := G4.out.cells
      obtain ⟨d0, d1, d2, d3, d4, d5, d6⟩ := H4.out.cells
      go_upto_region 9 with (fail)
      go_region
      go_wp2
      exact bodyPost_ret (v := .tuple #[.agg #[.int .i64 ra, .int .i64 z.1, .int .i64 z.2], .agg #[.int .i64 ra, .int .i64 y.1, .int .i64 y.2], .int .i64 n, .int .i64 0]) (by simp [results, Try.results36, go_sem, *]) rfl ⟨rfl, (((((((B4.out.setCell (p := ⟨w.heap.size, 0, none⟩) (Nat.le_refl _) _).setCell (p := ⟨w.heap.size, 1, none⟩) (Nat.le_refl _) _).setCell (p := ⟨w.heap.size, 2, none⟩) (Nat.le_refl _) _).setCell (p := ⟨w.heap.size + 1, 0, none⟩) (Nat.le_succ _) _).setCell (p := ⟨w.heap.size + 1, 1, none⟩) (Nat.le_succ _) _).setCell (p := ⟨w.heap.size + 1, 2, none⟩) (Nat.le_succ _) _).drew)⟩
  · have eA : cvE a = 5 := by unfold cvE; rw [if_neg hA]
    have rA : cvR a = 0 := by unfold cvR; rw [if_neg hA]
    have zA : cvZ a = (0, 0) := by unfold cvZ; rw [if_neg hA]
    have yRe : yR a b = 0 := by unfold yR; rw [if_neg hA]
    have yZe : yZ a b = (0, 0) := by unfold yZ; rw [if_neg hA]
    have e1 : dsE a b = 5 := by unfold dsE; rw [if_neg hA]
    have e2 : dsN a b = 0 := by unfold dsN; rw [e1]; rfl
    rw [yRe, yZe, e1, e2, rA, zA]
    rw [eA, rA, zA] at HCA
    clear eA rA zA yRe yZe e1 e2 hA HCB
    simp only [vC] at *
    go_enter Try.func36, Try.ntmps36
    go_wp2_with fail
    refine (HCA.out _).mono ?_
    rintro e w1 ⟨rfl, hb1⟩
    have G1 := Lib.hid (G0.out.later hb1)
    have H1 := Lib.hid (H0.out.later hb1)
    have B1 := Lib.hid (HB0.out.trans (hb1.mono (by omega)))
    clear hb1 G0 H0 HB0 k2 kC
    obtain ⟨c0, c1, c2, c3, c4, c5, c6⟩ := G1.out.cells
    obtain ⟨d0, d1, d2, d3, d4, d5, d6⟩ := H1.out.cells
    go_wp2
    exact bodyPost_ret (v := .tuple #[.agg #[.int .i64 0, .int .i64 0, .int .i64 0], .agg #[.int .i64 0, .int .i64 0, .int .i64 0], .int .i64 0, .int .i64 5]) (by simp [results, Try.results36, go_sem, *]) rfl ⟨rfl, ((B1.out.setCell (p := ⟨w.heap.size, 0, none⟩) (Nat.le_refl _) _).setCell (p := ⟨w.heap.size, 1, none⟩) (Nat.le_refl _) _).setCell (p := ⟨w.heap.size, 2, none⟩) (Nat.le_refl _) _⟩
set_option maxRecDepth 100000 in
set_option maxHeartbeats 2000000 in
theorem dist_any (a b : Nat) (ha : a < 18446744073709551616) (hb : b < 18446744073709551616) (w : World) :
    Calls Try.prog 22 #[.int .u64 a, .int .u64 b] w fun e w' => e = .returned (.tuple #[.int .i64 (dsN a b), .int .i64 (dsE a b)]) ∧ Below w.heap.size w w' := by
  have HT := Lib.hid (two_any a b ha hb)
  have HN : Hid (dsE a b ≠ 0 → dsN a b = 0) := fun h => by unfold dsN; rw [if_neg h]
  generalize dsN a b = n at *
  generalize dsE a b = er at *
  generalize cvR a = ra at *
  generalize cvZ a = z at *
  generalize yR a b = rb at *
  generalize yZ a b = y at *
  simp only [vC] at *
  go_enter Try.func22, Try.ntmps22
  go_wp2_with fail
  refine (HT.out _).mono ?_
  rintro e w1 ⟨rfl, hb1⟩
  have B1 : Hid (Below w.heap.size w ((w1.alloc (.cells #[.int .i64 ra, .int .i64 z.1, .int .i64 z.2] 29)).alloc (.cells #[.int .i64 rb, .int .i64 y.1, .int .i64 y.2] 29))) := (hb1.alloc hb1.size _).alloc (by have := hb1.size; simp; omega) _
  clear hb1
  by_cases h0 : er = 0
  · subst h0
    go_wp2
    go_ret2
    exact ⟨rfl, B1.out⟩
  · have q : (er != 0) = true := by simp [h0]
    obtain rfl := HN.out h0
    go_wp2
    go_ret2
    exact ⟨rfl, B1.out⟩
end Go.Proofs.Yticbkdignmlfiaa
