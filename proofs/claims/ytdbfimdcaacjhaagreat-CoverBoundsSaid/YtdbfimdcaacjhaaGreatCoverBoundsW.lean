/- The walk of the law CoverBounds. -/
import Derived.Test.YtdbfimdcaacjhaaGreatPackAK
import Derived.Test.YtdbfimdcaacjhaaGreatPackAN
namespace Go.Proofs.YtdbfimdcaacjhaaGreat.coverBounds
open Go.RowKit Go.Lib Wd Cv

theorem ch_sq {R : Nat} (hR : R ≤ 12) {x y s : Int} (h : 0 ≤ x ∧ 0 ≤ y ∧ 0 ≤ s ∧ x + s < 1073741824 ∧ y + s < 1073741824) : chE (x, y) (x + s, y + s) R = 0 := by
  unfold chE
  rw [if_neg (by omega), if_pos ⟨(worldB_iff _ _).2 (by simp only; omega), (worldB_iff _ _).2 (by simp only; omega)⟩, if_neg (by simp only; omega)]
theorem box_many {lo hi : E2} {R : Nat} (hc : chE lo hi R = 0) (h : ∀ D, AllOf (12 - R) (triE lo) (triE hi) D → 20000 < D.length) (w : World) : Calls Tryz.prog 13 #[vE lo, vE hi, .int .i64 R] w fun e w' => e = .returned (.tuple #[.slice none 0 0, .int .i64 7]) ∧ Below w.heap.size w w' := by
  refine (box_any lo hi R w).mono ?_
  rintro e w' ⟨hP, hb⟩
  unfold BoxP at hP
  rw [if_pos hc, Int.toNat_natCast] at hP
  rcases hP with ⟨D, ao, c, n, h1, h2, _⟩ | ⟨D, h1, h2, h3, rfl⟩
  · have := h D h1; omega
  · exact ⟨rfl, hb⟩
theorem cen_many {lo hi : E2} {R : Nat} (hc : chE lo hi R = 0) (h : ∀ D, AllOf (12 - R) (triE lo) (triE hi) D → 20000 < D.length) (w : World) : Calls Tryz.prog 24 #[vE lo, vE hi, .int .i64 R] w fun e w' => e = .returned (.tuple #[.slice none 0 0, .int .i64 7]) ∧ Below w.heap.size w w' := by
  refine (centres_any lo hi R w).mono ?_
  rintro e w' ⟨hP, hb⟩
  unfold CenP at hP
  rw [if_pos hc, Int.toNat_natCast] at hP
  rcases hP with ⟨D, L, ao, c, n, h1, h2, _⟩ | ⟨D, h1, h2, h3, rfl⟩
  · have := h D h1; omega
  · exact ⟨rfl, hb⟩
theorem box_quarter (w : World) : Calls Tryz.prog 13 #[vE (0, 0), vE (536870911, 536870911), .int .i64 0] w fun e w' => ∃ ao n c, e = .returned (.tuple #[.slice ao n c, .int .i64 0]) ∧ 8000 < n ∧ n < 10000 ∧ Below w.heap.size w w' := by
  have hc := ch_sq (R := 0) (by omega) (x := 0) (y := 0) (s := 536870911) (by omega)
  have hw : worldB 0 0 = true ∧ worldB 536870911 536870911 = true := by decide
  refine (box_any (0, 0) (536870911, 536870911) (0 : Nat) w).mono ?_
  rintro e w' ⟨hP, hb⟩
  unfold BoxP at hP
  rw [if_pos (by simpa using hc), Int.toNat_natCast] at hP
  rcases hP with ⟨D, ao, c, n, h1, h2, rfl, h3, _⟩ | ⟨D, h1, h2, h3, rfl⟩
  · have u := base_most h1.1 fun z hz => (h1.2 z).1 hz
    have l := base_least sum_in fun z hz => (h1.2 z).2 hz
    have hf : (wsL 0 D).length = D.length := by
      unfold wsL
      rw [List.length_map, List.filter_eq_self.2 fun z hz => by
        have := touch_ok (r := 0) (by omega) (lo := (0, 0)) (hi := (536870911, 536870911)) hw.1 hw.2 (by decide) (by decide) ((h1.2 z).1 hz)
        simpa using this]
    exact ⟨ao, n, c, rfl, by omega, by omega, hb⟩
  · have := base_most h1 h3
    omega
set_option maxRecDepth 100000 in
set_option maxHeartbeats 16000000 in
theorem walk {w : World} (a0 : Int) (_w0 : (Lit.int .i64 a0).wf = true) (a1 : Int) (_w1 : (Lit.int .i64 a1).wf = true) (a2 : Int) (_w2 : (Lit.int .i64 a2).wf = true) :
    Calls Tryz.prog 9 #[.int .i64 a0, .int .i64 a1, .int .i64 a2] w fun e w' => e = .returned (.bool true) ∧ Below w.heap.size w w' := by
  have e0 : bits BinOp.and IntKind.i64 a0 536870911 = a0 % 536870912 := i64_and_mask a0 29 (by omega) 536870911 rfl
  have e1 : bits BinOp.and IntKind.i64 a1 536870911 = a1 % 536870912 := i64_and_mask a1 29 (by omega) 536870911 rfl
  have e2 : bits BinOp.and IntKind.i64 a2 255 = a2 % 256 := i64_and_mask a2 8 (by omega) 255 rfl
  have hx : 0 ≤ a0 % 536870912 ∧ a0 % 536870912 < 536870912 := by omega
  have hy : 0 ≤ a1 % 536870912 ∧ a1 % 536870912 < 536870912 := by omega
  have hr : 0 ≤ a2 % 256 ∧ a2 % 256 < 256 := by omega
  generalize a0 % 536870912 = x at *
  generalize a1 % 536870912 = y at *
  generalize a2 % 256 = m at *
  obtain ⟨Q, hQ, hQ4⟩ : ∃ Q : Int, m.tmod 4 = Q ∧ (0 ≤ Q ∧ Q < 4) := ⟨_, rfl, by rw [Int.tmod_eq_emod_of_nonneg hr.1]; omega⟩
  obtain ⟨R, hR⟩ : ∃ R : Nat, Q + 9 = (R : Int) := ⟨(Q + 9).toNat, by omega⟩
  have hR9 : 9 ≤ R ∧ R ≤ 12 := by omega
  have hc1 := ch_sq hR9.2 (x := x) (y := y) (s := 268435456) (by omega)
  have hD : ∀ D, AllOf (12 - R) (triE (x, y)) (triE (x + 268435456, y + 268435456)) D → 20000 < D.length := fun D h => by
    have hn := near_at hR9.2 (x + 134217728) (y + 134217728)
    have := many_near (m := 12 - R) (by omega) (lo := (x, y)) (hi := (x + 268435456, y + 268435456)) (nearE (x + 134217728) (y + 134217728) R) (by simp only; omega) (by simp only; omega) (D := D) fun z hz => (h.2 z).2 hz
    omega
  have HB1 := Lib.hid (box_many hc1 hD)
  have HB2 := Lib.hid (cen_many hc1 hD)
  have HB3 := Lib.hid box_quarter
  have HB4 := Lib.hid (box_many (lo := (0, 0)) (hi := (1073741823, 1073741823)) (R := 0) (by have := ch_sq (R := 0) (by omega) (x := 0) (y := 0) (s := 1073741823) (by omega); simpa using this) fun D h => by
    have := base_least sum_all fun z hz => (h.2 z).2 hz
    omega)
  have HAW := Lib.hid awake10_any
  simp only [vE, Int.natCast_zero] at *
  clear hc1 hD
  go_enter Tryz.func9, Tryz.ntmps9
  go_upto_region 3 with (fail)
  go_wp2_with fail
  refine (HB1.out _).mono ?_
  rintro e w1 ⟨rfl, hb1⟩
  have HX1 := Lib.hid hb1
  clear hb1 HB1
  as_aux_lemma =>
    go_upto_region 4 with (fail)
    go_wp2_with fail
    refine (HB2.out _).mono ?_
    rintro e w2 ⟨rfl, hb2⟩
    have HX2 := Lib.hid (HX1.out.trans (hb2.mono HX1.out.size))
    clear hb2 HB2 HX1
    as_aux_lemma =>
      go_upto_region 5 with (fail)
      go_wp2_with fail
      refine (HB3.out _).mono ?_
      rintro e w3 ⟨ao, n, c, rfl, hn1, hn2, hb3⟩
      have hn3 : (8000 : Int) < (n : Int) := by omega
      have hn4 : (n : Int) < 10000 := by omega
      have HX3 := Lib.hid (HX2.out.trans (hb3.mono HX2.out.size))
      clear hb3 HB3 HX2
      as_aux_lemma =>
        go_upto_region 6 with (fail)
        go_wp2_with fail
        refine (HB4.out _).mono ?_
        rintro e w4 ⟨rfl, hb4⟩
        have HX4 := Lib.hid (HX3.out.trans (hb4.mono HX3.out.size))
        clear hb4 HB4 HX3
        as_aux_lemma =>
          go_upto_region 7 with (fail)
          go_wp2_with fail
          refine (HAW.out _).mono ?_
          rintro e w5 ⟨rfl, hb5⟩
          have HX5 := Lib.hid (HX4.out.trans (hb5.mono HX4.out.size))
          clear hb5 HAW HX4
          go_wp2
          go_ret
          exact ⟨rfl, HX5.out⟩
end Go.Proofs.YtdbfimdcaacjhaaGreat.coverBounds
