/- The law NearBounds: its walk. Radii up to the bounds. -/
import Derived.Test.YticbkdignmlfiaaNearRingsW
namespace Go.Proofs.Yticbkdignmlfiaa.nearBounds
open Go.RowKit Go.Lib Wd

/-- What a call tells, its error alone. -/
theorem disk_err (w0 : Nat) (hw0 : w0 < 18446744073709551616) (k : Int) (h2 : k < 9223372036854775807) {E : Int} (hE : rgsE w0 k 81 = E) (w : World) :
    Calls Try.prog 14 #[.int .u64 w0, .int .i64 k] w fun e w' => ∃ (ao : Option Addr) (n c : Nat), e = .returned (.tuple #[.slice ao n c, .int .i64 E]) ∧ Below w.heap.size w w' := by
  subst hE
  exact (disk_any w0 hw0 k h2 w).mono fun _ _ ⟨ao, c, he, _, hb⟩ => ⟨ao, _, c, he, hb⟩
theorem rng_err (w0 : Nat) (hw0 : w0 < 18446744073709551616) (k : Int) (h1 : -9223372036854775808 ≤ k) (h2 : k < 9223372036854775807) {E : Int} (hE : rgsE w0 k 3333 = E) (w : World) :
    Calls Try.prog 19 #[.int .u64 w0, .int .i64 k] w fun e w' => ∃ (ao : Option Addr) (n c : Nat), e = .returned (.tuple #[.slice ao n c, .int .i64 E]) ∧ Below w.heap.size w w' := by
  subst hE
  exact (rng_any w0 hw0 k h1 h2 w).mono fun _ _ ⟨ao, c, he, _, hb⟩ => ⟨ao, _, c, he, hb⟩
theorem err_of {W : Nat} (h : isW W = true) (t m : Int) : rgsE W t m = if t < 0 then 1 else if m < t then 7 else 0 := by unfold rgsE; rw [if_pos h]
set_option maxRecDepth 100000 in
set_option maxHeartbeats 4000000 in
theorem core (w : World) (a0 a1 a2 a3 : Int) : Calls Try.prog 5 #[.int .i64 a0, .int .i64 a1, .int .i64 a2, .int .i64 a3] w fun e w' => e = .returned (.bool true) ∧ Below w.heap.size w w' := by
  obtain ⟨Y, q1, hY⟩ : ∃ Y, bits BinOp.andNot IntKind.i64 a1 1 = Y ∧ Y % 2 = 0 := ⟨_, rfl, nearRings.andNot_even a1⟩
  obtain ⟨r, q2, hr⟩ : ∃ r : Int, bits BinOp.and IntKind.i64 a2 7 = r ∧ 0 ≤ r ∧ r ≤ 7 := ⟨_, i64_and_mask a2 3 (by omega) 7 rfl, by omega, by omega⟩
  obtain ⟨m, q3, hm⟩ : ∃ m : Int, bits BinOp.and IntKind.i64 a3 3 = m ∧ 0 ≤ m ∧ m ≤ 3 := ⟨_, i64_and_mask a3 2 (by omega) 3 rfl, by omega, by omega⟩
  obtain ⟨s, q4, hs⟩ : ∃ s : Int, bits BinOp.and IntKind.i64 (m - 1) 3 = s ∧ 0 ≤ s ∧ s ≤ 3 := ⟨_, i64_and_mask (m - 1) 2 (by omega) 3 rfl, by omega, by omega⟩
  obtain ⟨hr1, hr2⟩ := hr
  obtain ⟨hm1, hm2⟩ := hm
  obtain ⟨hs1, hs2⟩ := hs
  have HLW := Lib.hid (lword_even a0 Y (r + 5) hY)
  obtain ⟨R, hR, hR12⟩ : ∃ R : Nat, (r + 5) % 13 = R ∧ R ≤ 12 := ⟨((r + 5) % 13).toNat, by omega, by omega⟩
  rw [hR, Int.toNat_natCast] at HLW
  have hok : okB R (nearE (a0 % 1073741824) (Y % 1073741824) R) = true := near_ok0 (by omega) (by omega) hR12
  generalize nearE (a0 % 1073741824) (Y % 1073741824) R = z at *
  clear hY hR hR12
  obtain ⟨b1, b2, b3⟩ := ofW_ok hok
  have hiw : isW (ofW R z) = true := by rw [b1]; exact (word_cell hok).1
  generalize ofW R z = W at *
  clear b1 b2 hok
  obtain ⟨E, hE⟩ : ∃ E : Int, (if 0 < m - 1 then 7 else 0) = E := ⟨_, rfl⟩
  have D1 := Lib.hid (disk_err W b3 (81 + (m - 1)) (by omega) (E := E) (by rw [err_of hiw, ← hE, if_neg (by omega)]; split <;> split <;> first | rfl | omega))
  have R1 := Lib.hid (rng_err W b3 (3333 + (m - 1)) (by omega) (by omega) (E := E) (by rw [err_of hiw, ← hE, if_neg (by omega)]; split <;> split <;> first | rfl | omega))
  have D2 := Lib.hid (disk_err W b3 (-1 - s) (by omega) (E := 1) (by rw [err_of hiw, if_pos (by omega)]))
  have R2 := Lib.hid (rng_err W b3 (-2) (by omega) (by omega) (E := 1) (by rw [err_of hiw, if_pos (by omega)]))
  have D3 := Lib.hid (disk_err 0 (by decide) (-1) (by omega) (E := 5) (by decide))
  have HAW := Lib.hid awake_any
  clear hiw
  by_cases hpos : 0 < m - 1
  all_goals
    first | rw [if_pos hpos] at hE | rw [if_neg hpos] at hE
    subst hE
    first | (have q5 : decide (0 < m - 1) = true := decide_eq_true hpos) | (have q5 : decide (0 < m - 1) = false := decide_eq_false hpos)
    go_enter Try.func5, Try.ntmps5
    go_wp2_with fail
    refine (HLW.out _).mono ?_
    rintro e w1 ⟨rfl, hb1⟩
    have B1 := Lib.hid hb1
    clear hb1
    go_wp2_with fail
    refine (D1.out _).mono ?_
    rintro e w2 ⟨ao, n, c, rfl, hb2⟩
    have B2 := Lib.hid (B1.out.trans (hb2.mono B1.out.size))
    clear hb2
    go_wp2_with fail
    refine (R1.out _).mono ?_
    rintro e w3 ⟨ao3, n3, c3, rfl, hb3⟩
    have B3 := Lib.hid (B2.out.trans (hb3.mono B2.out.size))
    clear hb3
    go_wp2_with fail
    refine (D2.out _).mono ?_
    rintro e w4 ⟨ao4, n4, c4, rfl, hb4⟩
    have B4 := Lib.hid (B3.out.trans (hb4.mono B3.out.size))
    clear hb4
    go_wp2_with fail
    refine (R2.out _).mono ?_
    rintro e w5 ⟨ao5, n5, c5, rfl, hb5⟩
    have B5 := Lib.hid (B4.out.trans (hb5.mono B4.out.size))
    clear hb5
    go_wp2_with fail
    refine (D3.out _).mono ?_
    rintro e w6 ⟨ao6, n6, c6, rfl, hb6⟩
    have B6 := Lib.hid (B5.out.trans (hb6.mono B5.out.size))
    clear hb6
    go_wp2_with fail
    refine (HAW.out _).mono ?_
    rintro e w7 ⟨rfl, hb7⟩
    have HF := Lib.hid (B6.out.trans (hb7.mono B6.out.size))
    clear hb7
    go_wp2
    go_ret
    exact ⟨rfl, HF.out⟩
theorem walk {w : World} (a0 : Int) (_w0 : (Lit.int .i64 a0).wf = true) (a1 : Int) (_w1 : (Lit.int .i64 a1).wf = true) (a2 : Int) (_w2 : (Lit.int .i64 a2).wf = true) (a3 : Int) (_w3 : (Lit.int .i64 a3).wf = true) :
    Calls Try.prog 5 #[.int .i64 a0, .int .i64 a1, .int .i64 a2, .int .i64 a3] w fun e w' => e = .returned (.bool true) ∧ Below w.heap.size w w' := core w a0 a1 a2 a3
end Go.Proofs.Yticbkdignmlfiaa.nearBounds
