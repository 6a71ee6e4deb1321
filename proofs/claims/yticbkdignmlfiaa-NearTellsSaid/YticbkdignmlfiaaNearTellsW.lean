/- The law NearTells: its walk. Neighbours, distances, rings and disks are those that the document says. -/
import Derived.Test.YticbkdignmlfiaaNfT
import Derived.Test.YticbkdignmlfiaaNfQ
namespace Go.Proofs.Yticbkdignmlfiaa.nearTells
open Go.RowKit Go.Lib Wd

theorem same_self {w : World} {ao bo : Option Addr} {c d B C : Nat} {L : List Int} (ha : WordsAt w B ao L) (hb : WordsAt w C bo L) (hn : L.length ≤ 1000000000) :
    Calls Try.prog 25 #[.slice ao L.length c, .slice bo L.length d] w fun e w' => e = .returned (.bool true) ∧ Below w.heap.size w w' := by
  have := same_any ao bo c d L L w B C ha hb hn
  rw [decide_eq_true rfl] at this
  exact this
theorem below_on {a b c : World} (h : Below a.heap.size a b) (h2 : Below b.heap.size b c) : Below a.heap.size a c := h.trans (h2.mono h.size)
theorem rgsL_len (w0 f : Nat) (t m : Int) (n : Nat) (hn : (t + 1 - f).toNat = n) : (rgsL w0 f t m).length ≤ n * (6 * (f + n) + 1) := by
  unfold rgsL
  split
  · rw [srt_length, hn]
    exact Nat.le_trans (tellL_length _ _) (allR_bound _ _ _)
  · simp
theorem word_lt (r : Int) (z : E2) : ofW r z < 18446744073709551616 := by
  unfold ofW
  split
  · next h =>
    obtain ⟨k, rfl, hk⟩ := okB_nat h
    have := (wordN_lt h).1
    rw [Int.toNat_natCast]
    omega
  · omega
theorem ring_len (w0 : Nat) (k : Int) : (rgsL w0 k.toNat k 3333).length ≤ 1000000000 := by
  rcases (show k < 0 ∨ 3333 < k ∨ (0 ≤ k ∧ k ≤ 3333) by omega) with h | h | h
  · have e : rgsE w0 k 3333 ≠ 0 := by
      unfold rgsE
      (repeat' split) <;> first | decide | omega
    unfold rgsL
    rw [if_neg e]
    simp
  · have e : rgsE w0 k 3333 ≠ 0 := by
      unfold rgsE
      (repeat' split) <;> first | decide | omega
    unfold rgsL
    rw [if_neg e]
    simp
  · refine Nat.le_trans (rgsL_len _ _ _ _ 1 (by omega)) ?_
    omega
theorem disk_len' (w0 : Nat) (k : Int) : (rgsL w0 0 k 81).length ≤ 1000000000 := by
  rcases (show k < 0 ∨ 81 < k ∨ (0 ≤ k ∧ k ≤ 81) by omega) with h | h | h
  · have e : rgsE w0 k 81 ≠ 0 := by
      unfold rgsE
      (repeat' split) <;> first | decide | omega
    unfold rgsL
    rw [if_neg e]
    simp
  · have e : rgsE w0 k 81 ≠ 0 := by
      unfold rgsE
      (repeat' split) <;> first | decide | omega
    unfold rgsL
    rw [if_neg e]
    simp
  · refine Nat.le_trans (rgsL_len _ _ _ _ (k + 1).toNat (by omega)) ?_
    have : (k + 1).toNat * (6 * (0 + (k + 1).toNat) + 1) ≤ 82 * (6 * (0 + 82) + 1) := Nat.mul_le_mul (by omega) (by omega)
    omega
set_option maxRecDepth 100000 in
set_option maxHeartbeats 16000000 in
theorem core (w : World) (a0 : Nat) (h0 : a0 < 18446744073709551616) (a1 a2 a3 a4 a5 a6 : Int) (hk1 : -9223372036854775808 ≤ a6) (hk2 : a6 < 9223372036854775808) : Calls Try.prog 7 #[.int .u64 a0, .int .i64 a1, .int .i64 a2, .int .i64 a3, .int .i64 a4, .int .i64 a5, .int .i64 a6] w fun e w' => e = .returned (.bool true) ∧ Below w.heap.size w w' := by
  have HL1 := Lib.hid (lword_any a1 a2 a3)
  have HL2 := Lib.hid (lword_any a4 a5 a3)
  have hX := word_lt (a3 % 13) (someE a1 a2 (a3 % 13).toNat)
  have hO := word_lt (a3 % 13) (someE a4 a5 (a3 % 13).toNat)
  generalize ofW (a3 % 13) (someE a1 a2 (a3 % 13).toNat) = X at *
  generalize ofW (a3 % 13) (someE a4 a5 (a3 % 13).toNat) = O at *
  have HC : Hid (∀ W : Nat, W < 18446744073709551616 → (∀ w, Calls Try.prog 13 #[.int .u64 W] w (Told w (rgsL W 1 1 1) (rgsE W 1 1))) ∧ (∀ w, Calls Try.prog 23 #[.int .u64 W] w (Told w (rgsL W 1 1 1) (rgsE W 1 1))) ∧ (rgsL W 1 1 1).length ≤ 1000000000) := fun W hW => ⟨nei_any W hW, rnei_any W hW, Nat.le_trans (rgsL_len _ _ _ _ 1 (by decide)) (by decide)⟩
  have HD : Hid (∀ W : Nat, W < 18446744073709551616 → (∀ w, Calls Try.prog 22 #[.int .u64 W, .int .u64 O] w fun e w' => e = .returned (.tuple #[.int .i64 (dsN W O), .int .i64 (dsE W O)]) ∧ Below w.heap.size w w') ∧ (∀ w, Calls Try.prog 24 #[.int .u64 W, .int .u64 O] w fun e w' => e = .returned (.tuple #[.int .i64 (dsN W O), .int .i64 (dsE W O)]) ∧ Below w.heap.size w w') ∧ (∀ w, Calls Try.prog 22 #[.int .u64 O, .int .u64 W] w fun e w' => e = .returned (.tuple #[.int .i64 (dsN O W), .int .i64 (dsE O W)]) ∧ Below w.heap.size w w') ∧ (∀ w, Calls Try.prog 24 #[.int .u64 O, .int .u64 W] w fun e w' => e = .returned (.tuple #[.int .i64 (dsN O W), .int .i64 (dsE O W)]) ∧ Below w.heap.size w w')) := fun W hW => ⟨dist_any _ _ hW hO, rdist_any _ _ hW hO, dist_any _ _ hO hW, rdist_any _ _ hO hW⟩
  obtain ⟨Q1, Q2, hQ1, hQ2, hQ3, hQ4, hQ5⟩ : ∃ Q1 Q2 : Int, (-9223372036854775808 ≤ Q1 ∧ Q1 < 9223372036854775808) ∧ (-9223372036854775808 ≤ Q2 ∧ Q2 < 9223372036854775808) ∧ (Q1 ≤ 1000 ∨ 3333 < Q1) ∧ (Q2 ≤ 1000 ∨ 81 < Q2) ∧ ((a6 < 0 ∧ Q1 = a6 ∧ Q2 = a6) ∨ (0 ≤ a6 ∧ a6 ≤ 81 ∧ a6.tmod 13 = Q1 ∧ Q2 = Q1) ∨ (81 < a6 ∧ a6 ≤ 3333 ∧ a6.tmod 13 = Q1 ∧ Q2 = a6) ∨ (3333 < a6 ∧ Q1 = a6 ∧ Q2 = a6)) := by
    rcases (show a6 < 0 ∨ (0 ≤ a6 ∧ a6 ≤ 81) ∨ (81 < a6 ∧ a6 ≤ 3333) ∨ 3333 < a6 by omega) with h | h | h | h
    · exact ⟨a6, a6, by omega, by omega, by omega, by omega, .inl ⟨h, rfl, rfl⟩⟩
    · have e : a6.tmod 13 = a6 % 13 := Int.tmod_eq_emod_of_nonneg h.1
      exact ⟨a6 % 13, a6 % 13, by omega, by omega, by omega, by omega, .inr (.inl ⟨h.1, h.2, e, rfl⟩)⟩
    · have e : a6.tmod 13 = a6 % 13 := Int.tmod_eq_emod_of_nonneg (by omega)
      exact ⟨a6 % 13, a6, by omega, by omega, by omega, by omega, .inr (.inr (.inl ⟨h.1, h.2, e, rfl⟩))⟩
    · exact ⟨a6, a6, by omega, by omega, by omega, by omega, .inr (.inr (.inr ⟨h, rfl, rfl⟩))⟩
  have HR : Hid (∀ W : Nat, W < 18446744073709551616 → (∀ w, Calls Try.prog 19 #[.int .u64 W, .int .i64 Q1] w (Told w (rgsL W Q1.toNat Q1 3333) (rgsE W Q1 3333))) ∧ (∀ w, Calls Try.prog 26 #[.int .u64 W, .int .i64 Q1] w (Told w (rgsL W Q1.toNat Q1 3333) (rgsE W Q1 3333))) ∧ (rgsL W Q1.toNat Q1 3333).length ≤ 1000000000) := fun W hW => ⟨rng_any W hW Q1 hQ1.1 hQ1.2, rring_any W hW Q1 hQ1.1 hQ1.2 hQ3, ring_len _ _⟩
  have HK : Hid (∀ W : Nat, W < 18446744073709551616 → (∀ w, Calls Try.prog 14 #[.int .u64 W, .int .i64 Q2] w (Told w (rgsL W 0 Q2 81) (rgsE W Q2 81))) ∧ (∀ w, Calls Try.prog 27 #[.int .u64 W, .int .i64 Q2] w (Told w (rgsL W 0 Q2 81) (rgsE W Q2 81))) ∧ (rgsL W 0 Q2 81).length ≤ 1000000000) := fun W hW => ⟨disk_any W hW Q2 hQ2.2, rdisk_any W hW Q2 hQ2.2 hQ4, disk_len' _ _⟩
  have HAW := Lib.hid awake_any
  have HQ := Lib.hid hQ5
  clear hQ1 hQ2 hQ3 hQ4 hQ5 hk1 hk2 hO
  go_enter Try.func7, Try.ntmps7
  go_wp2_with fail
  refine (HL1.out _).mono ?_
  rintro e w1 ⟨rfl, hb1⟩
  have B1 := Lib.hid hb1
  clear hb1
  go_wp2_with fail
  refine (HL2.out _).mono ?_
  rintro e w2 ⟨rfl, hb2⟩
  have B2 := Lib.hid (B1.out.trans (hb2.mono B1.out.size))
  clear hb2 B1 HL1 HL2
  go_wp2
  go_loopw [15, 17] (fun v i wr => ∃ (k W : Nat), k ≤ 2 ∧ i = .int .i64 k ∧ W < 18446744073709551616 ∧ v = .int .u64 W ∧ Hid (Below w2.heap.size w2 wr ∧ True)) (fun _ i _ => 2 - (intOf i).toNat)
  case atStart => exact ⟨0, X, by omega, rfl, hX, rfl, Below.refl _ _, trivial⟩
  case round =>
    obtain ⟨i, W, hi, rfl, hW, rfl, hbi, -⟩ := hrel
    have HBI := Lib.hid hbi
    clear hbi
    by_cases hlt : i < 2
    · have q0 : decide ((i : Int) < 2) = true := decide_eq_true (by omega)
      obtain ⟨c1, c2, c3⟩ := HC.out W hW
      obtain ⟨d1, d2, d3, d4⟩ := HD.out W hW
      obtain ⟨r1, r2, r3⟩ := HR.out W hW
      obtain ⟨k1, k2, k3⟩ := HK.out W hW
      have C1 := Lib.hid c1
      have C2 := Lib.hid c2
      have C3 := Lib.hid c3
      have D1 := Lib.hid d1
      have D2 := Lib.hid d2
      have D3 := Lib.hid d3
      have D4 := Lib.hid d4
      have R1 := Lib.hid r1
      have R2 := Lib.hid r2
      have R3 := Lib.hid r3
      have K1 := Lib.hid k1
      have K2 := Lib.hid k2
      have K3 := Lib.hid k3
      clear c1 c2 c3 d1 d2 d3 d4 r1 r2 r3 k1 k2 k3 HC HD HR HK
      generalize rgsL W 1 1 1 = L at *
      generalize rgsE W 1 1 = EL at *
      generalize rgsL W Q1.toNat Q1 3333 = M at *
      generalize rgsE W Q1 3333 = EM at *
      generalize rgsL W 0 Q2 81 = N at *
      generalize rgsE W Q2 81 = EN at *
      generalize dsN W O = n1 at *
      generalize dsE W O = e1 at *
      generalize dsN O W = n2 at *
      generalize dsE O W = e2 at *

      go_wp2_with fail
      refine (C1.out _).mono ?_
      rintro e wa ⟨ao1, c1, rfl, ht1, hb1⟩
      have T1 := Lib.hid ht1
      have Xwa := Lib.hid hb1
      clear ht1 hb1
      go_wp2_with fail
      refine (C2.out _).mono ?_
      rintro e wb ⟨ao2, c2, rfl, ht2, hb2⟩
      have T2 := Lib.hid ht2
      have Xwb := Lib.hid hb2
      clear ht2 hb2
      go_wp2_with fail
      refine (D1.out _).mono ?_
      rintro e wc ⟨rfl, hb⟩
      have Xwc := Lib.hid hb
      clear hb
      go_wp2_with fail
      refine (D2.out _).mono ?_
      rintro e wd ⟨rfl, hb⟩
      have Xwd := Lib.hid hb
      clear hb
      go_wp2_with fail
      refine (D3.out _).mono ?_
      rintro e we ⟨rfl, hb⟩
      have Xwe := Lib.hid hb
      clear hb
      go_wp2_with fail
      refine (D4.out _).mono ?_
      rintro e wf ⟨rfl, hb⟩
      have Xwf := Lib.hid hb
      clear hb
      have HS := Lib.hid (same_self (c := c1) (d := c2) (T1.out.below (below_on (below_on (below_on (below_on Xwb.out Xwc.out) Xwd.out) Xwe.out) Xwf.out) (Nat.le_refl _)) (T2.out.below (below_on (below_on (below_on Xwc.out Xwd.out) Xwe.out) Xwf.out) (Nat.le_refl _)) C3.out)
      go_wp2_with fail
      refine HS.out.mono ?_
      rintro e wg ⟨rfl, hb⟩
      have Xwg := Lib.hid hb
      clear hb HS
      clear T1 T2 C1 C2 C3 D1 D2 D3 D4
      rcases HQ.out with ⟨g1, rfl, rfl⟩ | ⟨g1, g2, g3, rfl⟩ | ⟨g1, g2, g3, rfl⟩ | ⟨g1, rfl, rfl⟩
      · have q1 : decide (0 ≤ Q2) = false := decide_eq_false (by omega)
        go_wp2_with fail
        refine (R1.out _).mono ?_
        rintro e wh ⟨ao3, c3, rfl, ht3, hb3⟩
        have T3 := Lib.hid ht3
        have Xwh := Lib.hid hb3
        clear ht3 hb3
        go_wp2_with fail
        refine (R2.out _).mono ?_
        rintro e wi ⟨ao4, c4, rfl, ht4, hb4⟩
        have T4 := Lib.hid ht4
        have Xwi := Lib.hid hb4
        clear ht4 hb4
        have HS := Lib.hid (same_self (c := c3) (d := c4) (T3.out.below Xwi.out (Nat.le_refl _)) T4.out R3.out)
        go_wp2_with fail
        refine HS.out.mono ?_
        rintro e wj ⟨rfl, hb⟩
        have Xwj := Lib.hid hb
        clear hb HS
        go_wp2_with fail
        refine (K1.out _).mono ?_
        rintro e wk ⟨ao5, c5, rfl, ht5, hb5⟩
        have T5 := Lib.hid ht5
        have Xwk := Lib.hid hb5
        clear ht5 hb5
        go_wp2_with fail
        refine (K2.out _).mono ?_
        rintro e wl ⟨ao6, c6, rfl, ht6, hb6⟩
        have T6 := Lib.hid ht6
        have Xwl := Lib.hid hb6
        clear ht6 hb6
        have HS := Lib.hid (same_self (c := c5) (d := c6) (T5.out.below Xwl.out (Nat.le_refl _)) T6.out K3.out)
        go_wp2_with fail
        refine HS.out.mono ?_
        rintro e wm ⟨rfl, hb⟩
        have Xwm := Lib.hid hb
        clear hb HS
        have HF := Lib.hid (HBI.out.trans ((below_on (below_on (below_on (below_on (below_on (below_on (below_on (below_on (below_on (below_on (below_on (below_on Xwa.out Xwb.out) Xwc.out) Xwd.out) Xwe.out) Xwf.out) Xwg.out) Xwh.out) Xwi.out) Xwj.out) Xwk.out) Xwl.out) Xwm.out).mono HBI.out.size))
        go_wp2
        go_roundw
        case rel => exact ⟨i + 1, a0, by omega, by go_num, h0, rfl, HF.out, trivial⟩
        case measure => simp [intOf]; omega
      · have q1 : decide (0 ≤ a6) = true := decide_eq_true (by omega)
        have q2 : decide (a6 ≤ 3333) = true := decide_eq_true (by omega)
        have q3 : decide (a6 ≤ 81) = true := decide_eq_true (by omega)
        go_wp2_with fail
        refine (R1.out _).mono ?_
        rintro e wh ⟨ao3, c3, rfl, ht3, hb3⟩
        have T3 := Lib.hid ht3
        have Xwh := Lib.hid hb3
        clear ht3 hb3
        go_wp2_with fail
        refine (R2.out _).mono ?_
        rintro e wi ⟨ao4, c4, rfl, ht4, hb4⟩
        have T4 := Lib.hid ht4
        have Xwi := Lib.hid hb4
        clear ht4 hb4
        have HS := Lib.hid (same_self (c := c3) (d := c4) (T3.out.below Xwi.out (Nat.le_refl _)) T4.out R3.out)
        go_wp2_with fail
        refine HS.out.mono ?_
        rintro e wj ⟨rfl, hb⟩
        have Xwj := Lib.hid hb
        clear hb HS
        go_wp2_with fail
        refine (K1.out _).mono ?_
        rintro e wk ⟨ao5, c5, rfl, ht5, hb5⟩
        have T5 := Lib.hid ht5
        have Xwk := Lib.hid hb5
        clear ht5 hb5
        go_wp2_with fail
        refine (K2.out _).mono ?_
        rintro e wl ⟨ao6, c6, rfl, ht6, hb6⟩
        have T6 := Lib.hid ht6
        have Xwl := Lib.hid hb6
        clear ht6 hb6
        have HS := Lib.hid (same_self (c := c5) (d := c6) (T5.out.below Xwl.out (Nat.le_refl _)) T6.out K3.out)
        go_wp2_with fail
        refine HS.out.mono ?_
        rintro e wm ⟨rfl, hb⟩
        have Xwm := Lib.hid hb
        clear hb HS
        have HF := Lib.hid (HBI.out.trans ((below_on (below_on (below_on (below_on (below_on (below_on (below_on (below_on (below_on (below_on (below_on (below_on Xwa.out Xwb.out) Xwc.out) Xwd.out) Xwe.out) Xwf.out) Xwg.out) Xwh.out) Xwi.out) Xwj.out) Xwk.out) Xwl.out) Xwm.out).mono HBI.out.size))
        go_wp2
        go_roundw
        case rel => exact ⟨i + 1, a0, by omega, by go_num, h0, rfl, HF.out, trivial⟩
        case measure => simp [intOf]; omega
      · have q1 : decide (0 ≤ Q2) = true := decide_eq_true (by omega)
        have q2 : decide (Q2 ≤ 3333) = true := decide_eq_true (by omega)
        have q3 : decide (Q2 ≤ 81) = false := decide_eq_false (by omega)
        go_wp2_with fail
        refine (R1.out _).mono ?_
        rintro e wh ⟨ao3, c3, rfl, ht3, hb3⟩
        have T3 := Lib.hid ht3
        have Xwh := Lib.hid hb3
        clear ht3 hb3
        go_wp2_with fail
        refine (R2.out _).mono ?_
        rintro e wi ⟨ao4, c4, rfl, ht4, hb4⟩
        have T4 := Lib.hid ht4
        have Xwi := Lib.hid hb4
        clear ht4 hb4
        have HS := Lib.hid (same_self (c := c3) (d := c4) (T3.out.below Xwi.out (Nat.le_refl _)) T4.out R3.out)
        go_wp2_with fail
        refine HS.out.mono ?_
        rintro e wj ⟨rfl, hb⟩
        have Xwj := Lib.hid hb
        clear hb HS
        go_wp2_with fail
        refine (K1.out _).mono ?_
        rintro e wk ⟨ao5, c5, rfl, ht5, hb5⟩
        have T5 := Lib.hid ht5
        have Xwk := Lib.hid hb5
        clear ht5 hb5
        go_wp2_with fail
        refine (K2.out _).mono ?_
        rintro e wl ⟨ao6, c6, rfl, ht6, hb6⟩
        have T6 := Lib.hid ht6
        have Xwl := Lib.hid hb6
        clear ht6 hb6
        have HS := Lib.hid (same_self (c := c5) (d := c6) (T5.out.below Xwl.out (Nat.le_refl _)) T6.out K3.out)
        go_wp2_with fail
        refine HS.out.mono ?_
        rintro e wm ⟨rfl, hb⟩
        have Xwm := Lib.hid hb
        clear hb HS
        have HF := Lib.hid (HBI.out.trans ((below_on (below_on (below_on (below_on (below_on (below_on (below_on (below_on (below_on (below_on (below_on (below_on Xwa.out Xwb.out) Xwc.out) Xwd.out) Xwe.out) Xwf.out) Xwg.out) Xwh.out) Xwi.out) Xwj.out) Xwk.out) Xwl.out) Xwm.out).mono HBI.out.size))
        go_wp2
        go_roundw
        case rel => exact ⟨i + 1, a0, by omega, by go_num, h0, rfl, HF.out, trivial⟩
        case measure => simp [intOf]; omega
      · have q1 : decide (0 ≤ Q2) = true := decide_eq_true (by omega)
        have q2 : decide (Q2 ≤ 3333) = false := decide_eq_false (by omega)
        have q3 : decide (Q2 ≤ 81) = false := decide_eq_false (by omega)
        go_wp2_with fail
        refine (R1.out _).mono ?_
        rintro e wh ⟨ao3, c3, rfl, ht3, hb3⟩
        have T3 := Lib.hid ht3
        have Xwh := Lib.hid hb3
        clear ht3 hb3
        go_wp2_with fail
        refine (R2.out _).mono ?_
        rintro e wi ⟨ao4, c4, rfl, ht4, hb4⟩
        have T4 := Lib.hid ht4
        have Xwi := Lib.hid hb4
        clear ht4 hb4
        have HS := Lib.hid (same_self (c := c3) (d := c4) (T3.out.below Xwi.out (Nat.le_refl _)) T4.out R3.out)
        go_wp2_with fail
        refine HS.out.mono ?_
        rintro e wj ⟨rfl, hb⟩
        have Xwj := Lib.hid hb
        clear hb HS
        go_wp2_with fail
        refine (K1.out _).mono ?_
        rintro e wk ⟨ao5, c5, rfl, ht5, hb5⟩
        have T5 := Lib.hid ht5
        have Xwk := Lib.hid hb5
        clear ht5 hb5
        go_wp2_with fail
        refine (K2.out _).mono ?_
        rintro e wl ⟨ao6, c6, rfl, ht6, hb6⟩
        have T6 := Lib.hid ht6
        have Xwl := Lib.hid hb6
        clear ht6 hb6
        have HS := Lib.hid (same_self (c := c5) (d := c6) (T5.out.below Xwl.out (Nat.le_refl _)) T6.out K3.out)
        go_wp2_with fail
        refine HS.out.mono ?_
        rintro e wm ⟨rfl, hb⟩
        have Xwm := Lib.hid hb
        clear hb HS
        have HF := Lib.hid (HBI.out.trans ((below_on (below_on (below_on (below_on (below_on (below_on (below_on (below_on (below_on (below_on (below_on (below_on Xwa.out Xwb.out) Xwc.out) Xwd.out) Xwe.out) Xwf.out) Xwg.out) Xwh.out) Xwi.out) Xwj.out) Xwk.out) Xwl.out) Xwm.out).mono HBI.out.size))
        go_wp2
        go_roundw
        case rel => exact ⟨i + 1, a0, by omega, by go_num, h0, rfl, HF.out, trivial⟩
        case measure => simp [intOf]; omega
    · have hi2 : 2 ≤ i := by omega
      have HB3 := Lib.hid (B2.out.trans (HBI.out.mono B2.out.size))
      go_wp2_with fail
      refine (HAW.out _).mono ?_
      rintro e w5 ⟨rfl, hb5⟩
      have HF := Lib.hid (HB3.out.trans (hb5.mono HB3.out.size))
      clear hb5
      go_wp2
      go_ret
      exact ⟨rfl, HF.out⟩
theorem walk {w : World} (a0 : Int) (w0 : (Lit.int .u64 a0).wf = true) (a1 : Int) (_w1 : (Lit.int .i64 a1).wf = true) (a2 : Int) (_w2 : (Lit.int .i64 a2).wf = true) (a3 : Int) (_w3 : (Lit.int .i64 a3).wf = true) (a4 : Int) (_w4 : (Lit.int .i64 a4).wf = true) (a5 : Int) (_w5 : (Lit.int .i64 a5).wf = true) (a6 : Int) (w6 : (Lit.int .i64 a6).wf = true) :
    Calls Try.prog 7 #[.int .u64 a0, .int .i64 a1, .int .i64 a2, .int .i64 a3, .int .i64 a4, .int .i64 a5, .int .i64 a6] w fun e w' => e = .returned (.bool true) ∧ Below w.heap.size w w' := by
  have h0 := w0
  have h6 := w6
  unfold Lit.wf at h0 h6
  rw [Bool.and_eq_true, decide_eq_true_eq, decide_eq_true_eq, show IntKind.u64.min = 0 from rfl, show IntKind.u64.max = 18446744073709551615 from rfl] at h0
  rw [Bool.and_eq_true, decide_eq_true_eq, decide_eq_true_eq, show IntKind.i64.min = -9223372036854775808 from rfl, show IntKind.i64.max = 9223372036854775807 from rfl] at h6
  obtain ⟨n, rfl⟩ : ∃ n : Nat, a0 = n := ⟨a0.toNat, by omega⟩
  exact core w n (by omega) a1 a2 a3 a4 a5 a6 h6.1 (by omega)
end Go.Proofs.Yticbkdignmlfiaa.nearTells
