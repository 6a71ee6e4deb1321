/- Contract of apiarylaw6.awake; rings of cells that may be. -/
import Derived.Test.YticbkdignmlfiaaNfE
import Derived.Test.YticbkdignmlfiaaNfD
import Derived.Test.YticbkdignmlfiaaNrC
namespace Go.Proofs.Yticbkdignmlfiaa
open Go.RowKit Go.Lib Wd

theorem ofW_ok {r : Nat} {z : E2} (h : okB r z = true) : ofW r z = wordN r z ∧ ofE r z = 0 ∧ ofW r z < 18446744073709551616 := by
  unfold ofW ofE
  rw [if_pos h, if_pos h]
  have := wordN_lt h
  exact ⟨rfl, rfl, by show wordN r z < _; omega⟩
theorem rgs_word {r : Nat} {z : E2} (h : okB r z = true) (f n : Nat) (t m : Int) (ht : 0 ≤ t) (hm : t ≤ m) (hn : (t + 1 - f).toNat = n) : rgsE (ofW r z) t m = 0 ∧ rgsL (ofW r z) f t m = srt (tellL r (allR z f n)) := by
  obtain ⟨h1, h2, h3⟩ := word_cell h
  rw [(ofW_ok h).1]
  have hE : rgsE (wordN r z) t m = 0 := by unfold rgsE; rw [if_pos h1, if_neg (by omega), if_neg (by omega)]
  refine ⟨hE, ?_⟩
  unfold rgsL
  rw [if_pos hE, h2, h3, hn]
theorem ok_zero : okB (0 : Nat) (0, 0) = true := by decide
theorem len6 : (tellL (0 : Nat) (allR (0, 0) 1 1)).length = 6 := by decide
theorem len19 : (tellL (0 : Nat) (allR (0, 0) 0 3)).length = 19 := by decide
set_option maxRecDepth 100000 in
set_option maxHeartbeats 400000 in
theorem awake_any (w : World) : Calls Try.prog 16 #[] w fun e w' => e = .returned (.bool true) ∧ Below w.heap.size w w' := by
  obtain ⟨a1, a2, a3⟩ := ofW_ok ok_zero
  have HW := Lib.hid (word_any (0 : Nat) (0, 0))
  obtain ⟨e1, l1⟩ := rgs_word ok_zero 1 1 1 1 (by decide) (by decide) rfl
  obtain ⟨e2, l2⟩ := rgs_word ok_zero 1 1 1 3333 (by decide) (by decide) rfl
  obtain ⟨e3, l3⟩ := rgs_word ok_zero 0 3 2 81 (by decide) (by decide) rfl
  rw [a2] at HW
  have HN := Lib.hid (nei_any (ofW (0 : Nat) (0, 0)) a3)
  have HR := Lib.hid (rng_any (ofW (0 : Nat) (0, 0)) a3 1 (by decide) (by decide))
  have HD := Lib.hid (disk_any (ofW (0 : Nat) (0, 0)) a3 2 (by decide))
  rw [show (1 : Int).toNat = 1 from rfl] at HR
  rw [e1, l1] at HN
  rw [e2, l2] at HR
  rw [e3, l3] at HD
  have n6 : (srt (tellL (0 : Nat) (allR (0, 0) 1 1))).length = 6 := (srt_length _).trans len6
  have n19 : (srt (tellL (0 : Nat) (allR (0, 0) 0 3))).length = 19 := (srt_length _).trans len19
  generalize srt (tellL (0 : Nat) (allR (0, 0) 1 1)) = L at *
  generalize srt (tellL (0 : Nat) (allR (0, 0) 0 3)) = M at *
  generalize ofW (0 : Nat) (0, 0) = W at *
  have N6 := Lib.hid n6
  have N19 := Lib.hid n19
  simp only [vC, Int.ofNat_zero] at *
  clear e1 e2 e3 l1 l2 l3 a1 a2 a3 n6 n19
  go_enter Try.func16, Try.ntmps16
  go_wp2_with fail
  refine (HW.out _).mono ?_
  rintro e w1 ⟨rfl, hb1⟩
  have B1 := Lib.hid hb1
  clear hb1
  go_wp2_with fail
  refine (HN.out _).mono ?_
  rintro e w2 ⟨ao, c, rfl, h2, hb2⟩
  have A2 := Lib.hid h2
  have B2 := Lib.hid (B1.out.trans (hb2.mono B1.out.size))
  clear h2 hb2
  go_wp2_with fail
  refine (HR.out _).mono ?_
  rintro e w3 ⟨bo, d, rfl, h3, hb3⟩
  have A3 := Lib.hid h3
  have A2b := Lib.hid (A2.out.below hb3 (Nat.le_refl _))
  have B3 := Lib.hid (B2.out.trans (hb3.mono B2.out.size))
  clear h3
  go_wp2_with fail
  refine (HD.out _).mono ?_
  rintro e w4 ⟨co, dd, rfl, h4, hb4⟩
  have A3b := Lib.hid (A3.out.below hb4 (Nat.le_refl _))
  have A2c := Lib.hid (A2b.out.below hb4 hb3.size)
  have B4 := Lib.hid (B3.out.trans (hb4.mono B3.out.size))
  have HS := Lib.hid (same_any ao bo c d L L w4 _ _ A2c.out A3b.out (by rw [N6.out]; decide))
  rw [N6.out] at HS ⊢
  rw [N19.out]
  simp only [decide_true] at HS
  clear h4 hb4 hb3 HW HN HR HD
  go_wp2_with fail
  refine HS.out.mono ?_
  rintro e w5 ⟨rfl, hb5⟩
  have HF := Lib.hid (B4.out.trans (hb5.mono B4.out.size))
  clear hb5
  go_wp2
  go_ret
  exact ⟨rfl, HF.out⟩
end Go.Proofs.Yticbkdignmlfiaa
