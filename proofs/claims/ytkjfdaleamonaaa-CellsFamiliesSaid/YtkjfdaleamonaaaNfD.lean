/- The contract of apiaryref1.Word. -/
import Derived.Test.YtkjfdaleamonaaaNfC
namespace Go.Proofs.Ytkjfdaleamonaaa
open Go.RowKit Go.Lib Wd

theorem hd_app (f : Nat → Nat) (j m : Nat) : hd f (j + m) = hd f j * 8 ^ m + hd (fun k => f (j + k)) m := by
  induction m with
  | zero => simp [hd]
  | succ m ih =>
    show hd f (j + m) * 8 + f (j + m + 1) = _ + (hd (fun k => f (j + k)) m * 8 + f (j + (m + 1)))
    rw [ih, Nat.pow_succ, ← Nat.mul_assoc, Nat.add_mul, Nat.add_assoc, Nat.add_assoc]
theorem or_parts {A d m B : Nat} (hd : d < 8) (hB : B < 2 ^ (3 * m)) : (A * 8 + d) * 2 ^ (3 * m) + B = A * 2 ^ (3 * m + 3) ||| (d * 2 ^ (3 * m) ||| B) := by
  have hp : 0 < 2 ^ (3 * m) := Nat.pow_pos (by decide)
  have e1 : d * 2 ^ (3 * m) ||| B = d * 2 ^ (3 * m) + B := nat_join (3 * m) _ _ (Nat.mul_mod_left _ _) hB
  have h2 : d * 2 ^ (3 * m) + B < 2 ^ (3 * m + 3) := by
    rw [Nat.pow_add]
    have : d * 2 ^ (3 * m) ≤ 7 * 2 ^ (3 * m) := Nat.mul_le_mul_right _ (by omega)
    omega
  rw [e1, nat_join (3 * m + 3) _ _ (Nat.mul_mod_left _ _) h2, Nat.add_mul, Nat.pow_add, ← Nat.add_assoc, Nat.mul_assoc A 8, Nat.mul_comm 8]
theorem clear_digit {A m B : Nat} (hB : B < 2 ^ (3 * m)) (hA : (A * 8 + 7) * 2 ^ (3 * m) + B < 2 ^ 64) :
    ((A * 8 + 7) * 2 ^ (3 * m) + B) &&& (2 ^ 64 - (7 * 2 ^ (3 * m) + 1)) = A * 2 ^ (3 * m + 3) ||| B := by
  have hb : 7 * 2 ^ (3 * m) < 2 ^ 64 := by
    have : 7 * 2 ^ (3 * m) ≤ (A * 8 + 7) * 2 ^ (3 * m) := Nat.mul_le_mul_right _ (by omega)
    omega
  have hlt : ∀ i, 64 ≤ i → ((A * 8 + 7) * 2 ^ (3 * m) + B).testBit i = false := fun i hi => Nat.testBit_lt_two_pow (Nat.lt_of_lt_of_le hA (Nat.pow_le_pow_right (by decide) hi))
  rw [or_parts (d := 7) (by decide) hB] at hlt ⊢
  apply Nat.eq_of_testBit_eq
  intro i
  have hl := hlt i
  rw [Nat.testBit_and, Nat.testBit_two_pow_sub_succ hb]
  rw [Nat.testBit_or, Nat.testBit_or, Nat.testBit_mul_two_pow, Nat.testBit_mul_two_pow] at hl ⊢
  rw [Nat.testBit_or, Nat.testBit_mul_two_pow]
  by_cases h1 : 3 * m ≤ i
  · have hBi : B.testBit i = false := Nat.testBit_lt_two_pow (Nat.lt_of_lt_of_le hB (Nat.pow_le_pow_right (by decide) h1))
    rw [hBi] at hl ⊢
    by_cases h2 : 3 * m + 3 ≤ i
    · have h7 : (7 : Nat).testBit (i - 3 * m) = false := Nat.testBit_lt_two_pow (Nat.lt_of_lt_of_le (show 7 < 2 ^ 3 by decide) (Nat.pow_le_pow_right (by decide) (by omega)))
      rw [h7] at hl ⊢
      by_cases h64 : i < 64
      · simp [h64]
      · have := hl (by omega)
        simp [h64] at this ⊢
        simpa [h2] using this
    · have h7 : (7 : Nat).testBit (i - 3 * m) = true := by
        rcases (show i - 3 * m = 0 ∨ i - 3 * m = 1 ∨ i - 3 * m = 2 by omega) with e | e | e <;> rw [e] <;> decide
      rw [h7]
      simp [h1, h2]
  · have h2 : ¬ 3 * m + 3 ≤ i := by omega
    by_cases h64 : i < 64
    · simp [h1, h2, h64]
    · have := hl (by omega)
      simp [h1, h2, h64] at this ⊢
      exact this
/-- The digits set so far, from the last on. -/
def lowD (R : Nat) (z : E2) (j k : Nat) : Nat := if k ≤ j then 7 else dgt R z k
def lowV (R : Nat) (z : E2) (j : Nat) : Nat := hd (lowD R z j) 12
theorem lowD_lt (R : Nat) (z : E2) (j k : Nat) : lowD R z j k < 8 := by
  unfold lowD
  split
  · decide
  · exact dgt_lt R z k
theorem lowV_lt (R : Nat) (z : E2) (j : Nat) : lowV R z j < 68719476736 := hd12_lt (lowD_lt R z j)
theorem lowV_first {R : Nat} (z : E2) : lowV R z R = 68719476735 := by
  unfold lowV
  rw [hd_congr (g := fun _ => 7) (fun k _ _ => ?_)]
  · decide
  · unfold lowD dgt
    split
    · rfl
    · rfl
theorem lowV_last (R : Nat) (z : E2) : lowV R z 0 = hd (dgt R z) 12 := hd_congr fun k h _ => by unfold lowD; rw [if_neg (by omega)]
theorem lowV_step {R : Nat} {z : E2} {j : Nat} (hj : j < 12) : ∃ A B : Nat, B < 2 ^ (3 * (12 - (j + 1))) ∧ lowV R z (j + 1) = (A * 8 + 7) * 2 ^ (3 * (12 - (j + 1))) + B ∧ lowV R z j = (A * 8 + dgt R z (j + 1)) * 2 ^ (3 * (12 - (j + 1))) + B := by
  obtain ⟨m, hm⟩ : ∃ m, 12 - (j + 1) = m := ⟨_, rfl⟩
  have h12 : 12 = (j + 1) + m := by omega
  have e8 : ∀ m, (8 : Nat) ^ m = 2 ^ (3 * m) := fun m => by rw [Nat.pow_mul]
  rw [hm]
  refine ⟨hd (lowD R z (j + 1)) j, hd (fun k => lowD R z (j + 1) (j + 1 + k)) m, ?_, ?_, ?_⟩
  · rw [← e8]; exact hd_lt (fun k => lowD_lt R z _ _) m
  · unfold lowV
    rw [h12, hd_app, e8]
    show (hd (lowD R z (j + 1)) j * 8 + lowD R z (j + 1) (j + 1)) * _ + _ = _
    rw [show lowD R z (j + 1) (j + 1) = 7 by unfold lowD; rw [if_pos (Nat.le_refl _)]]
  · unfold lowV
    rw [h12, hd_app, e8]
    show (hd (lowD R z j) j * 8 + lowD R z j (j + 1)) * _ + _ = _
    rw [show lowD R z j (j + 1) = dgt R z (j + 1) by unfold lowD; rw [if_neg (by omega)]]
    rw [hd_congr (f := lowD R z j) (g := lowD R z (j + 1)) (n := j) (fun k h1 h2 => by unfold lowD; rw [if_pos h2, if_pos (by omega)])]
    rw [hd_congr (f := fun k => lowD R z j (j + 1 + k)) (g := fun k => lowD R z (j + 1) (j + 1 + k)) (n := m) (fun k h1 h2 => by show lowD R z j _ = lowD R z (j + 1) _; unfold lowD; rw [if_neg (by omega), if_neg (by omega)])]
theorem word_put {A d B j V1 V0 : Nat} (hj : j < 12) (hd : d < 8) (hB : B < 2 ^ (3 * (12 - (j + 1)))) (h1 : V1 = (A * 8 + 7) * 2 ^ (3 * (12 - (j + 1))) + B) (h0 : V0 = (A * 8 + d) * 2 ^ (3 * (12 - (j + 1))) + B) (hV : V1 < 68719476736) :
    bits .or .u64 (bits .andNot .u64 (V1 : Int) (IntKind.u64.wrap (7 * 2 ^ (36 - 3 * (j + 1))))) (IntKind.u64.wrap ((d : Int) * 2 ^ (36 - 3 * (j + 1)))) = ((V0 : Nat) : Int) := by
  obtain ⟨m, hm⟩ : ∃ m, 12 - (j + 1) = m := ⟨_, rfl⟩
  rw [show 36 - 3 * (j + 1) = 3 * m by omega]
  rw [hm] at hB h1 h0
  have hp : 2 ^ (3 * m) ≤ 2 ^ 33 := Nat.pow_le_pow_right (by decide) (by omega)
  have hp2 : (2 : Nat) ^ 33 = 8589934592 := by decide
  have e7 : (7 * 2 ^ (3 * m) : Int) = ((7 * 2 ^ (3 * m) : Nat) : Int) := by simp
  have ed : ((d : Int) * 2 ^ (3 * m)) = ((d * 2 ^ (3 * m) : Nat) : Int) := by simp
  have hdl : d * 2 ^ (3 * m) ≤ 7 * 2 ^ (3 * m) := Nat.mul_le_mul_right _ (by omega)
  have w7 : IntKind.u64.wrap ((7 * 2 ^ (3 * m) : Nat) : Int) = ((7 * 2 ^ (3 * m) : Nat) : Int) := by rw [IntKind.wrap_u64]; omega
  have wd : IntKind.u64.wrap ((d * 2 ^ (3 * m) : Nat) : Int) = ((d * 2 ^ (3 * m) : Nat) : Int) := by rw [IntKind.wrap_u64]; omega
  have hlt : A * 2 ^ (3 * m + 3) ||| B < 18446744073709551616 := by
    refine Nat.lt_of_le_of_lt ?_ (show V1 < 18446744073709551616 by omega)
    rw [h1, or_parts (by decide) hB, Nat.or_comm (7 * 2 ^ (3 * m)) B, ← Nat.or_assoc]
    exact Nat.left_le_or
  rw [e7, ed, w7, wd, u64_andNot_nat _ _ (by omega) (by omega)]
  rw [show 18446744073709551615 - 7 * 2 ^ (3 * m) = 2 ^ 64 - (7 * 2 ^ (3 * m) + 1) by rw [show (2 : Nat) ^ 64 = 18446744073709551616 by decide]; omega]
  rw [h1, clear_digit hB (by rw [← h1, show (2 : Nat) ^ 64 = 18446744073709551616 by decide]; omega), bits_or_u64_nat _ _ hlt (by omega)]
  rw [h0, or_parts hd hB, Nat.or_assoc, Nat.or_comm B]
theorem top_val2 {R V : Nat} {b : E2} (hR : R ≤ 12) (hb : baseB b = true) (hV : V < 68719476736) : bits .or .u64 (bits .or .u64 (bits .or .u64 (bits .or .u64 (V : Int) 1152921504606846976) ((R : Int) * 72057594037927936)) (IntKind.u64.wrap (IntKind.u64.wrap (wrap64 (b.1 + 512)) * 70368744177664))) (IntKind.u64.wrap (IntKind.u64.wrap (wrap64 (b.2 + 512)) * 68719476736)) = ((topN R b + V : Nat) : Int) := by
  obtain ⟨h1, h2, h3, h4⟩ := (baseB_iff b).1 hb
  obtain ⟨A, hA⟩ : ∃ A : Nat, b.1 + 512 = A := ⟨(b.1 + 512).toNat, by omega⟩
  obtain ⟨B, hB⟩ : ∃ A : Nat, b.2 + 512 = A := ⟨(b.2 + 512).toNat, by omega⟩
  have wA : IntKind.u64.wrap (wrap64 (b.1 + 512)) = (A : Int) := by rw [hA, show wrap64 (A : Int) = A by unfold wrap64; omega, IntKind.wrap_u64]; omega
  have wB : IntKind.u64.wrap (wrap64 (b.2 + 512)) = (B : Int) := by rw [hB, show wrap64 (B : Int) = B by unfold wrap64; omega, IntKind.wrap_u64]; omega
  rw [wA, wB]
  have e1 : IntKind.u64.wrap ((A : Int) * 70368744177664) = ((A * 70368744177664 : Nat) : Int) := by rw [IntKind.wrap_u64]; omega
  have e2 : IntKind.u64.wrap ((B : Int) * 68719476736) = ((B * 68719476736 : Nat) : Int) := by rw [IntKind.wrap_u64]; omega
  have e3 : ((R : Int) * 72057594037927936) = ((R * 72057594037927936 : Nat) : Int) := by omega
  rw [e1, e2, e3, show (1152921504606846976 : Int) = ((1152921504606846976 : Nat) : Int) by rfl]
  rw [bits_or_u64_nat _ _ (by omega) (by decide), Nat.or_comm V, nat_join 60 _ _ (by decide) (by omega)]
  have j1 : 1152921504606846976 + V ||| R * 72057594037927936 = 1152921504606846976 + R * 72057594037927936 + V := by
    rw [← nat_join 60 1152921504606846976 V (by decide) (by omega), Nat.or_assoc, Nat.or_comm V, nat_join 56 (R * 72057594037927936) V (by omega) (by omega), nat_join 60 _ _ (by decide) (by omega)]; omega
  rw [bits_or_u64_nat _ _ (by omega) (by omega), j1]
  have j2 : 1152921504606846976 + R * 72057594037927936 + V ||| A * 70368744177664 = 1152921504606846976 + R * 72057594037927936 + A * 70368744177664 + V := by
    rw [← nat_join 56 (1152921504606846976 + R * 72057594037927936) V (by omega) (by omega), Nat.or_assoc, Nat.or_comm V, nat_join 46 (A * 70368744177664) V (by omega) (by omega), nat_join 56 _ _ (by omega) (by omega)]; omega
  rw [bits_or_u64_nat _ _ (by omega) (by omega), j2]
  have j3 : 1152921504606846976 + R * 72057594037927936 + A * 70368744177664 + V ||| B * 68719476736 = 1152921504606846976 + R * 72057594037927936 + A * 70368744177664 + B * 68719476736 + V := by
    rw [← nat_join 46 (1152921504606846976 + R * 72057594037927936 + A * 70368744177664) V (by omega) (by omega), Nat.or_assoc, Nat.or_comm V, nat_join 36 (B * 68719476736) V (by omega) (by omega), nat_join 46 _ _ (by omega) (by omega)]; omega
  rw [bits_or_u64_nat _ _ (by omega) (by omega), j3]
  unfold topN
  omega
set_option maxRecDepth 100000 in
set_option maxHeartbeats 8000000 in
theorem word_any (r : Int) (z : E2) (w : World) : Calls Try.prog 7 #[vC r z] w fun e w' => e = .returned (.tuple #[.int .u64 (ofW r z : Nat), .int .i64 (ofE r z)]) ∧ Below w.heap.size w w' := by
  have HW := Lib.hid (rok_any r z)
  have HO : Hid (ofW r z = if okB r z = true then wordN r.toNat z else 0) := rfl
  have HE : Hid (ofE r z = if okB r z = true then 0 else 2) := rfl
  by_cases hok : okB r z = true
  · obtain ⟨R, rfl, hR⟩ := okB_nat hok
    have HBB := Lib.hid (okB_parts hok).2
    have HSM : Hid (Sm 1099511627776 z) := by
      have := (shapeB_iff _ _).1 ((okB_iff _ _).1 hok).1
      show Sm _ _; unfold Sm; omega
    simp only [hok, if_pos] at HO HE HW
    rw [HO.out, HE.out]
    have HSZ : Hid (wordN (R : Int).toNat z = topN R (upN R z) + lowV R z 0) := by show _ = _; rw [lowV_last]; rfl
    rw [HSZ.out]
    clear hok HO HE HSZ
    obtain ⟨res, hres⟩ : ∃ x, topN R (upN R z) + lowV R z 0 = x := ⟨_, rfl⟩
    rw [hres]
    have HRES := Lib.hid hres
    clear hres
    have HLF := Lib.hid (lowV_first (R := R) z)
    obtain ⟨a, b⟩ := z
    simp only [vC] at *
    go_enter Try.func7, Try.ntmps7
    go_wp2_with fail
    refine (HW.out _).mono ?_
    rintro e w1 ⟨rfl, hb⟩
    have hz1 := hb.size
    simp at hz1
    have hr := hb.block w.heap.size (by simp)
    rw [heap_new _ _ _ rfl] at hr
    obtain ⟨c0, c1, c2⟩ : w1.cell? ⟨w.heap.size, 0, none⟩ = some (.int .i64 R) ∧ w1.cell? ⟨w.heap.size, 1, none⟩ = some (.int .i64 a) ∧ w1.cell? ⟨w.heap.size, 2, none⟩ = some (.int .i64 b) := ⟨cell_of_row _ _ 0 _ _ _ hr, cell_of_row _ _ 1 _ _ _ hr, cell_of_row _ _ 2 _ _ _ hr⟩
    have hal : Below w1.heap.size w1 (w1.alloc (.cells #[.int .i64 a, .int .i64 b] 27)) := (Below.refl _ _).alloc (Nat.le_refl _) _
    have hB : Hid (Below w.heap.size w (w1.alloc (.cells #[.int .i64 a, .int .i64 b] 27))) := (((Below.refl _ _).alloc (Nat.le_refl _) _).trans (hb.mono (by simp))).trans (hal.mono (by omega))
    have C0 : Hid ((w1.alloc (.cells #[.int .i64 a, .int .i64 b] 27)).cell? ⟨w.heap.size, 0, none⟩ = some (.int .i64 R)) := (hal.cell (p := ⟨w.heap.size, 0, none⟩) (by show w.heap.size < w1.heap.size; omega)).trans c0
    have Z0 : Hid (Two2 (w1.alloc (.cells #[.int .i64 a, .int .i64 b] 27)) w1.heap.size (.int .i64 a) (.int .i64 b)) := Two2.of_row (t := 27) (heap_new _ _ _ rfl)
    have hsz := World.size_alloc w1 (.cells #[.int .i64 a, .int .i64 b] 27)
    clear hal hb HW
    go_upto_region 4 with (fail)
    generalize w1.alloc (.cells #[.int .i64 a, .int .i64 b] 27) = w2 at *
    obtain ⟨zb, hzb⟩ : ∃ zb, w1.heap.size = zb := ⟨_, rfl⟩
    rw [hzb] at Z0 hsz hz1 ⊢
    clear hzb c0 c1 c2 hr
    have c0 := C0.out
    obtain ⟨y, hy⟩ : ∃ y : E2, y = (a, b) := ⟨_, rfl⟩
    have Z0 : Hid (Two2 w2 zb (.int .i64 (upN (R - R) y).1) (.int .i64 (upN (R - R) y).2)) := by rw [Nat.sub_self, hy]; exact Z0.out
    rw [← hy] at HBB HSM HRES HLF
    have HL0 : Hid ((68719476735 : Int) = ((lowV R y R : Nat) : Int)) := by show _ = _; rw [HLF.out]; rfl
    clear hy
    go_upto_region 6 with (fail)
    go_loopw [5, 6] (fun v i wr => ∃ j : Nat, j ≤ R ∧ i = .int .i64 j ∧ v = .int .u64 (lowV R y j : Nat) ∧ Hid (Two2 wr zb (.int .i64 (upN (R - j) y).1) (.int .i64 (upN (R - j) y).2) ∧ Turn (fun q => q = zb) w2 wr)) (fun _ i _ => (intOf i).toNat)
    case atStart => exact ⟨R, by omega, rfl, by rw [HL0.out], Z0.out, Turn.refl _ _⟩
    case round =>
      obtain ⟨j', hj, rfl, rfl, HI⟩ := hrel
      have hturn := HI.out.2
      have hsz2 := hturn.2.2.2.1
      have HBR : Hid (Below w.heap.size w wr) := hB.out.trans (hturn.below (by omega) fun q hq e => by omega)
      have HTU := Lib.hid hturn
      have HZ := Lib.hid HI.out.1
      clear hturn HI c0
      by_cases hj0 : j' = 0
      · subst hj0
        have c0 : wr.cell? ⟨w.heap.size, 0, none⟩ = some (.int .i64 R) := (HTU.out.cell (p := ⟨w.heap.size, 0, none⟩) (by show w.heap.size < w2.heap.size; omega) (by show ¬ w.heap.size = zb; omega)).trans C0.out
        have HTV := Lib.hid (top_val2 hR HBB.out (lowV_lt R y 0))
        obtain ⟨⟨z0, z1⟩, z2, z3⟩ := HZ.out
        rw [Nat.sub_zero] at z0 z1
        have hwl : w.heap.size < wr.heap.size := by omega
        have hzl : zb < wr.heap.size := by omega
        generalize upN R y = x at *
        generalize lowV R y 0 = V at *
        clear HZ HTU
        go_wp2
        rw [HTV.out]
        go_ret2
        exact ⟨by rw [← HRES.out]; rfl, HBR.out⟩
      · obtain ⟨j, rfl⟩ : ∃ j, j' = j + 1 := ⟨j' - 1, by omega⟩
        have hpa := parent_in (upN (R - (j + 1)) y) (upN_sm (by omega) HSM.out _)
        have hup : upN (R - j) y = upE (upN (R - (j + 1)) y) := by rw [show R - j = (R - (j + 1)) + 1 by omega, upN_up]
        have hdg : dgt R y (j + 1) = digE (upN (R - (j + 1)) y) := by unfold dgt; rw [if_pos hj]
        rw [← hup, ← hdg] at hpa
        obtain ⟨x', hx'⟩ : ∃ x', upN (R - j) y = x' := ⟨_, rfl⟩
        rw [hx'] at hpa
        have HXE := Lib.hid hx'
        obtain ⟨A, B, hB1, hv1, hv2⟩ := lowV_step (R := R) (z := y) (j := j) (by omega)
        have hdl := dgt_lt R y (j + 1)
        have hlv := lowV_lt R y (j + 1)
        simp only [vE] at hpa
        have HP := Lib.hid hpa
        have HV1 := Lib.hid hv1
        have HV2 := Lib.hid hv2
        clear hv1 hv2
        generalize dgt R y (j + 1) = d at *
        obtain ⟨V1, hV1⟩ : ∃ V, lowV R y (j + 1) = V := ⟨_, rfl⟩
        obtain ⟨V0, hV0⟩ : ∃ V, lowV R y j = V := ⟨_, rfl⟩
        rw [hV1] at HV1 hlv ⊢
        rw [hV0] at HV2
        have HV0E := Lib.hid hV0
        clear hV1 hV0
        clear hpa hup hdg hx'
        obtain ⟨⟨z0, z1⟩, z2, z3⟩ := HZ.out
        have q0 : decide (0 < (j : Int) + 1) = true := decide_eq_true (by omega)
        go_wp2_with fail
        refine (HP.out _).mono ?_
        rintro e w3 ⟨rfl, hb3⟩
        have qs : decide (36 - 3 * ((j : Int) + 1) < 0) = false := decide_eq_false (by omega)
        go_upto_region 10 with (fail)
        go_quiet (fail)
        have HPUT := Lib.hid (word_put (show j < 12 by omega) hdl hB1 HV1.out HV2.out hlv)
        rw [HPUT.out]
        have hz3 := hb3.size
        have hal : Below w3.heap.size w3 (w3.alloc (.cells #[.int .i64 x'.1, .int .i64 x'.2] 27)) := (Below.refl _ _).alloc (Nat.le_refl _) _
        have k3 := World.size_alloc w3 (.cells #[.int .i64 x'.1, .int .i64 x'.2] 27)
        have hX : Two (w3.alloc (.cells #[.int .i64 x'.1, .int .i64 x'.2] 27)) w3.heap.size (.int .i64 x'.1) (.int .i64 x'.2) := Two.of_row (t := 27) (f := _) (heap_new _ _ _ rfl)
        have h4 := (HZ.out.later (by omega) hb3).later (by omega) hal
        have HT4 : Hid (Turn (fun q => q = zb) w2 (w3.alloc (.cells #[.int .i64 x'.1, .int .i64 x'.2] 27))) := (HTU.out.trans (Turn.of_below hb3) fun _ _ h => h).trans (Turn.of_below hal) fun _ _ h => h
        clear hal hb3 z0 z1 z2 z3 HZ HTU
        have hdn := below_dn (w3.alloc (.cells #[.int .i64 x'.1, .int .i64 x'.2] 27)) nq
        have h4 := h4.later (by omega) hdn
        have hX := hX.later (by omega) hdn
        have HT4 : Hid (Turn (fun q => q = zb) w2 ((w3.alloc (.cells #[.int .i64 x'.1, .int .i64 x'.2] 27)).drewN nq)) := HT4.out.trans (Turn.of_below hdn) fun _ _ h => h
        have k4 := hdn.size
        clear hdn
        generalize (w3.alloc (.cells #[.int .i64 x'.1, .int .i64 x'.2] 27)).drewN nq = w4 at *
        have hp := h4.put (.int .i64 x'.1) (.int .i64 x'.2)
        have HN : Hid (Two2 ((w4.setCell ⟨zb, 0, none⟩ (.int .i64 x'.1)).setCell ⟨zb, 1, none⟩ (.int .i64 x'.2)) zb (.int .i64 x'.1) (.int .i64 x'.2) ∧ Turn (fun q => q = zb) w2 ((w4.setCell ⟨zb, 0, none⟩ (.int .i64 x'.1)).setCell ⟨zb, 1, none⟩ (.int .i64 x'.2))) := ⟨hp.1, HT4.out.trans hp.2 fun _ _ h => h⟩
        obtain ⟨⟨z0, z1⟩, z2, z3⟩ := h4
        obtain ⟨x0, x1⟩ := hX
        have hxl : w3.heap.size < w4.heap.size := by omega
        have hzl : zb < w4.heap.size := by omega
        clear hp k3
        go_wp2
        go_roundw
        case rel => exact ⟨j, by omega, by go_num, by rw [HV0E.out], by rw [HXE.out]; exact HN.out⟩
        case measure => simp [intOf]
  · have hok0 : okB r z = false := by simpa using hok
    rw [hok0] at HW
    simp only [hok0, Bool.false_eq_true, if_false] at HO HE
    rw [HO.out, HE.out]
    clear hok hok0 HO HE
    simp only [vC] at *
    go_enter Try.func7, Try.ntmps7
    go_wp2_with fail
    refine (HW.out _).mono ?_
    rintro e w1 ⟨rfl, hb⟩
    have HB : Hid (Below w.heap.size w w1) := ((Below.refl _ _).alloc (Nat.le_refl _) _).trans (hb.mono (by simp))
    clear hb HW
    go_wp2
    go_ret2
    exact ⟨rfl, HB.out⟩
end Go.Proofs.Ytkjfdaleamonaaa
