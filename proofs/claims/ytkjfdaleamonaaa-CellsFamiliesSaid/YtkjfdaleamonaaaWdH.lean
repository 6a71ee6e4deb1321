/- Contracts of package ident: put, digitOf, Of. -/
import Derived.Test.YtkjfdaleamonaaaWdG
import Derived.Laws.Bits64b
import Derived.Laws.BitsAllLaws
namespace Go.Proofs.Ytkjfdaleamonaaa
open Go.RowKit Go.Lib Wd

theorem pow_place {r : Nat} (h1 : 1 ≤ r) (h2 : r ≤ 12) : (2 : Nat) ^ (33 - 3 * (r - 1)) = 8 ^ (12 - r) ∧ (2 : Nat) ^ (3 * (13 - r)) = 8 ^ (12 - r) * 8 ∧ 8 ^ (12 - r) ≤ 8589934592 ∧ 0 < 8 ^ (12 - r) := by
  rcases (show r = 1 ∨ r = 2 ∨ r = 3 ∨ r = 4 ∨ r = 5 ∨ r = 6 ∨ r = 7 ∨ r = 8 ∨ r = 9 ∨ r = 10 ∨ r = 11 ∨ r = 12 by omega) with rfl | rfl | rfl | rfl | rfl | rfl | rfl | rfl | rfl | rfl | rfl | rfl <;> decide
theorem put_val {w0 d r : Nat} (h1 : 1 ≤ r) (h2 : r ≤ 12) (hd : d < 8) (hw : w0 < 9223372036854775808) (hm : w0 % (8 ^ (12 - r) * 8) = 0) :
    bits .or .u64 (w0 : Int) (IntKind.u64.wrap ((d : Int) * 2 ^ (33 - 3 * (r - 1)))) = ((w0 + d * 8 ^ (12 - r) : Nat) : Int) := by
  obtain ⟨p1, p2, p3, p4⟩ := pow_place h1 h2
  have e : ((d : Int) * 2 ^ (33 - 3 * (r - 1))) = ((d * 8 ^ (12 - r) : Nat) : Int) := by rw [← p1]; simp
  have hlt : d * 8 ^ (12 - r) < 8 ^ (12 - r) * 8 := by rw [Nat.mul_comm]; exact (Nat.mul_lt_mul_left p4).2 hd
  have hlt2 : d * 8 ^ (12 - r) < 18446744073709551616 := by omega
  have e2 : IntKind.u64.wrap ((d * 8 ^ (12 - r) : Nat) : Int) = ((d * 8 ^ (12 - r) : Nat) : Int) := by rw [IntKind.wrap_u64]; omega
  rw [e, e2, bits_or_u64_nat _ _ (by omega) hlt2, nat_join (3 * (13 - r)) _ _ (by rw [p2]; exact hm) (by rw [p2]; exact hlt)]
theorem put_any (g w0 d r : Nat) (h1 : 1 ≤ r) (h2 : r ≤ 12) (hd : d < 8) (hw : w0 < 9223372036854775808) (hm : w0 % (8 ^ (12 - r) * 8) = 0) (w : World) (hc : w.cell? ⟨g, 0, none⟩ = some (.int .u64 w0)) (hf : w.frozen? ⟨g, 0, none⟩ = false) :
    Calls Try.prog 69 #[.pointer (some ⟨g, 0, none⟩), .int .i64 r, .int .u64 d] w fun e w' => e = .returned (.tuple #[]) ∧ w' = w.setCell ⟨g, 0, none⟩ (.int .u64 ((w0 + d * 8 ^ (12 - r) : Nat) : Int)) := by
  have HV := Lib.hid (put_val h1 h2 hd hw hm)
  go_enter Try.func69, Try.ntmps69
  go_wp2
  rw [HV.out]
  go_end0
  exact ⟨rfl, rfl⟩
theorem digitOf_any (w0 r : Nat) (h1 : 1 ≤ r) (h2 : r ≤ 12) (hw : w0 < 18446744073709551616) (w : World) :
    Calls Try.prog 62 #[.int .u64 w0, .int .i64 r] w fun e w' => e = .returned (.int .u64 (dgW w0 r : Nat)) ∧ w' = w := by
  have HV : Hid (bits .and .u64 ((w0 : Int) / 2 ^ (33 - 3 * (r - 1))) 7 = ((dgW w0 r : Nat) : Int)) := by
    show _ = _
    obtain ⟨p1, p2, p3, p4⟩ := pow_place h1 h2
    have e : ((w0 : Int) / 2 ^ (33 - 3 * (r - 1))) = ((w0 / 8 ^ (12 - r) : Nat) : Int) := by rw [← p1]; simp
    have := Nat.div_le_self w0 (8 ^ (12 - r))
    rw [e, show (7 : Int) = ((7 : Nat) : Int) by rfl, bits_and_u64_nat _ _ (by omega) (by decide), nat_mask3]
    rfl
  go_enter Try.func62, Try.ntmps62
  go_wp2
  rw [HV.out]
  go_ret
  exact ⟨rfl, rfl⟩
theorem Arr.lit {w : World} {b : Nat} {f : Nat → Int} (h : w.heap[b]? = some (.cells #[.int .i64 (f 0), .int .i64 (f 1), .int .i64 (f 2), .int .i64 (f 3), .int .i64 (f 4), .int .i64 (f 5), .int .i64 (f 6), .int .i64 (f 7), .int .i64 (f 8), .int .i64 (f 9), .int .i64 (f 10), .int .i64 (f 11), .int .i64 (f 12)] 104 (0, 0))) : Arr w b f :=
  ⟨_, h, rfl, fun k hk => by
    rcases (show k = 0 ∨ k = 1 ∨ k = 2 ∨ k = 3 ∨ k = 4 ∨ k = 5 ∨ k = 6 ∨ k = 7 ∨ k = 8 ∨ k = 9 ∨ k = 10 ∨ k = 11 ∨ k = 12 by omega) with rfl | rfl | rfl | rfl | rfl | rfl | rfl | rfl | rfl | rfl | rfl | rfl | rfl <;> rfl⟩
/-- A cell's word, and the error. -/
def ofW (r : Int) (z : E2) : Nat := if okB r z = true then wordN r.toNat z else 0
def ofE (r : Int) (z : E2) : Int := if okB r z = true then 0 else 2
theorem hd_place {f : Nat → Nat} {R : Nat} {b : E2} (hf : ∀ k, f k < 8) (hR : R ≤ 12) (hb : baseB b = true) {k : Nat} (hk : k < 12) :
    (topN R b + hd f k * 8 ^ (12 - k)) < 9223372036854775808 ∧ (topN R b + hd f k * 8 ^ (12 - k)) % (8 ^ (12 - (k + 1)) * 8) = 0 ∧ topN R b + hd f k * 8 ^ (12 - k) + f (k + 1) * 8 ^ (12 - (k + 1)) = topN R b + hd f (k + 1) * 8 ^ (12 - (k + 1)) := by
  have h1 := hd_lt hf k
  have e : (8 : Nat) ^ (12 - k) = 8 ^ (12 - (k + 1)) * 8 := by rw [← Nat.pow_succ, show (12 - (k + 1)).succ = 12 - k by omega]
  have e2 : (8 : Nat) ^ k * 8 ^ (12 - k) = 68719476736 := by rw [← Nat.pow_add, show k + (12 - k) = 12 by omega]
  have h2 : hd f k * 8 ^ (12 - k) < 68719476736 := by rw [← e2]; exact (Nat.mul_lt_mul_right (Nat.pow_pos (by decide))).2 h1
  obtain ⟨_, _, _, h4, h5⟩ := topN_parts hR hb h2
  refine ⟨by omega, ?_, ?_⟩
  · have h6 : topN R b % (8 ^ (12 - (k + 1)) * 8) = 0 := by
      rw [← e]
      refine Nat.mod_eq_zero_of_dvd (Nat.dvd_trans ?_ (Nat.dvd_of_mod_eq_zero h5))
      rw [← e2]
      exact Nat.dvd_mul_left _ _
    rw [e, Nat.add_mul_mod_self_right]
    exact h6
  · show _ = topN R b + (hd f k * 8 + f (k + 1)) * 8 ^ (12 - (k + 1))
    rw [e, Nat.add_mul, Nat.mul_assoc (hd f k) 8, Nat.mul_comm 8]
    omega
theorem top_val {R : Nat} {b : E2} (hR : R ≤ 12) (hb : baseB b = true) : bits .or .u64 (bits .or .u64 (bits .or .u64 1152921504606846976 ((R : Int) * 72057594037927936)) (IntKind.u64.wrap (IntKind.u64.wrap (wrap64 (b.1 + 512)) * 70368744177664))) (IntKind.u64.wrap (IntKind.u64.wrap (wrap64 (b.2 + 512)) * 68719476736)) = ((topN R b : Nat) : Int) := by
  obtain ⟨h1, h2, h3, h4⟩ := (baseB_iff b).1 hb
  obtain ⟨A, hA⟩ : ∃ A : Nat, b.1 + 512 = A := ⟨(b.1 + 512).toNat, by omega⟩
  obtain ⟨B, hB⟩ : ∃ A : Nat, b.2 + 512 = A := ⟨(b.2 + 512).toNat, by omega⟩
  have wA : IntKind.u64.wrap (wrap64 (b.1 + 512)) = (A : Int) := by rw [hA, show wrap64 (A : Int) = A by unfold wrap64; omega, IntKind.wrap_u64]; omega
  have wB : IntKind.u64.wrap (wrap64 (b.2 + 512)) = (B : Int) := by rw [hB, show wrap64 (B : Int) = B by unfold wrap64; omega, IntKind.wrap_u64]; omega
  rw [wA, wB]
  have e1 : IntKind.u64.wrap ((A : Int) * 70368744177664) = ((A * 70368744177664 : Nat) : Int) := by rw [IntKind.wrap_u64]; omega
  have e2 : IntKind.u64.wrap ((B : Int) * 68719476736) = ((B * 68719476736 : Nat) : Int) := by rw [IntKind.wrap_u64]; omega
  have e3 : ((R : Int) * 72057594037927936) = ((R * 72057594037927936 : Nat) : Int) := by omega
  rw [e1, e2, e3, show (1152921504606846976 : Int) = ((1152921504606846976 : Nat) : Int) by rfl]
  rw [bits_or_u64_nat _ _ (by decide) (by omega), nat_join 60 _ _ (by decide) (by omega)]
  rw [bits_or_u64_nat _ _ (by omega) (by omega), nat_join 56 _ _ (by omega) (by omega)]
  rw [bits_or_u64_nat _ _ (by omega) (by omega), nat_join 46 _ _ (by omega) (by omega)]
  unfold topN
  omega
def plc (T : Nat) (D : Nat → Nat) (k : Nat) : Nat := T + hd D k * 8 ^ (12 - k)
set_option maxRecDepth 100000 in
set_option maxHeartbeats 8000000 in
theorem of_any (r : Int) (z : E2) (w : World) : Calls Try.prog 39 #[vC r z] w fun e w' => e = .returned (.tuple #[.int .u64 (ofW r z : Nat), .int .i64 (ofE r z)]) ∧ Below w.heap.size w w' := by
  have HW := Lib.hid (way_any r z)
  unfold Way at HW
  have HO : Hid (ofW r z = if okB r z = true then wordN r.toNat z else 0) := rfl
  have HE : Hid (ofE r z = if okB r z = true then 0 else 2) := rfl
  by_cases hok : okB r z = true
  · obtain ⟨R, rfl, hR⟩ := okB_nat hok
    have HBB := Lib.hid (okB_parts hok).2
    simp only [hok, if_pos] at HO HE HW
    rw [HO.out, HE.out]
    have HSZ : Hid (wordN (R : Int).toNat z = plc (topN R (upN R z)) (dgt R z) 12) := by show _ = _; unfold plc; rw [Nat.sub_self, Nat.pow_zero, Nat.mul_one]; rfl
    rw [HSZ.out]
    clear hok HO HE HSZ
    simp only [vC] at *
    go_enter Try.func39, Try.ntmps39
    go_wp2_with fail
    refine (HW.out _).mono ?_
    rintro e w1 ⟨b, f, rfl, hbf, hb⟩
    obtain ⟨rfl, hff⟩ := hbf trivial
    have HF := Lib.hid hff
    have hz1 := hb.size
    simp at hz1
    have hr := hb.block w.heap.size (by simp)
    rw [heap_new _ _ _ rfl] at hr
    have c0 : w1.cell? ⟨w.heap.size, 0, none⟩ = some (.int .i64 R) := cell_of_row _ _ 0 _ _ _ hr
    have hB : Hid (Below w.heap.size w w1) := ((Below.refl _ _).alloc (Nat.le_refl _) _).trans (hb.mono (by simp))
    simp only [vE] at *
    rw [show (R : Int).toNat = R from rfl] at *
    clear hbf hff hb HW
    go_upto_region 2 with (fail)
    have k1 := World.size_alloc w1 (.cells #[.int .i64 (upN R z).1, .int .i64 (upN R z).2] 27)
    have k2 := World.size_alloc (w1.alloc (.cells #[.int .i64 (upN R z).1, .int .i64 (upN R z).2] 27)) (.cells #[.int .i64 (f 0), .int .i64 (f 1), .int .i64 (f 2), .int .i64 (f 3), .int .i64 (f 4), .int .i64 (f 5), .int .i64 (f 6), .int .i64 (f 7), .int .i64 (f 8), .int .i64 (f 9), .int .i64 (f 10), .int .i64 (f 11), .int .i64 (f 12)] 104)
    have hal : Below w1.heap.size w1 ((w1.alloc (.cells #[.int .i64 (upN R z).1, .int .i64 (upN R z).2] 27)).alloc (.cells #[.int .i64 (f 0), .int .i64 (f 1), .int .i64 (f 2), .int .i64 (f 3), .int .i64 (f 4), .int .i64 (f 5), .int .i64 (f 6), .int .i64 (f 7), .int .i64 (f 8), .int .i64 (f 9), .int .i64 (f 10), .int .i64 (f 11), .int .i64 (f 12)] 104)) := ((Below.refl _ _).alloc (Nat.le_refl _) _).alloc (by omega) _
    have HBW : Hid (Below w.heap.size w ((w1.alloc (.cells #[.int .i64 (upN R z).1, .int .i64 (upN R z).2] 27)).alloc (.cells #[.int .i64 (f 0), .int .i64 (f 1), .int .i64 (f 2), .int .i64 (f 3), .int .i64 (f 4), .int .i64 (f 5), .int .i64 (f 6), .int .i64 (f 7), .int .i64 (f 8), .int .i64 (f 9), .int .i64 (f 10), .int .i64 (f 11), .int .i64 (f 12)] 104))) := hB.out.trans (hal.mono (by omega))
    have C0 : Hid (((w1.alloc (.cells #[.int .i64 (upN R z).1, .int .i64 (upN R z).2] 27)).alloc (.cells #[.int .i64 (f 0), .int .i64 (f 1), .int .i64 (f 2), .int .i64 (f 3), .int .i64 (f 4), .int .i64 (f 5), .int .i64 (f 6), .int .i64 (f 7), .int .i64 (f 8), .int .i64 (f 9), .int .i64 (f 10), .int .i64 (f 11), .int .i64 (f 12)] 104)).cell? ⟨w.heap.size, 0, none⟩ = some (.int .i64 R)) := (hal.cell (p := ⟨w.heap.size, 0, none⟩) (by show w.heap.size < w1.heap.size; omega)).trans c0
    have E0 : Hid (Two ((w1.alloc (.cells #[.int .i64 (upN R z).1, .int .i64 (upN R z).2] 27)).alloc (.cells #[.int .i64 (f 0), .int .i64 (f 1), .int .i64 (f 2), .int .i64 (f 3), .int .i64 (f 4), .int .i64 (f 5), .int .i64 (f 6), .int .i64 (f 7), .int .i64 (f 8), .int .i64 (f 9), .int .i64 (f 10), .int .i64 (f 11), .int .i64 (f 12)] 104)) w1.heap.size (.int .i64 (upN R z).1) (.int .i64 (upN R z).2)) := (Two.of_row (t := 27) (f := _) (heap_new _ _ _ rfl)).alloc (by omega) _
    have A0 : Hid (Arr ((w1.alloc (.cells #[.int .i64 (upN R z).1, .int .i64 (upN R z).2] 27)).alloc (.cells #[.int .i64 (f 0), .int .i64 (f 1), .int .i64 (f 2), .int .i64 (f 3), .int .i64 (f 4), .int .i64 (f 5), .int .i64 (f 6), .int .i64 (f 7), .int .i64 (f 8), .int .i64 (f 9), .int .i64 (f 10), .int .i64 (f 11), .int .i64 (f 12)] 104)) (w1.heap.size + 1) f) := Arr.lit (heap_new _ _ _ (by omega))
    have hwe : w.heap.size < w1.heap.size := by omega
    clear hal hB c0 hr hz1
    generalize (w1.alloc (.cells #[.int .i64 (upN R z).1, .int .i64 (upN R z).2] 27)).alloc (.cells #[.int .i64 (f 0), .int .i64 (f 1), .int .i64 (f 2), .int .i64 (f 3), .int .i64 (f 4), .int .i64 (f 5), .int .i64 (f 6), .int .i64 (f 7), .int .i64 (f 8), .int .i64 (f 9), .int .i64 (f 10), .int .i64 (f 11), .int .i64 (f 12)] 104) = w2 at *
    obtain ⟨eb, heb⟩ : ∃ eb, w1.heap.size = eb := ⟨_, rfl⟩
    rw [heb] at E0 A0 hwe k1 ⊢
    have hw2 : w2.heap.size = eb + 2 := by omega
    clear heb k1 k2
    obtain ⟨e0, e1⟩ := E0.out
    have c0 := C0.out
    go_upto_region 5 with (fail)
    have TV := Lib.hid (top_val hR HBB.out)
    rw [TV.out]
    have HT0 : Hid (plc (topN R (upN R z)) (dgt R z) 0 = topN R (upN R z)) := by show _ = _; unfold plc; rw [show hd (dgt R z) 0 = 0 from rfl, Nat.zero_mul, Nat.add_zero]
    have hal : Below w2.heap.size w2 (w2.alloc (.cells #[.int .u64 (topN R (upN R z) : Nat)] 109)) := (Below.refl _ _).alloc (Nat.le_refl _) _
    have k1 := World.size_alloc w2 (.cells #[.int .u64 (topN R (upN R z) : Nat)] 109)
    have hr := heap_new w2 (.cells #[.int .u64 (topN R (upN R z) : Nat)] 109) (eb + 2) hw2
    have X0 : Hid (((w2.alloc (.cells #[.int .u64 (topN R (upN R z) : Nat)] 109)).cell? ⟨eb + 2, 0, none⟩ = some (.int .u64 ((plc (topN R (upN R z)) (dgt R z) 0 : Nat) : Int))) ∧ (w2.alloc (.cells #[.int .u64 (topN R (upN R z) : Nat)] 109)).frozen? ⟨eb + 2, 0, none⟩ = false) := ⟨by rw [HT0.out]; exact cell_of_row _ _ 0 _ _ _ hr, frozen_of_row _ _ _ _ _ hr⟩
    have HBW3 := Lib.hid (HBW.out.trans (hal.mono (by omega)))
    have C1 : Hid ((w2.alloc (.cells #[.int .u64 (topN R (upN R z) : Nat)] 109)).cell? ⟨w.heap.size, 0, none⟩ = some (.int .i64 R)) := (hal.cell (p := ⟨w.heap.size, 0, none⟩) (by show w.heap.size < w2.heap.size; omega)).trans c0
    have A1 := Lib.hid (A0.out.later hal)
    clear hal hr HT0 A0 C0 c0 e0 e1 E0 HBW TV
    generalize w2.alloc (.cells #[.int .u64 (topN R (upN R z) : Nat)] 109) = w3 at *
    have hw3 : w3.heap.size = eb + 3 := by omega
    clear k1 hw2
    have HPL := Lib.hid (fun k (hk : k < 12) => hd_place (f := dgt R z) (dgt_lt R z) hR HBB.out hk)
    have HDG : Hid (∀ k, 0 < k → k ≤ R → f k = (dgt R z k : Int)) := fun k h0 h1 => by rw [HF.out k h0 h1]; unfold dgt; rw [if_pos h1]
    have HD7 : Hid (∀ k, R < k → dgt R z k = 7) := fun k h => by unfold dgt; rw [if_neg (by omega)]
    have HDL := Lib.hid (dgt_lt R z)
    obtain ⟨D, hD⟩ : ∃ D, dgt R z = D := ⟨_, rfl⟩
    obtain ⟨T, hT⟩ : ∃ T, topN R (upN R z) = T := ⟨_, rfl⟩
    have HEQ : Hid (plc (topN R (upN R z)) (dgt R z) 12 = plc T D 12) := by show _ = _; rw [hD, hT]
    rw [hD] at HPL HDG HD7 HDL X0
    rw [hT] at HPL X0
    clear hD hT
    clear HF HBB
    go_wp2
    go_loopw [9] (fun i wr => ∃ k : Nat, k ≤ 12 ∧ i = .int .i64 (k + 1 : Nat) ∧ Hid ((wr.cell? ⟨eb + 2, 0, none⟩ = some (.int .u64 ((plc T D k : Nat) : Int)) ∧ wr.frozen? ⟨eb + 2, 0, none⟩ = false) ∧ Turn (fun q => q = eb + 2) w3 wr)) (fun i _ => 13 - (intOf i).toNat)
    case atStart => exact ⟨0, by omega, rfl, X0.out, Turn.refl _ _⟩
    case round =>
      obtain ⟨k, hk, rfl, HI⟩ := hrel
      obtain ⟨⟨x0, x1⟩, ht⟩ := HI.out
      have hsz := ht.2.2.2.1
      have c0 : wr.cell? ⟨w.heap.size, 0, none⟩ = some (.int .i64 R) := (ht.cell (p := ⟨w.heap.size, 0, none⟩) (by show w.heap.size < w3.heap.size; omega) (by show ¬ w.heap.size = eb + 2; omega)).trans C1.out
      have HBR : Hid (Below w.heap.size w wr) := HBW3.out.trans (ht.below (by omega) fun q hq e => by omega)
      have HA := Lib.hid (A1.out.turn ht (by omega))
      have HT := Lib.hid ht
      clear ht HI
      by_cases hk12 : k < 12
      · obtain ⟨p1, p2, p3⟩ := HPL.out k hk12
        have q1 : decide (((k + 1 : Nat) : Int) ≤ 12) = true := decide_eq_true (by omega)
        have HPUT := Lib.hid (fun (d : Nat) (hd8 : d < 8) (wy : World) => put_any (eb + 2) (plc T D k) d (k + 1) (by omega) (by omega) hd8 p1 p2 wy)
        have HP3 : Hid (plc T D k + D (k + 1) * 8 ^ (12 - (k + 1)) = plc T D (k + 1)) := p3
        clear p1 p2 p3
        by_cases hkr : R < k + 1
        · have q2 : decide ((R : Int) < ((k + 1 : Nat) : Int)) = true := decide_eq_true (by omega)
          have h7 := HD7.out (k + 1) hkr
          have HP4 : Hid (plc T D k + 7 * 8 ^ (12 - (k + 1)) = plc T D (k + 1)) := by show _ = _; rw [← HP3.out, h7]
          clear h7
          have HN : Hid (((wr.setCell ⟨eb + 2, 0, none⟩ (.int .u64 (plc T D (k + 1) : Nat))).cell? ⟨eb + 2, 0, none⟩ = some (.int .u64 ((plc T D (k + 1) : Nat) : Int)) ∧ (wr.setCell ⟨eb + 2, 0, none⟩ (.int .u64 (plc T D (k + 1) : Nat))).frozen? ⟨eb + 2, 0, none⟩ = false) ∧ Turn (fun q => q = eb + 2) w3 (wr.setCell ⟨eb + 2, 0, none⟩ (.int .u64 (plc T D (k + 1) : Nat)))) := ⟨⟨World.cell?_setCell_same _ _ _ x0, by simpa using x1⟩, HT.out.setCell rfl _⟩
          go_wp2_with fail
          have hput := HPUT.out 7 (by decide) wr x0 x1
          rw [HP4.out] at hput
          refine hput.mono ?_
          rintro e w4 ⟨rfl, rfl⟩
          go_wp2
          go_roundw
          case rel => exact ⟨k + 1, by omega, by go_num, HN.out⟩
          case measure => simp [intOf]; omega
        · have q2 : decide ((R : Int) < ((k + 1 : Nat) : Int)) = false := decide_eq_false (by omega)
          have a0 := (HA.out.cell (k := k + 1) (by omega)).1
          rw [HDG.out (k + 1) (by omega) (by omega)] at a0
          have hd8 := HDL.out (k + 1)
          have hal : eb + 1 < wr.heap.size := by omega
          have HN : Hid (((wr.setCell ⟨eb + 2, 0, none⟩ (.int .u64 (plc T D (k + 1) : Nat))).cell? ⟨eb + 2, 0, none⟩ = some (.int .u64 ((plc T D (k + 1) : Nat) : Int)) ∧ (wr.setCell ⟨eb + 2, 0, none⟩ (.int .u64 (plc T D (k + 1) : Nat))).frozen? ⟨eb + 2, 0, none⟩ = false) ∧ Turn (fun q => q = eb + 2) w3 (wr.setCell ⟨eb + 2, 0, none⟩ (.int .u64 (plc T D (k + 1) : Nat)))) := ⟨⟨World.cell?_setCell_same _ _ _ x0, by simpa using x1⟩, HT.out.setCell rfl _⟩
          generalize D (k + 1) = dd at *
          go_wp2_with fail
          have hput := HPUT.out dd hd8 wr x0 x1
          rw [HP3.out] at hput
          refine hput.mono ?_
          rintro e w4 ⟨rfl, rfl⟩
          go_wp2
          go_roundw
          case rel => exact ⟨k + 1, by omega, by go_num, HN.out⟩
          case measure => simp [intOf]; omega
      · obtain rfl : k = 12 := by omega
        go_wp2
        go_ret2
        exact ⟨by rw [HEQ.out]; rfl, HBR.out⟩
  · have hok0 : okB r z = false := by simpa using hok
    rw [hok0] at HW
    simp only [hok0, Bool.false_eq_true, if_false] at HO HE
    rw [HO.out, HE.out]
    clear hok hok0 HO HE
    simp only [vC] at *
    go_enter Try.func39, Try.ntmps39
    go_wp2_with fail
    refine (HW.out _).mono ?_
    rintro e w1 ⟨b, f, rfl, -, hb⟩
    have HB : Hid (Below w.heap.size w w1) := ((Below.refl _ _).alloc (Nat.le_refl _) _).trans (hb.mono (by simp))
    have hz := HB.out.size
    clear hb HW
    go_wp2
    go_ret2
    exact ⟨rfl, (HB.out.alloc hz _).alloc (by simp; omega) _⟩
end Go.Proofs.Ytkjfdaleamonaaa
