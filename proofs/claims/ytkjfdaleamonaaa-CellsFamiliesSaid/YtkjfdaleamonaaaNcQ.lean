/- Contracts of apiarylaw4.Some and apiarylaw5.Word at any numbers. -/
import Derived.Test.YtkjfdaleamonaaaNfJ
import Derived.Test.YtkjfdaleamonaaaNcM
namespace Go.Proofs.Ytkjfdaleamonaaa
open Go.RowKit Go.Lib Wd

/-- The digits that a number tells; the base cell. -/
def digS (y : Int) (i : Nat) : Nat := (y / 2 ^ (3 * i + 1) % 64 % 7).toNat
def baseS (x : Int) : E2 := (x % 1024 - 512, x / 1024 % 1024 - 512)
def downS (y : Int) (b : E2) : Nat → E2
  | 0 => b
  | i + 1 => downE (downS y b i) (digS y i)
def someE (x y : Int) (r : Nat) : E2 := if y % 2 = 0 then nearE (x % 1073741824) (y % 1073741824) r else downS y (baseS x) r
theorem digS_lt (y : Int) (i : Nat) : digS y i < 7 := by unfold digS; omega
theorem downS_ok (y x : Int) : ∀ i : Nat, i ≤ 12 → okB i (downS y (baseS x) i) = true
  | 0, _ => by
    refine ok_of_base (r := 0) (by omega) ?_
    show baseB (baseS x) = true
    rw [baseB_iff]
    unfold baseS
    simp only
    omega
  | i + 1, h => kid_ok (downS_ok y x i (by omega)) h (digS_lt y i)
theorem some_ok (x y : Int) {r : Nat} (hr : r ≤ 12) : okB r (someE x y r) = true := by
  unfold someE
  split
  · exact near_ok0 (by omega) (by omega) hr
  · exact downS_ok y x r hr
set_option maxRecDepth 100000 in
set_option maxHeartbeats 4000000 in
theorem some_any (x y r : Int) (w : World) : Calls Try.prog 13 #[.int .i64 x, .int .i64 y, .int .i64 r] w fun e w' => e = .returned (vC (r % 13) (someE x y (r % 13).toNat)) ∧ Below w.heap.size w w' := by
  by_cases hy : y % 2 = 0
  · have h := some_even x y r hy w
    rw [show nearE (x % 1073741824) (y % 1073741824) (r % 13).toNat = someE x y (r % 13).toNat by unfold someE; rw [if_pos hy]] at h
    exact h
  · have hE : someE x y (r % 13).toNat = downS y (baseS x) (r % 13).toNat := by unfold someE; rw [if_neg hy]
    have e1 : bits BinOp.and IntKind.i64 y 1 = 1 := by rw [i64_and_mask y 1 (by omega) 1 rfl]; omega
    have e2 : bits BinOp.and IntKind.i64 x 1023 = x % 1024 := i64_and_mask x 10 (by omega) 1023 rfl
    have e3 : bits BinOp.and IntKind.i64 (x / 1024) 1023 = x / 1024 % 1024 := i64_and_mask (x / 1024) 10 (by omega) 1023 rfl
    obtain ⟨hr2, hr1⟩ := rem13 r
    have hR : r % 13 = ((r % 13).toNat : Int) := by omega
    have hR2 : (r % 13).toNat ≤ 12 := by omega
    rw [hE]
    generalize (r % 13).toNat = R at *
    rw [hR] at hr1 ⊢
    obtain ⟨s, hs⟩ : ∃ s, r.tmod 13 = s := ⟨_, rfl⟩
    rw [hs] at hr1 hr2
    obtain ⟨hr3, hr4⟩ := hr2
    have HKI : Hid (∀ i : Nat, i < 12 → ∀ w, Calls Try.prog 6 #[vC i (downS y (baseS x) i)] w (ToldC w (kidsL i (downS y (baseS x) i)) 0)) := fun i hi w => by
      have h := rkids_any i (downS y (baseS x) i) w
      obtain ⟨d1, d2⟩ := kd_ok (downS_ok y x i (by omega)) (by omega)
      rw [d1, d2] at h
      exact h
    have HGT : Hid (∀ i : Nat, cg (kidsL i (downS y (baseS x) i)) (digS y i) = (((i + 1 : Nat) : Int), downS y (baseS x) (i + 1))) := fun i => by rw [kidsL_get _ _ (digS_lt y i)]; rfl
    have HLN : Hid (∀ (i : Nat) z, (kidsL i z).length = 7) := fun i z => by unfold kidsL; simp
    have HDG : Hid (∀ i : Nat, i < 12 → bits BinOp.and IntKind.i64 (y / 2 ^ (3 * i + 1)) 63 = y / 2 ^ (3 * i + 1) % 64 ∧ (y / 2 ^ (3 * i + 1) % 64).tmod 7 = (digS y i : Int) ∧ digS y i < 7) := fun i _ => by
      refine ⟨i64_and_mask _ 6 (by omega) 63 rfl, ?_, digS_lt y i⟩
      rw [Int.tmod_eq_emod_of_nonneg (Int.emod_nonneg _ (by omega))]
      unfold digS
      omega
    have HD0 : Hid (downS y (baseS x) 0 = (x % 1024 - 512, x / 1024 % 1024 - 512)) := rfl
    obtain ⟨S, hS⟩ : ∃ S, downS y (baseS x) = S := ⟨_, rfl⟩
    rw [hS] at HKI HGT HD0 ⊢
    clear hR hy hE hS
    have m1 : x % 1024 < 1024 := Int.emod_lt_of_pos _ (by omega)
    have m2 : x / 1024 % 1024 < 1024 := Int.emod_lt_of_pos _ (by omega)
    have m3 : 0 ≤ x % 1024 := Int.emod_nonneg _ (by omega)
    have m4 : 0 ≤ x / 1024 % 1024 := Int.emod_nonneg _ (by omega)
    generalize x / 1024 % 1024 = b at *
    generalize x % 1024 = a at *
    simp only [vC] at *
    go_enter Try.func13, Try.ntmps13
    have k2 : ((w.alloc (.cells #[.int .i64 0, .int .i64 0, .int .i64 0] 29)).alloc (.cells #[.int .i64 0, .int .i64 (a - 512), .int .i64 (b - 512)] 29)).heap.size = w.heap.size + 2 := by simp
    have T0 : Hid (Tri ((w.alloc (.cells #[.int .i64 0, .int .i64 0, .int .i64 0] 29)).alloc (.cells #[.int .i64 0, .int .i64 (a - 512), .int .i64 (b - 512)] 29)) w.heap.size 0 (0, 0)) := by
      show _ = _
      rw [Below.heap_alloc _ _ _ (by simp)]
      exact heap_new _ _ _ rfl
    have C0 : Hid (Tri ((w.alloc (.cells #[.int .i64 0, .int .i64 0, .int .i64 0] 29)).alloc (.cells #[.int .i64 0, .int .i64 (a - 512), .int .i64 (b - 512)] 29)) (w.heap.size + 1) 0 (S 0)) := by rw [HD0.out]; exact heap_new _ _ _ (by simp)
    have HB0 : Hid (Below w.heap.size w ((w.alloc (.cells #[.int .i64 0, .int .i64 0, .int .i64 0] 29)).alloc (.cells #[.int .i64 0, .int .i64 (a - 512), .int .i64 (b - 512)] 29))) := ((Below.refl _ _).alloc (Nat.le_refl _) _).alloc (by simp) _
    go_upto_region 7 with (fail)
    generalize (w.alloc (.cells #[.int .i64 0, .int .i64 0, .int .i64 0] 29)).alloc (.cells #[.int .i64 0, .int .i64 (a - 512), .int .i64 (b - 512)] 29) = w2 at *
    have k3 : w.heap.size + 2 ≤ w2.heap.size := by omega
    clear k2 e2 e3 m1 m2 m3 m4 HD0
    go_wp2
    go_loopw [10] (fun i wr => ∃ k : Nat, k ≤ R ∧ i = .int .i64 k ∧ Hid (Tri wr (w.heap.size + 1) k (S k) ∧ Turn (fun q => q = w.heap.size + 1) w2 wr)) (fun i _ => R - (intOf i).toNat)
    case atStart => exact ⟨0, by omega, rfl, C0.out, Turn.refl _ _⟩
    case round =>
      obtain ⟨k, hk, rfl, HI⟩ := hrel
      have hTri := HI.out.1
      have hturn := HI.out.2
      have hsz := hturn.2.2.2.1
      have HT := Lib.hid (T0.out.turn hturn (by omega))
      have HBR : Hid (Below w.heap.size w wr) := HB0.out.trans (hturn.below (by omega) fun q hq e => by omega)
      have HTU := Lib.hid hturn
      have HTR := Lib.hid hTri
      clear hTri hturn HI
      by_cases hlt : k < R
      · have HK := Lib.hid (HKI.out k (by omega))
        obtain ⟨g1, g2, g3⟩ := HDG.out k (by omega)
        have HG := Lib.hid (HGT.out k)
        have HL7 := Lib.hid (HLN.out k (S k))
        generalize kidsL (k : Int) (S k) = L at *
        generalize digS y k = d at *
        generalize S k = z at *
        obtain ⟨z2, hz2⟩ : ∃ z2, S (k + 1) = z2 := ⟨_, rfl⟩
        rw [hz2] at HG
        have HZ2 := Lib.hid hz2
        clear hz2
        obtain ⟨c0, c1, c2, c3, c4, c5, c6⟩ := HTR.out.cells
        go_wp2_with fail
        refine (HK.out _).mono ?_
        rintro e w4 ⟨ao, c, rfl, h4, hb4⟩
        have HTR2 := Lib.hid (HTR.out.later hb4)
        have HTU2 : Hid (Turn (fun q => q = w.heap.size + 1) w2 w4) := HTU.out.trans (Turn.of_below hb4) fun _ _ h => h
        obtain ⟨g, off, rfl, hg, hc⟩ := h4 (by rw [HL7.out]; omega)
        obtain ⟨v0, v1, v2⟩ := hc d (by rw [HL7.out]; exact g3)
        rw [HG.out] at v0 v1 v2
        simp only at v0 v1 v2
        rw [HL7.out]
        clear c0 c1 c2 c3 c4 c5 c6 hb4 h4 hc HTR HTU HT HBR
        obtain ⟨c0, c1, c2, c3, c4, c5, c6⟩ := HTR2.out.cells
        have hput := HTR2.out.put ((k + 1 : Nat) : Int) z2
        have HF : Hid (Tri (((w4.setCell ⟨w.heap.size + 1, 0, none⟩ (.int .i64 ((k + 1 : Nat) : Int))).setCell ⟨w.heap.size + 1, 1, none⟩ (.int .i64 z2.1)).setCell ⟨w.heap.size + 1, 2, none⟩ (.int .i64 z2.2)) (w.heap.size + 1) ((k + 1 : Nat) : Int) (S (k + 1)) ∧ Turn (fun q => q = w.heap.size + 1) w2 (((w4.setCell ⟨w.heap.size + 1, 0, none⟩ (.int .i64 ((k + 1 : Nat) : Int))).setCell ⟨w.heap.size + 1, 1, none⟩ (.int .i64 z2.1)).setCell ⟨w.heap.size + 1, 2, none⟩ (.int .i64 z2.2))) := ⟨by rw [HZ2.out]; exact hput.1, (HTU2.out).trans hput.2 fun _ _ h => h⟩
        clear hput
        go_wp2
        go_roundw
        case rel => exact ⟨k + 1, by omega, by go_num, HF.out⟩
        case measure => simp [intOf]; omega
      · obtain rfl : k = R := by omega
        obtain ⟨c0, c1, c2, c3, c4, c5, c6⟩ := HTR.out.cells
        obtain ⟨t0, t1, t2, t3, t4, t5, t6⟩ := HT.out.cells
        clear HTR HT HGT HKI HDG
        go_wp2
        exact bodyPost_ret (v := .agg #[.int .i64 k, .int .i64 (S k).1, .int .i64 (S k).2]) (by simp [results, Try.results13, go_sem, *]) rfl ⟨rfl, ((HBR.out.setCell (p := ⟨w.heap.size, 0, none⟩) (Nat.le_refl _) _).setCell (p := ⟨w.heap.size, 1, none⟩) (Nat.le_refl _) _).setCell (p := ⟨w.heap.size, 2, none⟩) (Nat.le_refl _) _⟩
theorem lword_any (x y r : Int) (w : World) : Calls Try.prog 4 #[.int .i64 x, .int .i64 y, .int .i64 r] w fun e w' => e = .returned (.int .u64 (ofW (r % 13) (someE x y (r % 13).toNat) : Nat)) ∧ Below w.heap.size w w' := by
  have HS := Lib.hid (some_any x y r)
  have HWD := Lib.hid (word_any (r % 13) (someE x y (r % 13).toNat))
  generalize someE x y (r % 13).toNat = z at *
  generalize r % 13 = R at *
  simp only [vC] at *
  generalize ofW R z = v at *
  generalize ofE R z = v2 at *
  go_enter Try.func4, Try.ntmps4
  go_wp2_with fail
  refine (HS.out _).mono ?_
  rintro e w1 ⟨rfl, hb1⟩
  go_wp2_with fail
  refine (HWD.out _).mono ?_
  rintro e w2 ⟨rfl, hb2⟩
  have HQ : Hid (Below w.heap.size w w2) := hb1.trans (hb2.mono hb1.size)
  clear hb1 hb2
  go_wp2
  exact bodyPost_ret (v := .int .u64 v) (by simp [results, Try.results4, go_sem]) rfl ⟨rfl, HQ.out⟩
end Go.Proofs.Ytkjfdaleamonaaa
