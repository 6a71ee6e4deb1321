/- The walk of the law FillBoxes. -/
import Derived.Test.YtpkoapmpknbgoaaGreatPackAK
import Derived.Lib.MinMax
namespace Go.Proofs.YtpkoapmpknbgoaaGreat.fillBoxes
open Go.RowKit Go.Lib Wd Cv

theorem mod_part (x i s : Int) (hx : 0 ≤ x ∧ x < 1073741824) (hi : 0 ≤ i) (hs : 52 ≤ s) : ∃ A, i.tmod (7 * s) = A ∧ 0 ≤ A ∧ A < 7 * s ∧ ((7 * s : Int) == 0) = false ∧ x ≤ min (x + A) 1073741823 ∧ min (x + A) 1073741823 < 1073741824 ∧ min (x + A) 1073741823 - x < 7 * s := by
  have h1 := Int.emod_nonneg i (show 7 * s ≠ 0 by omega)
  have h2 := Int.emod_lt_of_pos i (show 0 < 7 * s by omega)
  rw [Int.tmod_eq_emod_of_nonneg hi]
  exact ⟨_, rfl, h1, h2, by simp; omega, by omega, by omega, by omega⟩
set_option maxRecDepth 100000 in
set_option maxHeartbeats 8000000 in
theorem walk {w : World} (a0 : Int) (_w0 : (Lit.int .i64 a0).wf = true) (a1 : Int) (_w1 : (Lit.int .i64 a1).wf = true) (a2 : Int) (_w2 : (Lit.int .i64 a2).wf = true) (a3 : Int) (_w3 : (Lit.int .i64 a3).wf = true) (a4 : Int) (_w4 : (Lit.int .i64 a4).wf = true) :
    Calls Tryz.prog 3 #[.int .i64 a0, .int .i64 a1, .int .i64 a2, .int .i64 a3, .int .i64 a4] w fun e w' => e = .returned (.bool true) ∧ Below w.heap.size w w' := by
  have e0 : bits BinOp.and IntKind.i64 a0 1073741823 = a0 % 1073741824 := i64_and_mask a0 30 (by omega) 1073741823 rfl
  have e1 : bits BinOp.and IntKind.i64 a1 1073741823 = a1 % 1073741824 := i64_and_mask a1 30 (by omega) 1073741823 rfl
  have e2 : bits BinOp.and IntKind.i64 a2 4294967295 = a2 % 4294967296 := i64_and_mask a2 32 (by omega) 4294967295 rfl
  have e3 : bits BinOp.and IntKind.i64 a3 4294967295 = a3 % 4294967296 := i64_and_mask a3 32 (by omega) 4294967295 rfl
  obtain ⟨s0, R, q1, q2, q3, q4, hR, -⟩ := res_of a4
  have hx : 0 ≤ a0 % 1073741824 ∧ a0 % 1073741824 < 1073741824 := by omega
  have hy : 0 ≤ a1 % 1073741824 ∧ a1 % 1073741824 < 1073741824 := by omega
  have hW : 0 ≤ a2 % 4294967296 ∧ a2 % 4294967296 < 4294967296 := by omega
  have hH : 0 ≤ a3 % 4294967296 ∧ a3 % 4294967296 < 4294967296 := by omega
  have HAW := Lib.hid awake11_any
  generalize a0 % 1073741824 = x at *
  generalize a1 % 1073741824 = y at *
  generalize a2 % 4294967296 = W at *
  generalize a3 % 4294967296 = H at *
  go_enter Tryz.func3, Tryz.ntmps3
  go_upto_region 5 with (fail)
  go_loopw [11, 12] (fun sv iv wr => ∃ (i : Nat) (s : Int), R ≤ i ∧ i ≤ 12 ∧ sv = .int .i64 s ∧ iv = .int .i64 i ∧ wr = w ∧ Hid (s = sizeN (i - R))) (fun _ iv _ => 12 - (intOf iv).toNat)
  case atStart => exact ⟨R, 52, Nat.le_refl _, hR, rfl, rfl, rfl, by show _ = _; rw [Nat.sub_self]; rfl⟩
  case round =>
    obtain ⟨i, s, hRi, hi12, rfl, rfl, rfl, HS⟩ := hrel
    obtain ⟨s1, s2⟩ := sizeN_pos (m := i - R) (by omega)
    rw [← HS.out] at s1 s2
    by_cases hlt : i < 12
    · have hN : Hid (s * 8 / 3 = sizeN (i + 1 - R)) := by
        show _ = _
        rw [show i + 1 - R = (i - R) + 1 by omega, HS.out]; rfl
      have hi0 : (i : Int) < 12 := by omega
      clear HS
      go_wp2
      refine ⟨⟨i + 1, s * 8 / 3, by omega, by omega, rfl, by rw [show ((i + 1 : Nat) : Int) = (i : Int) + 1 by omega], trivial, hN.out⟩, by simp [intOf]; omega⟩
    · obtain rfl : i = 12 := by omega
      obtain ⟨A, t1, m1, m2, z1, u1, u2, u3⟩ := mod_part x W s hx hW.1 s1
      obtain ⟨B, t2, m3, m4, _, v1, v2, v3⟩ := mod_part y H s hy hH.1 s1
      have HU : Hid (∃ U, min (x + A) 1073741823 = U ∧ x ≤ U ∧ U < 1073741824 ∧ U - x < 7 * sizeN (12 - R)) := ⟨_, rfl, u1, u2, by rw [← HS.out]; exact u3⟩
      have HV : Hid (∃ V, min (y + B) 1073741823 = V ∧ y ≤ V ∧ V < 1073741824 ∧ V - y < 7 * sizeN (12 - R)) := ⟨_, rfl, v1, v2, by rw [← HS.out]; exact v3⟩
      clear u1 u2 u3 v1 v2 v3 hRi HS
      go_upto_region 8 with (fail)
      go_region
      obtain ⟨U, hU, u1, u2, u3⟩ := HU.out
      obtain ⟨V, hV, v1, v2, v3⟩ := HV.out
      rw [hU, hV]
      have HB0 : Hid (Below wr.heap.size wr wr.drew) := (Below.refl _ _).drew
      generalize wr.drew = w1 at *
      have hwu : 0 ≤ U ∧ U < 1073741824 := by omega
      have hwv : 0 ≤ V ∧ V < 1073741824 := by omega
      have hwx : worldB (x, y).1 (x, y).2 = true := (worldB_iff _ _).2 ⟨hx, hy⟩
      have hwq : worldB (U, V).1 (U, V).2 = true := (worldB_iff _ _).2 ⟨hwu, hwv⟩
      have hch : chE (x, y) (U, V) R = 0 := ch_in hR hwx hwq u1 v1
      obtain ⟨⟨b1, b2⟩, b3, b4⟩ := qd_box hx hy hwu hwv u1 v1
      have hf1 : ∀ W : World, Calls Tryz.prog 8 #[.slice (some ⟨W.heap.size + 1, 0, none⟩) 1 1, .int .i64 R] ((W.alloc (.cells #[.int .i64 x, .int .i64 y, .int .i64 U, .int .i64 y, .int .i64 U, .int .i64 V, .int .i64 x, .int .i64 V] 26)).alloc (.cells #[.slice (some ⟨W.heap.size, 0, none⟩) 4 4] 27)) fun e w' => ∃ L ao c n, IsCen R (x, y) (U, V) L ∧ e = .returned (.tuple #[.slice ao n c, .int .i64 0]) ∧ LAt w' ao n c L ∧ Below W.heap.size W w' := fun W => by
        have hrg := rgAt_lit W (Po.qd x y U V) (by simp [Po.qd]) 4
        refine (fill_few (c := 1) (by simp only [World.size_alloc]; exact Nat.le_refl _) hrg.1 (Po.qd_ok hx hy hwu hwv) (by rw [b1, b2]; exact hch) (by rw [b1, b2]; dsimp only; omega) (by rw [b1, b2]; dsimp only; omega)).mono ?_
        rintro e w' ⟨L, ao, c, n, hL, rfl, hn, ho, hb⟩
        exact ⟨L, ao, c, n, fil_box hx hy hwu hwv u1 v1 (.inl hL), rfl, LAt.of_own hn ho, hrg.2.trans (hb.mono hrg.2.size)⟩
      have hf2 : ∀ W : World, Calls Tryz.prog 8 #[.slice (some ⟨W.heap.size + 1, 0, none⟩) 1 1, .int .i64 R] ((W.alloc (.cells #[.int .i64 x, .int .i64 V, .int .i64 U, .int .i64 V, .int .i64 U, .int .i64 y, .int .i64 x, .int .i64 y] 26)).alloc (.cells #[.slice (some ⟨W.heap.size, 0, none⟩) 4 4] 27)) fun e w' => ∃ L ao c n, IsCen R (x, y) (U, V) L ∧ e = .returned (.tuple #[.slice ao n c, .int .i64 0]) ∧ LAt w' ao n c L ∧ Below W.heap.size W w' := fun W => by
        have hrg := rgAt_lit W (Po.qr x y U V) (by simp [Po.qr]) 4
        refine (fill_few (c := 1) (by simp only [World.size_alloc]; exact Nat.le_refl _) hrg.1 (Po.qr_ok hx hy hwu hwv) (by rw [b3, b4]; exact hch) (by rw [b3, b4]; dsimp only; omega) (by rw [b3, b4]; dsimp only; omega)).mono ?_
        rintro e w' ⟨L, ao, c, n, hL, rfl, hn, ho, hb⟩
        exact ⟨L, ao, c, n, fil_box hx hy hwu hwv u1 v1 (.inr hL), rfl, LAt.of_own hn ho, hrg.2.trans (hb.mono hrg.2.size)⟩
      have hc2 : ∀ W : World, Calls Tryz.prog 9 #[.agg #[.int .i64 x, .int .i64 y], .agg #[.int .i64 U, .int .i64 V], .int .i64 R] W (ToldB W (IsCen R (x, y) (U, V))) := fun W => cen_few (x, y) (U, V) hch (by dsimp only; omega) (by dsimp only; omega) W
      have HF1 := Lib.hid hf1
      have HF2 := Lib.hid hf2
      have HC2 := Lib.hid hc2
      clear hf1 hf2 hc2 b1 b2 b3 b4 hch hwx hwq hwu hwv u1 u2 u3 v1 v2 v3 hU hV HU HV t1 t2 m1 m2 m3 m4 z1
      go_wp2_with fail
      refine (HF1.out w1).mono ?_
      rintro e w2 ⟨L1, o1, c1, n1, h1, rfl, k1, hb2⟩
      have HB2 := Lib.hid (HB0.out.trans (hb2.mono HB0.out.size))
      have HL1 := Lib.hid (And.intro h1 k1)
      clear h1 k1 hb2 HF1
      go_wp2_with fail
      refine (HC2.out w2).mono ?_
      rintro e w3 ⟨L2, o2, c2, n2, h2, rfl, hn, ho, hb3⟩
      have HB3 := Lib.hid (HB2.out.trans (hb3.mono HB2.out.size))
      have HL2 := Lib.hid (And.intro h2 (LAt.of_own hn ho))
      have HK1 := Lib.hid (HL1.out.2.later hb3)
      clear h2 hn ho hb3 HC2
      go_wp2_with fail
      refine (HF2.out w3).mono ?_
      rintro e w4 ⟨L3, o3, c3, n3, h3, rfl, k3, hb4⟩
      have HB4 := Lib.hid (HB3.out.trans (hb4.mono HB3.out.size))
      have e12 : L1 = L2 := Up.ext HL1.out.1.1 HL2.out.1.1 fun z => (HL1.out.1.2.1 z).trans (HL2.out.1.2.1 z).symm
      have e13 : L1 = L3 := Up.ext HL1.out.1.1 h3.1 fun z => (HL1.out.1.2.1 z).trans (h3.2.1 z).symm
      have hsz : n1 ≤ 1000000 := by have := HL1.out.2.1; have := HL1.out.1.2.2; omega
      have HS : Hid (∀ W, Below w4.heap.size w4 W → Calls Tryz.prog 10 #[.slice o1 n1 c1, .slice o2 n2 c2] W fun e w' => e = .returned (.bool true) ∧ Below W.heap.size W w') := fun W hW => by
        have ka := (HK1.out.later hb4).later hW
        have kb := (HL2.out.2.later hb4).later hW
        have := same_n (w := W) (c := c1) (d := c2) ka.1 kb.1 hsz ka.2.1 kb.2.1
        rwa [decide_eq_true e12] at this
      have HS2 : Hid (∀ W, Below w4.heap.size w4 W → Calls Tryz.prog 10 #[.slice o1 n1 c1, .slice o3 n3 c3] W fun e w' => e = .returned (.bool true) ∧ Below W.heap.size W w') := fun W hW => by
        have ka := (HK1.out.later hb4).later hW
        have kb := k3.later hW
        have := same_n (w := W) (c := c1) (d := c3) ka.1 kb.1 hsz ka.2.1 kb.2.1
        rwa [decide_eq_true e13] at this
      clear h3 k3 hb4 HF2 HL1 HL2 HK1 e12 e13 hsz
      go_wp2_with fail
      refine (HS.out _ (Below.refl _ _)).mono ?_
      rintro e w5 ⟨rfl, hb5⟩
      have HX5 := Lib.hid hb5
      clear hb5 HS
      go_wp2_with fail
      refine (HS2.out _ HX5.out).mono ?_
      rintro e w6 ⟨rfl, hb6⟩
      have HX6 := Lib.hid (HX5.out.trans (hb6.mono HX5.out.size))
      clear hb6 HS2
      go_wp2_with fail
      refine (HAW.out _).mono ?_
      rintro e w7 ⟨rfl, hb7⟩
      have HX7 := Lib.hid (HB4.out.trans ((HX6.out.trans (hb7.mono HX6.out.size)).mono HB4.out.size))
      clear hb7
      go_wp2
      go_ret
      exact ⟨rfl, HX7.out⟩
end Go.Proofs.YtpkoapmpknbgoaaGreat.fillBoxes
