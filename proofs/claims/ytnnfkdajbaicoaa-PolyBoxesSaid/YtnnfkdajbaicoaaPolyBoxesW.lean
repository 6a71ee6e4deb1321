/- The walk of the law PolyBoxes. -/
import Derived.Test.YtnnfkdajbaicoaaPolyI
import Derived.Test.YtnnfkdajbaicoaaPolyW
import Derived.Deep.CutRange
namespace Go.Proofs.Ytnnfkdajbaicoaa.polyBoxes
open Go.RowKit

theorem inside_new (ao : Option Addr) (n c g : Nat) (l : List Pt) (hn : n = l.length) (hl : n ≤ 1000000000) (x y : Int) (w : World) (hg : w.heap.size = g) (h : RingAt w w.heap.size ao l) (v : Bool) (hv : insideF [l] x y = v) :
    Calls Try.prog 12 #[.slice (some ⟨g, 0, none⟩) 1 1, .int .i64 x, .int .i64 y] (w.alloc (.cells #[.slice ao n c] 26)) fun e w' => e = .returned (.bool v) ∧ Below w.heap.size w w' := by
  subst hn hg hv
  exact (inside_any (some ⟨w.heap.size, 0, none⟩) 1 [l] x y (w.alloc (.cells #[.slice ao l.length c] 26)) (w.heap.size + 1) (by simp) (rings_one c 26 h (Nat.le_refl _)) (by simp) (by simpa [totTo] using hl)).mono
    fun e w' ⟨he, hb⟩ => ⟨he, below_alloc hb⟩
theorem on_new (ao : Option Addr) (n c g : Nat) (l : List Pt) (hn : n = l.length) (hl : n ≤ 1000000000) (x y : Int) (w : World) (hg : w.heap.size = g) (h : RingAt w w.heap.size ao l) (v : Bool) (hv : onF [l] x y = v) :
    Calls Try.prog 13 #[.slice (some ⟨g, 0, none⟩) 1 1, .int .i64 x, .int .i64 y] (w.alloc (.cells #[.slice ao n c] 26)) fun e w' => e = .returned (.bool v) ∧ Below w.heap.size w w' := by
  subst hn hg hv
  exact (onall_any (some ⟨w.heap.size, 0, none⟩) 1 [l] x y (w.alloc (.cells #[.slice ao l.length c] 26)) (w.heap.size + 1) (by simp) (rings_one c 26 h (Nat.le_refl _)) (by simp) (by simpa [totTo] using hl)).mono
    fun e w' ⟨he, hb⟩ => ⟨he, below_alloc hb⟩

set_option maxRecDepth 100000 in
set_option maxHeartbeats 8000000 in
theorem walk {w : World} (a0 : Int) (_w0 : (Lit.int .i64 a0).wf = true) (a1 : Int) (_w1 : (Lit.int .i64 a1).wf = true) (a2 : Int) (_w2 : (Lit.int .i64 a2).wf = true) (a3 : Int) (_w3 : (Lit.int .i64 a3).wf = true)
    (a4 : Int) (_w4 : (Lit.int .i64 a4).wf = true) (a5 : Int) (_w5 : (Lit.int .i64 a5).wf = true) (a6 : Option Addr) (n6 c6 : Nat) (z6 : Nat → Int) (h6 : IntsAtK .i64 w w.heap.size a6 n6 z6) (_b6 : ∀ i, i < n6 → (Lit.int .i64 (z6 i)).wf = true) (s6 : n6 * 8 ≤ 140737488351232) :
    Calls Try.prog 8 #[.int .i64 a0, .int .i64 a1, .int .i64 a2, .int .i64 a3, .int .i64 a4, .int .i64 a5, .slice a6 n6 c6] w fun e w' => e = .returned (.bool true) ∧ Below w.heap.size w w' := by
  obtain ⟨A, q1, hA⟩ : ∃ A, bits BinOp.and IntKind.i64 a0 63 = A ∧ 0 ≤ A ∧ A ≤ 63 := ⟨_, i64_and_mask a0 6 (by omega) 63 rfl, by omega, by omega⟩
  obtain ⟨B, q2, hB⟩ : ∃ A, bits BinOp.and IntKind.i64 a1 63 = A ∧ 0 ≤ A ∧ A ≤ 63 := ⟨_, i64_and_mask a1 6 (by omega) 63 rfl, by omega, by omega⟩
  obtain ⟨C, q3, hC⟩ : ∃ A, bits BinOp.and IntKind.i64 a2 63 = A ∧ 0 ≤ A ∧ A ≤ 63 := ⟨_, i64_and_mask a2 6 (by omega) 63 rfl, by omega, by omega⟩
  obtain ⟨D, q4, hD⟩ : ∃ A, bits BinOp.and IntKind.i64 a3 63 = A ∧ 0 ≤ A ∧ A ≤ 63 := ⟨_, i64_and_mask a3 6 (by omega) 63 rfl, by omega, by omega⟩
  obtain ⟨X, q7, hX⟩ : ∃ A, bits BinOp.and IntKind.i64 a4 127 = A + 20 ∧ -20 ≤ A ∧ A ≤ 107 := ⟨a4 % 128 - 20, by rw [i64_and_mask a4 7 (by omega) 127 rfl]; omega, by omega, by omega⟩
  obtain ⟨Y, q8, hY⟩ : ∃ A, bits BinOp.and IntKind.i64 a5 127 = A + 20 ∧ -20 ≤ A ∧ A ≤ 107 := ⟨a5 % 128 - 20, by rw [i64_and_mask a5 7 (by omega) 127 rfl]; omega, by omega, by omega⟩
  have HL := Lib.hid (quad_law hA hB hC hD hX hY)
  have eX : IntKind.i64.wrap (X + 20 - 20) = X := by rw [show X + 20 - 20 = X by omega]; exact IntWalk.i64_in _ (by omega)
  obtain ⟨x0, x1⟩ := hX
  obtain ⟨y0, y1⟩ := hY
  clear hA hB hC hD
  have HR1 : Hid (RingAt (w.alloc (.cells #[.int .i64 A, .int .i64 B, .int .i64 C, .int .i64 B, .int .i64 C, .int .i64 D, .int .i64 A, .int .i64 D] 27)) (w.alloc (.cells #[.int .i64 A, .int .i64 B, .int .i64 C, .int .i64 B, .int .i64 C, .int .i64 D, .int .i64 A, .int .i64 D] 27)).heap.size (some ⟨w.heap.size, 0, none⟩) (quad A B C D)) := ringAt_new' w (quad A B C D) 27
  go_enter Try.func8, Try.ntmps8
  go_upto_region 4 with (fail)
  go_cut [16] from 49 to 74 (fun v wx => v = .bool (boxIn A B C D X Y) ∧ wx = w.alloc (.cells #[.int .i64 A, .int .i64 B, .int .i64 C, .int .i64 B, .int .i64 C, .int .i64 D, .int .i64 A, .int .i64 D] 27))
  case first =>
    clear HL HR1 q1 q2 q3 q4 q7 q8
    go_wp2
    all_goals
      go_meet
      refine ⟨?_, rfl⟩
      unfold boxIn
      rw [Value.bool.injEq, Bool.eq_iff_iff]
      simp
      omega
  case rest =>
    obtain ⟨rfl, hwc⟩ := hcut
    have hb0 : Below w.heap.size w wc := by rw [hwc]; exact (Below.refl _ _).alloc (Nat.le_refl _) _
    have hra : RingAt wc wc.heap.size (some ⟨w.heap.size, 0, none⟩) (quad A B C D) := by rw [hwc]; exact HR1.out
    have HRL : Hid (∀ wx, Below wc.heap.size wc wx → RingAt wx wx.heap.size (some ⟨w.heap.size, 0, none⟩) (quad A B C D)) := fun wx hb => ring_wider (hra.below hb (Nat.le_refl _)) hb.size
    have hwg : w.heap.size < wc.heap.size := by rw [hwc]; simp
    have HB0 : Hid (Below w.heap.size w wc) := hb0
    have h6c := h6.below hb0 (Nat.le_refl _)
    clear hwc HR1 hra hb0 h6 q1 q2 q3 q4 q7 q8 eX
    obtain ⟨P, hP⟩ : ∃ P, insideF [quad A B C D] X Y = P := ⟨_, rfl⟩
    obtain ⟨O, hO⟩ : ∃ P, onF [quad A B C D] X Y = P := ⟨_, rfl⟩
    obtain ⟨N, hN⟩ : ∃ P, boxIn A B C D X Y = P := ⟨_, rfl⟩
    rw [hN]
    have L1 := HL.out.1
    have L2 := HL.out.2
    rw [hP, hN] at L1
    rw [hP, hN, hO] at L2
    have HC5 : (A == C) = true ∧ P = (N && O) ∨ (A == C) = false ∧ (B == D) = true ∧ P = (N && O) ∨ (A == C) = false ∧ (B == D) = false ∧ P = N := by
      by_cases h1 : A = C
      · exact .inl ⟨by simpa using h1, L2 (.inl h1)⟩
      · by_cases h2 : B = D
        · exact .inr (.inl ⟨by simpa using h1, by simpa using h2, L2 (.inr h2)⟩)
        · exact .inr (.inr ⟨by simpa using h1, by simpa using h2, L1 (by omega)⟩)
    have HP := Lib.hid hP
    have HO := Lib.hid hO
    clear hP hO hN HL L1 L2
    rcases HC5 with ⟨e1, hp⟩ | ⟨e1, e2, hp⟩ | ⟨e1, e2, hp⟩ <;> cases N
    all_goals
      try simp only [Bool.false_and, Bool.true_and] at hp
      subst hp
      go_upto_region 9 with (first
        | (go_at_call 13; refine (on_new _ 4 4 _ (quad A B C D) rfl (by omega) X Y _ rfl (HRL.out _ ?_) _ HO.out).mono ?_; exact Below.refl _ _; rintro e w' ⟨rfl, hb'⟩)
        | (go_at_call 12; refine (inside_new _ 4 4 _ (quad A B C D) rfl (by omega) X Y _ rfl (HRL.out _ ?_) _ HP.out).mono ?_; (first | exact Below.refl _ _ | exact hb'); rintro e w' ⟨rfl, hb''⟩; (first | have hbc := below_later hb' hb'.size hb'' | have hbc := hb'')))
    all_goals
      clear HP HO HRL e1 hwg
      (try clear e2)
      have HBW : Hid (Below w.heap.size w w') := below_later HB0.out HB0.out.size hbc
      have h6d := h6c.below hbc (by have := HB0.out.size; omega)
      have hwz : w.heap.size ≤ w'.heap.size := HBW.out.size
      clear h6c HB0 hb'' hbc
      (try clear hb')
      go_wp2_with fail
      refine (tame_any _ _ _ z6 50 w' w.heap.size hwz h6d (by omega) (by omega) (by omega)).mono ?_
      rintro e w1 ⟨v, ls, rfl, hT, ⟨vs, hown, hO⟩, hb⟩
      obtain ⟨ao, co, rfl, hmc, hcells⟩ := own_form hown
      obtain ⟨m, hm⟩ : ∃ m, ls.length = m := ⟨_, rfl⟩
      rw [hm] at hown hmc ⊢
      by_cases hm0 : m = 0
      · have hq0 : ((m : Int) == 0) = true := by simp [hm0]
        clear hm
        go_wp2_with (first | (go_at_call 11; refine (awake_any _).mono ?_; rintro e w' ⟨rfl, hbw⟩))
        go_ret
        exact ⟨rfl, below_later HBW.out hwz (below_later hb hb.size hbw)⟩
      by_cases hn : 60 < n6
      · have hq0 : ((m : Int) == 0) = false := by simp; omega
        clear hm
        go_wp2_with (first | (go_at_call 11; refine (awake_any _).mono ?_; rintro e w' ⟨rfl, hbw⟩))
        go_ret
        exact ⟨rfl, below_later HBW.out hwz (below_later hb hb.size hbw)⟩
      have hq0 : ((m : Int) == 0) = false := by simp; omega
      have hR0 : RingsAt w1 w1.heap.size ao ls := rings_of_own hown hO hm.symm
      have hz1 := tot_small (ls := ls) hT.1 (fun l hl => (hT.2 l hl).2.1)
      obtain ⟨s, hs⟩ : ∃ s, boxF ls = s := ⟨_, rfl⟩
      obtain ⟨b1, b2, b3, b4, b5, b6, b7, b8⟩ := box_tame (size := 50) (by omega) (by omega) hT
      have HOUT := Lib.hid (fun ho => box_out (size := 50) (by omega) (by omega) hT (x := 500000 + X) (y := 500000 + Y) (by omega) (by omega) ho)
      rw [hs] at b1 b2 b3 b4 b5 b6 b7 b8 HOUT
      obtain ⟨P, hP⟩ : ∃ P, insideF ls (500000 + X) (500000 + Y) = P := ⟨_, rfl⟩
      rw [hP] at HOUT
      have I1 := insV_of (c := co) hR0 (m := m) hm.symm hz1.1 hz1.2 _ _ P hP
      have B1 := boxV_of (c := co) hR0 (m := m) hm.symm hz1.1 hz1.2 s hs
      have HB1 : Hid (Below w.heap.size w w1) := below_later HBW.out hwz hb
      have hbb : Below w1.heap.size w1 w1 := Below.refl _ _
      clear hR0 hz1 hP hs hm hown hO hT hcells h6d HBW hb
      obtain ⟨sa, sb, sc, sd⟩ := s
      dsimp only at B1 b1 b2 b3 b4 b5 b6 b7 b8 HOUT
      go_upto_region 12 with (fail)
      go_cut [18, 19] from 109 to 113 (fun v18 v19 wx => ∃ g1, v18 = .pointer (some ⟨g1, 0, none⟩) ∧ v19 = .pointer (some ⟨g1 + 1, 0, none⟩) ∧ Hid (BoxAt wx g1 ⟨sa, sb, sc, sd⟩) ∧ Below w1.heap.size w1 wx)
      case first =>
        go_wp2_with (go_at_call 16; (with_reducible refine (BoxV.use B1 ?_).mono ?_); assumption; rintro e w' ⟨rfl, hb', _⟩)
        go_meet
        exact ⟨_, rfl, rfl, BoxAt.new _ _ _ _ _ _, (hb'.alloc hb'.size _).alloc (by have := hb'.size; simp; omega) _⟩
      case rest =>
        obtain ⟨g1, rfl, rfl, BX1, hb1⟩ := hcut
        obtain ⟨c0, c1, d0, d1, _, _, _, _, sz⟩ := BX1.out
        dsimp only at c0 c1 d0 d1
        have HC : (P = false ∧ (500000 + X < sa ∨ sa ≤ 500000 + X ∧ sc < 500000 + X ∨ sa ≤ 500000 + X ∧ 500000 + X ≤ sc ∧ 500000 + Y < sb ∨ sa ≤ 500000 + X ∧ 500000 + X ≤ sc ∧ sb ≤ 500000 + Y ∧ sd < 500000 + Y)) ∨ (sa ≤ 500000 + X ∧ 500000 + X ≤ sc ∧ sb ≤ 500000 + Y ∧ 500000 + Y ≤ sd) := by
          by_cases h : sa ≤ 500000 + X ∧ 500000 + X ≤ sc ∧ sb ≤ 500000 + Y ∧ 500000 + Y ≤ sd
          · exact .inr h
          · exact .inl ⟨HOUT.out h, by omega⟩
        clear BX1 HOUT B1
        rcases HC with ⟨rfl, h1 | ⟨h1, h2⟩ | ⟨h1, h2, h3⟩ | ⟨h1, h2, h3, h4⟩⟩ | ⟨h1, h2, h3, h4⟩
        all_goals
          go_wp2_with (first
            | (go_at_call 12; (with_reducible refine (InsV.use I1 ?_).mono ?_); assumption; rintro e w' ⟨rfl, hb1⟩)
            | (go_at_call 11; refine (awake_any _).mono ?_; rintro e w' ⟨rfl, hbw⟩))
          go_ret
          exact ⟨rfl, below_later HB1.out HB1.out.size (below_later hb1 hb1.size hbw)⟩
end Go.Proofs.Ytnnfkdajbaicoaa.polyBoxes
