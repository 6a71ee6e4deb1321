/- The walk of the law PackErrors. -/
import Derived.Test.YtkjfdaleamonaaaGreatPackAJ
import Derived.OwnWalk
namespace Go.Proofs.YtkjfdaleamonaaaGreat.packErrors
open Go.RowKit Go.Lib Go.Sort Wd

theorem all_zeros {n : Nat} (h : 0 < n) : allW (List.replicate n 0) = false := by
  obtain ⟨m, rfl⟩ : ∃ m, n = m + 1 := ⟨n - 1, by omega⟩
  unfold allW
  rw [List.replicate_succ, List.all_cons]
  show (isW 0 && _) = false
  rw [isW0]; rfl
theorem zeros_E {n : Nat} (h : 0 < n) : cmpE (List.replicate n 0) = if 20000 < n then 7 else 5 := by
  unfold cmpE
  rw [List.length_replicate, if_neg (show ¬ (List.replicate n (0 : Int) = []) from fun e => by rw [List.replicate_eq_nil_iff] at e; omega)]
  unfold alkE
  rw [all_zeros h]; rfl
theorem cmpL_bad {l : List Int} (h : cmpE l ≠ 0) : cmpL l = [] := by unfold cmpL; rw [if_neg h]
theorem E1 (a b : Int) : cmpE [a, b, 0] = 5 := by
  unfold cmpE
  rw [if_neg (by simp), if_neg (by simp)]
  unfold alkE
  rw [if_neg]
  unfold allW
  simp [isW0]
theorem E2 {a b : Int} {p q : Nat} (ha : isW a.toNat = true) (hb : isW b.toNat = true) (hp : rW a.toNat = p) (hq : rW b.toNat = q) (hne : p ≠ q) : cmpE [a, b] = 8 := by
  unfold cmpE
  rw [if_neg (by simp), if_neg (by simp)]
  unfold alkE
  rw [if_pos (by unfold allW; simp [ha, hb])]
  show chkF (resW a.toNat) [a, b] = 8
  unfold resW
  rw [if_pos ha]
  simp only [chkF]
  rw [if_pos ha, if_pos trivial, if_pos hb, if_neg (by omega)]
theorem E3 (a : Int) : szE [a, 0] (-1) = 5 := by
  unfold szE
  rw [if_pos (by unfold allW; simp [isW0])]
theorem E4 {a : Int} (ha : isW a.toNat = true) (hr : rW a.toNat ≤ 12) : sprE [a] 13 = 1 ∧ sprL [a] 13 = [] := by
  have e : szE [a] 13 = 1 := by
    unfold szE
    rw [if_neg (by unfold allW; simp [ha]), if_neg (by simp; omega), if_pos (.inr (by decide))]
  have e2 : sprE [a] 13 = 1 := by unfold sprE; rw [e]; rfl
  exact ⟨e2, by unfold sprL; rw [e2]; rfl⟩
theorem E5 : cmpE [] = 0 ∧ cmpL [] = [] := by
  have e : cmpE [] = 0 := rfl
  exact ⟨e, by unfold cmpL; rw [if_pos e]; unfold packF; simp only [setF_nil, packN_nil]⟩
theorem wrap_ne {r : Int} (_h : (Lit.int .i64 r).wf = true) : (r % 13).toNat ≠ (IntKind.i64.wrap (r + 1) % 13).toNat := by
  unfold Lit.wf at _h
  rw [Bool.and_eq_true, decide_eq_true_eq, decide_eq_true_eq] at _h
  have h1 : -9223372036854775808 ≤ r := _h.1
  have h2 : r ≤ 9223372036854775807 := _h.2
  clear _h
  by_cases h : r + 1 ≤ 9223372036854775807
  · rw [IntWalk.i64_in (r + 1) (by omega)]
    intro h3
    have h4 : r % 13 = (r + 1) % 13 := by
      have := Int.emod_nonneg r (b := 13) (by decide)
      have := Int.emod_nonneg (r + 1) (b := 13) (by decide)
      omega
    clear h1 h2 h3
    omega
  · obtain rfl : r = 9223372036854775807 := by omega
    decide
def Told0 (n : Nat) (err : Int) (w : World) (e : Ending) (w' : World) : Prop := ∃ ao c, e = .returned (.tuple #[.slice ao n c, .int .i64 err]) ∧ Below w.heap.size w w'
theorem in64_zeros (n : Nat) : In64 (List.replicate n 0) := fun v hv => by
  obtain rfl := List.eq_of_mem_replicate hv
  exact ⟨by omega, by omega⟩
theorem c3 {A B : Nat} (hA : A < 18446744073709551616) (hB : B < 18446744073709551616) (wx : World) : Calls Tryz.prog 26 #[.slice (some ⟨wx.heap.size, 0, none⟩) 3 3] (wx.alloc (.cells #[.int .u64 A, .int .u64 B, .int .u64 0] 25)) (Told0 0 5 wx) := by
  refine (compact_any (some ⟨wx.heap.size, 0, none⟩) 3 [(A : Int), (B : Int), 0] _ (wx.heap.size + 1) (words_new wx [(A : Int), (B : Int), 0] 25) (by simp) (by simp) (in64_cons hA (in64_cons hB (in64_cons (x := 0) (by omega) in64_nil)))).mono ?_
  rintro e w' ⟨ao, c, rfl, -, hb⟩
  rw [E1, cmpL_bad (by rw [E1]; decide)]
  exact ⟨ao, c, rfl, below_alloc hb⟩
theorem c2 {A B : Nat} (hA : A < 18446744073709551616) (hB : B < 18446744073709551616) (hE : cmpE [(A : Int), (B : Int)] = 8) (wx : World) : Calls Tryz.prog 26 #[.slice (some ⟨wx.heap.size, 0, none⟩) 2 2] (wx.alloc (.cells #[.int .u64 A, .int .u64 B] 25)) (Told0 0 8 wx) := by
  refine (compact_any (some ⟨wx.heap.size, 0, none⟩) 2 [(A : Int), (B : Int)] _ (wx.heap.size + 1) (words_new wx [(A : Int), (B : Int)] 25) (by simp) (by simp) (in64_cons hA (in64_cons hB in64_nil))).mono ?_
  rintro e w' ⟨ao, c, rfl, -, hb⟩
  rw [hE, cmpL_bad (by rw [hE]; decide)]
  exact ⟨ao, c, rfl, below_alloc hb⟩
theorem cz {N : Nat} (h0 : 0 < N) (hN : N ≤ 1000000) {ao : Option Addr} {c : Nat} {wx : World} (h : WordsAt wx wx.heap.size ao (List.replicate N 0)) : Calls Tryz.prog 26 #[.slice ao N c] wx (Told0 0 (if 20000 < N then 7 else 5) wx) := by
  have h1 := compact_any ao c (List.replicate N 0) wx wx.heap.size h (Nat.le_refl _) (by rw [List.length_replicate]; exact hN) (in64_zeros N)
  rw [List.length_replicate, zeros_E h0, cmpL_bad (by rw [zeros_E h0]; split <;> decide)] at h1
  refine h1.mono ?_
  rintro e w' ⟨ao, c, rfl, -, hb⟩
  exact ⟨ao, c, rfl, hb⟩
theorem s2 {A : Nat} (hA : A < 18446744073709551616) (wx : World) : Calls Tryz.prog 29 #[.slice (some ⟨wx.heap.size, 0, none⟩) 2 2, .int .i64 (-1)] (wx.alloc (.cells #[.int .u64 A, .int .u64 0] 25)) fun e w' => (∃ z, e = .returned (.tuple #[.int .i64 z, .int .i64 5])) ∧ Below wx.heap.size wx w' := by
  refine (psize_any (some ⟨wx.heap.size, 0, none⟩) 2 [(A : Int), 0] (-1) _ (wx.heap.size + 1) (words_new wx [(A : Int), 0] 25) (by simp) (by simp) (in64_cons hA (in64_cons (x := 0) (by omega) in64_nil))).mono ?_
  rintro e w' ⟨rfl, hb⟩
  rw [E3]
  exact ⟨⟨_, rfl⟩, below_alloc hb⟩
theorem p1 {A : Nat} (hA : A < 18446744073709551616) (hw : isW A = true) (hr : rW A ≤ 12) (wx : World) : Calls Tryz.prog 25 #[.slice (some ⟨wx.heap.size, 0, none⟩) 1 1, .int .i64 13] (wx.alloc (.cells #[.int .u64 A] 25)) (Told0 0 1 wx) := by
  obtain ⟨e1, e2⟩ := E4 (a := (A : Int)) hw hr
  refine (spread_any (some ⟨wx.heap.size, 0, none⟩) 1 [(A : Int)] 13 _ (wx.heap.size + 1) (words_new wx [(A : Int)] 25) (by simp) (by simp) (in64_cons hA in64_nil)).mono ?_
  rintro e w' ⟨ao, c, rfl, -, -, hb⟩
  rw [e1, e2]
  exact ⟨ao, c, rfl, below_alloc hb⟩
theorem c0 (wx : World) : Calls Tryz.prog 26 #[.slice none 0 0] wx (Told0 0 0 wx) := by
  refine (compact_any none 0 [] _ wx.heap.size (fun h => by simp at h) (Nat.le_refl _) (by simp) in64_nil).mono ?_
  rintro e w' ⟨ao, c, rfl, -, hb⟩
  rw [E5.1, E5.2]
  exact ⟨ao, c, rfl, hb⟩
set_option maxRecDepth 100000 in
set_option maxHeartbeats 8000000 in
theorem walk {w : World} (a0 : Int) (_w0 : (Lit.int .i64 a0).wf = true) (a1 : Int) (_w1 : (Lit.int .i64 a1).wf = true) (a2 : Int) (_w2 : (Lit.int .i64 a2).wf = true) (a3 : Int) (_w3 : (Lit.int .i64 a3).wf = true) :
    Calls Tryz.prog 5 #[.int .i64 a0, .int .i64 a1, .int .i64 a2, .int .i64 a3] w fun e w' => e = .returned (.bool true) ∧ Below w.heap.size w w' := by
  obtain ⟨i0, hi, hz0, hz1, hz2⟩ := info_parts info_u
  have HAW := Lib.hid awake8_any
  have hLA := fun w => lword_w a0 a1 a2 w
  have hLB := fun w => lword_w a1 a0 (IntKind.i64.wrap (a2 + 1)) w
  have hpq := wrap_ne _w2
  obtain ⟨r2, hr2⟩ : ∃ r2, IntKind.i64.wrap (a2 + 1) = r2 := ⟨_, rfl⟩
  rw [hr2] at hLB hpq
  obtain ⟨p, hp⟩ : ∃ p, (a2 % 13).toNat = p := ⟨_, rfl⟩
  obtain ⟨q, hq⟩ : ∃ q, (r2 % 13).toNat = q := ⟨_, rfl⟩
  have hA := some_ok a0 a1 (r := p) (by omega)
  have hB := some_ok a1 a0 (r := q) (by omega)
  rw [hp, hq] at hpq
  rw [hp] at hLA
  rw [hq] at hLB
  obtain ⟨wa1, wa2, -⟩ := word_cell hA
  obtain ⟨wb1, wb2, -⟩ := word_cell hB
  have la := (wordN_lt hA).1
  have lb := (wordN_lt hB).1
  generalize wordN p (someE a0 a1 p) = A at *
  generalize wordN q (someE a1 a0 q) = B at *
  have HC1 := Lib.hid (c3 (A := A) (B := B) (by omega) (by omega))
  have HC2 := Lib.hid (c2 (A := A) (B := B) (by omega) (by omega) (E2 (a := (A : Int)) (b := (B : Int)) wa1 wb1 wa2 wb2 hpq))
  have HS := Lib.hid (s2 (A := A) (by omega))
  have HP := Lib.hid (p1 (A := A) (by omega) wa1 (by omega))
  have HC0 := Lib.hid c0
  have HLA := Lib.hid hLA
  have HLB := Lib.hid hLB
  have HR2 := Lib.hid hr2
  clear hLA hLB hA hB hp hq wa1 wa2 wb1 wb2 la lb hpq hr2
  obtain ⟨e, ee, he⟩ : ∃ e : Nat, bits BinOp.and IntKind.i64 a3 7 = (e : Int) ∧ e ≤ 7 := ⟨(a3 % 8).toNat, by rw [i64_and_mask a3 3 (by omega) 7 rfl]; omega, by omega⟩
  obtain ⟨N, hN⟩ : ∃ N : Nat, (e : Int) + 19997 = (N : Int) := ⟨e + 19997, by omega⟩
  have n1 : N ≤ 20005 := by omega
  have n2 : 19997 ≤ N := by omega
  have HCZ : Hid (∀ (ao : Option Addr) (c : Nat) (wx : World), WordsAt wx wx.heap.size ao (List.replicate N 0) → Calls Tryz.prog 26 #[.slice ao N c] wx (Told0 0 (if 20000 < N then 7 else 5) wx)) := fun ao c wx h => cz (by omega) (by omega) h
  have hr2 := HR2.out
  go_enter Tryz.func5, Tryz.ntmps5
  go_wp2_with fail
  refine (HLA.out _).mono ?_
  rintro e w1 ⟨rfl, hb1⟩
  go_wp2_with fail
  refine (HLB.out _).mono ?_
  rintro e w2 ⟨rfl, hb2⟩
  have HB2 := Lib.hid (hb1.trans (hb2.mono hb1.size))
  clear hb1 hb2 hr2
  go_wp2_with fail
  refine (HC1.out _).mono ?_
  rintro e w3 ⟨o3, k3, rfl, hb3⟩
  have HB3 := Lib.hid (HB2.out.trans (hb3.mono HB2.out.size))
  clear hb3 HB2
  go_wp2_with fail
  refine (HC2.out _).mono ?_
  rintro e w4 ⟨o4, k4, rfl, hb4⟩
  have HB4 := Lib.hid (HB3.out.trans (hb4.mono HB3.out.size))
  clear hb4 HB3
  go_upto_region 6 with (at_make; refine wpList_make_full _ rfl (.tmp 51) (.tmp 51) 22 rfl w4.heap.size 25 i0 (.int .u64 0) 1 Tryz.underlying22 hi hz0 hz1 .i64 .i64 _ _ N rfl rfl (by omega) (by omega) (by rw [hz2]; omega) (by unfold maxLen; omega) (by omega) ?_; intro w5 hmk hgk)
  have HB5 := Lib.hid (HB4.out.trans ((below_grown0 hgk).mono HB4.out.size))
  have e1 : (madeCells (Value.int .u64 0).cells (N * 1)).toList = uV (List.replicate N 0) := (made_zeros N).trans (uV_rep N 0).symm
  rw [e1] at hmk
  have HZ := Lib.hid (HCZ.out _ N w5 (words_own (List.length_replicate (n := N)).symm hmk))
  clear e1
  clear hmk hgk HCZ HB4
  by_cases hbig : 20000 < N
  · have HC6 : Hid (Calls Tryz.prog 26 #[.slice (some ⟨w4.heap.size, 0, none⟩) N N] w5 (Told0 0 7 w5)) := by have := HZ.out; rwa [if_pos hbig] at this
    have q1 : decide (20000 < (N : Int)) = true := by simp; omega
    clear HZ
    go_wp2_with fail
    refine (HC6.out).mono ?_
    rintro e w6 ⟨o6, k6, rfl, hb6⟩
    have HB6 := Lib.hid (HB5.out.trans (hb6.mono HB5.out.size))
    clear hb6 HB5
    go_wp2_with fail
    refine (HS.out _).mono ?_
    rintro e w7 ⟨⟨z7, rfl⟩, hb7⟩
    have HB7 := Lib.hid (HB6.out.trans (hb7.mono HB6.out.size))
    clear hb7 HB6
    go_wp2_with fail
    refine (HP.out _).mono ?_
    rintro e w8 ⟨o8, k8, rfl, hb8⟩
    have HB8 := Lib.hid (HB7.out.trans (hb8.mono HB7.out.size))
    clear hb8 HB7
    go_wp2_with fail
    refine (HC0.out _).mono ?_
    rintro e w9 ⟨o9, k9, rfl, hb9⟩
    have HB9 := Lib.hid (HB8.out.trans (hb9.mono HB8.out.size))
    clear hb9 HB8
    go_wp2_with fail
    refine (HAW.out _).mono ?_
    rintro e w10 ⟨rfl, hb10⟩
    have hb := HB9.out.trans (hb10.mono HB9.out.size)
    clear hb10 HB9
    go_wp2
    go_ret
    exact ⟨rfl, hb⟩
  · have HC6 : Hid (Calls Tryz.prog 26 #[.slice (some ⟨w4.heap.size, 0, none⟩) N N] w5 (Told0 0 5 w5)) := by have := HZ.out; rwa [if_neg hbig] at this
    have q1 : decide (20000 < (N : Int)) = false := by simp; omega
    clear HZ
    go_wp2_with fail
    refine (HC6.out).mono ?_
    rintro e w6 ⟨o6, k6, rfl, hb6⟩
    have HB6 := Lib.hid (HB5.out.trans (hb6.mono HB5.out.size))
    clear hb6 HB5
    go_wp2_with fail
    refine (HS.out _).mono ?_
    rintro e w7 ⟨⟨z7, rfl⟩, hb7⟩
    have HB7 := Lib.hid (HB6.out.trans (hb7.mono HB6.out.size))
    clear hb7 HB6
    go_wp2_with fail
    refine (HP.out _).mono ?_
    rintro e w8 ⟨o8, k8, rfl, hb8⟩
    have HB8 := Lib.hid (HB7.out.trans (hb8.mono HB7.out.size))
    clear hb8 HB7
    go_wp2_with fail
    refine (HC0.out _).mono ?_
    rintro e w9 ⟨o9, k9, rfl, hb9⟩
    have HB9 := Lib.hid (HB8.out.trans (hb9.mono HB8.out.size))
    clear hb9 HB8
    go_wp2_with fail
    refine (HAW.out _).mono ?_
    rintro e w10 ⟨rfl, hb10⟩
    have hb := HB9.out.trans (hb10.mono HB9.out.size)
    clear hb10 HB9
    go_wp2
    go_ret
    exact ⟨rfl, hb⟩
end Go.Proofs.YtkjfdaleamonaaaGreat.packErrors
