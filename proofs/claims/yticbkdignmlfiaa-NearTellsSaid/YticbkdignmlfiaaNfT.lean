/- Contracts of apiaryref1.Neighbours, Ring, Disk. -/
import Derived.Test.YticbkdignmlfiaaNfS
import Derived.Test.YticbkdignmlfiaaLex6
namespace Go.Proofs.Yticbkdignmlfiaa
open Go.RowKit Go.Lib Wd

/-- What is beside a cell, told by steps, is what the walker tells. -/
theorem bes_eq {w0 : Nat} {f n : Nat} {L : List E2} (hw : isW w0 = true) (hL : ∀ e, e ∈ L ↔ (f : Int) ≤ stepsN e ∧ stepsN e < f + n) : besL (cvR w0) (cvZ w0) L = srt (tellL (rW w0) (allR (zW w0) f n)) := by
  have hr : cvR w0 = (rW w0 : Int) := by unfold cvR; rw [if_pos hw]
  have hz : cvZ w0 = zW w0 := by unfold cvZ; rw [if_pos hw]
  rw [hr, hz]
  refine (setF_up _).ext (srt_up (tell_nodup (all_nodup _ _ _))) fun v => ?_
  rw [setF_mem, srt_mem, tell_mem, tell_mem]
  constructor
  · rintro ⟨y, h1, h2, h3⟩
    obtain ⟨e, he, rfl⟩ := List.mem_map.1 h1
    refine ⟨_, ?_, h2, h3⟩
    rw [all_steps, show subE (addE (zW w0) e) (zW w0) = e by unfold subE addE; refine Prod.ext ?_ ?_ <;> (simp only; omega)]
    exact (hL e).1 he
  · rintro ⟨y, h1, h2, h3⟩
    rw [all_steps] at h1
    refine ⟨y, List.mem_map.2 ⟨subE y (zW w0), (hL _).2 h1, ?_⟩, h2, h3⟩
    unfold subE addE
    refine Prod.ext ?_ ?_ <;> (simp only; omega)
def unitL : List E2 := (List.range 6).map unitE
theorem unitL_mem (e : E2) : e ∈ unitL ↔ ((1 : Nat) : Int) ≤ stepsN e ∧ stepsN e < ((1 : Nat) : Int) + (1 : Nat) := by
  obtain ⟨a, b⟩ := e
  unfold unitL stepsN
  simp only [List.mem_map, List.mem_range]
  constructor
  · rintro ⟨k, hk, h⟩
    rcases (show k = 0 ∨ k = 1 ∨ k = 2 ∨ k = 3 ∨ k = 4 ∨ k = 5 by omega) with rfl | rfl | rfl | rfl | rfl | rfl <;> simp only [unitE, Prod.mk.injEq] at h <;> obtain ⟨rfl, rfl⟩ := h <;> decide
  · intro h
    rcases (show (a = 1 ∧ b = 0) ∨ (a = 0 ∧ b = 1) ∨ (a = -1 ∧ b = 1) ∨ (a = -1 ∧ b = 0) ∨ (a = 0 ∧ b = -1) ∨ (a = 1 ∧ b = -1) by omega) with ⟨rfl, rfl⟩ | ⟨rfl, rfl⟩ | ⟨rfl, rfl⟩ | ⟨rfl, rfl⟩ | ⟨rfl, rfl⟩ | ⟨rfl, rfl⟩
    · exact ⟨0, by decide, rfl⟩
    · exact ⟨1, by decide, rfl⟩
    · exact ⟨2, by decide, rfl⟩
    · exact ⟨3, by decide, rfl⟩
    · exact ⟨4, by decide, rfl⟩
    · exact ⟨5, by decide, rfl⟩
theorem unitL_take {k : Nat} (h : k < 6) : unitL.take (k + 1) = unitL.take k ++ [unitE k] := by
  rw [List.take_add_one]
  congr 1
  unfold unitL
  rw [List.getElem?_map, List.getElem?_range h]
  rfl
theorem sm_steps {e : E2} {h : Int} (hs : stepsN e ≤ h) : Sm h e := ((steps_hex _ _).2 hs).sm
theorem isW_cv {w0 : Nat} : (isW w0 = true ∧ cvE w0 = 0) ∨ (isW w0 = false ∧ cvE w0 = 5) := by
  unfold cvE
  by_cases h : isW w0 = true
  · exact .inl ⟨h, by rw [if_pos h]⟩
  · exact .inr ⟨Bool.eq_false_iff.2 h, by rw [if_neg h]⟩
/-- A list of numbers, a list of words: what is known of a value. -/
def wE (L : List E2) : SP := ⟨fun v w => ∃ ao c, v = .slice ao L.length c ∧ EAt w ao L, fun _ _ _ hb ⟨ao, c, e, h⟩ => ⟨ao, c, e, h.below hb⟩⟩
def wWd (L : List Int) : SP := ⟨fun v w => ∃ ao c, v = .slice ao L.length c ∧ WordsAt w w.heap.size ao L, fun _ _ _ hb ⟨ao, c, e, h⟩ => ⟨ao, c, e, (h.below hb (Nat.le_refl _)).wider hb.size⟩⟩
theorem ar_len (lo hi : Nat) (h : hi ≤ 1000) : (arL lo hi).length ≤ 5000000 := by
  have h1 := aall_len lo hi (2 * hi + 1) (2 * hi + 1)
  have h2 : (2 * hi + 1) * (2 * hi + 1) ≤ 2001 * 2001 := Nat.mul_le_mul (by omega) (by omega)
  unfold arL
  omega
set_option maxRecDepth 100000 in
set_option maxHeartbeats 8000000 in
theorem rring_any (w0 : Nat) (hw0 : w0 < 18446744073709551616) (k : Int) (h1 : -9223372036854775808 ≤ k) (h2 : k < 9223372036854775808) (h3 : k ≤ 1000 ∨ 3333 < k) (w : World) : Calls Try.prog 26 #[.int .u64 w0, .int .i64 k] w (Told w (rgsL w0 k.toNat k 3333) (rgsE w0 k 3333)) := by
  have HCE := Lib.hid (rcell_any w0 hw0)
  have hsm := cv_sm w0
  rcases isW_cv (w0 := w0) with ⟨hW, hE⟩ | ⟨hW, hE⟩
  · rw [hE] at HCE
    rcases (show k < 0 ∨ 3333 < k ∨ (0 ≤ k ∧ k ≤ 1000 ∧ k ≤ 3333) by omega) with h | h | ⟨h, h4, h5⟩
    · have e1 : rgsE w0 k 3333 = 1 := by unfold rgsE; rw [if_pos hW, if_pos h]
      have e2 : rgsL w0 k.toNat k 3333 = [] := by unfold rgsL; rw [e1]; rfl
      rw [e1, e2]
      have q1 : decide (k < 0) = true := decide_eq_true h
      generalize cvR w0 = R at *
      generalize cvZ w0 = z at *
      clear e1 e2 hE hW hsm
      simp only [vC] at *
      go_enter Try.func26, Try.ntmps26
      go_wp2_with fail
      refine (HCE.out _).mono ?_
      rintro e w2 ⟨rfl, hb2⟩
      have HB : Hid (Below w.heap.size w (w2.alloc (.cells #[.int .i64 R, .int .i64 z.1, .int .i64 z.2] 29))) := hb2.alloc hb2.size _
      clear hb2
      go_wp2
      go_ret2
      exact Told.nil HB.out
    · have e1 : rgsE w0 k 3333 = 7 := by unfold rgsE; rw [if_pos hW, if_neg (by omega), if_pos h]
      have e2 : rgsL w0 k.toNat k 3333 = [] := by unfold rgsL; rw [e1]; rfl
      rw [e1, e2]
      have q1 : decide (k < 0) = false := decide_eq_false (by omega)
      have q2 : decide (3333 < k) = true := decide_eq_true h
      generalize cvR w0 = R at *
      generalize cvZ w0 = z at *
      clear e1 e2 hE hW hsm
      simp only [vC] at *
      go_enter Try.func26, Try.ntmps26
      go_wp2_with fail
      refine (HCE.out _).mono ?_
      rintro e w2 ⟨rfl, hb2⟩
      have HB : Hid (Below w.heap.size w (w2.alloc (.cells #[.int .i64 R, .int .i64 z.1, .int .i64 z.2] 29))) := hb2.alloc hb2.size _
      clear hb2
      go_wp2
      go_ret2
      exact Told.nil HB.out
    · obtain ⟨K, rfl⟩ : ∃ K : Nat, k = K := ⟨k.toNat, by omega⟩
      have e1 : rgsE w0 K 3333 = 0 := by unfold rgsE; rw [if_pos hW, if_neg (by omega), if_neg (by omega)]
      have e2 : rgsL w0 (K : Int).toNat K 3333 = besL (cvR w0) (cvZ w0) (arL K K) := by
        unfold rgsL
        rw [if_pos e1, Int.toNat_natCast, show ((K : Int) + 1 - K).toNat = 1 by omega]
        exact (bes_eq hW fun e => by rw [arL_mem]; omega).symm
      rw [e1, e2]
      have q1 : decide ((K : Int) < 0) = false := decide_eq_false (by omega)
      have q2 : decide (3333 < (K : Int)) = false := decide_eq_false (by omega)
      have HAR := Lib.hid (around_any K K (by omega) (by omega))
      have HBE := Lib.hid (fun ao c w (h : EAt w ao (arL K K)) => beside_any (cvR w0) (cvZ w0) ao c (arL K K) w h hsm (fun y hy => sm_steps (by have := ((arL_mem K K y).1 hy).2; omega)) (ar_len _ _ (by omega)))
      generalize besL (cvR w0) (cvZ w0) (arL K K) = B at *
      generalize arL K K = L at *
      generalize cvR w0 = R at *
      generalize cvZ w0 = z at *
      clear e1 e2 hE hW hsm h3
      simp only [vC] at *
      go_enter Try.func26, Try.ntmps26
      go_wp2_with fail
      refine (HCE.out _).mono ?_
      rintro e w2 ⟨rfl, hb2⟩
      have HB : Hid (Below w.heap.size w (w2.alloc (.cells #[.int .i64 R, .int .i64 z.1, .int .i64 z.2] 29))) := hb2.alloc hb2.size _
      have HC : Hid (Tri (w2.alloc (.cells #[.int .i64 R, .int .i64 z.1, .int .i64 z.2] 29)) w2.heap.size R z) := heap_new _ _ _ rfl
      clear hb2
      go_upto_region 8 with (fail)
      generalize w2.alloc (.cells #[.int .i64 R, .int .i64 z.1, .int .i64 z.2] 29) = w3 at *
      have hwl := HC.out.lt
      refine wp_region_inw ([.inl (.agg #[.int .i64 R, .int .i64 z.1, .int .i64 z.2]), .inl (.int .i64 K), .inl (.int .i64 K), .inr (wE L), .inr (wWd B), .inr (wWd B), .inl (.int .i64 0)] : List Want) [] (by kernel_rfl) (by kernel_rfl) (by kernel_rfl) ?_
      refine inw_cons (fun wx hg hd => ?_) (fun v0 => ?_)
      · have hx := ((Below.refl w3.heap.size w3).drew).trans hg
        clear hd hg
        obtain ⟨t0, t1, t2, t3, t4, t5, t6⟩ := (HC.out.later hx).cells
        go_wp2
        exact ⟨_, rfl, Below.refl _ _, rfl⟩
      (try simp only [List.nil_append, Act.put, List.setIfInBounds_toArray, List.set_cons_zero, List.set_cons_succ])
      refine inw_cons (fun wx hg hd => ?_) (fun v1 => ?_)
      · have hx := ((Below.refl w3.heap.size w3).drew).trans hg
        clear hd hg
        go_wp2
        exact ⟨_, rfl, Below.refl _ _, rfl⟩
      (try simp only [List.cons_append, List.nil_append, Act.put, List.setIfInBounds_toArray, List.set_cons_zero, List.set_cons_succ])
      refine inw_cons (fun wx hg hd => ?_) (fun v2 => ?_)
      · have hx := ((Below.refl w3.heap.size w3).drew).trans hg
        clear hd hg
        go_wp2
        exact ⟨_, rfl, Below.refl _ _, rfl⟩
      (try simp only [List.cons_append, List.nil_append, Act.put, List.setIfInBounds_toArray, List.set_cons_zero, List.set_cons_succ])
      refine inw_cons (fun wx hg hd => ?_) (fun v3 => ?_)
      · have hx := ((Below.refl w3.heap.size w3).drew).trans hg
        (try (have ee : v1 = (.int .i64 K : Value) := hd 1 (by simp) (by decide); subst ee))
        (try (have ee : v2 = (.int .i64 K : Value) := hd 2 (by simp) (by decide); subst ee))
        clear hd hg
        go_wp2_with fail
        refine (HAR.out _).mono ?_
        rintro e w' ⟨ao, c, rfl, h1, hb⟩
        go_wp2
        exact ⟨_, rfl, hb, ao, c, rfl, h1⟩
      (try simp only [List.cons_append, List.nil_append, Act.put, List.setIfInBounds_toArray, List.set_cons_zero, List.set_cons_succ])
      refine inw_cons (fun wx hg hd => ?_) (fun v4 => ?_)
      · have hx := ((Below.refl w3.heap.size w3).drew).trans hg
        (try (have ee : v0 = (.agg #[.int .i64 R, .int .i64 z.1, .int .i64 z.2] : Value) := hd 0 (by simp) (by decide); subst ee))
        have hp3 : (wE L : SP).1 v3 wx := hd 3 (by simp) (by decide)
        clear hd hg
        obtain ⟨ao, c, rfl, h⟩ := hp3
        go_wp2_with fail
        refine (HBE.out ao c _ h).mono ?_
        rintro e w' ⟨ao, c, rfl, h1, hb, _⟩
        go_wp2
        exact ⟨_, rfl, hb, ao, c, rfl, h1⟩
      (try simp only [List.cons_append, List.nil_append, Act.put, List.setIfInBounds_toArray, List.set_cons_zero, List.set_cons_succ])
      refine inw_cons (fun wx hg hd => ?_) (fun v5 => ?_)
      · have hx := ((Below.refl w3.heap.size w3).drew).trans hg
        have hp4 : (wWd B : SP).1 v4 wx := hd 4 (by simp) (by decide)
        clear hd hg
        obtain ⟨ao, c, rfl, h⟩ := hp4
        go_wp2
        exact ⟨_, rfl, Below.refl _ _, ao, c, rfl, h⟩
      (try simp only [List.cons_append, List.nil_append, Act.put, List.setIfInBounds_toArray, List.set_cons_zero, List.set_cons_succ])
      refine inw_cons (fun wx hg hd => ?_) (fun v6 => ?_)
      · have hx := ((Below.refl w3.heap.size w3).drew).trans hg
        clear hd hg
        go_wp2
        exact ⟨_, rfl, Below.refl _ _, rfl⟩
      (try simp only [List.cons_append, List.nil_append, Act.put, List.setIfInBounds_toArray, List.set_cons_zero, List.set_cons_succ])
      refine inw_done (fun wx hg hd => ?_)
      have hx := ((Below.refl w3.heap.size w3).drew).trans hg
      (have ee : v0 = (.agg #[.int .i64 R, .int .i64 z.1, .int .i64 z.2] : Value) := hd 0 (by simp) (by kernel_rfl); subst ee)
      (have ee : v1 = (.int .i64 K : Value) := hd 1 (by simp) (by kernel_rfl); subst ee)
      (have ee : v2 = (.int .i64 K : Value) := hd 2 (by simp) (by kernel_rfl); subst ee)
      have hp3 : (wE L : SP).1 v3 wx := hd 3 (by simp) (by kernel_rfl)
      have hp4 : (wWd B : SP).1 v4 wx := hd 4 (by simp) (by kernel_rfl)
      have hp5 : (wWd B : SP).1 v5 wx := hd 5 (by simp) (by kernel_rfl)
      (have ee : v6 = (.int .i64 0 : Value) := hd 6 (by simp) (by kernel_rfl); subst ee)
      clear hd hg
      (try go_simp)
      obtain ⟨ao, c, rfl, h⟩ := hp5
      have HF : Hid (Told w B 0 (.returned (.tuple #[.slice ao B.length c, .int .i64 0])) wx) := ⟨ao, c, rfl, h, HB.out.trans (hx.mono HB.out.size)⟩
      clear hx h
      go_wp2
      go_ret2
      exact HF.out
  · have e1 : rgsE w0 k 3333 = 5 := by unfold rgsE; rw [if_neg (by rw [hW]; decide)]
    have e2 : rgsL w0 k.toNat k 3333 = [] := by unfold rgsL; rw [e1]; rfl
    rw [e1, e2]
    rw [hE] at HCE
    generalize cvR w0 = R at *
    generalize cvZ w0 = z at *
    clear e1 e2 hE hW hsm
    simp only [vC] at *
    go_enter Try.func26, Try.ntmps26
    go_wp2_with fail
    refine (HCE.out _).mono ?_
    rintro e w2 ⟨rfl, hb2⟩
    have HB : Hid (Below w.heap.size w (w2.alloc (.cells #[.int .i64 R, .int .i64 z.1, .int .i64 z.2] 29))) := hb2.alloc hb2.size _
    clear hb2
    go_wp2
    go_ret2
    exact Told.nil HB.out
set_option maxRecDepth 100000 in
set_option maxHeartbeats 8000000 in
theorem rdisk_any (w0 : Nat) (hw0 : w0 < 18446744073709551616) (k : Int) (h2 : k < 9223372036854775808) (h3 : k ≤ 1000 ∨ 81 < k) (w : World) : Calls Try.prog 27 #[.int .u64 w0, .int .i64 k] w (Told w (rgsL w0 0 k 81) (rgsE w0 k 81)) := by
  have HCE := Lib.hid (rcell_any w0 hw0)
  have hsm := cv_sm w0
  rcases isW_cv (w0 := w0) with ⟨hW, hE⟩ | ⟨hW, hE⟩
  · rw [hE] at HCE
    rcases (show k < 0 ∨ 81 < k ∨ (0 ≤ k ∧ k ≤ 1000 ∧ k ≤ 81) by omega) with h | h | ⟨h, h4, h5⟩
    · have e1 : rgsE w0 k 81 = 1 := by unfold rgsE; rw [if_pos hW, if_pos h]
      have e2 : rgsL w0 0 k 81 = [] := by unfold rgsL; rw [e1]; rfl
      rw [e1, e2]
      have q1 : decide (k < 0) = true := decide_eq_true h
      generalize cvR w0 = R at *
      generalize cvZ w0 = z at *
      clear e1 e2 hE hW hsm
      simp only [vC] at *
      go_enter Try.func27, Try.ntmps27
      go_wp2_with fail
      refine (HCE.out _).mono ?_
      rintro e w2 ⟨rfl, hb2⟩
      have HB : Hid (Below w.heap.size w (w2.alloc (.cells #[.int .i64 R, .int .i64 z.1, .int .i64 z.2] 29))) := hb2.alloc hb2.size _
      clear hb2
      go_wp2
      go_ret2
      exact Told.nil HB.out
    · have e1 : rgsE w0 k 81 = 7 := by unfold rgsE; rw [if_pos hW, if_neg (by omega), if_pos h]
      have e2 : rgsL w0 0 k 81 = [] := by unfold rgsL; rw [e1]; rfl
      rw [e1, e2]
      have q1 : decide (k < 0) = false := decide_eq_false (by omega)
      have q2 : decide (81 < k) = true := decide_eq_true h
      generalize cvR w0 = R at *
      generalize cvZ w0 = z at *
      clear e1 e2 hE hW hsm
      simp only [vC] at *
      go_enter Try.func27, Try.ntmps27
      go_wp2_with fail
      refine (HCE.out _).mono ?_
      rintro e w2 ⟨rfl, hb2⟩
      have HB : Hid (Below w.heap.size w (w2.alloc (.cells #[.int .i64 R, .int .i64 z.1, .int .i64 z.2] 29))) := hb2.alloc hb2.size _
      clear hb2
      go_wp2
      go_ret2
      exact Told.nil HB.out
    · obtain ⟨K, rfl⟩ : ∃ K : Nat, k = K := ⟨k.toNat, by omega⟩
      have e1 : rgsE w0 K 81 = 0 := by unfold rgsE; rw [if_pos hW, if_neg (by omega), if_neg (by omega)]
      have e2 : rgsL w0 0 K 81 = besL (cvR w0) (cvZ w0) (arL 0 K) := by
        unfold rgsL
        rw [if_pos e1, show ((K : Int) + 1 - (0 : Nat)).toNat = K + 1 by omega]
        exact (bes_eq hW fun e => by rw [arL_mem]; omega).symm
      rw [e1, e2]
      have q1 : decide ((K : Int) < 0) = false := decide_eq_false (by omega)
      have q2 : decide (81 < (K : Int)) = false := decide_eq_false (by omega)
      have HAR := Lib.hid (around_any 0 K (by omega) (by omega))
      have HBE := Lib.hid (fun ao c w (h : EAt w ao (arL 0 K)) => beside_any (cvR w0) (cvZ w0) ao c (arL 0 K) w h hsm (fun y hy => sm_steps (by have := ((arL_mem 0 K y).1 hy).2; omega)) (ar_len _ _ (by omega)))
      generalize besL (cvR w0) (cvZ w0) (arL 0 K) = B at *
      generalize arL 0 K = L at *
      generalize cvR w0 = R at *
      generalize cvZ w0 = z at *
      clear e1 e2 hE hW hsm h3
      simp only [vC, Int.ofNat_zero] at *
      go_enter Try.func27, Try.ntmps27
      go_wp2_with fail
      refine (HCE.out _).mono ?_
      rintro e w2 ⟨rfl, hb2⟩
      have HB : Hid (Below w.heap.size w (w2.alloc (.cells #[.int .i64 R, .int .i64 z.1, .int .i64 z.2] 29))) := hb2.alloc hb2.size _
      have HC : Hid (Tri (w2.alloc (.cells #[.int .i64 R, .int .i64 z.1, .int .i64 z.2] 29)) w2.heap.size R z) := heap_new _ _ _ rfl
      clear hb2
      go_upto_region 8 with (fail)
      generalize w2.alloc (.cells #[.int .i64 R, .int .i64 z.1, .int .i64 z.2] 29) = w3 at *
      have hwl := HC.out.lt
      refine wp_region_inw ([.inl (.agg #[.int .i64 R, .int .i64 z.1, .int .i64 z.2]), .inl (.int .i64 K), .inr (wE L), .inr (wWd B), .inr (wWd B), .inl (.int .i64 0)] : List Want) [] (by kernel_rfl) (by kernel_rfl) (by kernel_rfl) ?_
      refine inw_cons (fun wx hg hd => ?_) (fun v0 => ?_)
      · have hx := ((Below.refl w3.heap.size w3).drew).trans hg
        clear hd hg
        obtain ⟨t0, t1, t2, t3, t4, t5, t6⟩ := (HC.out.later hx).cells
        go_wp2
        exact ⟨_, rfl, Below.refl _ _, rfl⟩
      (try simp only [List.nil_append, Act.put, List.setIfInBounds_toArray, List.set_cons_zero, List.set_cons_succ])
      refine inw_cons (fun wx hg hd => ?_) (fun v1 => ?_)
      · have hx := ((Below.refl w3.heap.size w3).drew).trans hg
        clear hd hg
        go_wp2
        exact ⟨_, rfl, Below.refl _ _, rfl⟩
      (try simp only [List.cons_append, List.nil_append, Act.put, List.setIfInBounds_toArray, List.set_cons_zero, List.set_cons_succ])
      refine inw_cons (fun wx hg hd => ?_) (fun v2 => ?_)
      · have hx := ((Below.refl w3.heap.size w3).drew).trans hg
        (try (have ee : v1 = (.int .i64 K : Value) := hd 1 (by simp) (by decide); subst ee))
        clear hd hg
        go_wp2_with fail
        refine (HAR.out _).mono ?_
        rintro e w' ⟨ao, c, rfl, h1, hb⟩
        go_wp2
        exact ⟨_, rfl, hb, ao, c, rfl, h1⟩
      (try simp only [List.cons_append, List.nil_append, Act.put, List.setIfInBounds_toArray, List.set_cons_zero, List.set_cons_succ])
      refine inw_cons (fun wx hg hd => ?_) (fun v3 => ?_)
      · have hx := ((Below.refl w3.heap.size w3).drew).trans hg
        (try (have ee : v0 = (.agg #[.int .i64 R, .int .i64 z.1, .int .i64 z.2] : Value) := hd 0 (by simp) (by decide); subst ee))
        have hp2 : (wE L : SP).1 v2 wx := hd 2 (by simp) (by decide)
        clear hd hg
        obtain ⟨ao, c, rfl, h⟩ := hp2
        go_wp2_with fail
        refine (HBE.out ao c _ h).mono ?_
        rintro e w' ⟨ao, c, rfl, h1, hb, _⟩
        go_wp2
        exact ⟨_, rfl, hb, ao, c, rfl, h1⟩
      (try simp only [List.cons_append, List.nil_append, Act.put, List.setIfInBounds_toArray, List.set_cons_zero, List.set_cons_succ])
      refine inw_cons (fun wx hg hd => ?_) (fun v4 => ?_)
      · have hx := ((Below.refl w3.heap.size w3).drew).trans hg
        have hp3 : (wWd B : SP).1 v3 wx := hd 3 (by simp) (by decide)
        clear hd hg
        obtain ⟨ao, c, rfl, h⟩ := hp3
        go_wp2
        exact ⟨_, rfl, Below.refl _ _, ao, c, rfl, h⟩
      (try simp only [List.cons_append, List.nil_append, Act.put, List.setIfInBounds_toArray, List.set_cons_zero, List.set_cons_succ])
      refine inw_cons (fun wx hg hd => ?_) (fun v5 => ?_)
      · have hx := ((Below.refl w3.heap.size w3).drew).trans hg
        clear hd hg
        go_wp2
        exact ⟨_, rfl, Below.refl _ _, rfl⟩
      (try simp only [List.cons_append, List.nil_append, Act.put, List.setIfInBounds_toArray, List.set_cons_zero, List.set_cons_succ])
      refine inw_done (fun wx hg hd => ?_)
      have hx := ((Below.refl w3.heap.size w3).drew).trans hg
      (have ee : v0 = (.agg #[.int .i64 R, .int .i64 z.1, .int .i64 z.2] : Value) := hd 0 (by simp) (by kernel_rfl); subst ee)
      (have ee : v1 = (.int .i64 K : Value) := hd 1 (by simp) (by kernel_rfl); subst ee)
      have hp2 : (wE L : SP).1 v2 wx := hd 2 (by simp) (by kernel_rfl)
      have hp3 : (wWd B : SP).1 v3 wx := hd 3 (by simp) (by kernel_rfl)
      have hp4 : (wWd B : SP).1 v4 wx := hd 4 (by simp) (by kernel_rfl)
      (have ee : v5 = (.int .i64 0 : Value) := hd 5 (by simp) (by kernel_rfl); subst ee)
      clear hd hg
      (try go_simp)
      obtain ⟨ao, c, rfl, h⟩ := hp4
      have HF : Hid (Told w B 0 (.returned (.tuple #[.slice ao B.length c, .int .i64 0])) wx) := ⟨ao, c, rfl, h, HB.out.trans (hx.mono HB.out.size)⟩
      clear hx h
      go_wp2
      go_ret2
      exact HF.out
  · have e1 : rgsE w0 k 81 = 5 := by unfold rgsE; rw [if_neg (by rw [hW]; decide)]
    have e2 : rgsL w0 0 k 81 = [] := by unfold rgsL; rw [e1]; rfl
    rw [e1, e2]
    rw [hE] at HCE
    generalize cvR w0 = R at *
    generalize cvZ w0 = z at *
    clear e1 e2 hE hW hsm
    simp only [vC] at *
    go_enter Try.func27, Try.ntmps27
    go_wp2_with fail
    refine (HCE.out _).mono ?_
    rintro e w2 ⟨rfl, hb2⟩
    have HB : Hid (Below w.heap.size w (w2.alloc (.cells #[.int .i64 R, .int .i64 z.1, .int .i64 z.2] 29))) := hb2.alloc hb2.size _
    clear hb2
    go_wp2
    go_ret2
    exact Told.nil HB.out
set_option maxRecDepth 100000 in
set_option maxHeartbeats 8000000 in
theorem rnei_any (w0 : Nat) (hw0 : w0 < 18446744073709551616) (w : World) : Calls Try.prog 23 #[.int .u64 w0] w (Told w (rgsL w0 1 1 1) (rgsE w0 1 1)) := by
  obtain ⟨i1, hj, hy0, hy1, hy2⟩ := info_parts info_e
  have HCE := Lib.hid (rcell_any w0 hw0)
  have hsm := cv_sm w0
  rcases isW_cv (w0 := w0) with ⟨hW, hE⟩ | ⟨hW, hE⟩
  · rw [hE] at HCE
    have e1 : rgsE w0 1 1 = 0 := by unfold rgsE; rw [if_pos hW, if_neg (by omega), if_neg (by omega)]
    have e2 : rgsL w0 1 1 1 = besL (cvR w0) (cvZ w0) unitL := by
      unfold rgsL
      rw [if_pos e1]
      exact (bes_eq hW unitL_mem).symm
    rw [e1, e2]
    have HBE := Lib.hid (fun ao c w (h : EAt w ao unitL) => beside_any (cvR w0) (cvZ w0) ao c unitL w h hsm (fun y hy => sm_steps (by have := ((unitL_mem y).1 hy).2; omega)) (by decide))
    have HUT := Lib.hid (fun k (h : k < 6) => unitL_take h)
    have HUL : Hid (unitL.length = 6) := by show _ = _; decide
    generalize besL (cvR w0) (cvZ w0) unitL = B at *
    generalize unitL = L at *
    generalize cvR w0 = R at *
    generalize cvZ w0 = z at *
    clear e1 e2 hE hW hsm
    simp only [vC] at *
    go_enter Try.func23, Try.ntmps23
    go_wp2_with fail
    refine (HCE.out _).mono ?_
    rintro e w2 ⟨rfl, hb2⟩
    have HB : Hid (Below w.heap.size w (w2.alloc (.cells #[.int .i64 R, .int .i64 z.1, .int .i64 z.2] 29))) := hb2.alloc hb2.size _
    have HC : Hid (Tri (w2.alloc (.cells #[.int .i64 R, .int .i64 z.1, .int .i64 z.2] 29)) w2.heap.size R z) := heap_new _ _ _ rfl
    clear hb2
    go_upto_region 4 with (fail)
    generalize w2.alloc (.cells #[.int .i64 R, .int .i64 z.1, .int .i64 z.2] 29) = w3 at *
    have hwl := HC.out.lt
    go_wp2
    go_loopw [6, 7] (fun sl i wr => ∃ (k : Nat) (ao : Option Addr) (c : Nat), k ≤ 6 ∧ i = .int .i64 k ∧ sl = .slice ao k c ∧ Hid (wr.ownsRow w3.heap.size 23 2 (.slice ao k c) k (eV (L.take k)) ∧ Below w3.heap.size w3 wr)) (fun _ i _ => 6 - (intOf i).toNat)
    case atStart => exact ⟨0, _, _, by omega, rfl, rfl, World.ownsRow_nil _ _ _ _, Below.refl _ _⟩
    case round =>
      obtain ⟨k, ao, c, hk, rfl, rfl, HI⟩ := hrel
      by_cases hlt : k < 6
      · have HUN := Lib.hid (runit_in k hlt)
        have HTK := Lib.hid (HUT.out k hlt)
        simp only [vE] at HUN
        generalize unitE k = u at *
        go_wp2_with fail
        refine (HUN.out _).mono ?_
        rintro e w5 ⟨rfl, hb5⟩
        have hown := own_later HI.out.1 hb5
        have HB5 := Lib.hid (HI.out.2.trans (hb5.mono HI.out.2.size))
        have hz5 := HB5.out.size
        clear HI hb5
        go_wp2_with (at_builtin; refine wpList_append_own _ rfl (.tmp 20) (.tmp 23) 24 rfl w3.heap.size 23 i1 (.agg #[.int .i64 0, .int .i64 0]) 2 16 Try.underlying24 hj hy0 hy1 hy2 rfl (by decide) _ _ _ rfl (hown.alloc _) ⟨w5.heap.size, 0, none⟩ 1 1 [.int .i64 u.1, .int .i64 u.2] rfl rfl (cells_new _ _ _ _ rfl) (by simp [Value.oneCell']) (by unfold maxLen; omega) (by omega) (by simp; omega) ?_; intro v' w9 hown1 hgrow _)
        have HB9 : Hid (Below w3.heap.size w3 w9) := below_append (HB5.out.alloc (by omega) (.cells #[.int .i64 u.1, .int .i64 u.2] 23)) (hown.alloc (.cells #[.int .i64 u.1, .int .i64 u.2] 23)) (by simp; omega) hgrow
        obtain ⟨ao', c', rfl, _⟩ := own_form hown1
        have ho9 : w9.ownsRow w3.heap.size 23 2 (.slice ao' (k + 1) c') (k + 1) (eV (L.take (k + 1))) := by rw [HTK.out, eV_append, eV_one]; exact hown1
        have HO9 := Lib.hid ho9
        clear hown1 hgrow hown ho9
        go_wp2
        go_roundw
        case rel => exact ⟨k + 1, ao', c', by omega, by go_num, rfl, HO9.out, HB9.out⟩
        case measure => simp [intOf]; omega
      · have hk6 : 6 ≤ k := by omega
        have hown := HI.out.1
        rw [show L.take k = L from List.take_of_length_le (by rw [HUL.out]; exact hk6)] at hown
        have HSE := Lib.hid (HBE.out ao c wr (eAt_own (by rw [HUL.out]; omega) hown))
        rw [show L.length = k by rw [HUL.out]; omega] at HSE
        have HBX := Lib.hid (HB.out.trans (HI.out.2.mono HB.out.size))
        obtain ⟨t0, t1, t2, t3, t4, t5, t6⟩ := (HC.out.later HI.out.2).cells
        clear hown HI
        go_wp2_with fail
        refine HSE.out.mono ?_
        rintro e w5 ⟨qo, q, rfl, hq, hb5, hq0⟩
        have HF : Hid (Told w B 0 (.returned (.tuple #[.slice qo B.length q, .int .i64 0])) w5) := ⟨qo, q, rfl, hq, HBX.out.trans (hb5.mono HBX.out.size)⟩
        clear hq hb5 hq0
        go_wp2
        go_ret2
        exact HF.out
  · have e1 : rgsE w0 1 1 = 5 := by unfold rgsE; rw [if_neg (by rw [hW]; decide)]
    have e2 : rgsL w0 1 1 1 = [] := by unfold rgsL; rw [e1]; rfl
    rw [e1, e2]
    rw [hE] at HCE
    generalize cvR w0 = R at *
    generalize cvZ w0 = z at *
    clear e1 e2 hE hW hsm
    simp only [vC] at *
    go_enter Try.func23, Try.ntmps23
    go_wp2_with fail
    refine (HCE.out _).mono ?_
    rintro e w2 ⟨rfl, hb2⟩
    have HB : Hid (Below w.heap.size w (w2.alloc (.cells #[.int .i64 R, .int .i64 z.1, .int .i64 z.2] 29))) := hb2.alloc hb2.size _
    clear hb2
    go_wp2
    go_ret2
    exact Told.nil HB.out
end Go.Proofs.Yticbkdignmlfiaa
