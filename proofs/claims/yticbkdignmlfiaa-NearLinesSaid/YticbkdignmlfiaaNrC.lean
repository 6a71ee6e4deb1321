/- Contracts of near.rings, Neighbours, Ring, Disk. -/
import Derived.Test.YticbkdignmlfiaaNrB
namespace Go.Proofs.Yticbkdignmlfiaa
open Go.RowKit Go.Lib Wd Go.Sort

theorem sortw_any (B n c : Nat) (ao : Option Addr) (l : List Int) (w : World) (hn : l.length = n) (hl : n ≤ 1000000000) (hown : w.ownsRow B 25 1 (.slice ao n c) n (uV l)) :
    Calls Try.prog 46 #[.slice ao n c] w fun e w' => e = .returned (.tuple #[]) ∧ WordsAt w' w'.heap.size ao (srt l) ∧ Turn (fun q => (Value.slice ao n c).ownBlock = some q) w w' := by
  by_cases h0 : n = 0
  · subst h0
    obtain rfl : l = [] := List.eq_nil_of_length_eq_zero hn
    refine (u64_Sort_int_nil ao c w).mono ?_
    rintro e w2 ⟨rfl, hw⟩
    subst hw
    exact ⟨rfl, fun h => by simp [srt] at h, Turn.refl _ _⟩
  · obtain ⟨g, rfl, hg0, hg, _, hH⟩ := holds_own (by omega) hown
    have hs := u64_slices_Sort_int g 0 c l w hH hg (by omega)
    rw [hn] at hs
    refine hs.mono ?_
    rintro e w2 ⟨rfl, q, os, hw2⟩
    have hH2 : Holds encU w2 g 0 (srt l).toArray := by
      rw [hw2]
      refine holds_grow _ _ _ _ _ _ (by simpa [putRow, mapBlock, Sort.ahead] using hg) ?_
      exact holds_putRow _ _ _ _ l.toArray _ (holds_ahead _ _ _ _ _ _ hH) (by simp)
    have hz : w.heap.size ≤ w2.heap.size := by
      rw [hw2]
      simp [grow, putRow, mapBlock, Sort.ahead]
    have hw := words_of_holds (by omega) hH2 (srt l).length (Nat.le_refl _)
    rw [List.take_length] at hw
    refine ⟨rfl, hw, ?_⟩
    rw [hw2] at hz ⊢
    refine ⟨rfl, rfl, rfl, hz, fun k hk hs => ?_⟩
    have hne : g ≠ k := fun e => hs (by rw [e]; rfl)
    refine (heap_grow_old _ os (by simpa [putRow, mapBlock, Sort.ahead] using hk)).trans ?_
    simp [putRow, mapBlock, Sort.ahead, Array.getElem?_modify, hne]
def allR (z : E2) (f : Nat) : Nat → List E2
  | 0 => []
  | n + 1 => allR z f n ++ ringL z (f + n)
/-- Whether rings may be told: the error. -/
def rgsE (w0 : Nat) (t m : Int) : Int := if isW w0 = true then (if t < 0 then 1 else if m < t then 7 else 0) else 5
def rgsL (w0 f : Nat) (t m : Int) : List Int := if rgsE w0 t m = 0 then srt (tellL (rW w0) (allR (zW w0) f (t + 1 - f).toNat)) else []
/-- What is told: words in memory, and an error. -/
def Told (w : World) (L : List Int) (E : Int) (e : Ending) (w' : World) : Prop := ∃ ao c, e = .returned (.tuple #[.slice ao L.length c, .int .i64 E]) ∧ WordsAt w' w'.heap.size ao L ∧ Below w.heap.size w w'
theorem Told.nil {w w' : World} {E : Int} (h : Below w.heap.size w w') : Told w [] E (.returned (.tuple #[.slice none 0 0, .int .i64 E])) w'  := ⟨Option.none, 0, rfl, fun h => by simp at h, h⟩
theorem allR_length {z : E2} {f : Nat} (n : Nat) : (allR z f (n + 1)).length = (allR z f n).length + (ringL z (f + n)).length := by
  show (allR z f n ++ _).length = _; rw [List.length_append]
theorem allR_mono (z : E2) (f : Nat) {i j : Nat} (h : i ≤ j) : (allR z f i).length ≤ (allR z f j).length := by
  obtain ⟨d, rfl⟩ : ∃ d, j = i + d := ⟨j - i, by omega⟩
  clear h
  induction d with
  | zero => exact Nat.le_refl _
  | succ d ih => rw [← Nat.add_assoc, allR_length]; omega
set_option maxRecDepth 100000 in
set_option maxHeartbeats 8000000 in
theorem rings_any (w0 : Nat) (hw0 : w0 < 18446744073709551616) (fi : Int) (f : Nat) (t m : Int) (hfi : fi = f ∨ t < 0) (hf : (f : Int) ≤ t + 1 ∨ t < 0) (ht : t < 9223372036854775808) (ht2 : t ≤ m → t ≤ 9999) (hlen : t ≤ m → 0 ≤ t → (allR (zW w0) f (t + 1 - f).toNat).length ≤ 1000000) (w : World) :
    Calls Try.prog 32 #[.int .u64 w0, .int .i64 fi, .int .i64 t, .int .i64 m] w (Told w (rgsL w0 f t m) (rgsE w0 t m)) := by
  have HC := Lib.hid (cell_any w0 hw0)
  have HE : Hid (rgsE w0 t m = if isW w0 = true then (if t < 0 then 1 else if m < t then 7 else 0) else 5) := rfl
  have HL : Hid (rgsL w0 f t m = if rgsE w0 t m = 0 then srt (tellL (rW w0) (allR (zW w0) f (t + 1 - f).toNat)) else []) := rfl
  have HBAD : Hid (∀ E w', rgsE w0 t m = E → E ≠ 0 → Below w.heap.size w w' → Told w (rgsL w0 f t m) (rgsE w0 t m) (.returned (.tuple #[.slice none 0 0, .int .i64 E])) w') := fun E w' h1 h2 hb => by
    rw [HL.out, h1, if_neg h2]
    exact Told.nil hb
  by_cases hW : isW w0 = true
  · have hcv : cvE w0 = 0 := by unfold cvE; rw [if_pos hW]
    rw [hcv] at HC
    by_cases ht0 : t < 0
    · have HB := Lib.hid (fun w' => HBAD.out 1 w' (by rw [HE.out, if_pos hW, if_pos ht0]) (by decide))
      have q1 : decide (t < 0) = true := decide_eq_true ht0
      simp only [vC] at HC
      clear hf ht2 hlen HBAD HL HE hfi
      go_enter Try.func32, Try.ntmps32
      go_wp2_with fail
      refine (HC.out _).mono ?_
      rintro e w1 ⟨rfl, hb⟩
      have HB2 := Lib.hid (HB.out _ (hb.alloc hb.size (.cells #[.int .i64 (cvR w0), .int .i64 (cvZ w0).1, .int .i64 (cvZ w0).2] 29)))
      clear hb
      go_wp2
      go_ret2
      exact HB2.out
    · have q1 : decide (t < 0) = false := decide_eq_false ht0
      by_cases htm : m < t
      · have HB := Lib.hid (fun w' => HBAD.out 7 w' (by rw [HE.out, if_pos hW, if_neg ht0, if_pos htm]) (by decide))
        have q2 : decide (m < t) = true := decide_eq_true htm
        simp only [vC] at HC
        clear hf ht2 hlen HBAD HL HE hfi
        go_enter Try.func32, Try.ntmps32
        go_wp2_with fail
        refine (HC.out _).mono ?_
        rintro e w1 ⟨rfl, hb⟩
        have HB2 := Lib.hid (HB.out _ (hb.alloc hb.size (.cells #[.int .i64 (cvR w0), .int .i64 (cvZ w0).1, .int .i64 (cvZ w0).2] 29)))
        clear hb
        go_wp2
        go_ret2
        exact HB2.out
      · have q2 : decide (m < t) = false := decide_eq_false htm
        have hE0 : rgsE w0 t m = 0 := by rw [HE.out, if_pos hW, if_neg ht0, if_neg htm]
        have HL2 : Hid (rgsL w0 f t m = srt (tellL (rW w0) (allR (zW w0) f (t + 1 - f).toNat))) := by show _ = _; rw [HL.out, if_pos hE0]
        rw [hE0, HL2.out]
        have hcr : cvR w0 = (rW w0 : Int) := by unfold cvR; rw [if_pos hW]
        have hcz : cvZ w0 = zW w0 := by unfold cvZ; rw [if_pos hW]
        rw [hcr, hcz] at HC
        have hsm : Sm 2147483648 (zW w0) := by
          have := (shapeB_iff _ _).1 ((okB_iff _ _).1 (cell_word hW).1).1
          unfold Sm; omega
        have hft : (f : Int) ≤ t + 1 := hf.resolve_right ht0
        obtain rfl : fi = f := hfi.resolve_right ht0
        have ht9 := ht2 (by omega)
        have hln := hlen (by omega) (by omega)
        clear hf ht2 hlen HBAD HL HE hE0 HL2 hcr hcz hcv hW hfi
        generalize zW w0 = z at *
        generalize rW w0 = R at *
        simp only [vC] at HC
        obtain ⟨N, hN⟩ : ∃ N, (t + 1 - f).toNat = N := ⟨_, rfl⟩
        rw [hN] at hln ⊢
        have htN : t + 1 = f + N := by omega
        clear hN
        obtain ⟨L0, hL0⟩ : ∃ L, srt (tellL R (allR z f N)) = L := ⟨_, rfl⟩
        rw [hL0]
        have HLE := Lib.hid hL0
        clear hL0
        go_enter Try.func32, Try.ntmps32
        go_wp2_with fail
        refine (HC.out _).mono ?_
        rintro e w1 ⟨rfl, hb⟩
        have hal : Below w1.heap.size w1 ((w1.alloc (.cells #[.int .i64 R, .int .i64 z.1, .int .i64 z.2] 29)).alloc (.cells #[.int .i64 R, .int .i64 z.1, .int .i64 z.2, .slice none 0 0] 83)) := ((Below.refl _ _).alloc (Nat.le_refl _) _).alloc (by simp) _
        have ksz : ((w1.alloc (.cells #[.int .i64 R, .int .i64 z.1, .int .i64 z.2] 29)).alloc (.cells #[.int .i64 R, .int .i64 z.1, .int .i64 z.2, .slice none 0 0] 83)).heap.size = w1.heap.size + 2 := by simp
        have HB2 : Hid (Below w.heap.size w ((w1.alloc (.cells #[.int .i64 R, .int .i64 z.1, .int .i64 z.2] 29)).alloc (.cells #[.int .i64 R, .int .i64 z.1, .int .i64 z.2, .slice none 0 0] 83))) := hb.trans (hal.mono hb.size)
        have HK2 : Hid (Wkr ((w1.alloc (.cells #[.int .i64 R, .int .i64 z.1, .int .i64 z.2] 29)).alloc (.cells #[.int .i64 R, .int .i64 z.1, .int .i64 z.2, .slice none 0 0] 83)) (w1.heap.size + 1) R z (.slice none 0 0) []) := ⟨heap_new _ _ _ (by simp), World.ownsRow_nil _ _ _ _⟩
        have hwz := hb.size
        clear hal hb HC
        go_upto_region 9 with (fail)
        generalize (w1.alloc (.cells #[.int .i64 R, .int .i64 z.1, .int .i64 z.2] 29)).alloc (.cells #[.int .i64 R, .int .i64 z.1, .int .i64 z.2, .slice none 0 0] 83) = w2 at *
        obtain ⟨g, hg⟩ : ∃ g, w1.heap.size + 1 = g := ⟨_, rfl⟩
        rw [hg] at HK2 ⊢
        have hg2 : w2.heap.size = g + 1 := by omega
        have hgw : w.heap.size < g := by omega
        clear hg ksz hwz
        go_wp2
        go_loopw [13] (fun i wr => ∃ j : Nat, j ≤ N ∧ i = .int .i64 ((f : Int) + j) ∧ Hid (∃ v', Wkr wr g R z v' (tellL R (allR z f j)) ∧ Fr g (.slice none 0 0) v' w2 wr)) (fun i _ => (f + N) - (intOf i).toNat)
        case atStart => exact ⟨0, by omega, by simp, _, HK2.out, Fr.refl _ _ _⟩
        case round =>
          obtain ⟨j, hj, rfl, HI⟩ := hrel
          by_cases hjN : j < N
          · obtain ⟨v', hwk, hfr⟩ := HI.out
            have hl1 := allR_mono z f (show j ≤ N by omega)
            have hl2 := tellL_length R (allR z f j)
            have hr := ring_any g R z (f + j) v' (tellL R (allR z f j)) wr hwk hsm (by omega) (by omega)
            rw [← tellL_app] at hr
            have HR : Hid (Calls Try.prog 45 #[.pointer (some ⟨g, 0, none⟩), .int .i64 ((f : Int) + j)] wr (Walked wr g R z v' (tellL R (allR z f (j + 1))))) := by
              have := hr
              rw [Int.natCast_add] at this
              exact this
            have HFR := Lib.hid hfr
            have q4 : decide ((f : Int) + j ≤ t) = true := decide_eq_true (by omega)
            clear hwk hfr hr HI hl1 hl2
            go_wp2_with fail
            refine HR.out.mono ?_
            rintro e w4 ⟨rfl, v4, hw4, hf4⟩
            have HN : Hid (∃ v', Wkr w4 g R z v' (tellL R (allR z f (j + 1))) ∧ Fr g (.slice none 0 0) v' w2 w4) := ⟨v4, hw4, HFR.out.trans hf4⟩
            clear hw4 hf4
            go_wp2
            go_roundw
            case rel => exact ⟨j + 1, by omega, by simp; omega, HN.out⟩
            case measure => simp [intOf]; omega
          · obtain rfl : j = N := by omega
            obtain ⟨v', hwk, hfr⟩ := HI.out
            have q4 : decide ((f : Int) + j ≤ t) = false := decide_eq_false (by omega)
            have hl2 := tellL_length R (allR z f j)
            have hap := own_apart hwk.2
            obtain ⟨ao, c, rfl, _⟩ := own_form hwk.2
            have HS := Lib.hid (sortw_any (g + 1) _ c ao _ wr rfl (by omega) hwk.2)
            have HSL : Hid (srt (tellL R (allR z f j)) = L0) := HLE.out
            rw [HSL.out] at HS
            have hll : L0.length = (tellL R (allR z f j)).length := by rw [← HSL.out]; exact srt_length _
            have HBR : Hid (Below w.heap.size w wr) := HB2.out.trans (hfr.1.below (by omega) fun q hq e => e.elim (fun e => by omega) (fun e => by cases e))
            have hlt := hwk.2.lt
            obtain ⟨c0, c1, c2, c3, f1, f2, f3, hgl⟩ := hwk.cells
            have HG := Lib.hid hwk.1
            rw [← hll] at HS c3 hap hlt
            have HHL := Lib.hid hll
            clear hwk hfr HI hl2 hll
            go_wp2_with fail
            refine HS.out.mono ?_
            rintro e w5 ⟨rfl, hwd, htn⟩
            have k3 : w5.cell? ⟨g, 3, none⟩ = some (.slice ao L0.length c) := (htn.cell (p := ⟨g, 3, none⟩) hgl hap).trans c3
            have HB5 : Hid (Below w.heap.size w w5) := HBR.out.trans (htn.below (by have := HBR.out.size; omega) fun q hq e => by have := (hlt q e).1; omega)
            have HW5 := Lib.hid hwd
            clear hwd htn c0 c1 c2 c3
            go_wp2
            go_ret2
            exact ⟨ao, c, rfl, HW5.out, HB5.out⟩
  · have hcv : cvE w0 = 5 := by unfold cvE; rw [if_neg hW]
    rw [hcv] at HC
    have HB := Lib.hid (fun w' => HBAD.out 5 w' (by rw [HE.out, if_neg hW]) (by decide))
    simp only [vC] at HC
    clear hf ht2 hlen HBAD HL HE hfi
    go_enter Try.func32, Try.ntmps32
    go_wp2_with fail
    refine (HC.out _).mono ?_
    rintro e w1 ⟨rfl, hb⟩
    have HB2 := Lib.hid (HB.out _ (hb.alloc hb.size (.cells #[.int .i64 (cvR w0), .int .i64 (cvZ w0).1, .int .i64 (cvZ w0).2] 29)))
    clear hb
    go_wp2
    go_ret2
    exact HB2.out
theorem told_pass {w w1 : World} {L : List Int} {E : Int} {e : Ending} (h : Told w L E e w1) : ∃ ao c, e = .returned (.tuple #[.slice ao L.length c, .int .i64 E]) ∧ Told w L E (.returned (.tuple #[.slice ao L.length c, .int .i64 E])) w1 := by
  obtain ⟨ao, c, rfl, h2⟩ := h
  exact ⟨ao, c, rfl, ao, c, rfl, h2⟩
theorem sidesP_len6 (z : E2) (k : Nat) : (ringL z k).length ≤ 6 * k + 1 := by
  unfold ringL
  split
  · simp
  · rw [sidesP_length]; omega
theorem allR_bound (z : E2) (f n : Nat) : (allR z f n).length ≤ n * (6 * (f + n) + 1) := by
  induction n with
  | zero => simp [allR]
  | succ n ih =>
    rw [allR_length]
    have h1 := sidesP_len6 z (f + n)
    have h2 : n * (6 * (f + n) + 1) ≤ n * (6 * (f + (n + 1)) + 1) := Nat.mul_le_mul_left _ (by omega)
    rw [Nat.succ_mul]
    omega
/-- The cells beside a word's. -/
theorem nei_any (w0 : Nat) (hw0 : w0 < 18446744073709551616) (w : World) : Calls Try.prog 13 #[.int .u64 w0] w (Told w (rgsL w0 1 1 1) (rgsE w0 1 1)) := by
  have H := Lib.hid (rings_any w0 hw0 1 1 1 1 (by omega) (by omega) (by omega) (by omega) (fun _ _ => Nat.le_trans (allR_bound _ _ _) (by decide)) w)
  generalize rgsL w0 1 1 1 = L at *
  generalize rgsE w0 1 1 = E at *
  go_enter Try.func13, Try.ntmps13
  go_wp2_with fail
  refine H.out.mono ?_
  rintro e w1 h
  obtain ⟨ao, c, rfl, h2⟩ := told_pass h
  have HT := Lib.hid h2
  clear h h2
  go_wp2
  go_ret2
  exact HT.out
theorem rng_any (w0 : Nat) (hw0 : w0 < 18446744073709551616) (k : Int) (h1 : -9223372036854775808 ≤ k) (h2 : k < 9223372036854775808) (w : World) : Calls Try.prog 19 #[.int .u64 w0, .int .i64 k] w (Told w (rgsL w0 k.toNat k 3333) (rgsE w0 k 3333)) := by
  have H := Lib.hid (rings_any w0 hw0 k k.toNat k 3333 (by omega) (by omega) (by omega) (by omega) (fun h3 h4 => Nat.le_trans (allR_bound _ _ _) (by rw [show (k + 1 - (k.toNat : Int)).toNat = 1 by omega]; omega)) w)
  generalize rgsL w0 k.toNat k 3333 = L at *
  generalize rgsE w0 k 3333 = E at *
  go_enter Try.func19, Try.ntmps19
  go_wp2_with fail
  refine H.out.mono ?_
  rintro e w1 h
  obtain ⟨ao, c, rfl, h2⟩ := told_pass h
  have HT := Lib.hid h2
  clear h h2
  go_wp2
  go_ret2
  exact HT.out
theorem disk_any (w0 : Nat) (hw0 : w0 < 18446744073709551616) (k : Int) (h2 : k < 9223372036854775808) (w : World) : Calls Try.prog 14 #[.int .u64 w0, .int .i64 k] w (Told w (rgsL w0 0 k 81) (rgsE w0 k 81)) := by
  have H := Lib.hid (rings_any w0 hw0 0 0 k 81 (by omega) (by omega) (by omega) (by omega) (fun h3 _ => Nat.le_trans (allR_bound _ _ _) (by
    obtain ⟨n, hn⟩ : ∃ n, (k + 1 - ((0 : Nat) : Int)).toNat = n := ⟨_, rfl⟩
    rw [hn]
    exact Nat.le_trans (Nat.mul_le_mul (show n ≤ 82 by omega) (show 6 * (0 + n) + 1 ≤ 6 * 82 + 1 by omega)) (by decide))) w)
  generalize rgsL w0 0 k 81 = L at *
  generalize rgsE w0 k 81 = E at *
  go_enter Try.func14, Try.ntmps14
  go_wp2_with fail
  refine H.out.mono ?_
  rintro e w1 h
  obtain ⟨ao, c, rfl, h2⟩ := told_pass h
  have HT := Lib.hid h2
  clear h h2
  go_wp2
  go_ret2
  exact HT.out
end Go.Proofs.Yticbkdignmlfiaa
