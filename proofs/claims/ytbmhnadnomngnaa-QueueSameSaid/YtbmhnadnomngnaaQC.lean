/- Contracts of container/heap's up and down at a row. -/
import Derived.Test.YtbmhnadnomngnaaQB
namespace Go.Proofs.Ytbmhnadnomngnaa
open Go.RowKit Go.Lib

def ifc (r : Nat) : Value := .iface 48 (.pointer (some ⟨r, 0, none⟩))
def upF (L : List Wt) (j : Nat) : List Wt :=
  if j = 0 then L else if lessW (wg L j) (wg L ((j - 1) / 2)) then upF (swapL L ((j - 1) / 2) j) ((j - 1) / 2) else L
termination_by j
decreasing_by omega
theorem upF_zero (L : List Wt) : upF L 0 = L := by rw [upF, if_pos rfl]
theorem upF_step {L : List Wt} {j i : Nat} (hj : 0 < j) (hi : (j - 1) / 2 = i) (h : lessW (wg L j) (wg L i) = true) : upF L j = upF (swapL L i j) i := by
  rw [upF, if_neg (by omega), hi, h, if_pos rfl]
theorem upF_stop {L : List Wt} {j i : Nat} (hi : (j - 1) / 2 = i) (h : lessW (wg L j) (wg L i) = false) : upF L j = L := by
  rw [upF]
  split
  · rfl
  · rw [hi, h]; rfl
set_option maxRecDepth 100000 in
set_option maxHeartbeats 1000000 in
theorem up_any {w : World} {r b c : Nat} {vo : Option Addr} {L : List Wt} (h : RowAt w r b vo c L) {j0 : Nat} (hj0 : j0 < L.length) :
    Calls Try.prog 29 #[ifc r, .int .i64 j0] w fun e w' => e = .returned (.tuple #[]) ∧ RowAt w' r b vo c (upF L j0) ∧ Turn (Foot r b vo) w w' := by
  have hlen := h.2.2.2.2.2.2.2
  have HR := Lib.hid h
  obtain ⟨n, hn⟩ : ∃ n, L.length = n := ⟨_, rfl⟩
  have HN := Lib.hid hn
  rw [hn] at hj0 hlen
  clear h hn
  unfold ifc
  go_enter Try.func29, Try.ntmps29
  go_wp2
  go_loopw [1] (fun jv wr => ∃ (j : Nat) (M : List Wt), j < n ∧ jv = .int .i64 j ∧ Hid (M.length = n ∧ upF M j = upF L j0 ∧ RowAt wr r b vo c M ∧ Turn (Foot r b vo) w wr)) (fun jv _ => (intOf jv).toNat)
  case atStart => exact ⟨j0, L, hj0, rfl, HN.out, rfl, HR.out, Turn.refl _ _⟩
  case round =>
    obtain ⟨j, M, hj, rfl, HM⟩ := hrel
    by_cases hz : j = 0
    · subst hz
      have HT : Hid (RowAt wr r b vo c (upF L j0) ∧ Turn (Foot r b vo) w wr) := ⟨by rw [← HM.out.2.1, upF_zero]; exact HM.out.2.2.1, HM.out.2.2.2⟩
      clear HM
      go_wp2_with fail
      go_end0
      exact ⟨rfl, HT.out⟩
    · obtain ⟨i, hi⟩ : ∃ i, (j - 1) / 2 = i := ⟨_, rfl⟩
      have hij : i < j := by omega
      have hiI : ((j : Int) - 1).tdiv 2 = (i : Int) := by rw [Int.tdiv_eq_ediv_of_nonneg (by omega)]; omega
      have HL := Lib.hid (rless_any HM.out.2.2.1 (i := j) (k := i) (by rw [HM.out.1]; omega) (by rw [HM.out.1]; omega))
      obtain ⟨o, ho⟩ : ∃ o, lessW (wg M j) (wg M i) = o := ⟨_, rfl⟩
      rw [ho] at HL
      have HO := Lib.hid ho
      have HI := Lib.hid hi
      have qij : ((i : Int) == (j : Int)) = false := by simp; omega
      clear ho hi
      go_wp2_with fail
      refine HL.out.mono ?_
      rintro e w1 ⟨rfl, hb⟩
      have HR1 : Hid (RowAt w1 r b vo c M ∧ Turn (Foot r b vo) w w1) := ⟨HM.out.2.2.1.below hb, HM.out.2.2.2.trans (T := fun _ => False) (Turn.of_below hb) fun _ _ h => h.elim⟩
      clear hb
      cases o with
      | false =>
        have HT : Hid (RowAt w1 r b vo c (upF L j0) ∧ Turn (Foot r b vo) w w1) := ⟨by rw [← HM.out.2.1, upF_stop HI.out HO.out]; exact HR1.out.1, HR1.out.2⟩
        clear HM HR1
        go_wp2_with fail
        go_end0
        exact ⟨rfl, HT.out⟩
      | true =>
        have HS := Lib.hid (rswap_any HR1.out.1 (i := i) (k := j) (by rw [HM.out.1]; omega) (by rw [HM.out.1]; omega))
        go_wp2_with fail
        refine HS.out.mono ?_
        rintro e w2 ⟨rfl, hr2, ht2⟩
        have HN2 : Hid ((swapL M i j).length = n ∧ upF (swapL M i j) i = upF L j0 ∧ RowAt w2 r b vo c (swapL M i j) ∧ Turn (Foot r b vo) w w2) :=
          ⟨by rw [swapL_length]; exact HM.out.1, by rw [← HM.out.2.1, upF_step (by omega) HI.out HO.out], hr2, HR1.out.2.trans ht2 fun _ _ h => h⟩
        clear hr2 ht2 HS HM HR1
        go_wp2
        go_roundw
        case rel => exact ⟨i, swapL M i j, by omega, rfl, HN2.out⟩
        case measure => simp [intOf]; omega
def childF (L : List Wt) (i n : Nat) : Nat := if 2 * i + 2 < n ∧ lessW (wg L (2 * i + 2)) (wg L (2 * i + 1)) = true then 2 * i + 2 else 2 * i + 1
theorem childF_gt (L : List Wt) (i n : Nat) : i < childF L i n := by unfold childF; split <;> omega
theorem childF_lt {L : List Wt} {i n : Nat} (h : 2 * i + 1 < n) : childF L i n < n := by
  unfold childF
  split
  · rename_i h2; exact h2.1
  · exact h
def downF (L : List Wt) (i n : Nat) : List Wt × Nat :=
  if n ≤ 2 * i + 1 then (L, i) else if lessW (wg L (childF L i n)) (wg L i) then downF (swapL L i (childF L i n)) (childF L i n) n else (L, i)
termination_by n - i
decreasing_by have := childF_gt L i n; omega
theorem downF_end {L : List Wt} {i n : Nat} (h : n ≤ 2 * i + 1) : downF L i n = (L, i) := by rw [downF, if_pos h]
theorem downF_step {L : List Wt} {i n j : Nat} (h : ¬ n ≤ 2 * i + 1) (hj : childF L i n = j) (hl : lessW (wg L j) (wg L i) = true) : downF L i n = downF (swapL L i j) j n := by
  rw [downF, if_neg h, hj, hl, if_pos rfl]
theorem downF_stop {L : List Wt} {i n j : Nat} (hj : childF L i n = j) (hl : lessW (wg L j) (wg L i) = false) : downF L i n = (L, i) := by
  rw [downF]
  split
  · rfl
  · rw [hj, hl]; rfl
set_option maxRecDepth 100000 in
set_option maxHeartbeats 2000000 in
theorem down_any {w : World} {r b c : Nat} {vo : Option Addr} {L : List Wt} (h : RowAt w r b vo c L) {i0 n : Nat} (hi0 : i0 < L.length) (hn : n ≤ L.length) :
    Calls Try.prog 30 #[ifc r, .int .i64 i0, .int .i64 n] w fun e w' => e = .returned (.bool (decide (i0 < (downF L i0 n).2))) ∧ RowAt w' r b vo c (downF L i0 n).1 ∧ Turn (Foot r b vo) w w' := by
  have hlen := h.2.2.2.2.2.2.2
  have HR := Lib.hid h
  obtain ⟨N, hN⟩ : ∃ n, L.length = n := ⟨_, rfl⟩
  have HN := Lib.hid hN
  rw [hN] at hi0 hlen hn
  obtain ⟨D, hD⟩ : ∃ D, downF L i0 n = D := ⟨_, rfl⟩
  rw [hD]
  have HD := Lib.hid hD
  clear h hN hD
  unfold ifc
  go_enter Try.func30, Try.ntmps30
  go_wp2
  go_loopw [7] (fun iv wr => ∃ (i : Nat) (M : List Wt), i < N ∧ iv = .int .i64 i ∧ Hid (M.length = N ∧ downF M i n = D ∧ RowAt wr r b vo c M ∧ Turn (Foot r b vo) w wr)) (fun iv _ => N - (intOf iv).toNat)
  case atStart => exact ⟨i0, L, hi0, rfl, HN.out, HD.out, HR.out, Turn.refl _ _⟩
  case round =>
    obtain ⟨i, M, hi, rfl, HM⟩ := hrel
    obtain ⟨j1, hj1, hj1n⟩ : ∃ j1 : Nat, 2 * (i : Int) + 1 = (j1 : Int) ∧ 2 * i + 1 = j1 := ⟨2 * i + 1, by omega, rfl⟩
    by_cases hz : n ≤ j1
    · have HT : Hid (D.2 = i ∧ RowAt wr r b vo c D.1 ∧ Turn (Foot r b vo) w wr) := by
        have e : D = (M, i) := by rw [← HM.out.2.1, downF_end (by omega)]
        exact ⟨by rw [e], by rw [e]; exact HM.out.2.2.1, HM.out.2.2.2⟩
      have q1 : decide (n ≤ j1) = true := by simpa using hz
      clear HM
      go_wp2_with fail
      go_ret
      exact ⟨by rw [HT.out.1]; rfl, HT.out.2⟩
    · have q1 : decide (n ≤ j1) = false := by simpa using hz
      have q2 : decide ((j1 : Int) < 0) = false := by simp
      obtain ⟨j2, hj2, hj2n⟩ : ∃ j2 : Nat, (j1 : Int) + 1 = (j2 : Int) ∧ j1 + 1 = j2 := ⟨j1 + 1, by omega, rfl⟩
      have HJ1 := Lib.hid hj1n
      have HJ2 := Lib.hid hj2n
      have hij1 : i < j1 := by omega
      have hj12 : j1 < j2 := by omega
      have hj1N : j1 < N := by omega
      -- which child goes
      have key : (decide (j2 < n) = false ∧ Hid (childF M i n = j1)) ∨ (j2 < n ∧ decide (j2 < n) = true ∧ ∃ o : Bool, Hid (childF M i n = if o then j2 else j1) ∧ Hid (∀ wx, RowAt wx r b vo c M → Calls Try.prog 66 #[.pointer (some ⟨r, 0, none⟩), .int .i64 j2, .int .i64 j1] wx fun e w' => e = .returned (.bool o) ∧ Below wx.heap.size wx w')) := by
        by_cases e : j2 < n
        · refine .inr ⟨e, by simpa using e, lessW (wg M j2) (wg M j1), ?_, fun wx hx => rless_any hx (by rw [HM.out.1]; omega) (by rw [HM.out.1]; omega)⟩
          show _ = _
          unfold childF
          rw [show 2 * i + 2 = j2 by omega, hj1n]
          by_cases e2 : lessW (wg M j2) (wg M j1) = true
          · rw [if_pos ⟨e, e2⟩, if_pos e2]
          · rw [if_neg (fun h => e2 h.2), if_neg e2]
        · refine .inl ⟨by simpa using e, ?_⟩
          show _ = _
          unfold childF
          rw [if_neg (by omega), hj1n]
      clear hj1n hj2n
      rcases key with ⟨q3, HC⟩ | ⟨hj2N, q3, o, HC, HLL⟩
      · -- one child alone
        have HL := Lib.hid (rless_any HM.out.2.2.1 (i := j1) (k := i) (by rw [HM.out.1]; omega) (by rw [HM.out.1]; omega))
        obtain ⟨p, hp⟩ : ∃ o, lessW (wg M j1) (wg M i) = o := ⟨_, rfl⟩
        rw [hp] at HL
        have HP := Lib.hid hp
        clear hp
        go_wp2_with fail
        refine HL.out.mono ?_
        rintro e w1 ⟨rfl, hb⟩
        have HR1 : Hid (RowAt w1 r b vo c M ∧ Turn (Foot r b vo) w w1) := ⟨HM.out.2.2.1.below hb, HM.out.2.2.2.trans (T := fun _ => False) (Turn.of_below hb) fun _ _ h => h.elim⟩
        clear hb
        cases p with
        | false =>
          have HT : Hid (D.2 = i ∧ RowAt w1 r b vo c D.1 ∧ Turn (Foot r b vo) w w1) := by
            have e : D = (M, i) := by rw [← HM.out.2.1, downF_stop HC.out HP.out]
            exact ⟨by rw [e], by rw [e]; exact HR1.out.1, HR1.out.2⟩
          clear HM HR1
          go_wp2_with fail
          go_ret
          exact ⟨by rw [HT.out.1]; rfl, HT.out.2⟩
        | true =>
          have HS := Lib.hid (rswap_any HR1.out.1 (i := i) (k := j1) (by rw [HM.out.1]; omega) (by rw [HM.out.1]; omega))
          go_wp2_with fail
          refine HS.out.mono ?_
          rintro e w2 ⟨rfl, hr2, ht2⟩
          have HN2 : Hid ((swapL M i j1).length = N ∧ downF (swapL M i j1) j1 n = D ∧ RowAt w2 r b vo c (swapL M i j1) ∧ Turn (Foot r b vo) w w2) :=
            ⟨by rw [swapL_length]; exact HM.out.1, by rw [← HM.out.2.1, downF_step (by rw [HJ1.out]; exact hz) HC.out HP.out], hr2, HR1.out.2.trans ht2 fun _ _ h => h⟩
          clear hr2 ht2 HS HM HR1 hj1 hj2
          go_wp2
          go_roundw
          case rel => exact ⟨j1, swapL M i j1, hj1N, rfl, HN2.out⟩
          case measure => simp [intOf]; omega
      · cases o
        all_goals
          simp only [Bool.false_eq_true, if_true, if_false] at HC
          go_wp2_with fail
          refine (HLL.out _ HM.out.2.2.1).mono ?_
          rintro e w0 ⟨rfl, hb⟩
          have HR0 : Hid (RowAt w0 r b vo c M ∧ Turn (Foot r b vo) w w0) := ⟨HM.out.2.2.1.below hb, HM.out.2.2.2.trans (T := fun _ => False) (Turn.of_below hb) fun _ _ h => h.elim⟩
          clear hb HLL
        · have HL := Lib.hid (rless_any HR0.out.1 (i := j1) (k := i) (by rw [HM.out.1]; omega) (by rw [HM.out.1]; omega))
          obtain ⟨p, hp⟩ : ∃ o, lessW (wg M j1) (wg M i) = o := ⟨_, rfl⟩
          rw [hp] at HL
          have HP := Lib.hid hp
          clear hp
          go_wp2_with fail
          refine HL.out.mono ?_
          rintro e w1 ⟨rfl, hb⟩
          have HR1 : Hid (RowAt w1 r b vo c M ∧ Turn (Foot r b vo) w w1) := ⟨HR0.out.1.below hb, HR0.out.2.trans (T := fun _ => False) (Turn.of_below hb) fun _ _ h => h.elim⟩
          clear hb
          cases p with
          | false =>
            have HT : Hid (D.2 = i ∧ RowAt w1 r b vo c D.1 ∧ Turn (Foot r b vo) w w1) := by
              have e : D = (M, i) := by rw [← HM.out.2.1, downF_stop HC.out HP.out]
              exact ⟨by rw [e], by rw [e]; exact HR1.out.1, HR1.out.2⟩
            clear HM HR1
            go_wp2_with fail
            go_ret
            exact ⟨by rw [HT.out.1]; rfl, HT.out.2⟩
          | true =>
            have HS := Lib.hid (rswap_any HR1.out.1 (i := i) (k := j1) (by rw [HM.out.1]; omega) (by rw [HM.out.1]; omega))
            go_wp2_with fail
            refine HS.out.mono ?_
            rintro e w2 ⟨rfl, hr2, ht2⟩
            have HN2 : Hid ((swapL M i j1).length = N ∧ downF (swapL M i j1) j1 n = D ∧ RowAt w2 r b vo c (swapL M i j1) ∧ Turn (Foot r b vo) w w2) :=
              ⟨by rw [swapL_length]; exact HM.out.1, by rw [← HM.out.2.1, downF_step (by rw [HJ1.out]; exact hz) HC.out HP.out], hr2, HR1.out.2.trans ht2 fun _ _ h => h⟩
            clear hr2 ht2 HS HM HR1 HR0 hj1 hj2
            go_wp2
            go_roundw
            case rel => exact ⟨j1, swapL M i j1, hj1N, rfl, HN2.out⟩
            case measure => simp [intOf]; omega
        · have HL := Lib.hid (rless_any HR0.out.1 (i := j2) (k := i) (by rw [HM.out.1]; omega) (by rw [HM.out.1]; omega))
          obtain ⟨p, hp⟩ : ∃ o, lessW (wg M j2) (wg M i) = o := ⟨_, rfl⟩
          rw [hp] at HL
          have HP := Lib.hid hp
          clear hp
          go_wp2_with fail
          refine HL.out.mono ?_
          rintro e w1 ⟨rfl, hb⟩
          have HR1 : Hid (RowAt w1 r b vo c M ∧ Turn (Foot r b vo) w w1) := ⟨HR0.out.1.below hb, HR0.out.2.trans (T := fun _ => False) (Turn.of_below hb) fun _ _ h => h.elim⟩
          clear hb
          cases p with
          | false =>
            have HT : Hid (D.2 = i ∧ RowAt w1 r b vo c D.1 ∧ Turn (Foot r b vo) w w1) := by
              have e : D = (M, i) := by rw [← HM.out.2.1, downF_stop HC.out HP.out]
              exact ⟨by rw [e], by rw [e]; exact HR1.out.1, HR1.out.2⟩
            clear HM HR1
            go_wp2_with fail
            go_ret
            exact ⟨by rw [HT.out.1]; rfl, HT.out.2⟩
          | true =>
            have HS := Lib.hid (rswap_any HR1.out.1 (i := i) (k := j2) (by rw [HM.out.1]; omega) (by rw [HM.out.1]; omega))
            have hj2N2 : j2 < N := by omega
            go_wp2_with fail
            refine HS.out.mono ?_
            rintro e w2 ⟨rfl, hr2, ht2⟩
            have HN2 : Hid ((swapL M i j2).length = N ∧ downF (swapL M i j2) j2 n = D ∧ RowAt w2 r b vo c (swapL M i j2) ∧ Turn (Foot r b vo) w w2) :=
              ⟨by rw [swapL_length]; exact HM.out.1, by rw [← HM.out.2.1, downF_step (by rw [HJ1.out]; exact hz) HC.out HP.out], hr2, HR1.out.2.trans ht2 fun _ _ h => h⟩
            clear hr2 ht2 HS HM HR1 HR0 hj1 hj2
            go_wp2
            go_roundw
            case rel => exact ⟨j2, swapL M i j2, hj2N2, rfl, HN2.out⟩
            case measure => simp [intOf]; omega
end Go.Proofs.Ytbmhnadnomngnaa
