/- The contract of apiaryref9.PolyCheck. -/
import Derived.Test.YtnnfkdajbaicoaaRefA
import Derived.Test.YtnnfkdajbaicoaaPolyP
import Derived.Deep.RegionWith
namespace Go.Proofs.Ytnnfkdajbaicoaa
open Go.RowKit

/-- How many corners there are, each ring counted for at most 1000, thirty rings at most. -/
def capTo (ls : List (List Pt)) (k : Nat) : Nat := ((ls.take k).map fun l => min l.length 1000).sum
theorem capTo_succ (ls : List (List Pt)) (k : Nat) (h : k < ls.length) : capTo ls (k + 1) = capTo ls k + min (rg ls k).length 1000 := by
  unfold capTo rg; rw [take_succ' ls k [] h]; simp
theorem capTo_le (ls : List (List Pt)) (k : Nat) : capTo ls k ≤ 1000 * k := by
  by_cases h : k ≤ ls.length
  · induction k with
    | zero => exact Nat.le_refl _
    | succ k ih => rw [capTo_succ ls k (by omega)]; have := ih (by omega); omega
  · unfold capTo
    rw [List.take_of_length_le (by omega)]
    have : ∀ l : List (List Pt), (l.map fun l => min l.length 1000).sum ≤ 1000 * l.length := by
      intro l
      induction l with
      | nil => simp
      | cons a l ih => simp; omega
    have := this ls
    omega
theorem cap_tot (ls : List (List Pt)) : ∀ k, k ≤ ls.length → (500 < capTo ls k ↔ 500 < totTo ls k)
  | 0, _ => Iff.rfl
  | k + 1, h => by
    have ih := cap_tot ls k (by omega)
    have e : capTo ls k ≤ totTo ls k ∧ (totTo ls k ≤ 500 → capTo ls k = totTo ls k) := by
      clear ih
      induction k with
      | zero => exact ⟨Nat.le_refl _, fun _ => rfl⟩
      | succ k ih2 =>
        obtain ⟨i1, i2⟩ := ih2 (by omega)
        rw [capTo_succ ls k (by omega), totTo_succ ls k (by omega)]
        refine ⟨by omega, fun h => ?_⟩
        have := i2 (by omega)
        omega
    rw [capTo_succ ls k (by omega), totTo_succ ls k (by omega)]
    by_cases h5 : totTo ls k ≤ 500
    · have := e.2 h5; omega
    · have : 500 < capTo ls k := ih.2 (by omega)
      omega
theorem outP_world (x y : Int) : outP (x, y) = !worldF x y := by
  unfold outP worldF
  rw [Bool.eq_iff_iff]
  simp

set_option maxHeartbeats 4000000 in
theorem rcheck_any (ao : Option Addr) (c : Nat) (ls : List (List Pt)) (w : World) (B : Nat) (hB : B ≤ w.heap.size) (h : RingsAt w B ao ls) (hn : ls.length ≤ 1000000000) (ht : totTo ls ls.length ≤ 1000000000) :
    Calls Try.prog 18 #[.slice ao ls.length c] w fun e w' => e = .returned (.int .i64 (checkF ls)) ∧ Below w.heap.size w w' := by
  obtain ⟨n, hnn⟩ : ∃ n, ls.length = n := ⟨_, rfl⟩
  have HT := Lib.hid ht
  have HR := Lib.hid h
  rw [hnn] at hn ⊢
  have HN : Hid (ls.length = n) := hnn
  clear hnn ht h
  -- one ring's place, at any later world
  have HQ : Hid (∀ wr, Below w.heap.size w wr → ∀ k, k < n → ∃ b off ri ci, ao = some ⟨b, off, none⟩ ∧ b < wr.heap.size ∧ wr.cell? ⟨b, off + k, none⟩ = some (.slice ri (rg ls k).length ci) ∧ RingAt wr B ri (rg ls k) ∧ (rg ls k).length ≤ 1000000000) := fun wr hb k hk => by
    obtain ⟨b, off, e, hlt, hc⟩ := (HR.out.below hb hB) (by rw [HN.out]; omega)
    obtain ⟨ri, ci, h1, h2⟩ := hc k (by rw [HN.out]; exact hk)
    have h3 := totTo_succ ls k (by rw [HN.out]; exact hk)
    have h4 := totTo_le ls (k + 1) (by rw [HN.out]; exact hk)
    have h5 := HT.out
    have h6 := hb.size
    exact ⟨b, off, ri, ci, e, by omega, h1, h2, by omega⟩
  go_enter Try.func18, Try.ntmps18
  go_wp2
  go_loopw [3, 4] (fun v i wr => ∃ k t : Nat, k ≤ n ∧ k ≤ 30 ∧ i = .int .i64 k ∧ v = .int .i64 t ∧ t ≤ 1000 * k ∧ Hid (t = capTo ls k) ∧ Below w.heap.size w wr) (fun _ i _ => 30 - (intOf i).toNat)
  case atStart => exact ⟨0, 0, Nat.zero_le _, by omega, rfl, rfl, by omega, rfl, Below.refl _ _⟩
  case round =>
    obtain ⟨k, t, hk, hk3, rfl, rfl, htk, HC, hnx⟩ := hrel
    by_cases hgo : k < n ∧ k < 30
    · obtain ⟨hlt, hl3⟩ := hgo
      obtain ⟨b, off, ri, ci, rfl, hb, c0, _, hm⟩ := HQ.out _ hnx k hlt
      have HS := Lib.hid (capTo_succ ls k (by rw [HN.out]; exact hlt))
      generalize (rg ls k).length = m at c0 hm HS
      have q1 : decide ((k : Int) < (n : Int)) = true := by simp; omega
      have q2 : decide ((k : Int) < 30) = true := by simp; omega
      by_cases hm1 : m ≤ 1000
      · go_wp2
        go_roundw
        case rel => exact ⟨k + 1, t + m, by omega, by omega, by go_num, by go_num, by omega, (by rw [HS.out, ← HC.out]; omega : t + m = capTo ls (k + 1)), hnx⟩
        case measure => simp [intOf]; omega
      · go_wp2
        go_roundw
        case rel => exact ⟨k + 1, t + 1000, by omega, by omega, by go_num, by go_num, by omega, (by rw [HS.out, ← HC.out]; omega : t + 1000 = capTo ls (k + 1)), hnx⟩
        case measure => simp [intOf]; omega
    · have hk20 : n ≤ 20 → k = n := fun h => by omega
      by_cases h20 : 20 < n
      · have HF : Hid (checkF ls = 7) := by show _ = _; unfold checkF; rw [if_pos (.inl (by rw [HN.out]; exact h20))]
        by_cases hkn : k < n
        · have q1 : decide ((k : Int) < (n : Int)) = true := by simp; omega
          have q2 : decide ((k : Int) < 30) = false := by simp; omega
          clear hgo hk20
          go_wp2
          go_ret
          exact ⟨ret_int HF.out.symm, hnx⟩
        · have q1 : decide ((k : Int) < (n : Int)) = false := by simp; omega
          clear hgo hk20
          go_wp2
          go_ret
          exact ⟨ret_int HF.out.symm, hnx⟩
      · obtain rfl : k = n := hk20 (by omega)
        have q1 : decide ((k : Int) < (k : Int)) = false := by simp
        have HCT : Hid (500 < t ↔ 500 < totTo ls ls.length) := by
          show _ ↔ _
          rw [HC.out, HN.out]
          exact cap_tot ls k (by rw [HN.out]; exact Nat.le_refl _)
        by_cases h500 : 500 < t
        · have HF : Hid (checkF ls = 7) := by show _ = _; unfold checkF; rw [if_pos (.inr (HCT.out.1 h500))]
          clear hgo hk20
          go_wp2
          go_ret
          exact ⟨ret_int HF.out.symm, hnx⟩
        · have HF0 : Hid (checkF ls = if shTo ls k = true then 1 else if outTo ls k = true then 4 else 0) := by
            show _ = _
            unfold checkF
            rw [if_neg (by rw [HN.out]; intro h; rcases h with h | h; exact h20 h; rw [← HN.out] at h; exact h500 (HCT.out.2 h)), HN.out]
          by_cases hk0 : k = 0
          · have q3 : ((k : Int) == 0) = true := by simp [hk0]
            have HF : Hid (checkF ls = 1) := by
              show _ = _
              rw [HF0.out, if_pos]
              unfold shTo; rw [HN.out]; simp [hk0]
            clear hgo hk20 hk0
            go_wp2
            go_ret
            exact ⟨ret_int HF.out.symm, hnx⟩
          · have q3 : ((k : Int) == 0) = false := by simp; omega
            have HS0 : Hid (shTo ls 0 = false) := by show _ = _; unfold shTo; rw [HN.out]; simp [hk0]
            clear hgo hk20 HCT HC
            obtain ⟨n, hkn⟩ : ∃ n, n = k := ⟨_, rfl⟩
            subst hkn
            have HB1 := Lib.hid hnx
            go_wp2
            go_loopw [5] (fun i wr => ∃ k : Nat, k ≤ n ∧ i = .int .i64 k ∧ Hid (shTo ls k = false) ∧ Below w.heap.size w wr) (fun i _ => n - (intOf i).toNat)
            case atStart => exact ⟨0, Nat.zero_le _, rfl, HS0, HB1.out⟩
            case round =>
              obtain ⟨k, hk', rfl, HS, hnx⟩ := hrel
              by_cases hlt : k < n
              · obtain ⟨b, off, ri, ci, rfl, hb, c0, _, hm⟩ := HQ.out _ hnx k hlt
                have HSS := Lib.hid (shTo_succ ls k (by rw [HN.out]; exact hlt))
                generalize (rg ls k).length = m at c0 hm HSS
                by_cases hm3 : m < 3
                · have HF : Hid (checkF ls = 1) := by
                    show _ = _
                    rw [HF0.out, if_pos]
                    have e1 : shTo ls (k + 1) = true := by rw [HSS.out]; simp [hm3]
                    unfold shTo at e1 ⊢
                    simp only [Bool.or_eq_true] at e1 ⊢
                    rcases e1 with e1 | e1
                    · exact .inl e1
                    · right
                      rw [List.any_eq_true] at e1 ⊢
                      obtain ⟨x, hx, e2⟩ := e1
                      exact ⟨x, List.mem_of_mem_take (by rw [List.take_take, Nat.min_eq_left (show k + 1 ≤ n by omega)]; exact hx : x ∈ (ls.take n).take (k + 1)), e2⟩
                  go_wp2
                  go_ret
                  exact ⟨ret_int HF.out.symm, hnx⟩
                · go_wp2
                  go_roundw
                  case rel => exact ⟨k + 1, by omega, by go_num, (by rw [HSS.out, HS.out]; simp; omega : shTo ls (k + 1) = false), hnx⟩
                  case measure => simp [intOf]; omega
              · obtain rfl : k = n := by omega
                have HF1 : Hid (checkF ls = if outTo ls k = true then 4 else 0) := by show _ = _; rw [HF0.out, HS.out]; rfl
                have HB2 := Lib.hid hnx
                clear HF0 HS HS0 HB1 hlt hk'
                obtain ⟨n, hkn⟩ : ∃ n, n = k := ⟨_, rfl⟩
                subst hkn
                go_wp2
                go_loopw [6] (fun i wr => ∃ k : Nat, k ≤ n ∧ i = .int .i64 k ∧ Hid (outTo ls k = false) ∧ Below w.heap.size w wr) (fun i _ => n - (intOf i).toNat)
                case atStart => exact ⟨0, Nat.zero_le _, rfl, rfl, HB2.out⟩
                case round =>
                  obtain ⟨k, hk', rfl, HO, hnx⟩ := hrel
                  by_cases hlt : k < n
                  · obtain ⟨b, off, ri, ci, rfl, hb, c0, hri, hm⟩ := HQ.out _ hnx k hlt
                    have HOS := Lib.hid (outTo_succ ls k (by rw [HN.out]; exact hlt))
                    have HBB : Hid (∀ wx, Below wr.heap.size wr wx → wx.cell? ⟨b, off + k, none⟩ = some (.slice ri (rg ls k).length ci) ∧ RingAt wx B ri (rg ls k) ∧ b < wx.heap.size) := fun wx hbx => by
                      have := hbx.size
                      exact ⟨(hbx.cell (p := ⟨b, off + k, none⟩) hb).trans c0, hri.below hbx (by have := hnx.size; omega), by omega⟩
                    have HOUT4 : Hid (∀ j, j < (rg ls k).length → outP (px (rg ls k) j, py (rg ls k) j) = true → outTo ls n = true) := fun j hj ho => by
                      unfold outTo
                      rw [List.any_eq_true]
                      refine ⟨rg ls k, ?_, ?_⟩
                      · rw [List.take_of_length_le (by rw [HN.out]; exact Nat.le_refl _)]
                        unfold rg; simp [List.getD_eq_getElem?_getD, show k < ls.length by rw [HN.out]; exact hlt]
                      · rw [List.any_eq_true]
                        exact ⟨_, px_mem hj, ho⟩
                    generalize rg ls k = l at HBB hm HOS c0 hri HOUT4
                    obtain ⟨m, hm'⟩ : ∃ m, l.length = m := ⟨_, rfl⟩
                    rw [hm'] at HBB hm HOS c0 HOUT4
                    have HM : Hid (l.length = m) := hm'
                    clear hm' hri
                    obtain ⟨wo, hwo⟩ : ∃ wo : World, wo = wr := ⟨_, rfl⟩
                    subst hwo
                    go_wp2
                    go_loopw [7] (fun i wr => ∃ j : Nat, j ≤ m ∧ i = .int .i64 j ∧ Hid (outs l j = false) ∧ Below wo.heap.size wo wr) (fun i _ => m - (intOf i).toNat)
                    case atStart => exact ⟨0, Nat.zero_le _, rfl, rfl, Below.refl _ _⟩
                    case round =>
                      obtain ⟨j, hj, rfl, HL, hni⟩ := hrel
                      obtain ⟨r0, hri, hbw⟩ := HBB.out _ hni
                      have HB3 : Hid (Below w.heap.size w wr) := hnx.trans (hni.mono hnx.size)
                      by_cases hjm : j < m
                      · obtain ⟨rb, ro, rfl, hrb, hrc⟩ := hri (by rw [HM.out]; omega)
                        obtain ⟨d0, d1⟩ := hrc j (by rw [HM.out]; exact hjm)
                        have HSJ := Lib.hid (outs_succ l j (by rw [HM.out]; exact hjm))
                        have HO4 := Lib.hid (HOUT4.out j hjm)
                        generalize px l j = x at d0 HSJ HO4
                        generalize py l j = y at d1 HSJ HO4
                        have hrbw : rb < wr.heap.size := by have := HB3.out.size; omega
                        clear hrc c0
                        have HW := Lib.hid (world_any x y)
                        obtain ⟨o, ho⟩ : ∃ o, worldF x y = o := ⟨_, rfl⟩
                        rw [ho] at HW
                        have hop : Hid (outP (x, y) = !o) := by show _ = _; rw [outP_world, ho]
                        clear ho
                        cases o
                        · have HF : Hid (checkF ls = 4) := by show _ = _; rw [HF1.out, if_pos (HO4.out (by rw [hop.out]; rfl))]
                          go_wp2
                          go_quiet ((go_at_call 26; exact Calls.quiet_of_same (HW.out _)))
                          go_wp2
                          go_ret
                          exact ⟨ret_int HF.out.symm, below_drewN HB3.out _⟩
                        · go_wp2
                          go_quiet ((go_at_call 26; exact Calls.quiet_of_same (HW.out _)))
                          go_wp2
                          go_roundw
                          case rel => exact ⟨j + 1, by omega, by go_num, (by rw [HSJ.out, HL.out, hop.out]; rfl : outs l (j + 1) = false), below_drewN hni _⟩
                          case measure => simp [intOf]; omega
                      · obtain rfl : j = m := by omega
                        clear hri c0
                        go_wp2
                        go_roundw
                        case rel => exact ⟨k + 1, by omega, by go_num, (by rw [HOS.out, HO.out, HL.out]; rfl : outTo ls (k + 1) = false), HB3.out⟩
                        case measure => simp [intOf]; omega
                  · obtain rfl : k = n := by omega
                    have HF : Hid (checkF ls = 0) := by show _ = _; rw [HF1.out, HO.out]; rfl
                    go_wp2
                    go_ret
                    exact ⟨ret_int HF.out.symm, hnx⟩
end Go.Proofs.Ytnnfkdajbaicoaa
