/- The contract of apiaryref9.On. -/
import Derived.Test.YtnnfkdajbaicoaaRefC
namespace Go.Proofs.Ytnnfkdajbaicoaa
open Go.RowKit

theorem check_in {ls : List (List Pt)} (h : checkF ls = 0) : ∀ l ∈ ls, AllIn l := by
  unfold checkF at h
  split at h
  · omega
  · split at h
    · omega
    · split at h
      · omega
      · rename_i h3
        intro l hl p hp
        simp only [Bool.not_eq_true] at h3
        unfold outTo at h3
        rw [List.take_length, List.any_eq_false] at h3
        have h4 := h3 l hl
        simp only [Bool.not_eq_true] at h4
        rw [List.any_eq_false] at h4
        have h5 := h4 p hp
        unfold outP at h5
        unfold InWorld
        simp at h5
        omega
theorem cross_side {a b c d x y : Int} (h1 : 0 ≤ a ∧ a < 1073741824) (h2 : 0 ≤ b ∧ b < 1073741824) (h3 : 0 ≤ c ∧ c < 1073741824) (h4 : 0 ≤ d ∧ d < 1073741824)
    (hx : -2147483648 ≤ x ∧ x ≤ 2147483648) (hy : -2147483648 ≤ y ∧ y ≤ 2147483648) : crossF a b c d x y = side a b c d x y := by
  rw [side_plain h1 h2 h3 h4 hx hy]
  unfold crossF det
  rw [IntWalk.wrap64_in (c - a) (by omega), IntWalk.wrap64_in (y - b) (by omega), IntWalk.wrap64_in (x - a) (by omega), IntWalk.wrap64_in (d - b) (by omega), Int.mul_comm (d - b) (x - a)]
  generalize (c - a) * (y - b) = m
  generalize (x - a) * (d - b) = n
  by_cases h1 : m < n
  · rw [if_pos h1, if_neg (by omega), if_pos (by omega)]
  · rw [if_neg h1]
    by_cases h2 : n < m
    · rw [if_pos h2, if_pos (by omega)]
    · rw [if_neg h2, if_neg (by omega), if_neg (by omega)]
theorem far_near (ls : List (List Pt)) (x y : Int) : nearF ls x y = (!farF x y && checkF ls == 0) := by
  unfold nearF farF
  rw [Bool.eq_iff_iff]
  simp

/-- Two points behind pointers. -/
def PQ (w : World) (g1 g2 : Nat) (a b c d : Int) : Prop :=
  (w.cell? ⟨g1, 0, none⟩ = some (.int .i64 a) ∧ w.cell? ⟨g1, 1, none⟩ = some (.int .i64 b)) ∧ (w.cell? ⟨g2, 0, none⟩ = some (.int .i64 c) ∧ w.cell? ⟨g2, 1, none⟩ = some (.int .i64 d)) ∧ g1 < w.heap.size ∧ g2 < w.heap.size
theorem PQ.below {w w' : World} {g1 g2 : Nat} {a b c d : Int} (h : PQ w g1 g2 a b c d) (hb : Below w.heap.size w w') : PQ w' g1 g2 a b c d := by
  obtain ⟨⟨h1, h2⟩, ⟨h3, h4⟩, h5, h6⟩ := h
  have := hb.size
  exact ⟨⟨(hb.cell (p := ⟨g1, 0, none⟩) h5).trans h1, (hb.cell (p := ⟨g1, 1, none⟩) h5).trans h2⟩, ⟨(hb.cell (p := ⟨g2, 0, none⟩) h6).trans h3, (hb.cell (p := ⟨g2, 1, none⟩) h6).trans h4⟩, by omega, by omega⟩

set_option maxRecDepth 100000 in
set_option maxHeartbeats 4000000 in
theorem ron_any (ao : Option Addr) (c : Nat) (ls : List (List Pt)) (x y : Int) (w : World) (B : Nat) (hB : B ≤ w.heap.size) (h : RingsAt w B ao ls) (hn : ls.length ≤ 1000000000) (ht : totTo ls ls.length ≤ 1000000000) :
    Calls Try.prog 19 #[.slice ao ls.length c, .int .i64 x, .int .i64 y] w fun e w' => e = .returned (.bool (onF ls x y)) ∧ Below w.heap.size w w' := by
  have HC := Lib.hid (rcheck_any ao c ls w B hB h hn ht)
  have HFN := Lib.hid (far_near ls x y)
  obtain ⟨n, hnn⟩ : ∃ n, ls.length = n := ⟨_, rfl⟩
  have HT := Lib.hid ht
  have HR := Lib.hid h
  rw [hnn] at hn HC ⊢
  have HN : Hid (ls.length = n) := hnn
  clear hnn ht h
  by_cases hz : checkF ls = 0
  · have HIN := Lib.hid (check_in hz)
    have HZ := Lib.hid hz
    rw [hz] at HC
    clear hz
    have HFAR := Lib.hid (far_any x y)
    cases hf : farF x y
    · rw [hf] at HFAR
      have HNEAR : Hid (nearF ls x y = true) := by show _ = _; rw [HFN.out, hf, HZ.out]; rfl
      have hxy : (-2147483648 ≤ x ∧ x ≤ 2147483648) ∧ (-2147483648 ≤ y ∧ y ≤ 2147483648) := by
        unfold farF at hf; simp at hf; omega
      have HXY := Lib.hid hxy
      clear hf hxy
      go_enter Try.func19, Try.ntmps19
      go_wp2_with fail
      refine HC.out.mono ?_
      rintro e w0 ⟨rfl, hb0⟩
      have HQ : Hid (∀ wr, Below w.heap.size w wr → ∀ k, k < n → ∃ b off ri ci, ao = some ⟨b, off, none⟩ ∧ b < wr.heap.size ∧ wr.cell? ⟨b, off + k, none⟩ = some (.slice ri (rg ls k).length ci) ∧ RingAt wr B ri (rg ls k) ∧ (rg ls k).length ≤ 1000000000) := fun wr hb k hk => by
        obtain ⟨b, off, e, hlt, hc⟩ := (HR.out.below hb hB) (by rw [HN.out]; omega)
        obtain ⟨ri, ci, h1, h2⟩ := hc k (by rw [HN.out]; exact hk)
        have h3 := totTo_succ ls k (by rw [HN.out]; exact hk)
        have h4 := totTo_le ls (k + 1) (by rw [HN.out]; exact hk)
        have h5 := HT.out
        have h6 := hb.size
        exact ⟨b, off, ri, ci, e, by omega, h1, h2, by omega⟩
      go_wp2_with (first | (go_at_call 27; refine (HFAR.out _).mono ?_; rintro e w' ⟨rfl, rfl⟩))
      go_loopw [7] (fun i wr => ∃ k : Nat, k ≤ n ∧ i = .int .i64 k ∧ Hid (onTo ls x y k = false) ∧ Below w.heap.size w wr) (fun i _ => n - (intOf i).toNat)
      case atStart => exact ⟨0, Nat.zero_le _, rfl, rfl, hb0⟩
      case round =>
        obtain ⟨k, hk', rfl, HO, hnx⟩ := hrel
        by_cases hlt : k < n
        · obtain ⟨b, off, ri, ci, rfl, hb, c0, hri, hm⟩ := HQ.out _ hnx k hlt
          have hkl : k < ls.length := by rw [HN.out]; exact hlt
          have HOS := Lib.hid (onTo_succ ls x y k hkl)
          have HALL := Lib.hid (HIN.out (rg ls k) (by unfold rg; simp [List.getD_eq_getElem?_getD, hkl]))
          have HYES : Hid (onR (rg ls k) x y (rg ls k).length = true → onF ls x y = true) := fun h => by
            unfold onF; rw [HNEAR.out, onTo_true hkl h]; rfl
          have HRI : Hid (∀ wx, Below wr.heap.size wr wx → RingAt wx B ri (rg ls k)) := fun wx hbx => hri.below hbx (by have := hnx.size; omega)
          generalize rg ls k = l at hm HOS c0 hri HALL HYES HRI
          obtain ⟨m, hm'⟩ : ∃ m, l.length = m := ⟨_, rfl⟩
          rw [hm'] at hm HOS c0 HYES
          have HM : Hid (l.length = m) := hm'
          clear hm' hri hkl
          obtain ⟨wo, hwo⟩ : ∃ wo : World, wo = wr := ⟨_, rfl⟩
          subst hwo
          go_wp2
          go_loopw [9] (fun i wr => ∃ j : Nat, j ≤ m ∧ i = .int .i64 j ∧ Hid (onR l x y j = false) ∧ Below wo.heap.size wo wr) (fun i _ => m - (intOf i).toNat)
          case atStart => exact ⟨0, Nat.zero_le _, rfl, rfl, Below.refl _ _⟩
          case round =>
            obtain ⟨j, hj, rfl, HL, hni⟩ := hrel
            have HB3 : Hid (Below w.heap.size w wr) := hnx.trans (hni.mono hnx.size)
            by_cases hjm : j < m
            · obtain ⟨rb, ro, rfl, hrb, hrc⟩ := (HRI.out _ hni) (by rw [HM.out]; omega)
              obtain ⟨t, ht, htn⟩ : ∃ t, (j + 1) % m = t ∧ t < m := ⟨_, rfl, Nat.mod_lt _ (by omega)⟩
              have htI : ((j : Int) + 1) % (m : Int) = (t : Int) := by have := congrArg (fun x : Nat => (x : Int)) ht; simpa using this
              obtain ⟨p0, p1⟩ := hrc j (by rw [HM.out]; exact hjm)
              obtain ⟨d0, d1⟩ := hrc t (by rw [HM.out]; exact htn)
              obtain ⟨u1, u2⟩ := HALL.out.at (j := j) (by rw [HM.out]; exact hjm)
              obtain ⟨u3, u4⟩ := HALL.out.at (j := t) (by rw [HM.out]; exact htn)
              have HSJ := Lib.hid (onR_succ l x y j)
              have HEL : Hid (onEl l x y j = (btw (px l j) (px l t) x && btw (py l j) (py l t) y && crossF (px l j) (py l j) (px l t) (py l t) x y == 0)) := by
                show _ = _
                unfold onEl onE
                rw [HM.out, ht, cross_side u1 u2 u3 u4 HXY.out.1 HXY.out.2]
              have HTRUE : Hid (onEl l x y j = true → onF ls x y = true) := fun h => HYES.out (onR_true hjm h)
              have hx1 := u1.2
              generalize onEl l x y j = oe at HSJ HEL HTRUE
              generalize px l j = e1 at *
              generalize py l j = e2 at *
              generalize px l t = f1 at *
              generalize py l t = f2 at *
              have hrbw : rb < wr.heap.size := by have := HB3.out.size; omega
              have HCR := Lib.hid (cross_any e1 e2 f1 f2 x y)
              generalize crossF e1 e2 f1 f2 x y = z at HEL HCR
              clear hrc c0 ht u1 u2 u3 u4 hx1 HRI
              go_upto_region 10 with (fail)
              go_cut [10, 11] from 36 to 47 (fun v5 v6 wx => ∃ g1 g2 : Nat, v5 = .pointer (some ⟨g1, 0, none⟩) ∧ v6 = .pointer (some ⟨g2, 0, none⟩) ∧ Hid (PQ wx g1 g2 e1 e2 f1 f2) ∧ Below wr.heap.size wr wx)
              case first =>
                go_region
                · go_wp2
                  go_meet
                  obtain ⟨k1, k2, k3, k4, k5⟩ := pq_cells wr (.int .i64 e1) (.int .i64 e2) (.int .i64 f1) (.int .i64 f2) 27
                  exact ⟨_, _, rfl, rfl, ⟨k1, k2, k3, k4⟩, k5⟩
                · go_wp2
                  go_meet
                  obtain ⟨k1, k2, k3, k4, k5⟩ := pq_cells wr (.int .i64 f1) (.int .i64 f2) (.int .i64 e1) (.int .i64 e2) 27
                  exact ⟨_, _, rfl, rfl, ⟨k2, k1, k4, k3⟩, k5⟩
              case rest =>
                obtain ⟨g1, g2, rfl, rfl, HPQ, hbc⟩ := hcut
                clear p0 p1 d0 d1
                have hnc : Below wo.heap.size wo wc := hni.trans (hbc.mono hni.size)
                obtain ⟨⟨k1, k2⟩, ⟨k3, k4⟩, k5, k6⟩ := HPQ.out
                go_upto_region 11 with (fail)
                obtain ⟨wd, hwd⟩ : ∃ wo : World, wo = wc := ⟨_, rfl⟩
                subst hwd
                go_cut [89] from 48 to 89 (fun v wx => v = .bool oe ∧ Below wd.heap.size wd wx)
                case first =>
                  clear HTRUE HSJ
                  go_wp2_with (first | (go_at_call 28; refine (HCR.out _).mono ?_; rintro e w' ⟨rfl, hb'⟩; obtain ⟨⟨k1, k2⟩, ⟨k3, k4⟩, k5, k6⟩ := HPQ.out.below hb'))
                  all_goals
                    go_meet
                    refine ⟨?_, hb'⟩
                    rw [Value.bool.injEq, HEL.out, Bool.eq_iff_iff]
                    unfold btw
                    first
                      | (simp; omega)
                      | (simp [*]; omega)
                      | (simp [*]; done)
                case rest =>
                  obtain ⟨rfl, hbd⟩ := hcut
                  have hnd : Below wo.heap.size wo wc := hnc.trans (hbd.mono hnc.size)
                  have HND : Hid (Below w.heap.size w wc) := hnx.trans (hnd.mono hnx.size)
                  cases oe
                  · go_wp2
                    go_roundw
                    case rel => exact ⟨j + 1, by omega, by go_num, (by rw [HSJ.out, HL.out]; rfl : onR l x y (j + 1) = false), hnd⟩
                    case measure => simp [intOf]; omega
                  · go_wp2
                    go_ret
                    exact ⟨ret_bool (HTRUE.out (by first | rfl | trivial)).symm, HND.out⟩
            · obtain rfl : j = m := by omega
              clear HRI HALL HYES
              go_wp2
              go_roundw
              case rel => exact ⟨k + 1, by omega, by go_num, (by rw [HOS.out, HO.out, HL.out]; rfl : onTo ls x y (k + 1) = false), HB3.out⟩
              case measure => simp [intOf]; omega
        · obtain rfl : k = n := by omega
          have HF : Hid (onF ls x y = false) := by show _ = _; unfold onF; rw [HN.out, HO.out]; simp
          go_wp2
          go_ret
          exact ⟨ret_bool HF.out.symm, hnx⟩
    · rw [hf] at HFAR
      have HF : Hid (onF ls x y = false) := by show _ = _; unfold onF; rw [HFN.out, hf]; rfl
      clear hf
      go_enter Try.func19, Try.ntmps19
      go_wp2_with fail
      refine HC.out.mono ?_
      rintro e w0 ⟨rfl, hb0⟩
      go_wp2_with (first | (go_at_call 27; refine (HFAR.out _).mono ?_; rintro e w' ⟨rfl, rfl⟩))
      go_ret
      exact ⟨ret_bool HF.out.symm, hb0⟩
  · have HF : Hid (onF ls x y = false) := by
      show _ = _
      unfold onF
      rw [HFN.out]
      have : (checkF ls == 0) = false := by simpa using hz
      rw [this]; simp
    have hzb : (checkF ls != 0) = true := by simpa using hz
    go_enter Try.func19, Try.ntmps19
    go_wp2_with fail
    refine HC.out.mono ?_
    rintro e w0 ⟨rfl, hb0⟩
    go_wp2
    go_ret
    exact ⟨ret_bool HF.out.symm, hb0⟩
end Go.Proofs.Ytnnfkdajbaicoaa
