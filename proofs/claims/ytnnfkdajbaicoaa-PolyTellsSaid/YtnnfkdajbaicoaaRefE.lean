/- The contract of apiaryref9.Inside. -/
import Derived.Test.YtnnfkdajbaicoaaRefD
namespace Go.Proofs.Ytnnfkdajbaicoaa
open Go.RowKit

set_option maxRecDepth 100000 in
set_option maxHeartbeats 4000000 in
theorem rinside_any (ao : Option Addr) (c : Nat) (ls : List (List Pt)) (x y : Int) (w : World) (B : Nat) (hB : B ≤ w.heap.size) (h : RingsAt w B ao ls) (hn : ls.length ≤ 1000000000) (ht : totTo ls ls.length ≤ 1000000000) :
    Calls Try.prog 20 #[.slice ao ls.length c, .int .i64 x, .int .i64 y] w fun e w' => e = .returned (.bool (insideF ls x y)) ∧ Below w.heap.size w w' := by
  have HC := Lib.hid (rcheck_any ao c ls w B hB h hn ht)
  have HFN := Lib.hid (far_near ls x y)
  have HON := Lib.hid (fun w1 (hb : Below w.heap.size w w1) => ron_any ao c ls x y w1 B (by have := hb.size; omega) (h.below hb hB) hn ht)
  obtain ⟨n, hnn⟩ : ∃ n, ls.length = n := ⟨_, rfl⟩
  have HT := Lib.hid ht
  have HR := Lib.hid h
  rw [hnn] at hn HC HON ⊢
  have HN : Hid (ls.length = n) := hnn
  clear hnn ht h
  by_cases hz : checkF ls = 0
  · have HIN := Lib.hid (check_in hz)
    have HZ := Lib.hid hz
    rw [hz] at HC
    clear hz
    have HFAR := Lib.hid (far_any x y)
    cases hf : farF x y
    · rw [hf] at HFAR
      have HNEAR : Hid (nearF ls x y = true) := by show _ = _; rw [HFN.out, hf, HZ.out]; rfl
      have hxy : (-2147483648 ≤ x ∧ x ≤ 2147483648) ∧ (-2147483648 ≤ y ∧ y ≤ 2147483648) := by
        unfold farF at hf; simp at hf; omega
      have HXY := Lib.hid hxy
      clear hf hxy
      go_enter Try.func20, Try.ntmps20
      go_wp2_with fail
      refine HC.out.mono ?_
      rintro e w0 ⟨rfl, hb0⟩
      have HQ : Hid (∀ wr, Below w.heap.size w wr → ∀ k, k < n → ∃ b off ri ci, ao = some ⟨b, off, none⟩ ∧ b < wr.heap.size ∧ wr.cell? ⟨b, off + k, none⟩ = some (.slice ri (rg ls k).length ci) ∧ RingAt wr B ri (rg ls k) ∧ (rg ls k).length ≤ 1000000000) := fun wr hb k hk => by
        obtain ⟨b, off, e, hlt, hc⟩ := (HR.out.below hb hB) (by rw [HN.out]; omega)
        obtain ⟨ri, ci, h1, h2⟩ := hc k (by rw [HN.out]; exact hk)
        have h3 := totTo_succ ls k (by rw [HN.out]; exact hk)
        have h4 := totTo_le ls (k + 1) (by rw [HN.out]; exact hk)
        have h5 := HT.out
        have h6 := hb.size
        exact ⟨b, off, ri, ci, e, by omega, h1, h2, by omega⟩
      obtain ⟨o, ho⟩ : ∃ o, onF ls x y = o := ⟨_, rfl⟩
      rw [ho] at HON
      obtain rfl | rfl : o = true ∨ o = false := by cases o <;> simp
      · have HF : Hid (insideF ls x y = true) := by
          show _ = _
          unfold onF at ho
          unfold insideF
          simp only [Bool.and_eq_true] at ho
          rw [ho.1, ho.2]; rfl
        clear ho
        go_wp2_with (first | (go_at_call 27; refine (HFAR.out _).mono ?_; rintro e w' ⟨rfl, rfl⟩) | (go_at_call 19; refine (HON.out _ hb0).mono ?_; rintro e w1 ⟨rfl, hb1⟩))
        go_ret
        exact ⟨ret_bool HF.out.symm, below_later hb0 hb0.size hb1⟩
      have HINS : Hid (insideF ls x y = crTo ls x y n) := by
        show _ = _
        unfold onF at ho
        unfold insideF
        rw [HNEAR.out] at ho ⊢
        rw [Bool.true_and] at ho
        rw [ho, HN.out]; rfl
      clear ho
      go_wp2_with (first | (go_at_call 27; refine (HFAR.out _).mono ?_; rintro e w' ⟨rfl, rfl⟩) | (go_at_call 19; refine (HON.out _ hb0).mono ?_; rintro e w1 ⟨rfl, hb1⟩))
      have HB1 := Lib.hid (below_later hb0 hb0.size hb1)
      clear hb0 hb1
      go_loopw [7, 8] (fun v i wr => ∃ (k : Nat) (o : Bool), k ≤ n ∧ i = .int .i64 k ∧ v = .bool o ∧ Hid (crTo ls x y k = o) ∧ Below w.heap.size w wr) (fun _ i _ => n - (intOf i).toNat)
      case atStart => exact ⟨0, false, Nat.zero_le _, rfl, rfl, rfl, HB1.out⟩
      case round =>
        obtain ⟨k, o, hk', rfl, rfl, HO, hnx⟩ := hrel
        by_cases hlt : k < n
        · obtain ⟨b, off, ri, ci, rfl, hb, c0, hri, hm⟩ := HQ.out _ hnx k hlt
          have hkl : k < ls.length := by rw [HN.out]; exact hlt
          have HOS := Lib.hid (crTo_succ ls x y k hkl)
          have HALL := Lib.hid (HIN.out (rg ls k) (by unfold rg; simp [List.getD_eq_getElem?_getD, hkl]))
          have HRI : Hid (∀ wx, Below wr.heap.size wr wx → RingAt wx B ri (rg ls k)) := fun wx hbx => hri.below hbx (by have := hnx.size; omega)
          generalize rg ls k = l at hm HOS c0 hri HALL HRI
          obtain ⟨m, hm'⟩ : ∃ m, l.length = m := ⟨_, rfl⟩
          rw [hm'] at hm HOS c0
          have HM : Hid (l.length = m) := hm'
          clear hm' hri hkl
          obtain ⟨wo, hwo⟩ : ∃ wo : World, wo = wr := ⟨_, rfl⟩
          subst hwo
          go_wp2
          go_loopw [7, 10] (fun v i wr => ∃ (j : Nat) (q : Bool), j ≤ m ∧ i = .int .i64 j ∧ v = .bool q ∧ Hid (q = (o != crR l x y j)) ∧ Below wo.heap.size wo wr) (fun _ i _ => m - (intOf i).toNat)
          case atStart => exact ⟨0, o, Nat.zero_le _, rfl, rfl, (by cases o <;> rfl : o = (o != crR l x y 0)), Below.refl _ _⟩
          case round =>
            obtain ⟨j, q, hj, rfl, rfl, HL, hni⟩ := hrel
            have HB3 : Hid (Below w.heap.size w wr) := hnx.trans (hni.mono hnx.size)
            by_cases hjm : j < m
            · obtain ⟨rb, ro, rfl, hrb, hrc⟩ := (HRI.out _ hni) (by rw [HM.out]; omega)
              obtain ⟨t, ht, htn⟩ : ∃ t, (j + 1) % m = t ∧ t < m := ⟨_, rfl, Nat.mod_lt _ (by omega)⟩
              have htI : ((j : Int) + 1) % (m : Int) = (t : Int) := by have := congrArg (fun x : Nat => (x : Int)) ht; simpa using this
              obtain ⟨p0, p1⟩ := hrc j (by rw [HM.out]; exact hjm)
              obtain ⟨d0, d1⟩ := hrc t (by rw [HM.out]; exact htn)
              obtain ⟨u1, u2⟩ := HALL.out.at (j := j) (by rw [HM.out]; exact hjm)
              obtain ⟨u3, u4⟩ := HALL.out.at (j := t) (by rw [HM.out]; exact htn)
              have HEL : Hid (crEl l x y j = if py l j ≤ y ∧ y < py l t then decide (0 < crossF (px l j) (py l j) (px l t) (py l t) x y) else if py l t ≤ y ∧ y < py l j then decide (crossF (px l j) (py l j) (px l t) (py l t) x y < 0) else false) := by
                show _ = _
                unfold crEl crE
                rw [HM.out, ht, cross_side u1 u2 u3 u4 HXY.out.1 HXY.out.2]
              have HNX : Hid (∀ b, crEl l x y j = b → (q != b) = (o != crR l x y (j + 1))) := fun b hb => by
                rw [crR_succ, hb, HL.out]
                cases o <;> cases crR l x y j <;> cases b <;> rfl
              generalize crEl l x y j = oe at HEL HNX
              generalize px l j = e1 at *
              generalize py l j = e2 at *
              generalize px l t = f1 at *
              generalize py l t = f2 at *
              have hrbw : rb < wr.heap.size := by have := HB3.out.size; omega
              have HCR := Lib.hid (cross_any e1 e2 f1 f2 x y)
              generalize crossF e1 e2 f1 f2 x y = z at HEL HCR
              clear hrc c0 ht u1 u2 u3 u4 HRI
              go_upto_region 13 with (fail)
              go_cut [11, 12] from 41 to 52 (fun v5 v6 wx => ∃ g1 g2 : Nat, v5 = .pointer (some ⟨g1, 0, none⟩) ∧ v6 = .pointer (some ⟨g2, 0, none⟩) ∧ Hid (PQ wx g1 g2 e1 e2 f1 f2) ∧ Below wr.heap.size wr wx)
              case first =>
                go_region
                · go_wp2
                  go_meet
                  obtain ⟨k1, k2, k3, k4, k5⟩ := pq_cells wr (.int .i64 e1) (.int .i64 e2) (.int .i64 f1) (.int .i64 f2) 27
                  exact ⟨_, _, rfl, rfl, ⟨k1, k2, k3, k4⟩, k5⟩
                · go_wp2
                  go_meet
                  obtain ⟨k1, k2, k3, k4, k5⟩ := pq_cells wr (.int .i64 f1) (.int .i64 f2) (.int .i64 e1) (.int .i64 e2) 27
                  exact ⟨_, _, rfl, rfl, ⟨k2, k1, k4, k3⟩, k5⟩
              case rest =>
                obtain ⟨g1, g2, rfl, rfl, HPQ, hbc⟩ := hcut
                clear p0 p1 d0 d1
                have hnc : Below wo.heap.size wo wc := hni.trans (hbc.mono hni.size)
                have hnsz := hnc.size
                obtain ⟨⟨k1, k2⟩, ⟨k3, k4⟩, k5, k6⟩ := HPQ.out
                have HCASE : (decide (e2 ≤ y) = true ∧ decide (f2 ≤ y) = true ∧ oe = false) ∨ (decide (e2 ≤ y) = false ∧ decide (f2 ≤ y) = false ∧ oe = false) ∨ (decide (e2 ≤ y) = true ∧ decide (f2 ≤ y) = false ∧ 0 < z ∧ oe = true) ∨ (decide (e2 ≤ y) = true ∧ decide (f2 ≤ y) = false ∧ ¬ 0 < z ∧ oe = false) ∨
                    (decide (e2 ≤ y) = false ∧ decide (f2 ≤ y) = true ∧ z < 0 ∧ oe = true) ∨ (decide (e2 ≤ y) = false ∧ decide (f2 ≤ y) = true ∧ ¬ z < 0 ∧ oe = false) := by
                  rw [HEL.out]
                  by_cases a1 : e2 ≤ y <;> by_cases a2 : f2 ≤ y
                  · exact .inl ⟨by simpa using a1, by simpa using a2, by rw [if_neg (by omega), if_neg (by omega)]⟩
                  · by_cases a3 : 0 < z
                    · exact .inr (.inr (.inl ⟨by simpa using a1, by simpa using a2, a3, by rw [if_pos (by omega)]; simpa using a3⟩))
                    · exact .inr (.inr (.inr (.inl ⟨by simpa using a1, by simpa using a2, a3, by rw [if_pos (by omega)]; simpa using a3⟩)))
                  · by_cases a3 : z < 0
                    · exact .inr (.inr (.inr (.inr (.inl ⟨by simpa using a1, by simpa using a2, a3, by rw [if_neg (by omega), if_pos (by omega)]; simpa using a3⟩))))
                    · exact .inr (.inr (.inr (.inr (.inr ⟨by simpa using a1, by simpa using a2, a3, by rw [if_neg (by omega), if_pos (by omega)]; simpa using a3⟩))))
                  · exact .inr (.inl ⟨by simpa using a1, by simpa using a2, by rw [if_neg (by omega), if_neg (by omega)]⟩)
                clear HEL
                rcases HCASE with ⟨a1, a2, a4⟩ | ⟨a1, a2, a4⟩ | ⟨a1, a2, a3, a4⟩ | ⟨a1, a2, a3, a4⟩ | ⟨a1, a2, a3, a4⟩ | ⟨a1, a2, a3, a4⟩
                · have HX := Lib.hid (HNX.out _ a4)
                  clear a4 HNX HCR
                  go_wp2
                  go_roundw
                  case rel => exact ⟨j + 1, _, by omega, by go_num, rfl, (by rw [← HX.out]; cases q <;> rfl : q = (o != crR l x y (j + 1))), hnc⟩
                  case measure => simp [intOf]; omega
                · have HX := Lib.hid (HNX.out _ a4)
                  clear a4 HNX HCR
                  go_wp2
                  go_roundw
                  case rel => exact ⟨j + 1, _, by omega, by go_num, rfl, (by rw [← HX.out]; cases q <;> rfl : q = (o != crR l x y (j + 1))), hnc⟩
                  case measure => simp [intOf]; omega
                all_goals
                  have HX := Lib.hid (HNX.out _ a4)
                  clear a4 HNX
                  have a5 : decide (y < e2) = !decide (e2 ≤ y) := by rw [Bool.eq_iff_iff]; simp
                  rw [a1] at a5
                  simp only [Bool.not_true, Bool.not_false] at a5
                  go_wp2_with (first | (go_at_call 28; refine (HCR.out _).mono ?_; rintro e w' ⟨rfl, hb'⟩; obtain ⟨⟨k1, k2⟩, ⟨k3, k4⟩, k5, k6⟩ := HPQ.out.below hb'))
                  go_roundw
                  case rel => exact ⟨j + 1, _, by omega, by go_num, rfl, (by rw [← HX.out]; cases q <;> rfl : _ = (o != crR l x y (j + 1))), hnc.trans (hb'.mono hnsz)⟩
                  case measure => simp [intOf]; omega
            · obtain rfl : j = m := by omega
              clear HRI HALL
              go_wp2
              go_roundw
              case rel => exact ⟨k + 1, _, by omega, by go_num, rfl, (by rw [HOS.out, HO.out, HL.out] : crTo ls x y (k + 1) = q), HB3.out⟩
              case measure => simp [intOf]; omega
        · obtain rfl : k = n := by omega
          have HF : Hid (insideF ls x y = o) := by show _ = _; rw [HINS.out, HO.out]
          go_wp2
          go_ret
          exact ⟨ret_bool HF.out.symm, hnx⟩
    · rw [hf] at HFAR
      have HF : Hid (insideF ls x y = false) := by show _ = _; unfold insideF; rw [HFN.out, hf]; rfl
      clear hf
      go_enter Try.func20, Try.ntmps20
      go_wp2_with fail
      refine HC.out.mono ?_
      rintro e w0 ⟨rfl, hb0⟩
      go_wp2_with (first | (go_at_call 27; refine (HFAR.out _).mono ?_; rintro e w' ⟨rfl, rfl⟩))
      go_ret
      exact ⟨ret_bool HF.out.symm, hb0⟩
  · have HF : Hid (insideF ls x y = false) := by
      show _ = _
      unfold insideF
      rw [HFN.out]
      have : (checkF ls == 0) = false := by simpa using hz
      rw [this]; simp
    have hzb : (checkF ls != 0) = true := by simpa using hz
    go_enter Try.func20, Try.ntmps20
    go_wp2_with fail
    refine HC.out.mono ?_
    rintro e w0 ⟨rfl, hb0⟩
    go_wp2
    go_ret
    exact ⟨ret_bool HF.out.symm, hb0⟩
end Go.Proofs.Ytnnfkdajbaicoaa
