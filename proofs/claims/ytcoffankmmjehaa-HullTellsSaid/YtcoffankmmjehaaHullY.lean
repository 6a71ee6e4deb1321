/- The contract of apiaryref9.Holds. -/
import Derived.Test.YtcoffankmmjehaaHullX
namespace Go.Proofs.Ytcoffankmmjehaa
open Go.RowKit Go.Lib Hull

theorem sgn3_neg (z : Int) : decide (sgn3 z < 0) = decide (z < 0) := by
  unfold sgn3
  rw [decide_eq_decide]
  split
  · omega
  · split <;> omega
set_option maxHeartbeats 8000000 in
set_option maxRecDepth 100000 in
theorem rholds_any (ao : Option Addr) (c : Nat) (l : List Pt) (p : Pt) (w : World) (h : PAt w ao l) (hn : l.length ≤ 1000000000) :
    Calls Try.prog 20 #[.slice ao l.length c, .agg #[.int .i64 p.1, .int .i64 p.2]] w fun e w' => e = .returned (.bool (holdsF l p)) ∧ Below w.heap.size w w' := by
  have hpw := pb_new w p
  have HAL := Lib.hid hpw.2
  have HP0 := Lib.hid hpw.1
  have hsm := rsmall_any ao c l 1000 _ (h.below hpw.2) hn
  rw [small_ok] at hsm
  have HSM := Lib.hid hsm
  have HW := Lib.hid h
  have HPB : Hid (w.heap.size < w.heap.size + 1) := Nat.lt_succ_self _
  cases hok : okB l
  · have HF : Hid (holdsF l p = false) := by
      show _ = _
      unfold holdsF
      cases hc : convexF l
      · rfl
      · rw [convexF_ok hc] at hok; cases hok
    rw [hok] at HSM
    generalize holdsF l p = r at HF ⊢
    clear h hpw hsm hok
    go_enter Try.func20, Try.ntmps20
    go_wp2_with fail
    refine HSM.out.mono ?_
    rintro e w1 ⟨rfl, hb⟩
    have HB : Hid (Below w.heap.size w w1) := HAL.out.trans (hb.mono HAL.out.size)
    clear hb HAL
    go_wp2
    go_ret
    exact ⟨ret_bool HF.out.symm, HB.out⟩
  · rw [hok] at HSM
    have HNR := Lib.hid ((okB_iff l).1 hok).2
    have hn2 := ((okB_iff l).1 hok).1
    have HOP : Hid (∀ w' b, Pb w' b p → Calls Try.prog 18 #[.slice (some ⟨b, 0, none⟩) 1 1, .int .i64 1] w' fun e w'' => e = .returned (.bool (okB [p])) ∧ Below w'.heap.size w' w'') := fun w' b hb => by
      have := rsmall_any (some ⟨b, 0, none⟩) 1 [p] 1 w' (pAt_new (l := [p]) hb rfl) (by simp)
      rw [small_one] at this
      exact this
    have HFO : Hid (holdsF l p = (convexF l && okB [p] && leftF l p l.length)) := rfl
    have HPN : Hid (okB [p] = true → Near p) := fun h => ((okB_iff [p]).1 h).2 p (by simp)
    have HCX : Hid (convexF l = true ↔ 3 ≤ l.length ∧ hullF l = l) := by
      show _ ↔ _
      unfold convexF
      rw [decide_eq_true_eq]
      constructor
      · rintro ⟨h1, h2⟩
        have : hullF l ≠ [] := fun e => by rw [e] at h2; rw [← h2] at h1; simp at h1
        have := hull_pos this
        rw [h2] at this
        exact ⟨this, h2⟩
      · rintro ⟨h1, h2⟩; exact ⟨by omega, h2⟩
    have HHL := Lib.hid (hullF_len l)
    have HRH : Hid (∀ wx, Below w.heap.size w wx → Calls Try.prog 17 #[.slice ao l.length c] wx (OfTold wx l)) := fun wx hx => rhull_any ao c l wx (h.below hx) hn
    generalize holdsF l p = r at HFO ⊢
    obtain ⟨q, hq⟩ : ∃ q, okB [p] = q := ⟨_, rfl⟩
    rw [hq] at HOP HPN HFO
    obtain ⟨n, hnn⟩ : ∃ n, l.length = n := ⟨_, rfl⟩
    have HN := Lib.hid hnn
    rw [hnn] at hn2 HSM HRH HFO HCX HHL ⊢
    clear h hpw hsm hok hnn hq hn
    go_enter Try.func20, Try.ntmps20
    go_wp2_with fail
    refine HSM.out.mono ?_
    rintro e w1 ⟨rfl, hb⟩
    have HB1 : Hid (Below w.heap.size w w1) := HAL.out.trans (hb.mono HAL.out.size)
    have HP1 := Lib.hid (HP0.out.below hb)
    obtain ⟨k1, k2, k3, k4, k5⟩ := HP1.out.cells
    have hpb2 := pb_new w1 p
    have HO1 := Lib.hid (HOP.out _ _ hpb2.1)
    have HBA : Hid (Below w1.heap.size w1 (w1.alloc (.cells #[.int .i64 p.1, .int .i64 p.2] 26))) := hpb2.2
    clear hb hpb2 HAL HP0 HSM HOP
    obtain ⟨pb, hpb⟩ : ∃ pb, w.heap.size = pb := ⟨_, rfl⟩
    have HPE := Lib.hid hpb
    rw [hpb] at HP1 k1 k2 k3 k4 k5 ⊢
    clear hpb
    go_wp2_with fail
    refine HO1.out.mono ?_
    rintro e w2 ⟨rfl, hb⟩
    have HB12 : Hid (Below w1.heap.size w1 w2) := HBA.out.trans (hb.mono HBA.out.size)
    have HB2 : Hid (Below w.heap.size w w2) := HB1.out.trans (HB12.out.mono HB1.out.size)
    have HP2 := Lib.hid (HP1.out.below HB12.out)
    clear hb k1 k2 k3 k4 k5 HO1 HBA HB12 HP1 HB1
    cases q
    · have HF : Hid (r = false) := by show _ = _; rw [HFO.out]; simp
      clear HFO HCX
      go_wp2
      go_ret
      exact ⟨ret_bool HF.out.symm, HB2.out⟩
    · have HPX := Lib.hid (HPN.out rfl)
      by_cases h3 : n < 3
      · have HF : Hid (r = false) := by
          show _ = _
          rw [HFO.out]
          cases hc : convexF l
          · rfl
          · have := (HCX.out.1 hc).1; omega
        clear HFO HCX HPN
        go_wp2
        go_ret
        exact ⟨ret_bool HF.out.symm, HB2.out⟩
      · have HRC := Lib.hid (HRH.out w2 HB2.out)
        have q3 : decide ((n : Int) < 3) = false := decide_eq_false (by omega)
        clear HRH HPN
        go_wp2_with fail
        refine HRC.out.mono ?_
        rintro e w3 ⟨ah, ch, rfl, hph, _, _, hb⟩
        have HB3 : Hid (Below w.heap.size w w3) := HB2.out.trans (hb.mono HB2.out.size)
        have HP3 := Lib.hid (HP2.out.below hb)
        have hss := same_any ah ao ch c (hullF l) l w3 hph (HW.out.below HB3.out) (by have := HHL.out; omega) (by rw [HN.out]; omega)
        rw [HN.out] at hss
        have HSS := Lib.hid hss
        clear hb hph hss HRC HP2 HB2
        obtain ⟨s, hs⟩ : ∃ s, decide (hullF l = l) = s := ⟨_, rfl⟩
        have HSE := Lib.hid hs
        rw [hs] at HSS
        clear hs
        generalize (hullF l).length = m at *
        go_wp2_with fail
        refine HSS.out.mono ?_
        rintro e w4 ⟨rfl, hb⟩
        have HB4 : Hid (Below w.heap.size w w4) := HB3.out.trans (hb.mono HB3.out.size)
        have HP4 := Lib.hid (HP3.out.below hb)
        clear hb HSS HB3 HP3
        cases s
        · have HF : Hid (r = false) := by
            show _ = _
            rw [HFO.out]
            cases hc : convexF l
            · rfl
            · exact absurd (HCX.out.1 hc).2 (of_decide_eq_false HSE.out)
          clear HFO HCX
          go_wp2
          go_ret
          exact ⟨ret_bool HF.out.symm, HB4.out⟩
        · have HF : Hid (r = leftF l p n) := by
            show _ = _
            rw [HFO.out, HCX.out.2 ⟨by omega, of_decide_eq_true HSE.out⟩]; rfl
          clear HFO HCX HSE
          go_wp2
          go_loopw [5] (fun i wr => ∃ k : Nat, k ≤ n ∧ i = .int .i64 k ∧ Hid (leftF l p k = true) ∧ Hid (Below w4.heap.size w4 wr)) (fun i _ => n - (intOf i).toNat)
          case atStart => exact ⟨0, Nat.zero_le _, rfl, (by unfold leftF; simp : leftF l p 0 = true), Below.refl _ _⟩
          case round =>
            obtain ⟨k, hk, rfl, HL, HBR⟩ := hrel
            have HBW : Hid (Below w.heap.size w wr) := HB4.out.trans (HBR.out.mono HB4.out.size)
            by_cases hlt : k < n
            · obtain ⟨b, off, rfl, hb, hc⟩ := (HW.out.below HBW.out) (by rw [HN.out]; omega)
              obtain ⟨t, ht, htn⟩ : ∃ t, (k + 1) % n = t ∧ t < n := ⟨_, rfl, Nat.mod_lt _ (by omega)⟩
              have htI : ((k : Int) + 1) % (n : Int) = (t : Int) := by have := congrArg (fun x : Nat => (x : Int)) ht; simpa using this
              have hnx : nx l k = pg l t := by unfold nx; rw [HN.out, ht]
              have hc0 := hc k (by rw [HN.out]; exact hlt)
              have hd0 := hc t (by rw [HN.out]; exact htn)
              have HLS := Lib.hid (leftF_succ l p k)
              have HLF : Hid (turn (pg l k) (nx l k) p < 0 → leftF l p n = false) := fun h => leftF_false h hlt
              have HTU := Lib.hid (rturn_any (pg l k) (pg l t) p (near_of HNR.out (by rw [HN.out]; exact hlt)) (near_of HNR.out (by rw [HN.out]; exact htn)) HPX.out)
              rw [hnx] at HLS HLF
              have HSG := Lib.hid (sgn3_neg (turn (pg l k) (pg l t) p))
              have HCS : Hid (∀ wx, Below wr.heap.size wr wx → (wx.cell? ⟨b, off + k * 2, none⟩ = some (.int .i64 (pg l k).1) ∧ wx.cell? ⟨b, off + k * 2 + 1, none⟩ = some (.int .i64 (pg l k).2)) ∧ (wx.cell? ⟨b, off + t * 2, none⟩ = some (.int .i64 (pg l t).1) ∧ wx.cell? ⟨b, off + t * 2 + 1, none⟩ = some (.int .i64 (pg l t).2)) ∧ Pb wx pb p) := fun wx hx =>
                ⟨⟨(hx.cell (p := ⟨b, _, none⟩) hb).trans hc0.1, (hx.cell (p := ⟨b, _, none⟩) hb).trans hc0.2⟩, ⟨(hx.cell (p := ⟨b, _, none⟩) hb).trans hd0.1, (hx.cell (p := ⟨b, _, none⟩) hb).trans hd0.2⟩, (HP4.out.below HBR.out).below hx⟩
              generalize pg l k = x at *
              generalize pg l t = y at *
              obtain ⟨z, hz⟩ : ∃ z, turn x y p = z := ⟨_, rfl⟩
              rw [hz] at HTU HLS HLF HSG
              obtain ⟨sz, hsz⟩ : ∃ sz, sgn3 z = sz := ⟨_, rfl⟩
              rw [hsz] at HTU HSG
              have q9 : ((n : Nat) : Int) ≠ 0 := by omega
              clear hc ht hnx hc0 hd0 hz hsz
              go_upto_region 6 with (fail)
              refine wp_region_inv (fun w w' => Below w.heap.size w w') (fun qi_ qv_ _ => qv_ = ([.slice (some ⟨b, off, none⟩) n c, .int .i64 (k : Int), .pointer (some ⟨b, off + k * 2, none⟩), .agg #[.int .i64 x.1, .int .i64 x.2], .slice (some ⟨b, off, none⟩) n c, .int .i64 (k : Int), .int .i64 ((k : Int) + 1), .slice (some ⟨b, off, none⟩) n c, .int .i64 (n : Int), .int .i64 (t : Int), .pointer (some ⟨b, off + t * 2, none⟩), .agg #[.int .i64 y.1, .int .i64 y.2], .agg #[.int .i64 p.1, .int .i64 p.2], .int .i64 sz, .bool (decide (sz < 0))] : List Value).getD qi_ undef) (by kernel_rfl) (by kernel_rfl) (fun _ => Below.refl _ _) (fun _ _ _ h1 h2 => below_later h1 h1.size h2) (fun _ _ _ _ _ _ h => h) ?_
              refine inv_cons (fun wx hg hd => ?_) (fun v0 => ?_)
              · have hx := ((Below.refl wr.heap.size wr).drew).trans hg
                clear hd hg
                go_wp2
                exact ⟨_, rfl, Below.refl _ _, rfl⟩
              (try simp only [List.nil_append, Act.put, List.setIfInBounds_toArray, List.set_cons_zero, List.set_cons_succ])
              refine inv_cons (fun wx hg hd => ?_) (fun v1 => ?_)
              · have hx := ((Below.refl wr.heap.size wr).drew).trans hg
                clear hd hg
                go_wp2
                exact ⟨_, rfl, Below.refl _ _, rfl⟩
              (try simp only [List.cons_append, List.nil_append, Act.put, List.setIfInBounds_toArray, List.set_cons_zero, List.set_cons_succ])
              refine inv_cons (fun wx hg hd => ?_) (fun v2 => ?_)
              · have hx := ((Below.refl wr.heap.size wr).drew).trans hg
                (try (have ee : v0 = (.slice (some ⟨b, off, none⟩) n c : Value) := hd 0 (by simp) (by decide); subst ee))
                (try (have ee : v1 = (.int .i64 (k : Int) : Value) := hd 1 (by simp) (by decide); subst ee))
                clear hd hg
                go_wp2
                exact ⟨_, rfl, Below.refl _ _, rfl⟩
              (try simp only [List.cons_append, List.nil_append, Act.put, List.setIfInBounds_toArray, List.set_cons_zero, List.set_cons_succ])
              refine inv_cons (fun wx hg hd => ?_) (fun v3 => ?_)
              · have hx := ((Below.refl wr.heap.size wr).drew).trans hg
                (try (have ee : v2 = (.pointer (some ⟨b, off + k * 2, none⟩) : Value) := hd 2 (by simp) (by decide); subst ee))
                clear hd hg
                obtain ⟨⟨k1, k2⟩, ⟨k3, k4⟩, k5⟩ := HCS.out _ hx
                go_wp2
                exact ⟨_, rfl, Below.refl _ _, rfl⟩
              (try simp only [List.cons_append, List.nil_append, Act.put, List.setIfInBounds_toArray, List.set_cons_zero, List.set_cons_succ])
              refine inv_cons (fun wx hg hd => ?_) (fun v4 => ?_)
              · have hx := ((Below.refl wr.heap.size wr).drew).trans hg
                clear hd hg
                go_wp2
                exact ⟨_, rfl, Below.refl _ _, rfl⟩
              (try simp only [List.cons_append, List.nil_append, Act.put, List.setIfInBounds_toArray, List.set_cons_zero, List.set_cons_succ])
              refine inv_cons (fun wx hg hd => ?_) (fun v5 => ?_)
              · have hx := ((Below.refl wr.heap.size wr).drew).trans hg
                clear hd hg
                go_wp2
                exact ⟨_, rfl, Below.refl _ _, rfl⟩
              (try simp only [List.cons_append, List.nil_append, Act.put, List.setIfInBounds_toArray, List.set_cons_zero, List.set_cons_succ])
              refine inv_cons (fun wx hg hd => ?_) (fun v6 => ?_)
              · have hx := ((Below.refl wr.heap.size wr).drew).trans hg
                (try (have ee : v5 = (.int .i64 (k : Int) : Value) := hd 5 (by simp) (by decide); subst ee))
                clear hd hg
                go_wp2
                exact ⟨_, rfl, Below.refl _ _, rfl⟩
              (try simp only [List.cons_append, List.nil_append, Act.put, List.setIfInBounds_toArray, List.set_cons_zero, List.set_cons_succ])
              refine inv_cons (fun wx hg hd => ?_) (fun v7 => ?_)
              · have hx := ((Below.refl wr.heap.size wr).drew).trans hg
                clear hd hg
                go_wp2
                exact ⟨_, rfl, Below.refl _ _, rfl⟩
              (try simp only [List.cons_append, List.nil_append, Act.put, List.setIfInBounds_toArray, List.set_cons_zero, List.set_cons_succ])
              refine inv_cons (fun wx hg hd => ?_) (fun v8 => ?_)
              · have hx := ((Below.refl wr.heap.size wr).drew).trans hg
                (try (have ee : v7 = (.slice (some ⟨b, off, none⟩) n c : Value) := hd 7 (by simp) (by decide); subst ee))
                clear hd hg
                go_wp2
                exact ⟨_, rfl, Below.refl _ _, rfl⟩
              (try simp only [List.cons_append, List.nil_append, Act.put, List.setIfInBounds_toArray, List.set_cons_zero, List.set_cons_succ])
              refine inv_cons (fun wx hg hd => ?_) (fun v9 => ?_)
              · have hx := ((Below.refl wr.heap.size wr).drew).trans hg
                (try (have ee : v6 = (.int .i64 ((k : Int) + 1) : Value) := hd 6 (by simp) (by decide); subst ee))
                (try (have ee : v8 = (.int .i64 (n : Int) : Value) := hd 8 (by simp) (by decide); subst ee))
                clear hd hg
                go_wp2
                exact ⟨_, rfl, Below.refl _ _, rfl⟩
              (try simp only [List.cons_append, List.nil_append, Act.put, List.setIfInBounds_toArray, List.set_cons_zero, List.set_cons_succ])
              refine inv_cons (fun wx hg hd => ?_) (fun v10 => ?_)
              · have hx := ((Below.refl wr.heap.size wr).drew).trans hg
                (try (have ee : v4 = (.slice (some ⟨b, off, none⟩) n c : Value) := hd 4 (by simp) (by decide); subst ee))
                (try (have ee : v9 = (.int .i64 (t : Int) : Value) := hd 9 (by simp) (by decide); subst ee))
                clear hd hg
                go_wp2
                exact ⟨_, rfl, Below.refl _ _, rfl⟩
              (try simp only [List.cons_append, List.nil_append, Act.put, List.setIfInBounds_toArray, List.set_cons_zero, List.set_cons_succ])
              refine inv_cons (fun wx hg hd => ?_) (fun v11 => ?_)
              · have hx := ((Below.refl wr.heap.size wr).drew).trans hg
                (try (have ee : v10 = (.pointer (some ⟨b, off + t * 2, none⟩) : Value) := hd 10 (by simp) (by decide); subst ee))
                clear hd hg
                obtain ⟨⟨k1, k2⟩, ⟨k3, k4⟩, k5⟩ := HCS.out _ hx
                go_wp2
                exact ⟨_, rfl, Below.refl _ _, rfl⟩
              (try simp only [List.cons_append, List.nil_append, Act.put, List.setIfInBounds_toArray, List.set_cons_zero, List.set_cons_succ])
              refine inv_cons (fun wx hg hd => ?_) (fun v12 => ?_)
              · have hx := ((Below.refl wr.heap.size wr).drew).trans hg
                clear hd hg
                obtain ⟨k1, k2, k3, k4, k5⟩ := (HCS.out _ hx).2.2.cells
                go_wp2
                exact ⟨_, rfl, Below.refl _ _, rfl⟩
              (try simp only [List.cons_append, List.nil_append, Act.put, List.setIfInBounds_toArray, List.set_cons_zero, List.set_cons_succ])
              refine inv_cons (fun wx hg hd => ?_) (fun v13 => ?_)
              · have hx := ((Below.refl wr.heap.size wr).drew).trans hg
                (try (have ee : v3 = (.agg #[.int .i64 x.1, .int .i64 x.2] : Value) := hd 3 (by simp) (by decide); subst ee))
                (try (have ee : v11 = (.agg #[.int .i64 y.1, .int .i64 y.2] : Value) := hd 11 (by simp) (by decide); subst ee))
                (try (have ee : v12 = (.agg #[.int .i64 p.1, .int .i64 p.2] : Value) := hd 12 (by simp) (by decide); subst ee))
                clear hd hg
                go_wp2_with fail
                refine (HTU.out _).mono ?_
                rintro e w' ⟨rfl, hb⟩
                go_wp2
                exact ⟨_, rfl, hb, rfl⟩
              (try simp only [List.cons_append, List.nil_append, Act.put, List.setIfInBounds_toArray, List.set_cons_zero, List.set_cons_succ])
              refine inv_cons (fun wx hg hd => ?_) (fun v14 => ?_)
              · have hx := ((Below.refl wr.heap.size wr).drew).trans hg
                (try (have ee : v13 = (.int .i64 sz : Value) := hd 13 (by simp) (by decide); subst ee))
                clear hd hg
                go_wp2
                exact ⟨_, rfl, Below.refl _ _, rfl⟩
              (try simp only [List.cons_append, List.nil_append, Act.put, List.setIfInBounds_toArray, List.set_cons_zero, List.set_cons_succ])
              refine inv_done (fun wx hg hd => ?_)
              have hx := ((Below.refl wr.heap.size wr).drew).trans hg
              (have ee : v0 = (.slice (some ⟨b, off, none⟩) n c : Value) := hd 0 (by simp); subst ee)
              (have ee : v1 = (.int .i64 (k : Int) : Value) := hd 1 (by simp); subst ee)
              (have ee : v2 = (.pointer (some ⟨b, off + k * 2, none⟩) : Value) := hd 2 (by simp); subst ee)
              (have ee : v3 = (.agg #[.int .i64 x.1, .int .i64 x.2] : Value) := hd 3 (by simp); subst ee)
              (have ee : v4 = (.slice (some ⟨b, off, none⟩) n c : Value) := hd 4 (by simp); subst ee)
              (have ee : v5 = (.int .i64 (k : Int) : Value) := hd 5 (by simp); subst ee)
              (have ee : v6 = (.int .i64 ((k : Int) + 1) : Value) := hd 6 (by simp); subst ee)
              (have ee : v7 = (.slice (some ⟨b, off, none⟩) n c : Value) := hd 7 (by simp); subst ee)
              (have ee : v8 = (.int .i64 (n : Int) : Value) := hd 8 (by simp); subst ee)
              (have ee : v9 = (.int .i64 (t : Int) : Value) := hd 9 (by simp); subst ee)
              (have ee : v10 = (.pointer (some ⟨b, off + t * 2, none⟩) : Value) := hd 10 (by simp); subst ee)
              (have ee : v11 = (.agg #[.int .i64 y.1, .int .i64 y.2] : Value) := hd 11 (by simp); subst ee)
              (have ee : v12 = (.agg #[.int .i64 p.1, .int .i64 p.2] : Value) := hd 12 (by simp); subst ee)
              (have ee : v13 = (.int .i64 sz : Value) := hd 13 (by simp); subst ee)
              (have ee : v14 = (.bool (decide (sz < 0)) : Value) := hd 14 (by simp); subst ee)
              clear hd hg
              (try go_simp)
              have HXX : Hid (Below w4.heap.size w4 wx) := HBR.out.trans (hx.mono HBR.out.size)
              have HXW : Hid (Below w.heap.size w wx) := HB4.out.trans (HXX.out.mono HB4.out.size)
              clear hx HCS HTU
              by_cases hz0 : z < 0
              · have HFF : Hid (r = false) := by show _ = _; rw [HF.out]; exact HLF.out hz0
                have hs0 : sz < 0 := of_decide_eq_true (by rw [HSG.out, decide_eq_true hz0])
                clear HLF HF HSG hz0
                go_wp2
                go_ret
                exact ⟨ret_bool HFF.out.symm, HXW.out⟩
              · have HLL : Hid (leftF l p (k + 1) = true) := by show _ = _; rw [HLS.out, HL.out, decide_eq_true (by omega)]; rfl
                have hs0 : ¬ sz < 0 := of_decide_eq_false (by rw [HSG.out, decide_eq_false hz0])
                clear HLF HLS HSG hz0
                go_wp2
                go_roundw
                case rel => exact ⟨k + 1, by omega, by go_num, HLL.out, HXX.out⟩
                case measure => simp [intOf]; omega
            · obtain rfl : k = n := by omega
              have HFF : Hid (r = true) := by show _ = _; rw [HF.out]; exact HL.out
              clear HF HL
              go_wp2
              go_ret
              exact ⟨ret_bool HFF.out.symm, HBW.out⟩
end Go.Proofs.Ytcoffankmmjehaa
