/- Contracts of package hull: Convex, Holds; apiaryref9.Area2. -/
import Derived.Test.YtcoffankmmjehaaHullH
namespace Go.Proofs.Ytcoffankmmjehaa
open Go.RowKit Go.Lib Hull

theorem convex_any (ao : Option Addr) (c : Nat) (l : List Pt) (w : World) (h : PAt w ao l) (hn : l.length ≤ 1000000000) :
    Calls Try.prog 16 #[.slice ao l.length c] w fun e w' => e = .returned (.bool (convexF l)) ∧ Below w.heap.size w w' := by
  by_cases h0 : 0 < l.length
  · have HOF := Lib.hid (hof_any ao c l w h hn)
    have HEQ : Hid (∀ bo d w', PAt w' bo (hullF l) → Below w.heap.size w w' → (hullF l).length ≤ 1000000000 → Calls Try.prog 28 #[.slice bo (hullF l).length d, .slice ao l.length c] w' fun e w'' => e = .returned (.bool (decide (hullF l = l))) ∧ Below w'.heap.size w' w'') := fun bo d w' h1 hb h2 => equal_any bo ao d c (hullF l) l w' h1 (h.below hb) h2 hn
    have HF : Hid (convexF l = decide (hullF l = l)) := by show _ = _; unfold convexF; simp [h0]
    have hlen : (hullF l).length ≤ 1000000000 := by
      by_cases hh : hullF l = []
      · rw [hh]; simp
      · obtain ⟨h1, _⟩ := hullF_both hh
        have := ((okB_iff l).1 h1).1
        unfold hullF
        split
        · unfold sidesF
          rw [ring_length]
          have h1 := chainF_le (orderF l)
          have h2 := chainF_le (orderF l).reverse
          rw [List.length_reverse] at h2
          have h3 : (orderF l).length ≤ l.length := by unfold orderF; refine Nat.le_trans (compactUpTo_le _ _) ?_; rw [List.length_mergeSort]; exact Nat.le_refl _
          omega
        · simp
    generalize convexF l = r at HF ⊢
    generalize decide (hullF l = l) = q at HF HEQ
    have HW := Lib.hid h
    obtain ⟨n, hnn⟩ : ∃ n, l.length = n := ⟨_, rfl⟩
    rw [hnn] at h0 HEQ HOF ⊢
    have HLN := Lib.hid hlen
    clear h hlen hn hnn
    go_enter Try.func16, Try.ntmps16
    go_wp2_with fail
    refine HOF.out.mono ?_
    rintro e w1 ⟨bo, d, rfl, hp, _, _, hb⟩
    have HE2 := Lib.hid (HEQ.out bo d w1 hp hb HLN.out)
    have HB := Lib.hid hb
    clear hp hb HEQ HOF
    generalize (hullF l).length = m at HE2 ⊢
    go_wp2_with fail
    refine HE2.out.mono ?_
    rintro e w2 ⟨rfl, hb⟩
    have HB2 : Hid (Below w.heap.size w w2) := HB.out.trans (hb.mono HB.out.size)
    clear hb
    go_wp2
    go_ret
    exact ⟨ret_bool HF.out.symm, HB2.out⟩
  · have HF : Hid (convexF l = false) := by show _ = _; unfold convexF; simp [h0]
    generalize convexF l = r at HF ⊢
    have hz : l.length = 0 := by omega
    rw [hz]
    clear h hn hz h0
    go_enter Try.func16, Try.ntmps16
    go_wp2
    go_ret
    exact ⟨ret_bool HF.out.symm, Below.refl _ _⟩
set_option maxHeartbeats 4000000 in
set_option maxRecDepth 100000 in
theorem holds_any (ao : Option Addr) (c : Nat) (l : List Pt) (p : Pt) (w : World) (h : PAt w ao l) (hn : l.length ≤ 1000000000) :
    Calls Try.prog 11 #[.slice ao l.length c, .agg #[.int .i64 p.1, .int .i64 p.2]] w fun e w' => e = .returned (.bool (holdsF l p)) ∧ Below w.heap.size w w' := by
  have hal : Below w.heap.size w (w.alloc (.cells #[.int .i64 p.1, .int .i64 p.2] 26)) := (Below.refl _ _).alloc (Nat.le_refl _) _
  have HAL := Lib.hid hal
  have HCX := Lib.hid (convex_any ao c l _ (h.below hal) hn)
  have HW := Lib.hid h
  have HX : Hid ((w.alloc (.cells #[.int .i64 p.1, .int .i64 p.2] 26)).heap[w.heap.size]? = some (.cells #[.int .i64 p.1, .int .i64 p.2] 26 (0, 0))) := heap_new _ _ _ rfl
  have HZ0 : Hid ((w.alloc (.cells #[.int .i64 p.1, .int .i64 p.2] 26)).heap.size = w.heap.size + 1) := World.size_alloc _ _
  cases hcx : convexF l
  · have HF : Hid (holdsF l p = false) := by show _ = _; unfold holdsF; rw [hcx]; rfl
    rw [hcx] at HCX
    generalize holdsF l p = r at HF ⊢
    clear h hal hcx
    go_enter Try.func11, Try.ntmps11
    go_wp2_with fail
    refine HCX.out.mono ?_
    rintro e w1 ⟨rfl, hb⟩
    have HB : Hid (Below w.heap.size w w1) := HAL.out.trans (hb.mono HAL.out.size)
    clear hb HAL
    go_wp2
    go_ret
    exact ⟨ret_bool HF.out.symm, HB.out⟩
  · have hOK := (okB_iff l).1 (convexF_ok hcx)
    have HNR := Lib.hid hOK.2
    have hn2 := hOK.1
    rw [hcx] at HCX
    have HFO : Hid (holdsF l p = (okB [p] && leftF l p l.length)) := by show _ = _; unfold holdsF; rw [hcx]; rfl
    generalize holdsF l p = r at HFO ⊢
    have HOP : Hid (∀ w' b, w'.heap[b]? = some (.cells #[.int .i64 p.1, .int .i64 p.2] 26 (0, 0)) → Calls Try.prog 21 #[.slice (some ⟨b, 0, none⟩) 1 1] w' fun e w'' => e = .returned (.bool (okB [p])) ∧ Below w'.heap.size w' w'') := fun w' b hb => by
      have := ok_any (some ⟨b, 0, none⟩) 1 [p] w' (fun _ => ⟨b, 0, rfl, (Array.getElem?_eq_some_iff.1 hb).1, fun k hk => by
        obtain rfl : k = 0 := by simpa using hk
        exact ⟨cell_of_row _ _ 0 _ _ _ hb, cell_of_row _ _ 1 _ _ _ hb⟩⟩) (by simp)
      exact this
    have HPN : Hid (okB [p] = true → Near p) := fun h => ((okB_iff [p]).1 h).2 p (by simp)
    obtain ⟨n, hnn⟩ : ∃ n, l.length = n := ⟨_, rfl⟩
    have HN := Lib.hid hnn
    rw [hnn] at hn2 HCX HFO ⊢
    clear h hal hcx hOK hnn hn
    go_enter Try.func11, Try.ntmps11
    go_wp2_with fail
    refine HCX.out.mono ?_
    rintro e w1 ⟨rfl, hb⟩
    have HB : Hid (Below w.heap.size w w1) := HAL.out.trans (hb.mono HAL.out.size)
    have hx1 : w1.heap[w.heap.size]? = some (.cells #[.int .i64 p.1, .int .i64 p.2] 26 (0, 0)) := by
      rw [hb.block _ (by rw [HZ0.out]; omega)]; exact HX.out
    have HX1 := Lib.hid hx1
    have k1 : w1.cell? ⟨w.heap.size, 0, none⟩ = some (.int .i64 p.1) := cell_of_row _ _ 0 _ _ _ hx1
    have k2 : w1.cell? ⟨w.heap.size, 1, none⟩ = some (.int .i64 p.2) := cell_of_row _ _ 1 _ _ _ hx1
    have k3 : w.heap.size < w1.heap.size := (Array.getElem?_eq_some_iff.1 hx1).1
    have HK3 := Lib.hid k3
    have HOP1 := Lib.hid (HOP.out (w1.alloc (.cells #[.int .i64 p.1, .int .i64 p.2] 26)) w1.heap.size (heap_new _ _ _ rfl))
    have HB1 : Hid (Below w.heap.size w (w1.alloc (.cells #[.int .i64 p.1, .int .i64 p.2] 26))) := HB.out.alloc HB.out.size _
    have hba : Below w1.heap.size w1 (w1.alloc (.cells #[.int .i64 p.1, .int .i64 p.2] 26)) := (Below.refl _ _).alloc (Nat.le_refl _) _
    have HBA := Lib.hid hba
    clear hb hx1 HX HZ0 HAL HCX HB HOP hba
    obtain ⟨q, hq⟩ : ∃ q, okB [p] = q := ⟨_, rfl⟩
    rw [hq] at HOP1 HPN HFO
    clear hq
    go_wp2_with fail
    refine HOP1.out.mono ?_
    rintro e w2 ⟨rfl, hb2⟩
    have HB2 : Hid (Below w.heap.size w w2) := HB1.out.trans (hb2.mono HB1.out.size)
    have HX2 : Hid (w2.heap[w.heap.size]? = some (.cells #[.int .i64 p.1, .int .i64 p.2] 26 (0, 0))) := by
      have h1 := (HBA.out.trans (hb2.mono HBA.out.size)).block w.heap.size HK3.out
      show _ = _
      rw [h1]; exact HX1.out
    obtain ⟨pb, hpb⟩ : ∃ pb, w.heap.size = pb := ⟨_, rfl⟩
    have HPB := Lib.hid hpb
    rw [hpb] at HX2 ⊢
    clear hb2 HOP1 HB1 HBA k1 k2 k3 HK3 HX1 hpb
    cases q
    · have HF : Hid (r = false) := by show _ = _; rw [HFO.out]; rfl
      clear HFO
      go_wp2
      go_ret
      exact ⟨ret_bool HF.out.symm, HB2.out⟩
    · have HPX := Lib.hid (HPN.out rfl)
      have HF : Hid (r = leftF l p n) := by show _ = _; rw [HFO.out]; rfl
      clear HFO HPN
      go_wp2
      go_loopw [18] (fun i wr => ∃ k : Nat, k ≤ n ∧ i = .int .i64 k ∧ Hid (leftF l p k = true) ∧ Hid (Below w2.heap.size w2 wr)) (fun i _ => n - (intOf i).toNat)
      case atStart => exact ⟨0, Nat.zero_le _, rfl, (by unfold leftF; simp : leftF l p 0 = true), Below.refl _ _⟩
      case round =>
        obtain ⟨k, hk, rfl, HL, HBR⟩ := hrel
        have HBW : Hid (Below w.heap.size w wr) := HB2.out.trans (HBR.out.mono HB2.out.size)
        by_cases hlt : k < n
        · obtain ⟨b, off, rfl, hb, hc⟩ := (HW.out.below HBW.out) (by rw [HN.out]; omega)
          obtain ⟨t, ht, htn⟩ : ∃ t, (k + 1) % n = t ∧ t < n := ⟨_, rfl, Nat.mod_lt _ (by omega)⟩
          have htI : ((k : Int) + 1) % (n : Int) = (t : Int) := by have := congrArg (fun x : Nat => (x : Int)) ht; simpa using this
          have hnx : nx l k = pg l t := by unfold nx; rw [HN.out, ht]
          obtain ⟨c0, c1⟩ := hc k (by rw [HN.out]; exact hlt)
          have hd := hc t (by rw [HN.out]; exact htn)
          have HLS := Lib.hid (leftF_succ l p k)
          have HLF : Hid (turn (pg l k) (nx l k) p < 0 → leftF l p n = false) := fun h => leftF_false h hlt
          obtain ⟨z, hz⟩ : ∃ z, turn (pg l k) (pg l t) p = z := ⟨_, rfl⟩
          have HTU := Lib.hid (turn_at (pg l k) (pg l t) p z hz (near_of HNR.out (by rw [HN.out]; exact hlt)) (near_of HNR.out (by rw [HN.out]; exact htn)) HPX.out)
          rw [hnx, hz] at HLS HLF
          have hxr : wr.heap[pb]? = some (.cells #[.int .i64 p.1, .int .i64 p.2] 26 (0, 0)) := by
            rw [HBR.out.block pb (Array.getElem?_eq_some_iff.1 HX2.out).1]; exact HX2.out
          clear hc ht hnx hz
          generalize pg l k = x at *
          generalize pg l t = y at *
          have hba : Below wr.heap.size wr (wr.alloc (.cells #[.int .i64 x.1, .int .i64 x.2] 26)) := (Below.refl _ _).alloc (Nat.le_refl _) _
          have hcs : ∀ wx, Below (wr.alloc (.cells #[.int .i64 x.1, .int .i64 x.2] 26)).heap.size (wr.alloc (.cells #[.int .i64 x.1, .int .i64 x.2] 26)) wx → (wx.cell? ⟨wr.heap.size, 0, none⟩ = some (.int .i64 x.1) ∧ wx.cell? ⟨wr.heap.size, 1, none⟩ = some (.int .i64 x.2)) ∧ (wx.cell? ⟨b, off + t * 2, none⟩ = some (.int .i64 y.1) ∧ wx.cell? ⟨b, off + t * 2 + 1, none⟩ = some (.int .i64 y.2)) ∧ (wx.cell? ⟨pb, 0, none⟩ = some (.int .i64 p.1) ∧ wx.cell? ⟨pb, 1, none⟩ = some (.int .i64 p.2)) := fun wx hx => by
            have hbx : Below wr.heap.size wr wx := hba.trans (hx.mono hba.size)
            have h1 : wx.heap[wr.heap.size]? = some (.cells #[.int .i64 x.1, .int .i64 x.2] 26 (0, 0)) := by
              rw [hx.block _ (by rw [World.size_alloc]; omega)]; exact heap_new _ _ _ rfl
            have h2 : wx.heap[pb]? = some (.cells #[.int .i64 p.1, .int .i64 p.2] 26 (0, 0)) := by
              rw [hbx.block pb (Array.getElem?_eq_some_iff.1 hxr).1]; exact hxr
            exact ⟨⟨cell_of_row _ _ 0 _ _ _ h1, cell_of_row _ _ 1 _ _ _ h1⟩, ⟨(hbx.cell (p := ⟨b, _, none⟩) hb).trans hd.1, (hbx.cell (p := ⟨b, _, none⟩) hb).trans hd.2⟩, ⟨cell_of_row _ _ 0 _ _ _ h2, cell_of_row _ _ 1 _ _ _ h2⟩⟩
          have HCS := Lib.hid hcs
          have HBA : Hid (Below w2.heap.size w2 (wr.alloc (.cells #[.int .i64 x.1, .int .i64 x.2] 26))) := HBR.out.trans (hba.mono HBR.out.size)
          have q9 : ((n : Nat) : Int) ≠ 0 := by omega
          clear hd hcs hxr hba
          go_upto_region 6 with (fail)
          generalize wr.alloc (.cells #[.int .i64 x.1, .int .i64 x.2] 26) = wA at *
          obtain ⟨xb, hxb⟩ : ∃ xb, wr.heap.size = xb := ⟨_, rfl⟩
          rw [hxb] at HCS ⊢
          refine wp_region_inv (fun w w' => Below w.heap.size w w') (fun qi_ qv_ _ => qv_ = ([.agg #[.int .i64 x.1, .int .i64 x.2], .slice (some ⟨b, off, none⟩) n c, .int .i64 (k : Int), .int .i64 ((k : Int) + 1), .slice (some ⟨b, off, none⟩) n c, .int .i64 (n : Int), .int .i64 (t : Int), .pointer (some ⟨b, off + t * 2, none⟩), .agg #[.int .i64 y.1, .int .i64 y.2], .agg #[.int .i64 p.1, .int .i64 p.2], .int .i64 z, .bool (decide (z < 0))] : List Value).getD qi_ undef) (by kernel_rfl) (by kernel_rfl) (fun _ => Below.refl _ _) (fun _ _ _ h1 h2 => below_later h1 h1.size h2) (fun _ _ _ _ _ _ h => h) ?_
          refine inv_cons (fun wx hg hd => ?_) (fun v0 => ?_)
          · have hx := ((Below.refl wA.heap.size wA).drew).trans hg
            clear hd hg
            obtain ⟨⟨k1, k2⟩, ⟨k3, k4⟩, k5, k6⟩ := HCS.out _ hx
            go_wp2
            exact ⟨_, rfl, Below.refl _ _, rfl⟩
          (try simp only [List.nil_append, Act.put, List.setIfInBounds_toArray, List.set_cons_zero, List.set_cons_succ])
          refine inv_cons (fun wx hg hd => ?_) (fun v1 => ?_)
          · have hx := ((Below.refl wA.heap.size wA).drew).trans hg
            clear hd hg
            go_wp2
            exact ⟨_, rfl, Below.refl _ _, rfl⟩
          (try simp only [List.cons_append, List.nil_append, Act.put, List.setIfInBounds_toArray, List.set_cons_zero, List.set_cons_succ])
          refine inv_cons (fun wx hg hd => ?_) (fun v2 => ?_)
          · have hx := ((Below.refl wA.heap.size wA).drew).trans hg
            clear hd hg
            go_wp2
            exact ⟨_, rfl, Below.refl _ _, rfl⟩
          (try simp only [List.cons_append, List.nil_append, Act.put, List.setIfInBounds_toArray, List.set_cons_zero, List.set_cons_succ])
          refine inv_cons (fun wx hg hd => ?_) (fun v3 => ?_)
          · have hx := ((Below.refl wA.heap.size wA).drew).trans hg
            (try (have ee : v2 = (.int .i64 (k : Int) : Value) := hd 2 (by simp) (by decide); subst ee))
            clear hd hg
            go_wp2
            exact ⟨_, rfl, Below.refl _ _, rfl⟩
          (try simp only [List.cons_append, List.nil_append, Act.put, List.setIfInBounds_toArray, List.set_cons_zero, List.set_cons_succ])
          refine inv_cons (fun wx hg hd => ?_) (fun v4 => ?_)
          · have hx := ((Below.refl wA.heap.size wA).drew).trans hg
            clear hd hg
            go_wp2
            exact ⟨_, rfl, Below.refl _ _, rfl⟩
          (try simp only [List.cons_append, List.nil_append, Act.put, List.setIfInBounds_toArray, List.set_cons_zero, List.set_cons_succ])
          refine inv_cons (fun wx hg hd => ?_) (fun v5 => ?_)
          · have hx := ((Below.refl wA.heap.size wA).drew).trans hg
            (try (have ee : v4 = (.slice (some ⟨b, off, none⟩) n c : Value) := hd 4 (by simp) (by decide); subst ee))
            clear hd hg
            go_wp2
            exact ⟨_, rfl, Below.refl _ _, rfl⟩
          (try simp only [List.cons_append, List.nil_append, Act.put, List.setIfInBounds_toArray, List.set_cons_zero, List.set_cons_succ])
          refine inv_cons (fun wx hg hd => ?_) (fun v6 => ?_)
          · have hx := ((Below.refl wA.heap.size wA).drew).trans hg
            (try (have ee : v3 = (.int .i64 ((k : Int) + 1) : Value) := hd 3 (by simp) (by decide); subst ee))
            (try (have ee : v5 = (.int .i64 (n : Int) : Value) := hd 5 (by simp) (by decide); subst ee))
            clear hd hg
            go_wp2
            exact ⟨_, rfl, Below.refl _ _, rfl⟩
          (try simp only [List.cons_append, List.nil_append, Act.put, List.setIfInBounds_toArray, List.set_cons_zero, List.set_cons_succ])
          refine inv_cons (fun wx hg hd => ?_) (fun v7 => ?_)
          · have hx := ((Below.refl wA.heap.size wA).drew).trans hg
            (try (have ee : v1 = (.slice (some ⟨b, off, none⟩) n c : Value) := hd 1 (by simp) (by decide); subst ee))
            (try (have ee : v6 = (.int .i64 (t : Int) : Value) := hd 6 (by simp) (by decide); subst ee))
            clear hd hg
            go_wp2
            exact ⟨_, rfl, Below.refl _ _, rfl⟩
          (try simp only [List.cons_append, List.nil_append, Act.put, List.setIfInBounds_toArray, List.set_cons_zero, List.set_cons_succ])
          refine inv_cons (fun wx hg hd => ?_) (fun v8 => ?_)
          · have hx := ((Below.refl wA.heap.size wA).drew).trans hg
            (try (have ee : v7 = (.pointer (some ⟨b, off + t * 2, none⟩) : Value) := hd 7 (by simp) (by decide); subst ee))
            clear hd hg
            obtain ⟨⟨k1, k2⟩, ⟨k3, k4⟩, k5, k6⟩ := HCS.out _ hx
            go_wp2
            exact ⟨_, rfl, Below.refl _ _, rfl⟩
          (try simp only [List.cons_append, List.nil_append, Act.put, List.setIfInBounds_toArray, List.set_cons_zero, List.set_cons_succ])
          refine inv_cons (fun wx hg hd => ?_) (fun v9 => ?_)
          · have hx := ((Below.refl wA.heap.size wA).drew).trans hg
            clear hd hg
            obtain ⟨⟨k1, k2⟩, ⟨k3, k4⟩, k5, k6⟩ := HCS.out _ hx
            go_wp2
            exact ⟨_, rfl, Below.refl _ _, rfl⟩
          (try simp only [List.cons_append, List.nil_append, Act.put, List.setIfInBounds_toArray, List.set_cons_zero, List.set_cons_succ])
          refine inv_cons (fun wx hg hd => ?_) (fun v10 => ?_)
          · have hx := ((Below.refl wA.heap.size wA).drew).trans hg
            (try (have ee : v0 = (.agg #[.int .i64 x.1, .int .i64 x.2] : Value) := hd 0 (by simp) (by decide); subst ee))
            (try (have ee : v8 = (.agg #[.int .i64 y.1, .int .i64 y.2] : Value) := hd 8 (by simp) (by decide); subst ee))
            (try (have ee : v9 = (.agg #[.int .i64 p.1, .int .i64 p.2] : Value) := hd 9 (by simp) (by decide); subst ee))
            clear hd hg
            go_wp2_with fail
            refine (HTU.out _).mono ?_
            rintro e w' ⟨rfl, hb⟩
            go_wp2
            exact ⟨_, rfl, hb, rfl⟩
          (try simp only [List.cons_append, List.nil_append, Act.put, List.setIfInBounds_toArray, List.set_cons_zero, List.set_cons_succ])
          refine inv_cons (fun wx hg hd => ?_) (fun v11 => ?_)
          · have hx := ((Below.refl wA.heap.size wA).drew).trans hg
            (try (have ee : v10 = (.int .i64 z : Value) := hd 10 (by simp) (by decide); subst ee))
            clear hd hg
            go_wp2
            exact ⟨_, rfl, Below.refl _ _, rfl⟩
          (try simp only [List.cons_append, List.nil_append, Act.put, List.setIfInBounds_toArray, List.set_cons_zero, List.set_cons_succ])
          refine inv_done (fun wx hg hd => ?_)
          have hx := ((Below.refl wA.heap.size wA).drew).trans hg
          (have ee : v0 = (.agg #[.int .i64 x.1, .int .i64 x.2] : Value) := hd 0 (by simp); subst ee)
          (have ee : v1 = (.slice (some ⟨b, off, none⟩) n c : Value) := hd 1 (by simp); subst ee)
          (have ee : v2 = (.int .i64 (k : Int) : Value) := hd 2 (by simp); subst ee)
          (have ee : v3 = (.int .i64 ((k : Int) + 1) : Value) := hd 3 (by simp); subst ee)
          (have ee : v4 = (.slice (some ⟨b, off, none⟩) n c : Value) := hd 4 (by simp); subst ee)
          (have ee : v5 = (.int .i64 (n : Int) : Value) := hd 5 (by simp); subst ee)
          (have ee : v6 = (.int .i64 (t : Int) : Value) := hd 6 (by simp); subst ee)
          (have ee : v7 = (.pointer (some ⟨b, off + t * 2, none⟩) : Value) := hd 7 (by simp); subst ee)
          (have ee : v8 = (.agg #[.int .i64 y.1, .int .i64 y.2] : Value) := hd 8 (by simp); subst ee)
          (have ee : v9 = (.agg #[.int .i64 p.1, .int .i64 p.2] : Value) := hd 9 (by simp); subst ee)
          (have ee : v10 = (.int .i64 z : Value) := hd 10 (by simp); subst ee)
          (have ee : v11 = (.bool (decide (z < 0)) : Value) := hd 11 (by simp); subst ee)
          clear hd hg
          (try go_simp)
          have HXX : Hid (Below w2.heap.size w2 wx) := HBA.out.trans (hx.mono HBA.out.size)
          have HXW : Hid (Below w.heap.size w wx) := HB2.out.trans (HXX.out.mono HB2.out.size)
          clear hx
          by_cases hz0 : z < 0
          · have HFF : Hid (r = false) := by show _ = _; rw [HF.out]; exact HLF.out hz0
            clear HLF HF
            go_wp2
            go_ret
            exact ⟨ret_bool HFF.out.symm, HXW.out⟩
          · have HLL : Hid (leftF l p (k + 1) = true) := by show _ = _; rw [HLS.out, HL.out, decide_eq_true (by omega)]; rfl
            clear HLF HLS
            go_wp2
            go_roundw
            case rel => exact ⟨k + 1, by omega, by go_num, HLL.out, HXX.out⟩
            case measure => simp [intOf]; omega
        · obtain rfl : k = n := by omega
          have HFF : Hid (r = true) := by show _ = _; rw [HF.out]; exact HL.out
          clear HF HL
          go_wp2
          go_ret
          exact ⟨ret_bool HFF.out.symm, HBW.out⟩
end Go.Proofs.Ytcoffankmmjehaa
