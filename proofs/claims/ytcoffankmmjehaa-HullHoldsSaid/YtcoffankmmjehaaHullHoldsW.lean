/- The walk of the law HullHolds. -/
import Derived.Test.YtcoffankmmjehaaHullK
import Derived.Deep.RegionLaw
namespace Go.Proofs.Ytcoffankmmjehaa.hullHolds
open Go.RowKit Go.Lib Hull

/-- A point is held just if the hull with it is the same; the hull with it is no smaller. -/
theorem law_holds {l m : List Pt} {p : Pt} (h : hullF l ≠ []) (hm : ∀ q, q ∈ m ↔ q ∈ hullF l ∨ q = p) (hok : okB m = true) (hp : okB [p] = true) :
    holdsF (hullF l) p = decide (hullF m = hullF l) ∧ area (hullF l) ≤ area (hullF m) := by
  have h2 : hullF (hullF l) ≠ [] := by rw [hullF_idem]; exact h
  have hsub : ∀ q ∈ hullF l, q ∈ m := fun q hq => (hm q).2 (.inl hq)
  refine ⟨?_, ?_⟩
  · unfold holdsF
    rw [convexF_hull h, hp]
    cases hl : leftF (hullF l) p (hullF l).length
    · rw [decide_eq_false]
      · rfl
      · intro e
        have := hull_left (hull_sub_ne h2 hsub hok) ((hm p).2 (.inr rfl))
        rw [e, hl] at this; cases this
    · rw [decide_eq_true]
      · rfl
      · have := hull_add (l := hullF l) (m := m) h2 hm hok (by rw [hullF_idem]; exact hl)
        rw [this, hullF_idem]
  · have := hull_area h2 hsub hok
    rwa [hullF_idem] at this
set_option maxRecDepth 100000 in
set_option maxHeartbeats 8000000 in
theorem core (w : World) (a0 : Option Addr) (n0 c0 : Nat) (z0 : Nat → Int) (g0 : IntsAtK .i64 w w.heap.size a0 n0 z0) (hn : n0 ≤ 1000000000000000) (x y : Int) :
    Calls Try.prog 3 #[.slice a0 n0 c0, .int .i64 x, .int .i64 y] w fun e w' => e = .returned (.bool true) ∧ Below w.heap.size w w' := by
  obtain ⟨i1, hj, hy0, hy1, hy2⟩ := info_parts info_pt
  have HAW := Lib.hid awake_any
  have HNE := Lib.hid (near_any a0 n0 c0 z0 60 w g0 hn (by omega) (by omega))
  clear g0 hn
  go_enter Try.func3, Try.ntmps3
  go_wp2_with fail
  refine HNE.out.mono ?_
  rintro e w1 ⟨ao, c, l, rfl, hl12, hsm, ho, hb⟩
  have HB1 := Lib.hid hb
  have HOF := Lib.hid (hof_any ao c l w1 (pAt_own rfl ho) (by omega))
  have HSM := Lib.hid hsm
  have HL12 := Lib.hid hl12
  obtain ⟨n, hnl⟩ : ∃ n, l.length = n := ⟨_, rfl⟩
  rw [hnl] at HOF ⊢
  clear hl12 hsm ho hb HNE hnl
  go_wp2_with fail
  refine HOF.out.mono ?_
  rintro e w2 ⟨ah, ch, rfl, hp, hc, _, hb⟩
  have HP := Lib.hid hp
  have HB2 : Hid (Below w.heap.size w w2) := HB1.out.trans (hb.mono HB1.out.size)
  have HLH : Hid ((hullF l).length ≤ 12) := Nat.le_trans (hullF_len l) HL12.out
  obtain ⟨px, hpx⟩ : ∃ px, x.tmod 80 = px := ⟨_, rfl⟩
  obtain ⟨py, hpy⟩ : ∃ py, y.tmod 80 = py := ⟨_, rfl⟩
  have HPX : Hid ((-79 ≤ px ∧ px ≤ 79) ∧ (-79 ≤ py ∧ py ≤ 79)) := by
    have := tmod_near x 80 (by omega)
    have := tmod_near y 80 (by omega)
    exact ⟨by omega, by omega⟩
  have HAL : Hid (Below w2.heap.size w2 (w2.alloc (.cells #[.int .i64 px, .int .i64 py] 26))) := (Below.refl _ _).alloc (Nat.le_refl _) _
  have HXC : Hid (∀ wx, Below (w2.alloc (.cells #[.int .i64 px, .int .i64 py] 26)).heap.size (w2.alloc (.cells #[.int .i64 px, .int .i64 py] 26)) wx → wx.cell? ⟨w2.heap.size, 0, none⟩ = some (.int .i64 px) ∧ wx.cell? ⟨w2.heap.size, 1, none⟩ = some (.int .i64 py) ∧ w2.heap.size < wx.heap.size) := fun wx hx => by
    have h1 : wx.heap[w2.heap.size]? = some (.cells #[.int .i64 px, .int .i64 py] 26 (0, 0)) := by
      rw [hx.block _ (by rw [World.size_alloc]; omega)]; exact heap_new _ _ _ rfl
    exact ⟨cell_of_row _ _ 0 _ _ _ h1, cell_of_row _ _ 1 _ _ _ h1, (Array.getElem?_eq_some_iff.1 h1).1⟩
  have HSZ : Hid (w2.heap.size < (w2.alloc (.cells #[.int .i64 px, .int .i64 py] 26)).heap.size) := by show _ < _; rw [World.size_alloc]; omega
  clear hp hb hc HOF HL12 HB1
  by_cases hz : hullF l = []
  · rw [hz] at HP ⊢
    have hho : ∀ wx, Calls Try.prog 11 #[.slice ah 0 ch, .agg #[.int .i64 px, .int .i64 py]] wx fun e w' => e = .returned (.bool false) ∧ Below wx.heap.size wx w' := fun wx => by
      have := holds_any ah ch [] (px, py) wx (fun h => by simp at h) (by simp)
      rwa [show holdsF [] (px, py) = false by unfold holdsF; rw [aw_empty]; rfl] at this
    have HHO := Lib.hid hho
    clear hho hz HP HLH HSM
    rw [show ([] : List Pt).length = 0 from rfl]
    go_upto_region 4 with (fail)
    generalize hwA : w2.alloc (.cells #[.int .i64 px, .int .i64 py] 26) = wA at *
    obtain ⟨k1, k2, k3⟩ := HXC.out wA (Below.refl _ _)
    clear hwA
    go_wp2_with fail
    refine (HHO.out _).mono ?_
    rintro e w3 ⟨rfl, hb3⟩
    have HB3 : Hid (Below w2.heap.size w2 w3) := HAL.out.trans (hb3.mono HAL.out.size)
    clear hb3 k1 k2 k3
    go_wp2_with fail
    refine (HAW.out _).mono ?_
    rintro e w4 ⟨rfl, hb4⟩
    have HF : Hid (Below w.heap.size w w4) := HB2.out.trans ((HB3.out.trans (hb4.mono HB3.out.size)).mono HB2.out.size)
    clear hb4
    go_wp2
    go_ret
    exact ⟨rfl, HF.out⟩
  · have hm : ∀ q, q ∈ hullF l ++ [(px, py)] ↔ q ∈ hullF l ∨ q = (px, py) := fun q => by rw [List.mem_append, List.mem_singleton]
    have hsmall : Small 1000000 (hullF l ++ [(px, py)]) := fun q hq => by
      rcases (hm q).1 hq with h | rfl
      · have := HSM.out.hull q h; omega
      · have := HPX.out; simp only; omega
    have hml : (hullF l ++ [(px, py)]).length = (hullF l).length + 1 := by rw [List.length_append]; rfl
    have hokm := hsmall.ok (by omega) (by rw [hml]; have := HLH.out; omega)
    have hokp := okB_sub (m := [(px, py)]) hokm (by simp) (fun q hq => (hm q).2 (.inr (List.mem_singleton.1 hq)))
    have hlaw := law_holds hz hm hokm hokp
    have hpos : 0 < (hullF l).length := by have := hull_pos hz; omega
    have har1 : (if okB (hullF l) = true then wrap64 (area (hullF l)) else 0) = area (hullF l) := by
      rw [if_pos (okB_sub hokm (by have := HLH.out; omega) (fun q hq => (hm q).2 (.inl hq))), area_small (fun q hq => hsmall q ((hm q).2 (.inl hq))) (by have := HLH.out; omega)]
    have har2 : (if okB (hullF (hullF l ++ [(px, py)])) = true then wrap64 (area (hullF (hullF l ++ [(px, py)]))) else 0) = area (hullF (hullF l ++ [(px, py)])) := by
      have := hullF_len (hullF l ++ [(px, py)])
      rw [if_pos (hullF_ok hokm), area_small hsmall.hull (by have := HLH.out; omega)]
    have hglen : (hullF (hullF l ++ [(px, py)])).length ≤ 13 := by have := hullF_len (hullF l ++ [(px, py)]); have := HLH.out; omega
    have HGL := Lib.hid hglen
    have HAR1 := Lib.hid har1
    have HAR2 := Lib.hid har2
    have HML := Lib.hid hml
    have HMV : Hid (pV (hullF l ++ [(px, py)]) = pV (hullF l) ++ [.int .i64 px, .int .i64 py]) := pV_snoc _ _
    have HLAW := Lib.hid hlaw
    have HPOS := Lib.hid hpos
    clear hz hm hsmall hml hokm hokp hlaw hpos HSM HPX har1 har2 hglen
    have HOFG : Hid (∀ ao c wx, PAt wx ao (hullF l ++ [(px, py)]) → Calls Try.prog 10 #[.slice ao (hullF l ++ [(px, py)]).length c] wx (OfTold wx (hullF l ++ [(px, py)]))) := fun ao c wx h => hof_any ao c _ wx h (by rw [HML.out]; have := HLH.out; omega)
    rw [HML.out] at HOFG
    unfold OfTold at HOFG
    generalize hullF (hullF l ++ [(px, py)]) = G at *
    generalize hullF l = H at *
    obtain ⟨n, hnl⟩ : ∃ n, H.length = n := ⟨_, rfl⟩
    have HNL := Lib.hid hnl
    rw [hnl] at HPOS HML HLH HOFG ⊢
    have hn12 := HLH.out
    obtain ⟨b, off, rfl, hbl, hnews⟩ := pAt_news HP.out (by rw [hnl]; exact HPOS.out)
    have HNW := Lib.hid hnews
    have HVL : Hid ((pV H).length = n * 2) := by show _ = _; rw [pV_length, hnl]
    have hn0 := HPOS.out
    clear hnl hnews hbl
    have q0 : ((n : Int) == 0) = false := by simp; omega
    go_upto_region 6 with (fail)
    generalize hwA : w2.alloc (.cells #[.int .i64 px, .int .i64 py] 26) = wA at *
    obtain ⟨pb, hpb⟩ : ∃ pb, w2.heap.size = pb := ⟨_, rfl⟩
    have HPA := Lib.hid (HP.out.below HAL.out)
    have HNA : Hid (∀ wx, Below wA.heap.size wA wx → ∀ j u, (pV H)[j]? = some u → wx.cell? ((⟨b, off, none⟩ : Addr).add j) = some u) := fun wx hx => HNW.out wx (HAL.out.trans (hx.mono HAL.out.size))
    have HBA : Hid (Below w.heap.size w wA) := HB2.out.trans (HAL.out.mono HB2.out.size)
    rw [hpb] at HXC HSZ ⊢
    clear hwA hpb HAL HNW HB2 HP HSZ
    refine wp_region_inw ([.inr (wNil), .inl (.slice (some ⟨b, off, none⟩) n ch), .inr (wOwn wA.heap.size n H), .inl (.agg #[.int .i64 px, .int .i64 py]), .inr (wLit 1 [(px, py)]), .inr (wOwn wA.heap.size (n + 1) (H ++ [(px, py)])), .inr (wPts G), .inr (wPts G)] : List Want) [5] (by kernel_rfl) (by kernel_rfl) (by kernel_rfl) ?_
    refine inw_cons (fun wx hg hd => ?_) (fun v0 => ?_)
    · have hx := ((Below.refl wA.heap.size wA).drew).trans hg
      clear hd hg
      go_wp2
      exact ⟨_, rfl, (Below.refl _ _).alloc (Nat.le_refl _) _, wx.heap.size, rfl, heap_new _ _ _ rfl⟩
    (try simp only [List.nil_append, List.cons_append, Act.put, List.setIfInBounds_toArray, List.set_cons_zero, List.set_cons_succ])
    refine inw_cons (fun wx hg hd => ?_) (fun v1 => ?_)
    · have hx := ((Below.refl wA.heap.size wA).drew).trans hg
      clear hd hg
      go_wp2
      exact ⟨_, rfl, Below.refl _ _, rfl⟩
    (try simp only [List.nil_append, List.cons_append, Act.put, List.setIfInBounds_toArray, List.set_cons_zero, List.set_cons_succ])
    refine inw_cons (fun wx hg hd => ?_) (fun v2 => ?_)
    · have hx := ((Below.refl wA.heap.size wA).drew).trans hg
      have hp0 : (wNil : SP).1 v0 wx := hd 0 (by simp) (by decide)
      (try (have ee : v1 = (.slice (some ⟨b, off, none⟩) n ch : Value) := hd 1 (by simp) (by decide); subst ee))
      clear hd hg
      obtain ⟨g, rfl, hg⟩ := hp0
      have hsz := hx.size
      go_wp2_with (at_builtin; refine wpList_append_grows _ rfl (.tmp 30) (.tmp 31) 23 rfl 26 i1 (.agg #[.int .i64 0, .int .i64 0]) 2 16 Try.underlying23 hj hy0 hy1 hy2 rfl (by decide) (some ⟨g, 0, none⟩) 0 0 [] rfl (fun h => by cases h) rfl (fun b _ j u h => by simp at h) ⟨b, off, none⟩ n ch (pV H) rfl HVL.out (HNA.out _ hx) (pV_cell H) (by omega) (by unfold maxLen; omega) (by omega) ?_; intro v' w' ho hgr)
      rw [Nat.zero_add, List.nil_append] at ho
      obtain ⟨ao', c', rfl, _⟩ := own_form ho
      exact ⟨_, rfl, below_grown0 hgr, ao', c', rfl, own_base ho hsz⟩
    (try simp only [List.nil_append, List.cons_append, Act.put, List.setIfInBounds_toArray, List.set_cons_zero, List.set_cons_succ])
    refine inw_cons (fun wx hg hd => ?_) (fun v3 => ?_)
    · have hx := ((Below.refl wA.heap.size wA).drew).trans hg
      clear hd hg
      obtain ⟨k1, k2, k3⟩ := HXC.out _ hx
      go_wp2
      exact ⟨_, rfl, Below.refl _ _, rfl⟩
    (try simp only [List.nil_append, List.cons_append, Act.put, List.setIfInBounds_toArray, List.set_cons_zero, List.set_cons_succ])
    refine inw_cons (fun wx hg hd => ?_) (fun v4 => ?_)
    · have hx := ((Below.refl wA.heap.size wA).drew).trans hg
      (try (have ee : v3 = (.agg #[.int .i64 px, .int .i64 py] : Value) := hd 3 (by simp) (by decide); subst ee))
      clear hd hg
      go_wp2
      exact ⟨_, rfl, (Below.refl _ _).alloc (Nat.le_refl _) _, wx.heap.size, rfl, heap_new _ _ _ rfl⟩
    (try simp only [List.nil_append, List.cons_append, Act.put, List.setIfInBounds_toArray, List.set_cons_zero, List.set_cons_succ])
    refine inw_cons (fun wx hg hd => ?_) (fun v5 => ?_)
    · have hx := ((Below.refl wA.heap.size wA).drew).trans hg
      have hp2 : (wOwn wA.heap.size n H : SP).1 v2 wx := hd 2 (by simp) (by decide)
      have hp4 : (wLit 1 [(px, py)] : SP).1 v4 wx := hd 4 (by simp) (by decide)
      clear hd
      obtain ⟨ao2, c2, rfl, ho2⟩ := hp2
      obtain ⟨g4, rfl, hg4⟩ := hp4
      have hsz := hx.size
      go_wp2_with (at_builtin; refine wpList_append_own _ rfl (.tmp 32) (.tmp 34) 23 rfl wA.heap.size 26 i1 (.agg #[.int .i64 0, .int .i64 0]) 2 16 Try.underlying23 hj hy0 hy1 hy2 rfl (by decide) _ _ _ rfl ho2 ⟨g4, 0, none⟩ 1 1 [.int .i64 px, .int .i64 py] rfl rfl (lit_news hg4) (by simp [Value.oneCell']) (by unfold maxLen; omega) (by omega) hsz ?_; intro v' w' ho hgr _)
      have hbb := below_append (Below.refl wA.heap.size wx) ho2 hsz hgr
      rw [← HMV.out] at ho
      obtain ⟨ao', c', rfl, _⟩ := own_form ho
      exact ⟨_, rfl, hbb, ao', c', rfl, ho⟩
    (try simp only [List.nil_append, List.cons_append, Act.put, List.setIfInBounds_toArray, List.set_cons_zero, List.set_cons_succ])
    refine inw_cons (fun wx hg hd => ?_) (fun v6 => ?_)
    · have hx := ((Below.refl wA.heap.size wA).drew).trans hg
      have hp5 : (wOwn wA.heap.size (n + 1) (H ++ [(px, py)]) : SP).1 v5 wx := hd 5 (by simp) (by decide)
      clear hd hg
      obtain ⟨ao, c, rfl, ho⟩ := hp5
      go_wp2_with fail
      refine (HOFG.out _ _ _ (pAt_own HML.out.symm ho)).mono ?_
      rintro e w' ⟨ag, cg, rfl, h1, h2, _, hb⟩
      go_wp2
      exact ⟨_, rfl, hb, ag, cg, rfl, h1, h2⟩
    (try simp only [List.nil_append, List.cons_append, Act.put, List.setIfInBounds_toArray, List.set_cons_zero, List.set_cons_succ])
    refine inw_cons (fun wx hg hd => ?_) (fun v7 => ?_)
    · have hx := ((Below.refl wA.heap.size wA).drew).trans hg
      have hp6 : (wPts G : SP).1 v6 wx := hd 6 (by simp) (by decide)
      clear hd hg
      obtain ⟨ag, cg, rfl, h1, h2⟩ := hp6
      go_wp2
      exact ⟨_, rfl, Below.refl _ _, ag, cg, rfl, h1, h2⟩
    (try simp only [List.nil_append, List.cons_append, Act.put, List.setIfInBounds_toArray, List.set_cons_zero, List.set_cons_succ])
    refine inw_done (fun wx hg hd => ?_)
    have hx := ((Below.refl wA.heap.size wA).drew).trans hg
    (have ee : v1 = (.slice (some ⟨b, off, none⟩) n ch : Value) := hd 1 (by simp) (by kernel_rfl); subst ee)
    (have ee : v3 = (.agg #[.int .i64 px, .int .i64 py] : Value) := hd 3 (by simp) (by kernel_rfl); subst ee)
    have hp5 : (wOwn wA.heap.size (n + 1) (H ++ [(px, py)]) : SP).1 v5 wx := hd 5 (by simp) (by kernel_rfl)
    have hp6 : (wPts G : SP).1 v6 wx := hd 6 (by simp) (by kernel_rfl)
    have hp7 : (wPts G : SP).1 v7 wx := hd 7 (by simp) (by kernel_rfl)
    clear hd hg
    (try go_simp)
    obtain ⟨ag, cg, rfl, hpg, _⟩ := hp7
    have HWX : Hid (Below w.heap.size w wx) := HBA.out.trans (hx.mono HBA.out.size)
    have HPG := Lib.hid hpg
    have HPH := Lib.hid (HPA.out.below hx)
    obtain ⟨k1, k2, k3⟩ := HXC.out wx hx
    have hho := holds_any (some ⟨b, off, none⟩) ch H (px, py) wx HPH.out (by rw [HNL.out]; omega)
    rw [HNL.out, HLAW.out.1] at hho
    have HHO := Lib.hid hho
    have hsm : ∀ wy, Below wx.heap.size wx wy → Calls Try.prog 13 #[.slice ag G.length cg, .slice (some ⟨b, off, none⟩) n ch] wy fun e w' => e = .returned (.bool (decide (G = H))) ∧ Below wy.heap.size wy w' := fun wy hy => by
      have := same_any ag (some ⟨b, off, none⟩) cg ch G H wy (HPG.out.below hy) (HPH.out.below hy) (by have := HGL.out; omega) (by rw [HNL.out]; omega)
      rwa [HNL.out] at this
    have hag : ∀ wy, Below wx.heap.size wx wy → Calls Try.prog 14 #[.slice ag G.length cg] wy fun e w' => e = .returned (.int .i64 (area G)) ∧ Below wy.heap.size wy w' := fun wy hy => by
      have := area_any ag cg G wy (HPG.out.below hy) (by have := HGL.out; omega)
      rwa [HAR2.out] at this
    have hah : ∀ wy, Below wx.heap.size wx wy → Calls Try.prog 14 #[.slice (some ⟨b, off, none⟩) n ch] wy fun e w' => e = .returned (.int .i64 (area H)) ∧ Below wy.heap.size wy w' := fun wy hy => by
      have := area_any (some ⟨b, off, none⟩) ch H wy (HPH.out.below hy) (by rw [HNL.out]; omega)
      rwa [HAR1.out, HNL.out] at this
    have HSM := Lib.hid hsm
    have HAG := Lib.hid hag
    have HAH := Lib.hid hah
    have hle : area H ≤ area G := HLAW.out.2
    clear hpg hx hho hsm hag hah HLAW HAR1 HAR2 HMV HOFG hp5 hp6 HNA HPA HXC HVL HBA HML HPG HPH
    generalize decide (G = H) = r at HHO HSM
    generalize area H = aH at HAH hle
    generalize area G = aG at HAG hle
    generalize G.length = m at HSM HAG HGL
    go_wp2_with fail
    refine HHO.out.mono ?_
    rintro e w3 ⟨rfl, hb3⟩
    have HB3 := Lib.hid hb3
    clear hb3
    go_wp2_with fail
    refine (HSM.out _ HB3.out).mono ?_
    rintro e w4 ⟨rfl, hb4⟩
    have HB4 : Hid (Below wx.heap.size wx w4) := HB3.out.trans (hb4.mono HB3.out.size)
    clear hb4
    have q3 : (r == r) = true := by cases r <;> rfl
    go_wp2_with fail
    refine (HAG.out _ HB4.out).mono ?_
    rintro e w5 ⟨rfl, hb5⟩
    have HB5 : Hid (Below wx.heap.size wx w5) := HB4.out.trans (hb5.mono HB4.out.size)
    clear hb5
    go_wp2_with fail
    refine (HAH.out _ HB5.out).mono ?_
    rintro e w6 ⟨rfl, hb6⟩
    have HB6 : Hid (Below wx.heap.size wx w6) := HB5.out.trans (hb6.mono HB5.out.size)
    clear hb6
    go_wp2_with fail
    refine (HAW.out _).mono ?_
    rintro e w7 ⟨rfl, hb7⟩
    have HF : Hid (Below w.heap.size w w7) := HWX.out.trans ((HB6.out.trans (hb7.mono HB6.out.size)).mono HWX.out.size)
    clear hb7
    go_wp2
    go_ret
    exact ⟨rfl, HF.out⟩
theorem walk {w : World} (a0 : Option Addr) (n0 c0 : Nat) (z0 : Nat → Int) (g0 : IntsAtK .i64 w w.heap.size a0 n0 z0) (_b0 : ∀ i, i < n0 → (Lit.int .i64 (z0 i)).wf = true) (s0 : n0 * 8 ≤ 140737488351232) (a1 : Int) (_w1 : (Lit.int .i64 a1).wf = true) (a2 : Int) (_w2 : (Lit.int .i64 a2).wf = true) :
    Calls Try.prog 3 #[.slice a0 n0 c0, .int .i64 a1, .int .i64 a2] w fun e w' => e = .returned (.bool true) ∧ Below w.heap.size w w' := core w a0 n0 c0 z0 g0 (by omega) a1 a2
end Go.Proofs.Ytcoffankmmjehaa.hullHolds
