/- The walk of the law HullOrder. -/
import Derived.Test.YtcoffankmmjehaaHullM
namespace Go.Proofs.Ytcoffankmmjehaa.hullOrder
open Go.RowKit Go.Lib Hull

theorem mv_pg {l : List Pt} {d : Pt} {k : Nat} (hk : k < l.length) : (l.take (k + 1)).map (mv d) = (l.take k).map (mv d) ++ [mv d (pg l k)] := by
  rw [take_succ_pg hk, List.map_append]; rfl
/-- Half of the turned list: all its points are of l, the last ones of l are in it. -/
def Mix (l : List Pt) (k : Nat) (m : List Pt) : Prop := m.length = 2 * k ∧ (∀ p ∈ m, p ∈ l) ∧ ∀ i, i < k → pg l (l.length - 1 - i) ∈ m
theorem Mix.step {l m : List Pt} {k s : Nat} (h : Mix l k m) (hs : s < l.length) (hk : k < l.length) : Mix l (k + 1) (m ++ [pg l s, pg l (l.length - 1 - k)]) := by
  refine ⟨by rw [List.length_append, h.1]; simp; omega, fun p hp => ?_, fun i hi => ?_⟩
  · rcases List.mem_append.1 hp with h1 | h1
    · exact h.2.1 p h1
    · simp at h1
      rcases h1 with rfl | rfl
      · exact pg_mem hs
      · exact pg_mem (by omega)
  · rcases Nat.lt_or_ge i k with h1 | h1
    · exact List.mem_append_left _ (h.2.2 i h1)
    · obtain rfl : i = k := by omega
      exact List.mem_append_right _ (by simp)
theorem Mix.all {l m : List Pt} (h : Mix l l.length m) : ∀ p, p ∈ l ↔ p ∈ m := fun p => by
  refine ⟨fun hp => ?_, h.2.1 p⟩
  obtain ⟨i, hi, rfl⟩ := mem_pg hp
  have := h.2.2 (l.length - 1 - i) (by omega)
  rwa [show l.length - 1 - (l.length - 1 - i) = i by omega] at this
set_option maxRecDepth 100000 in
set_option maxHeartbeats 16000000 in
theorem core (w : World) (a0 : Option Addr) (n0 c0 : Nat) (z0 : Nat → Int) (g0 : IntsAtK .i64 w w.heap.size a0 n0 z0) (hn : n0 ≤ 1000000000000000) (tu x y : Int) :
    Calls Try.prog 7 #[.slice a0 n0 c0, .int .i64 tu, .int .i64 x, .int .i64 y] w fun e w' => e = .returned (.bool true) ∧ Below w.heap.size w w' := by
  obtain ⟨i1, hj, hy0, hy1, hy2⟩ := info_parts info_pt
  have HAW := Lib.hid awake_any
  have HNE := Lib.hid (near_any a0 n0 c0 z0 50 w g0 hn (by omega) (by omega))
  obtain ⟨dx, hdx⟩ : ∃ d, x.tmod 100000 = d := ⟨_, rfl⟩
  obtain ⟨dy, hdy⟩ : ∃ d, y.tmod 100000 = d := ⟨_, rfl⟩
  have bdx := tmod_near x 100000 (by omega)
  have bdy := tmod_near y 100000 (by omega)
  rw [hdx] at bdx
  rw [hdy] at bdy
  obtain ⟨f, ef, hf0, hf1⟩ : ∃ f : Nat, bits BinOp.and IntKind.i64 tu 255 = (f : Int) ∧ 0 ≤ f ∧ f ≤ 255 := ⟨(tu % 256).toNat, by rw [i64_and_mask tu 8 (by omega) 255 rfl]; omega, by omega, by omega⟩
  clear g0 hn
  go_enter Try.func7, Try.ntmps7
  go_wp2_with fail
  refine HNE.out.mono ?_
  rintro e w1 ⟨ao, c, l, rfl, hl12, hsm, ho, hb, -⟩
  have HB1 := Lib.hid hb
  have HPL := Lib.hid (pAt_own rfl ho)
  have HSM := Lib.hid hsm
  obtain ⟨n, hnl⟩ : ∃ n, l.length = n := ⟨_, rfl⟩
  have HNL := Lib.hid hnl
  rw [hnl] at hl12 ⊢
  clear hsm ho hb HNE hnl
  go_upto_region 4 with (fail)
  clear hdx hdy
  go_wp2
  go_loopw [11, 12, 13] (fun mv' vv i wr => ∃ (k : Nat) (M : List Pt) (am av : Option Addr) (cm cv : Nat), k ≤ n ∧ i = .int .i64 k ∧ mv' = .slice am (2 * k) cm ∧ vv = .slice av k cv ∧ wr.ownsRow w1.heap.size 26 2 (.slice am (2 * k) cm) (2 * k) (pV M) ∧ wr.ownsRow w1.heap.size 26 2 (.slice av k cv) k (pV ((l.take k).map (mv (dx, dy)))) ∧ Hid (Mix l k M) ∧ Hid (Apart (.slice am (2 * k) cm) (.slice av k cv)) ∧ Below w1.heap.size w1 wr) (fun _ _ i _ => n - (intOf i).toNat)
  case atStart => exact ⟨0, [], none, none, 0, 0, Nat.zero_le _, rfl, rfl, rfl, World.ownsRow_nil _ _ _ _, World.ownsRow_nil _ _ _ _, ⟨rfl, fun p hp => by simp at hp, fun i hi => by omega⟩, fun k h => by simp [Value.ownBlock] at h, Below.refl _ _⟩
  case round =>
    obtain ⟨k, M, am, av, cm, cv, hk, rfl, rfl, rfl, hm, hv, HM, HD, hnx⟩ := hrel
    have hsz := hnx.size
    by_cases hlt : k < n
    · obtain ⟨b, off, rfl, hb, hc⟩ := (HPL.out.below hnx) (by rw [HNL.out]; omega)
      obtain ⟨s, hs, hsn⟩ : ∃ s, (k + f) % n = s ∧ s < n := ⟨_, rfl, Nat.mod_lt _ (by omega)⟩
      have hsI : ((k : Int) + (f : Int)) % (n : Int) = (s : Int) := by have := congrArg (fun x : Nat => (x : Int)) hs; simpa using this
      obtain ⟨t, ht, htn⟩ : ∃ t, n - 1 - k = t ∧ t < n := ⟨_, rfl, by omega⟩
      have htI : (n : Int) - 1 - (k : Int) = (t : Int) := by omega
      obtain ⟨d0, d1⟩ := hc s (by rw [HNL.out]; exact hsn)
      obtain ⟨e0, e1⟩ := hc t (by rw [HNL.out]; exact htn)
      have HCK : Hid (∀ wx, Below wr.heap.size wr wx → wx.cell? ⟨b, off + k * 2, none⟩ = some (.int .i64 (pg l k).1) ∧ wx.cell? ⟨b, off + k * 2 + 1, none⟩ = some (.int .i64 (pg l k).2) ∧ b < wx.heap.size) := fun wx hx =>
        ⟨(hx.cell (p := ⟨b, _, none⟩) hb).trans (hc k (by rw [HNL.out]; exact hlt)).1, (hx.cell (p := ⟨b, _, none⟩) hb).trans (hc k (by rw [HNL.out]; exact hlt)).2, Nat.lt_of_lt_of_le hb hx.size⟩
      have HCB : Hid (∀ wx, Below w1.heap.size w1 wx → wx.cell? ⟨b, off + k * 2, none⟩ = some (.int .i64 (pg l k).1) ∧ wx.cell? ⟨b, off + k * 2 + 1, none⟩ = some (.int .i64 (pg l k).2) ∧ b < wx.heap.size) := fun wx hx => by
        obtain ⟨b', off', e, hb', hc'⟩ := (HPL.out.below hx) (by rw [HNL.out]; omega)
        cases e
        exact ⟨(hc' k (by rw [HNL.out]; exact hlt)).1, (hc' k (by rw [HNL.out]; exact hlt)).2, hb'⟩
      have hms := HM.out.step (s := s) (by rw [HNL.out]; exact hsn) (by rw [HNL.out]; exact hlt)
      rw [HNL.out, ht] at hms
      have HMS := Lib.hid hms
      have HMV : Hid (pV (M ++ [pg l s, pg l t]) = pV M ++ [.int .i64 (pg l s).1, .int .i64 (pg l s).2, .int .i64 (pg l t).1, .int .i64 (pg l t).2]) := pV_append _ _
      have HVV : Hid (pV ((l.take (k + 1)).map (mv (dx, dy))) = pV ((l.take k).map (mv (dx, dy))) ++ [.int .i64 ((pg l k).1 + dx), .int .i64 ((pg l k).2 + dy)]) := by show _ = _; rw [mv_pg (by rw [HNL.out]; exact hlt), pV_append]; rfl
      have hsk := HSM.out _ (pg_mem (l := l) (i := k) (by rw [HNL.out]; exact hlt))
      obtain ⟨hsk1, hsk2⟩ := hsk
      generalize pg l s = ps at *
      generalize pg l t = pt at *
      generalize pg l k = pk at *
      clear hc hs ht hms HCK
      go_upto_region 9 with (first | (with_reducible refine wp_region_lex (by kernel_rfl) (by kernel_rfl) ?_) | (with_reducible refine OnlyG.intro (by kernel_rfl) ?_) | (at_builtin; refine wpList_append_own_at _ rfl (.tmp 33) (.tmp 50) 23 rfl w1.heap.size 26 i1 (.agg #[.int .i64 0, .int .i64 0]) 2 16 Try.underlying23 hj hy0 hy1 hy2 rfl (by decide) _ _ _ rfl ((hm.alloc _).drew) ⟨wr.heap.size, 0, none⟩ 2 2 [.int .i64 ps.1, .int .i64 ps.2, .int .i64 pt.1, .int .i64 pt.2] rfl rfl (cells_new_drew _ _ _ _ rfl) (by simp [Value.oneCell']) (by unfold maxLen; omega) (by omega) (by simp; omega) ?_; intro v' w2 hown1 hgrow _ hat))
      have hb2 := below_append ((hnx.alloc hsz (.cells #[.int .i64 ps.1, .int .i64 ps.2, .int .i64 pt.1, .int .i64 pt.2] 26)).drew) (own_drew (hm.alloc (.cells #[.int .i64 ps.1, .int .i64 ps.2, .int .i64 pt.1, .int .i64 pt.2] 26))) (by simp; omega) hgrow
      have hva := own_drew (hv.alloc (.cells #[.int .i64 ps.1, .int .i64 ps.2, .int .i64 pt.1, .int .i64 pt.2] 26))
      have hv2 := hva.kept hgrow HD.out.symm.ne
      have HD2 : Hid (Apart v' (.slice av k cv)) := HD.out.step hat (own_lt_size hva)
      have hs2 := hb2.size
      obtain ⟨am', cm', rfl, _⟩ := own_form hown1
      obtain ⟨k0, k1, k2⟩ := HCB.out _ hb2
      have HO1 : Hid (w2.ownsRow w1.heap.size 26 2 (.slice am' (2 * k + 2) cm') (2 * k + 2) (pV (M ++ [ps, pt]))) := by show World.ownsRow _ _ _ _ _ _ _; rw [HMV.out]; exact hown1
      clear hown1 hgrow hat hva hm hv d0 d1 e0 e1 hsI htI HM HD HMV hnx hsz
      go_wp2_with (first | (with_reducible refine wp_region_lex (by kernel_rfl) (by kernel_rfl) ?_) | (with_reducible refine OnlyG.intro (by kernel_rfl) ?_) | (at_builtin; refine wpList_append_own_at _ rfl (.tmp 52) (.tmp 68) 23 rfl w1.heap.size 26 i1 (.agg #[.int .i64 0, .int .i64 0]) 2 16 Try.underlying23 hj hy0 hy1 hy2 rfl (by decide) _ _ _ rfl ((hv2.alloc _).drew) ⟨w2.heap.size, 0, none⟩ 1 1 [.int .i64 (pk.1 + dx), .int .i64 (pk.2 + dy)] rfl rfl (cells_new_drew _ _ _ _ rfl) (by simp [Value.oneCell']) (by unfold maxLen; omega) (by omega) (by simp; omega) ?_; intro u' w3 hown2 hgrow2 _ hat2))
      have hma := own_drew (HO1.out.alloc (.cells #[.int .i64 (pk.1 + dx), .int .i64 (pk.2 + dy)] 26))
      have hb3 := below_append ((hb2.alloc hs2 (.cells #[.int .i64 (pk.1 + dx), .int .i64 (pk.2 + dy)] 26)).drew) (own_drew (hv2.alloc (.cells #[.int .i64 (pk.1 + dx), .int .i64 (pk.2 + dy)] 26))) (by simp; omega) hgrow2
      have HM3 := Lib.hid (hma.kept hgrow2 HD2.out.ne)
      have HD3 : Hid (Apart (.slice am' (2 * k + 2) cm') u') := (HD2.out.symm.step hat2 (own_lt_size hma)).symm
      obtain ⟨av', cv', rfl, _⟩ := own_form hown2
      rw [← HVV.out] at hown2
      have HV3 := Lib.hid hown2
      have HB3 := Lib.hid hb3
      clear hma hgrow2 hat2 hown2 hb3 hb2 hv2 k0 k1 k2
      go_roundw
      case rel => exact ⟨k + 1, _, am', av', cm', cv', by omega, by go_num, rfl, rfl, HM3.out, HV3.out, HMS.out, HD3.out, HB3.out⟩
      case measure => simp [intOf]; omega
    · obtain rfl : k = n := by omega
      have hokl : okB l = true := Small.ok HSM.out (by omega) (by rw [HNL.out]; omega)
      have hlm : ∀ p, p ∈ l ↔ p ∈ M := by have := HM.out; rw [← HNL.out] at this; exact this.all
      have hokm : okB M = true := okB_sub hokl (by rw [HM.out.1]; omega) fun p hp => (hlm p).2 hp
      have htk : l.take k = l := List.take_of_length_le (by rw [HNL.out]; exact Nat.le_refl _)
      rw [htk] at hv
      have hsv : Small 1000000 (l.map (mv (dx, dy))) := fun p hp => by
        obtain ⟨q, hq, rfl⟩ := List.mem_map.1 hp
        have := HSM.out q hq
        unfold mv; simp only; omega
      have hsl : Small 1000000 l := fun p hp => by have := HSM.out p hp; omega
      have hokv := hsv.ok (by omega) (by rw [List.length_map, HNL.out]; omega)
      have hhm : hullF M = hullF l := (hull_same hlm hokl hokm).symm
      have hhv := hull_mv (dx, dy) hokl hokv
      have HOKL := Lib.hid hokl
      have hofl : ∀ wx, Below wr.heap.size wr wx → Calls Try.prog 10 #[.slice ao k c] wx (OfTold wx l) := fun wx hx => by
        have := hof_any ao c l wx ((HPL.out.below hnx).below hx) (by rw [HNL.out]; omega)
        rwa [HNL.out] at this
      have hofm : ∀ wx, Below wr.heap.size wr wx → Calls Try.prog 10 #[.slice am (2 * k) cm] wx (OfTold wx M) := fun wx hx => by
        have := hof_any am cm M wx ((pAt_own HM.out.1.symm hm).below hx) (by rw [HM.out.1]; omega)
        rwa [HM.out.1] at this
      have hofv : ∀ wx, Below wr.heap.size wr wx → Calls Try.prog 10 #[.slice av k cv] wx (OfTold wx (l.map (mv (dx, dy)))) := fun wx hx => by
        have hlen : (l.map (mv (dx, dy))).length = k := by rw [List.length_map, HNL.out]
        have := hof_any av cv _ wx ((pAt_own hlen.symm hv).below hx) (by rw [hlen]; omega)
        rwa [hlen] at this
      unfold OfTold at hofl hofm hofv
      rw [hhm] at hofm
      rw [hhv, List.length_map] at hofv
      have HHL := Lib.hid (hullF_len l)
      have HADD : Hid (hullF l ≠ [] → ∀ p, okB [p] = true → holdsF (hullF l) p = true → hullF (l ++ [p]) = hullF l) := fun hne p hp hh => by
        unfold holdsF at hh
        rw [Bool.and_eq_true] at hh
        exact hull_add hne (fun q => by rw [List.mem_append, List.mem_singleton]) ((okB_iff _).2 ⟨by rw [List.length_append, HNL.out]; simp; omega, fun q hq => by
          rcases List.mem_append.1 hq with h | h
          · exact ((okB_iff l).1 hokl).2 q h
          · exact ((okB_iff [p]).1 hp).2 q h⟩) hh.2
      have HSH := Lib.hid hsl.hull
      have HSV : Hid (Small 1000000 ((hullF l).map (mv (dx, dy)))) := by rw [← hhv]; exact hsv.hull
      have HOKH := Lib.hid (hullF_ok hokl)
      have HOKV : Hid (okB ((hullF l).map (mv (dx, dy))) = true) := by rw [← hhv]; exact hullF_ok hokv
      have HHNE : Hid (hullF l ≠ [] → 0 < (hullF l).length ∧ 0 < l.length) := fun h => by
        have := hull_pos h
        have := hullF_len l
        exact ⟨by omega, by omega⟩
      have HOFL := Lib.hid hofl
      have HOFM := Lib.hid hofm
      have HOFV := Lib.hid hofv
      have HB4 : Hid (Below w.heap.size w wr) := HB1.out.trans (hnx.mono HB1.out.size)
      have HPL4 := Lib.hid (HPL.out.below hnx)
      clear hokl hlm hokm htk hsv hsl hokv hhm hhv hofl hofm hofv hm hv HM HD hnx hsz hlt hk
      go_wp2_with fail
      refine (HOFL.out _ (Below.refl _ _)).mono ?_
      rintro e w2 ⟨ah, ch, rfl, hph, _, _, hb⟩
      have HB5 := Lib.hid hb
      have HPH := Lib.hid hph
      clear hb hph
      go_wp2_with fail
      refine (HOFM.out _ HB5.out).mono ?_
      rintro e w3 ⟨ag, cg, rfl, hpg, _, _, hb⟩
      have HB6 : Hid (Below wr.heap.size wr w3) := HB5.out.trans (hb.mono HB5.out.size)
      have HPH3 := Lib.hid (HPH.out.below hb)
      have HPG := Lib.hid hpg
      clear hb hpg HPH HB5
      go_wp2_with fail
      refine (HOFV.out _ HB6.out).mono ?_
      rintro e w4 ⟨av2, cv2, rfl, hpv, _, _, hb⟩
      have HB7 : Hid (Below wr.heap.size wr w4) := HB6.out.trans (hb.mono HB6.out.size)
      have HPH := Lib.hid (HPH3.out.below hb)
      have HPG4 := Lib.hid (HPG.out.below hb)
      have HPV := Lib.hid hpv
      have HPL := Lib.hid (HPL4.out.below HB7.out)
      have HBW4 : Hid (Below w.heap.size w w4) := HB4.out.trans (HB7.out.mono HB4.out.size)
      clear hb hpv HB6 HPH3 HPG HOFL HOFM HOFV HPL4 HB7 HB4
      have HPGM : Hid (∀ i, i < (hullF l).length → pg ((hullF l).map (mv (dx, dy))) i = mv (dx, dy) (pg (hullF l) i)) := fun i hi => pg_map hi
      generalize hullF l = H at *
      obtain ⟨m, hm⟩ : ∃ m, H.length = m := ⟨_, rfl⟩
      have HM := Lib.hid hm
      have HMV : Hid ((H.map (mv (dx, dy))).length = m) := by show _ = _; rw [List.length_map, hm]
      rw [hm] at HHL HPGM HHNE ⊢
      have hm12 : m ≤ 12 := by have := HHL.out; rw [HNL.out] at this; omega
      have hsm := same_any ah ag ch cg H H w4 HPH.out HPG4.out (by rw [hm]; omega) (by rw [hm]; omega)
      rw [decide_eq_true (rfl : H = H), hm] at hsm
      have HSMC := Lib.hid hsm
      clear hsm hm
      go_wp2_with fail
      refine HSMC.out.mono ?_
      rintro e w5 ⟨rfl, hb⟩
      have HB5 := Lib.hid hb
      have EQ := eq_pair
      clear hb HSMC
      go_wp2
      go_loopw [17] (fun i wx => ∃ j : Nat, j ≤ m ∧ i = .int .i64 j ∧ Hid (Below w4.heap.size w4 wx)) (fun i _ => m - (intOf i).toNat)
      case atStart => exact ⟨0, Nat.zero_le _, rfl, HB5.out⟩
      case round =>
        obtain ⟨j, hj, rfl, HJ⟩ := hrel
        by_cases hjm : j < m
        · obtain ⟨b, off, rfl, hbb, hc⟩ := (HPH.out.below HJ.out) (by rw [HM.out]; omega)
          obtain ⟨b2, off2, rfl, hbb2, hc2⟩ := (HPV.out.below HJ.out) (by rw [HMV.out]; omega)
          obtain ⟨c0, c1⟩ := hc j (by rw [HM.out]; exact hjm)
          obtain ⟨d0, d1⟩ := hc2 j (by rw [HMV.out]; exact hjm)
          rw [HPGM.out j hjm] at d0 d1
          have hs := HSH.out _ (pg_mem (l := H) (i := j) (by rw [HM.out]; exact hjm))
          generalize pg H j = x1 at *
          obtain ⟨x1, x2⟩ := x1
          simp only [mv] at c0 c1 d0 d1 hs
          obtain ⟨hs1, hs2⟩ := hs
          have q1 : (x1 + dx == x1 + dx && x2 + dy == x2 + dy) = true := by simp
          have HNX : Hid (∀ nq, Below w4.heap.size w4 (wr.drewN nq)) := fun nq => below_drewN HJ.out nq
          clear hc hc2
          go_upto_region 16 with (fail)
          go_quiet (fail)
          have HNB := Lib.hid (HNX.out nq)
          go_wp2
          go_roundw
          case rel => exact ⟨j + 1, by omega, by go_num, HNB.out⟩
          case measure => simp [intOf]; omega
        · obtain rfl : j = m := by omega
          clear hjm hj HB5 HPGM HPG4
          rcases Nat.eq_zero_or_pos j with hm0 | hm0
          · subst hm0
            clear HADD HHNE
            go_wp2_with fail
            refine (HAW.out _).mono ?_
            rintro e w6 ⟨rfl, hb⟩
            have HF : Hid (Below w.heap.size w w6) := HBW4.out.trans ((HJ.out.trans (hb.mono HJ.out.size)).mono HBW4.out.size)
            clear hb
            go_wp2
            go_ret
            exact ⟨rfl, HF.out⟩
          · have q0 : ((j : Int) == 0) = false := by simp; omega
            have hne : H ≠ [] := fun e => by have := HM.out; rw [e] at this; simp at this; omega
            have hn0 : 0 < k := by have := (HHNE.out hne).2; rw [HNL.out] at this; exact this
            have HAD := Lib.hid (HADD.out hne)
            clear hne HADD HHNE
            go_upto_region 21 with (fail)
            have hba : Below wr.heap.size wr (wr.alloc (.cells #[.int .i64 0, .int .i64 0] 26)) := (Below.refl _ _).alloc (Nat.le_refl _) _
            have hxa : (wr.alloc (.cells #[.int .i64 0, .int .i64 0] 26)).heap[wr.heap.size]? = some (.cells #[.int .i64 0, .int .i64 0] 26 (0, 0)) := heap_new _ _ _ rfl
            have hb4 : Below w4.heap.size w4 (wr.alloc (.cells #[.int .i64 0, .int .i64 0] 26)) := HJ.out.trans (hba.mono HJ.out.size)
            have hpb4 : w4.heap.size ≤ wr.heap.size := HJ.out.size
            generalize wr.alloc (.cells #[.int .i64 0, .int .i64 0] 26) = wP at *
            obtain ⟨pb, hpb⟩ : ∃ pb, wr.heap.size = pb := ⟨_, rfl⟩
            rw [hpb] at hxa hpb4 ⊢
            have HRL : Hid (∀ wx, Turn (fun k => k = pb) wP wx → PAt wx ao l) := fun wx ht => ((RingAt.below HPL.out hb4 (Nat.le_refl _)).turn ht hpb4 hb4.size).wider (Nat.le_trans hb4.size ht.2.2.2.1)
            have HRH : Hid (∀ wx, Turn (fun k => k = pb) wP wx → PAt wx ah H) := fun wx ht => ((RingAt.below HPH.out hb4 (Nat.le_refl _)).turn ht hpb4 hb4.size).wider (Nat.le_trans hb4.size ht.2.2.2.1)
            have HRV : Hid (∀ wx, Turn (fun k => k = pb) wP wx → PAt wx av2 (H.map (mv (dx, dy)))) := fun wx ht => ((RingAt.below HPV.out hb4 (Nat.le_refl _)).turn ht hpb4 hb4.size).wider (Nat.le_trans hb4.size ht.2.2.2.1)
            have HXA := Lib.hid hxa
            have HBP : Hid (Below w.heap.size w wP) := HBW4.out.trans (hb4.mono HBW4.out.size)
            have HPB : Hid (w.heap.size ≤ pb) := Nat.le_trans HBW4.out.size hpb4
            clear hba hxa hb4 hpb4 hpb HJ HPL HPH HPV HBW4
            go_wp2
            go_loopw [19] (fun v wx => ∃ X a b : Int, v = .int .i64 X ∧ -50 ≤ X ∧ X < 57 ∧ Hid (wx.heap[pb]? = some (.cells #[.int .i64 a, .int .i64 b] 26 (0, 0)) ∧ Turn (fun k => k = pb) wP wx)) (fun v _ => (57 - intOf v).toNat)
            case atStart => exact ⟨-50, 0, 0, rfl, by omega, by omega, HXA.out, Turn.refl _ _⟩
            case round =>
              obtain ⟨X, a, b, rfl, hX0, hX1, HX⟩ := hrel
              by_cases hX : X < 50
              · obtain ⟨y2, hy2'⟩ : ∃ y2, X.tdiv 2 = y2 := ⟨_, rfl⟩
                have hbd := tdiv2_bd X
                rw [hy2'] at hbd
                have hok1 : okB [(X, y2)] = true := (okB_iff _).2 ⟨by simp, fun q hq => by
                  rw [List.mem_singleton.1 hq]; unfold Near; simp only; omega⟩
                have hho := holds_any ah ch H (X, y2) wr (HRH.out wr HX.out.2) (by rw [HM.out]; omega)
                rw [HM.out] at hho
                have HADX := Lib.hid (HAD.out (X, y2) hok1)
                obtain ⟨r, hr⟩ : ∃ r, holdsF H (X, y2) = r := ⟨_, rfl⟩
                rw [hr] at hho HADX
                have HHO := Lib.hid hho
                have hyb1 : -60 ≤ y2 := by omega
                have hyb2 : y2 ≤ 60 := by omega
                clear hho hr hbd hok1
                go_wp2_with fail
                refine HHO.out.mono ?_
                rintro e w6 ⟨rfl, hb6⟩
                have hx6 : w6.heap[pb]? = some (.cells #[.int .i64 a, .int .i64 b] 26 (0, 0)) := (hb6.block pb (Array.getElem?_eq_some_iff.1 HX.out.1).1).trans HX.out.1
                have ht6 : Turn (fun k => k = pb) wP w6 := HX.out.2.trans (Turn.of_below hb6) fun _ _ h => h
                cases r
                · have HX6 : Hid (w6.heap[pb]? = some (.cells #[.int .i64 a, .int .i64 b] 26 (0, 0)) ∧ Turn (fun k => k = pb) wP w6) := ⟨hx6, ht6⟩
                  clear hx6 ht6 hb6 HHO HADX HX
                  go_wp2
                  go_roundw
                  case rel => exact ⟨X + 7, a, b, rfl, by omega, by omega, HX6.out⟩
                  case measure => simp [intOf]; omega
                · have HHU := Lib.hid (HADX.out rfl)
                  have k0 : w6.cell? ⟨pb, 0, none⟩ = some (.int .i64 a) := cell_of_row _ _ 0 _ _ _ hx6
                  have k1 : w6.cell? ⟨pb, 1, none⟩ = some (.int .i64 b) := cell_of_row _ _ 1 _ _ _ hx6
                  have f0 : w6.frozen? ⟨pb, 0, none⟩ = false := by simp [World.frozen?, hx6]
                  have f1 : w6.frozen? ⟨pb, 1, none⟩ = false := by simp [World.frozen?, hx6]
                  have k2 : pb < w6.heap.size := (Array.getElem?_eq_some_iff.1 hx6).1
                  have HX7 : Hid (((w6.setCell ⟨pb, 0, none⟩ (.int .i64 X)).setCell ⟨pb, 1, none⟩ (.int .i64 y2)).heap[pb]? = some (.cells #[.int .i64 X, .int .i64 y2] 26 (0, 0)) ∧ Turn (fun k => k = pb) wP ((w6.setCell ⟨pb, 0, none⟩ (.int .i64 X)).setCell ⟨pb, 1, none⟩ (.int .i64 y2))) := ⟨set_pt hx6 _ _, (ht6.setCell (a := ⟨pb, 0, none⟩) rfl _).setCell (a := ⟨pb, 1, none⟩) rfl _⟩
                  clear hx6 ht6 hb6 HHO HADX HX
                  go_upto_region 26 with (fail)
                  generalize hw7 : (w6.setCell ⟨pb, 0, none⟩ (.int .i64 X)).setCell ⟨pb, 1, none⟩ (.int .i64 y2) = w7 at *
                  clear hw7 k0 k1 k2 f0 f1
                  obtain ⟨lb, lo, rfl, hlb, hnews⟩ := pAt_news (HRL.out w7 HX7.out.2) (by rw [HNL.out]; exact hn0)
                  have HNA := Lib.hid hnews
                  have HVL : Hid ((pV l).length = k * 2) := by show _ = _; rw [pV_length, HNL.out]
                  have HXC : Hid (∀ wx, Below w7.heap.size w7 wx → wx.cell? ⟨pb, 0, none⟩ = some (.int .i64 X) ∧ wx.cell? ⟨pb, 1, none⟩ = some (.int .i64 y2)) := fun wx hx => by
                    have h1 := (hx.block pb (Array.getElem?_eq_some_iff.1 HX7.out.1).1).trans HX7.out.1
                    exact ⟨cell_of_row _ _ 0 _ _ _ h1, cell_of_row _ _ 1 _ _ _ h1⟩
                  have HML : Hid ((l ++ [(X, y2)]).length = k + 1) := by show _ = _; rw [List.length_append, HNL.out]; rfl
                  have HMV2 : Hid (pV (l ++ [(X, y2)]) = pV l ++ [.int .i64 X, .int .i64 y2]) := pV_snoc _ _
                  have hofg : ∀ ao c wx, PAt wx ao (l ++ [(X, y2)]) → Calls Try.prog 10 #[.slice ao (k + 1) c] wx fun e w' => ∃ ag cg, e = .returned (.slice ag H.length cg) ∧ PAt w' ag H ∧ H.length ≤ cg ∧ Below wx.heap.size wx w' := fun ao c wx h => by
                    have := hof_any ao c _ wx h (by rw [HML.out]; omega)
                    rw [HML.out] at this
                    unfold OfTold at this
                    rw [HHU.out] at this
                    exact this.mono fun e w' ⟨ag, cg, h1, h2, h3, _, h4⟩ => ⟨ag, cg, h1, h2, h3, h4⟩
                  have HOFG := Lib.hid hofg
                  have HPW := Lib.hid (HRH.out w7 HX7.out.2)
                  have hsmg : ∀ ag cg wx, PAt wx ag H → Below w7.heap.size w7 wx → Calls Try.prog 13 #[.slice ag H.length cg, .slice ah j ch] wx fun e w' => e = .returned (.bool true) ∧ Below wx.heap.size wx w' := fun ag cg wx h1 hx => by
                    have := same_any ag ah cg ch H H wx h1 (HPW.out.below hx) (by rw [HM.out]; omega) (by rw [HM.out]; omega)
                    rw [decide_eq_true (rfl : H = H)] at this
                    rw [HM.out] at this ⊢
                    exact this
                  have HSMG := Lib.hid hsmg
                  clear hlb hnews hofg hsmg HHU
                  refine wp_region_inw ([.inr (wNil), .inl (.slice (some ⟨lb, lo, none⟩) k c), .inr (wOwn w7.heap.size k l), .inl (.agg #[.int .i64 X, .int .i64 y2]), .inr (wLit 1 [(X, y2)]), .inr (wOwn w7.heap.size (k + 1) (l ++ [(X, y2)])), .inr (wPts H), .inl (.slice ah j ch), .inl (.bool true), .inl (.bool false)] : List Want) [5] (by kernel_rfl) (by kernel_rfl) (by kernel_rfl) ?_
                  refine inw_cons (fun wx hg hd => ?_) (fun v0 => ?_)
                  · have hx := ((Below.refl w7.heap.size w7).drew).trans hg
                    clear hd hg
                    go_wp2
                    exact ⟨_, rfl, (Below.refl _ _).alloc (Nat.le_refl _) _, wx.heap.size, rfl, heap_new _ _ _ rfl⟩
                  (try simp only [List.nil_append, Act.put, List.setIfInBounds_toArray, List.set_cons_zero, List.set_cons_succ])
                  refine inw_cons (fun wx hg hd => ?_) (fun v1 => ?_)
                  · have hx := ((Below.refl w7.heap.size w7).drew).trans hg
                    clear hd hg
                    go_wp2
                    exact ⟨_, rfl, Below.refl _ _, rfl⟩
                  (try simp only [List.cons_append, List.nil_append, Act.put, List.setIfInBounds_toArray, List.set_cons_zero, List.set_cons_succ])
                  refine inw_cons (fun wx hg hd => ?_) (fun v2 => ?_)
                  · have hx := ((Below.refl w7.heap.size w7).drew).trans hg
                    have hp0 : (wNil : SP).1 v0 wx := hd 0 (by simp) (by decide)
                    (try (have ee : v1 = (.slice (some ⟨lb, lo, none⟩) k c : Value) := hd 1 (by simp) (by decide); subst ee))
                    clear hd hg
                    obtain ⟨g, rfl, hg⟩ := hp0
                    have hsz := hx.size
                    go_wp2_with (at_builtin; refine wpList_append_grows _ rfl (.tmp 132) (.tmp 133) 23 rfl 26 i1 (.agg #[.int .i64 0, .int .i64 0]) 2 16 Try.underlying23 hj hy0 hy1 hy2 rfl (by decide) (some ⟨g, 0, none⟩) 0 0 [] rfl (fun h => by cases h) rfl (fun b _ j u h => by simp at h) ⟨lb, lo, none⟩ k c (pV l) rfl HVL.out (HNA.out _ hx) (pV_cell l) (by omega) (by unfold maxLen; omega) (by omega) ?_; intro v' w' ho hgr)
                    rw [Nat.zero_add, List.nil_append] at ho
                    obtain ⟨ao', c', rfl, _⟩ := own_form ho
                    exact ⟨_, rfl, below_grown0 hgr, ao', c', rfl, own_base ho hsz⟩
                  (try simp only [List.cons_append, List.nil_append, Act.put, List.setIfInBounds_toArray, List.set_cons_zero, List.set_cons_succ])
                  refine inw_cons (fun wx hg hd => ?_) (fun v3 => ?_)
                  · have hx := ((Below.refl w7.heap.size w7).drew).trans hg
                    clear hd hg
                    obtain ⟨k1, k2⟩ := HXC.out _ hx
                    go_wp2
                    exact ⟨_, rfl, Below.refl _ _, rfl⟩
                  (try simp only [List.cons_append, List.nil_append, Act.put, List.setIfInBounds_toArray, List.set_cons_zero, List.set_cons_succ])
                  refine inw_cons (fun wx hg hd => ?_) (fun v4 => ?_)
                  · have hx := ((Below.refl w7.heap.size w7).drew).trans hg
                    (try (have ee : v3 = (.agg #[.int .i64 X, .int .i64 y2] : Value) := hd 3 (by simp) (by decide); subst ee))
                    clear hd hg
                    go_wp2
                    exact ⟨_, rfl, (Below.refl _ _).alloc (Nat.le_refl _) _, wx.heap.size, rfl, heap_new _ _ _ rfl⟩
                  (try simp only [List.cons_append, List.nil_append, Act.put, List.setIfInBounds_toArray, List.set_cons_zero, List.set_cons_succ])
                  refine inw_cons (fun wx hg hd => ?_) (fun v5 => ?_)
                  · have hx := ((Below.refl w7.heap.size w7).drew).trans hg
                    have hp2 : (wOwn w7.heap.size k l : SP).1 v2 wx := hd 2 (by simp) (by decide)
                    have hp4 : (wLit 1 [(X, y2)] : SP).1 v4 wx := hd 4 (by simp) (by decide)
                    clear hd
                    obtain ⟨ao2, c2, rfl, ho2⟩ := hp2
                    obtain ⟨g4, rfl, hg4⟩ := hp4
                    have hsz := hx.size
                    go_wp2_with (at_builtin; refine wpList_append_own _ rfl (.tmp 134) (.tmp 136) 23 rfl w7.heap.size 26 i1 (.agg #[.int .i64 0, .int .i64 0]) 2 16 Try.underlying23 hj hy0 hy1 hy2 rfl (by decide) _ _ _ rfl ho2 ⟨g4, 0, none⟩ 1 1 [.int .i64 X, .int .i64 y2] rfl rfl (lit_news hg4) (by simp [Value.oneCell']) (by unfold maxLen; omega) (by omega) hsz ?_; intro v' w' ho hgr _)
                    have hbb := below_append (Below.refl w7.heap.size wx) ho2 hsz hgr
                    rw [← HMV2.out] at ho
                    obtain ⟨ao', c', rfl, _⟩ := own_form ho
                    exact ⟨_, rfl, hbb, ao', c', rfl, ho⟩
                  (try simp only [List.cons_append, List.nil_append, Act.put, List.setIfInBounds_toArray, List.set_cons_zero, List.set_cons_succ])
                  refine inw_cons (fun wx hg hd => ?_) (fun v6 => ?_)
                  · have hx := ((Below.refl w7.heap.size w7).drew).trans hg
                    have hp5 : (wOwn w7.heap.size (k + 1) (l ++ [(X, y2)]) : SP).1 v5 wx := hd 5 (by simp) (by decide)
                    clear hd hg
                    obtain ⟨ao, c, rfl, ho⟩ := hp5
                    go_wp2_with fail
                    refine (HOFG.out _ _ _ (pAt_own HML.out.symm ho)).mono ?_
                    rintro e w' ⟨ag, cg, rfl, h1, h2, hb⟩
                    go_wp2
                    exact ⟨_, rfl, hb, ag, cg, rfl, h1, h2⟩
                  (try simp only [List.cons_append, List.nil_append, Act.put, List.setIfInBounds_toArray, List.set_cons_zero, List.set_cons_succ])
                  refine inw_cons (fun wx hg hd => ?_) (fun v7 => ?_)
                  · have hx := ((Below.refl w7.heap.size w7).drew).trans hg
                    clear hd hg
                    go_wp2
                    exact ⟨_, rfl, Below.refl _ _, rfl⟩
                  (try simp only [List.cons_append, List.nil_append, Act.put, List.setIfInBounds_toArray, List.set_cons_zero, List.set_cons_succ])
                  refine inw_cons (fun wx hg hd => ?_) (fun v8 => ?_)
                  · have hx := ((Below.refl w7.heap.size w7).drew).trans hg
                    have hp6 : (wPts H : SP).1 v6 wx := hd 6 (by simp) (by decide)
                    (try (have ee : v7 = (.slice ah j ch : Value) := hd 7 (by simp) (by decide); subst ee))
                    clear hd hg
                    obtain ⟨ag, cg, rfl, h1, h2⟩ := hp6
                    go_wp2_with fail
                    refine (HSMG.out _ _ _ h1 hx).mono ?_
                    rintro e w' ⟨rfl, hb⟩
                    go_wp2
                    exact ⟨_, rfl, hb, rfl⟩
                  (try simp only [List.cons_append, List.nil_append, Act.put, List.setIfInBounds_toArray, List.set_cons_zero, List.set_cons_succ])
                  refine inw_cons (fun wx hg hd => ?_) (fun v9 => ?_)
                  · have hx := ((Below.refl w7.heap.size w7).drew).trans hg
                    (try (have ee : v8 = (.bool true : Value) := hd 8 (by simp) (by decide); subst ee))
                    clear hd hg
                    go_wp2
                    exact ⟨_, rfl, Below.refl _ _, rfl⟩
                  (try simp only [List.cons_append, List.nil_append, Act.put, List.setIfInBounds_toArray, List.set_cons_zero, List.set_cons_succ])
                  refine inw_done (fun wx hg hd => ?_)
                  have hx := ((Below.refl w7.heap.size w7).drew).trans hg
                  (have ee : v1 = (.slice (some ⟨lb, lo, none⟩) k c : Value) := hd 1 (by simp) (by kernel_rfl); subst ee)
                  (have ee : v3 = (.agg #[.int .i64 X, .int .i64 y2] : Value) := hd 3 (by simp) (by kernel_rfl); subst ee)
                  have hp5 : (wOwn w7.heap.size (k + 1) (l ++ [(X, y2)]) : SP).1 v5 wx := hd 5 (by simp) (by kernel_rfl)
                  have hp6 : (wPts H : SP).1 v6 wx := hd 6 (by simp) (by kernel_rfl)
                  (have ee : v7 = (.slice ah j ch : Value) := hd 7 (by simp) (by kernel_rfl); subst ee)
                  (have ee : v8 = (.bool true : Value) := hd 8 (by simp) (by kernel_rfl); subst ee)
                  (have ee : v9 = (.bool false : Value) := hd 9 (by simp) (by kernel_rfl); subst ee)
                  clear hd hg
                  (try go_simp)
                  have HXE : Hid (wx.heap[pb]? = some (.cells #[.int .i64 X, .int .i64 y2] 26 (0, 0)) ∧ Turn (fun k => k = pb) wP wx) := ⟨(hx.block pb (Array.getElem?_eq_some_iff.1 HX7.out.1).1).trans HX7.out.1, HX7.out.2.trans (Turn.of_below hx) fun _ _ h => h⟩
                  clear hx hp5 hp6 HX7 HXC HOFG HSMG HPW HNA
                  go_wp2
                  go_roundw
                  case rel => exact ⟨X + 7, X, y2, rfl, by omega, by omega, HXE.out⟩
                  case measure => simp [intOf]; omega
              · have har1 := area_any ah ch H wr (HRH.out wr HX.out.2) (by rw [HM.out]; omega)
                have har2 : ∀ wx, Below wr.heap.size wr wx → Calls Try.prog 14 #[.slice av2 j cv2] wx fun e w' => e = .returned (.int .i64 (area H)) ∧ Below wx.heap.size wx w' := fun wx hx => by
                  have := area_any av2 cv2 (H.map (mv (dx, dy))) wx (((HRV.out wr HX.out.2)).below hx) (by rw [HMV.out]; omega)
                  rwa [if_pos HOKV.out, area_small HSV.out (by rw [HMV.out]; omega), area_mv, HMV.out] at this
                rw [if_pos HOKH.out, area_small HSH.out (by rw [HM.out]; omega), HM.out] at har1
                have HAR1 := Lib.hid har1
                have HAR2 := Lib.hid har2
                have HBR : Hid (Below w.heap.size w wr) := HBP.out.trans (HX.out.2.below HBP.out.size fun q hq e => by have := HPB.out; omega)
                generalize area H = aH at HAR1 HAR2
                clear har1 har2 HX
                go_wp2_with fail
                refine HAR1.out.mono ?_
                rintro e w6 ⟨rfl, hb⟩
                have HB6 := Lib.hid hb
                clear hb
                go_wp2_with fail
                refine (HAR2.out _ HB6.out).mono ?_
                rintro e w7 ⟨rfl, hb⟩
                have HB7 : Hid (Below wr.heap.size wr w7) := HB6.out.trans (hb.mono HB6.out.size)
                clear hb
                go_wp2_with fail
                refine (HAW.out _).mono ?_
                rintro e w8 ⟨rfl, hb⟩
                have HF : Hid (Below w.heap.size w w8) := HBR.out.trans ((HB7.out.trans (hb.mono HB7.out.size)).mono HBR.out.size)
                clear hb
                go_wp2
                go_ret
                exact ⟨rfl, HF.out⟩
theorem walk {w : World} (a0 : Option Addr) (n0 c0 : Nat) (z0 : Nat → Int) (g0 : IntsAtK .i64 w w.heap.size a0 n0 z0) (_b0 : ∀ i, i < n0 → (Lit.int .i64 (z0 i)).wf = true) (s0 : n0 * 8 ≤ 140737488351232) (a1 : Int) (_w1 : (Lit.int .i64 a1).wf = true) (a2 : Int) (_w2 : (Lit.int .i64 a2).wf = true) (a3 : Int) (_w3 : (Lit.int .i64 a3).wf = true) :
    Calls Try.prog 7 #[.slice a0 n0 c0, .int .i64 a1, .int .i64 a2, .int .i64 a3] w fun e w' => e = .returned (.bool true) ∧ Below w.heap.size w w' := core w a0 n0 c0 z0 g0 (by omega) a1 a2 a3
end Go.Proofs.Ytcoffankmmjehaa.hullOrder
