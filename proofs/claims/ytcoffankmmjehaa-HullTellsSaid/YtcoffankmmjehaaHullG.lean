/- Contracts of package hull: Of. -/
import Derived.Test.YtcoffankmmjehaaHullF
namespace Go.Proofs.Ytcoffankmmjehaa
open Go.RowKit Go.Lib Hull

theorem info_hp : (Try.prog.info? 41).map (fun i => (i.zero, i.size, i.bytes)) = some (some (.agg #[.int .i64 0, .int .i64 0]), 2, 16) := by kernel_rfl
theorem compact_nil (cap : Nat) (ao : Option Addr) (w : World) : Calls Try.prog 24 #[.slice ao 0 cap] w fun e w' => e = .returned (.slice ao 0 cap) ∧ w' = w := by
  go_enter Try.func24, Try.ntmps24
  go_wp2
  go_ret
  exact ⟨rfl, rfl⟩
theorem own_news {w : World} {base n cap g size : Nat} {t : TypeId} {xs : List Value} (h : w.ownsRow base t size (.slice (some ⟨g, 0, none⟩) n cap) n xs) : ∀ j u, xs[j]? = some u → w.cell? ((⟨g, 0, none⟩ : Addr).add j) = some u := fun j u hu => by
  have hj : j < xs.length := (List.getElem?_eq_some_iff.1 hu).1
  rw [Addr.add_lit, Nat.zero_add]
  exact (h.cellAt j (by rw [← h.1]; exact hj)).trans hu
theorem compactUpTo_le (d : Array Pt) (m : Nat) : (compactUpTo d m).length ≤ m := by
  unfold compactUpTo
  rw [List.length_map]
  refine Nat.le_trans (List.length_filter_le _ _) ?_
  rw [List.length_range]; exact Nat.le_refl _
theorem asc_ne {l C : List Pt} (hm : ∀ p, p ∈ C ↔ p ∈ l) (h : 0 < l.length) : C ≠ [] := fun e => by
  have := (hm (pg l 0)).2 (pg_mem h)
  rw [e] at this; simp at this
theorem hull_ring {l C : List Pt} (hok : okB l = true) (ha : Asc 1 C) (hm : ∀ p, p ∈ C ↔ p ∈ l) (h : 0 < l.length) (H : List Pt) (hH : H = if 3 ≤ (ring (chainF C) (chainF C.reverse)).length then ring (chainF C) (chainF C.reverse) else []) : HullIs l H :=
  .inr ⟨hok, _, _, (chain_both ha (asc_ne hm h)).of_iff fun p => (hm p).symm, hH⟩
theorem hull_small {l C : List Pt} (hok : okB l = true) (ha : Asc 1 C) (hm : ∀ p, p ∈ C ↔ p ∈ l) (h : 0 < l.length) (h3 : C.length < 3) : HullIs l [] := by
  refine hull_ring hok ha hm h [] ?_
  have h1 := chainF_le C
  have h2 := chainF_le C.reverse
  rw [List.length_reverse] at h2
  rw [if_neg (by rw [ring_length]; omega)]
/-- What hull.Of tells. -/
def HullTold (w : World) (l : List Pt) (e : Ending) (w' : World) : Prop :=
  ∃ ao c H, HullIs l H ∧ e = .returned (.slice ao H.length c) ∧ PAt w' ao H ∧ H.length ≤ c ∧ (∀ g o s, ao = some ⟨g, o, s⟩ → w.heap.size ≤ g) ∧ Below w.heap.size w w'
theorem told_nil {w w' : World} {l : List Pt} (h : HullIs l []) (hb : Below w.heap.size w w') : HullTold w l (.returned (.slice none 0 0)) w' :=
  ⟨none, 0, [], h, rfl, fun h => by simp at h, Nat.le_refl _, fun _ _ _ h => by (cases h), hb⟩
theorem pV_dropLast_cells (l : List Pt) : ∀ u ∈ pV l, u.oneCell' = true := pV_cell l
set_option maxHeartbeats 8000000 in
set_option maxRecDepth 1000000 in
theorem of_any (ao : Option Addr) (c : Nat) (l : List Pt) (w : World) (h : PAt w ao l) (hn : l.length ≤ 1000000000) :
    Calls Try.prog 10 #[.slice ao l.length c] w (HullTold w l) := by
  obtain ⟨i0, hi, hz0, hz1, hz2⟩ := info_parts info_pt
  obtain ⟨i1, hj, hy0, hy1, hy2⟩ := info_parts info_hp
  have HOK := Lib.hid (ok_any ao c l w h hn)
  have HW := Lib.hid h
  cases hok : okB l
  · have HF : Hid (HullIs l []) := .inl ⟨.inl hok, rfl⟩
    rw [hok] at HOK
    clear hok h
    go_enter Try.func10, Try.ntmps10
    go_wp2_with fail
    refine HOK.out.mono ?_
    rintro e w1 ⟨rfl, hb⟩
    have HFF := Lib.hid (told_nil HF.out hb)
    go_wp2
    go_ret
    exact HFF.out
  · have hOK := (okB_iff l).1 hok
    have HOB := Lib.hid hok
    rw [hok] at HOK
    have HNR := Lib.hid hOK.2
    have hn2 := hOK.1
    obtain ⟨n, hnn⟩ : ∃ n, l.length = n := ⟨_, rfl⟩
    have HN := Lib.hid hnn
    rw [hnn] at hn hn2 HOK ⊢
    clear hok h hOK hnn
    go_enter Try.func10, Try.ntmps10
    go_wp2_with fail
    refine HOK.out.mono ?_
    rintro e w1 ⟨rfl, hb1⟩
    have HB1 := Lib.hid hb1
    have hs1 := hb1.size
    clear hb1 HOK
    go_wp2
    go_loopw [3, 12] (fun o i wr => ∃ (k : Nat) (oo : Option Addr) (oc : Nat), k ≤ n ∧ i = .int .i64 k ∧ o = .slice oo k oc ∧ Hid (wr.ownsRow w.heap.size 41 2 (.slice oo k oc) k (pV (l.take k)) ∧ Below w.heap.size w wr)) (fun _ i _ => n - (intOf i).toNat)
    case atStart => exact ⟨0, none, 0, Nat.zero_le _, rfl, rfl, World.ownsRow_nil _ _ _ _, HB1.out⟩
    case round =>
      obtain ⟨k, oo, oc, hk, rfl, rfl, HR⟩ := hrel
      by_cases hlt : k < n
      · obtain ⟨b, off, rfl, hb, hc⟩ := (HW.out.below HR.out.2) (by rw [HN.out]; omega)
        obtain ⟨c0, c1⟩ := hc k (by rw [HN.out]; exact hlt)
        have HS : Hid (pV (l.take (k + 1)) = pV (l.take k) ++ [.int .i64 (pg l k).1, .int .i64 (pg l k).2]) := by show _ = _; rw [take_succ_pg (by rw [HN.out]; exact hlt), pV_append]; rfl
        generalize pg l k = x at c0 c1 HS
        have hown := HR.out.1
        have hsz : w.heap.size ≤ wr.heap.size := HR.out.2.size
        have HBR := Lib.hid HR.out.2
        clear HR hc
        go_wp2_with (at_builtin; refine wpList_append_own _ rfl (.tmp 16) (.tmp 18) 39 rfl w.heap.size 41 i1 (.agg #[.int .i64 0, .int .i64 0]) 2 16 Try.underlying39 hj hy0 hy1 hy2 rfl (by decide) _ _ _ rfl ((hown.alloc _).alloc _) ⟨wr.heap.size + 1, 0, none⟩ 1 1 [.int .i64 x.1, .int .i64 x.2] rfl rfl (cells_new _ _ _ _ (by simp)) (by simp [Value.oneCell']) (by unfold maxLen; omega) (by omega) (by simp; omega) ?_; intro v' w3 hown1 hgrow _)
        have HB3 : Hid (Below w.heap.size w w3) := below_append ((HBR.out.alloc hsz (.cells #[.int .i64 x.1, .int .i64 x.2] 26)).alloc (by simp; omega) (.cells #[.int .i64 x.1, .int .i64 x.2] 41)) ((hown.alloc (.cells #[.int .i64 x.1, .int .i64 x.2] 26)).alloc (.cells #[.int .i64 x.1, .int .i64 x.2] 41)) (by simp; omega) hgrow
        obtain ⟨ao', c', rfl, _⟩ := own_form hown1
        have HO3 := Lib.hid hown1
        clear hown1 hgrow hown hsz
        go_wp2
        go_roundw
        case rel => exact ⟨k + 1, ao', c', by omega, by go_num, rfl, by rw [HS.out]; exact HO3.out, HB3.out⟩
        case measure => simp [intOf]; omega
      · obtain rfl : k = n := by omega
        have hown := HR.out.1
        rw [show l.take k = l from List.take_of_length_le (by rw [HN.out]; exact Nat.le_refl _)] at hown
        have HBR := Lib.hid HR.out.2
        clear HR hlt hk
        rcases Nat.eq_zero_or_pos k with hk0 | hk0
        · subst hk0
          have HF : Hid (HullIs l []) := .inl ⟨.inr (List.eq_nil_of_length_eq_zero HN.out), rfl⟩
          have HFF := Lib.hid (told_nil HF.out HBR.out)
          have HSN := Lib.hid (AnyF.slices_SortFunc_none laySortW oo oc (.func (.func 23) #[] #[]))
          have HCN := Lib.hid (compact_nil oc oo)
          clear hown HBR HF
          go_wp2_with fail
          refine (HSN.out _).mono ?_
          rintro e w2 ⟨rfl, rfl⟩
          go_wp2_with fail
          refine (HCN.out _).mono ?_
          rintro e w3 ⟨rfl, rfl⟩
          go_wp2
          go_ret
          exact HFF.out
        · obtain ⟨g, rfl⟩ := own_slice hown hk0
          have hg : w.heap.size ≤ g := (own_lt hown g 0 none rfl).1
          have HG := Lib.hid hg
          have HSO := Lib.hid (sortf_own hown (by omega))
          clear hown hg
          go_wp2_with fail
          refine HSO.out.mono ?_
          rintro e w2 ⟨rfl, R, hp, hs, ho2, ht2⟩
          have HB2 : Hid (Below w.heap.size w w2) := HBR.out.trans (ht2.below HBR.out.size fun j hj e => by have := HG.out; omega)
          have hRl : R.length = k := own_len ho2
          have HCO := Lib.hid (compact_own g k oc w.heap.size R w2 ho2 (by omega))
          have HC0 := sorted_compact hp hs
          rw [hRl] at HC0
          have HCP := Lib.hid HC0
          clear ho2 ht2 hp hs hRl HC0 HSO HBR
          go_wp2_with fail
          refine HCO.out.mono ?_
          rintro e w3 ⟨C, hC, rfl, ho3, ht3⟩
          rw [← hC] at HCP
          have HB3 : Hid (Below w.heap.size w w3) := HB2.out.trans (ht3.below HB2.out.size fun j hj e => by have := HG.out; omega)
          have hCk : C.length ≤ k := by rw [hC]; exact compactUpTo_le _ _
          have HNC : Hid (∀ p ∈ C, Near p) := fun p hp => HNR.out p ((HCP.out.2 p).1 hp)
          clear hC ht3 HCO HB2
          obtain ⟨m, hm⟩ : ∃ m, C.length = m := ⟨_, rfl⟩
          have HM := Lib.hid hm
          rw [hm] at ho3 hCk ⊢
          clear hm
          by_cases h3 : m < 3
          · have HFF := Lib.hid (told_nil (hull_small HOB.out HCP.out.1 HCP.out.2 (by rw [HN.out]; exact hk0) (by rw [HM.out]; exact h3)) HB3.out)
            clear ho3
            go_wp2
            go_ret
            exact HFF.out
          · have HO3 := Lib.hid ho3
            have hch := chain_any (some ⟨g, 0, none⟩) oc C w3 (pAt_own HM.out.symm ho3) (by rw [HM.out]; omega) (by rw [HM.out]; omega) HNC.out
            rw [HM.out] at hch
            have HCH := Lib.hid hch
            have hg3 := (own_lt ho3 g 0 none rfl).2
            have HG3 := Lib.hid hg3
            clear hch ho3 hg3
            go_wp2_with fail
            refine HCH.out.mono ?_
            rintro e w4 ⟨g1, c1, rfl, ho4, hb4⟩
            have HB4 : Hid (Below w.heap.size w w4) := HB3.out.trans (hb4.mono HB3.out.size)
            have HO4 : Hid (w4.ownsRow w.heap.size 41 2 (.slice (some ⟨g, 0, none⟩) m oc) m (pV C)) := own_later HO3.out hb4
            have HRE := Lib.hid (reverse_own g m oc w.heap.size C w4 HO4.out (by omega))
            have HL4 := Lib.hid (own_base ho4 HB3.out.size)
            have HLT : Hid (g1 ≠ g) := by
              have := (own_lt ho4 g1 0 none rfl).1
              have := HG3.out
              show g1 ≠ g
              omega
            obtain ⟨a, ha⟩ : ∃ a, (chainF C).length - 1 = a := ⟨_, rfl⟩
            have HA := Lib.hid ha
            rw [ha] at HL4 ⊢
            clear ho4 hb4 ha HCH
            go_wp2_with fail
            refine HRE.out.mono ?_
            rintro e w5 ⟨rfl, ho5, ht5⟩
            have HB5 : Hid (Below w.heap.size w w5) := HB4.out.trans (ht5.below HB4.out.size fun j hj e => by have := HG.out; omega)
            have HL5 : Hid (w5.ownsRow w.heap.size 26 2 (.slice (some ⟨g1, 0, none⟩) a c1) a (pV (chainF C).dropLast)) := own_turn HL4.out ht5 fun q o s e => by cases e; exact HLT.out
            have hrl : C.reverse.length = m := by rw [List.length_reverse]; exact HM.out
            have hch := chain_any (some ⟨g, 0, none⟩) oc C.reverse w5 (pAt_own hrl.symm ho5) (by rw [hrl]; omega) (by rw [hrl]; omega) (fun p hp => HNC.out p (List.mem_reverse.1 hp))
            rw [hrl] at hch
            have HCH := Lib.hid hch
            clear hch ho5 ht5 hrl HRE HO4 HL4 HB4
            go_wp2_with fail
            refine HCH.out.mono ?_
            rintro e w6 ⟨g2, c2, rfl, ho6, hb6⟩
            have HB6 : Hid (Below w.heap.size w w6) := HB5.out.trans (hb6.mono HB5.out.size)
            have HL6 : Hid (w6.ownsRow w.heap.size 26 2 (.slice (some ⟨g1, 0, none⟩) a c1) a (pV (chainF C).dropLast)) := own_later HL5.out hb6
            have HNW := Lib.hid (own_news ho6)
            have hbz : (chainF C.reverse).length - 1 ≤ m := by have := chainF_le C.reverse; rw [List.length_reverse, HM.out] at this; omega
            have haz : a ≤ m := by have := chainF_le C; rw [HM.out] at this; have := HA.out; omega
            obtain ⟨b, hb⟩ : ∃ b, (chainF C.reverse).length - 1 = b := ⟨_, rfl⟩
            have HB := Lib.hid hb
            have HLU : Hid ((pV (chainF C.reverse).dropLast).length = b * 2) := by show _ = _; rw [pV_length, List.length_dropLast, hb]
            have HRL : Hid ((ring (chainF C) (chainF C.reverse)).length = a + b) := by show _ = _; rw [ring_length, HA.out, hb]
            have HRV : Hid (pV (ring (chainF C) (chainF C.reverse)) = pV (chainF C).dropLast ++ pV (chainF C.reverse).dropLast) := pV_append _ _
            rw [hb] at hbz ⊢
            have hsz : w.heap.size ≤ w6.heap.size := HB6.out.size
            have HRG := Lib.hid (hull_ring HOB.out HCP.out.1 HCP.out.2 (by rw [HN.out]; exact hk0))
            clear hb ho6 hb6 HCH HL5 HB5
            generalize ring (chainF C) (chainF C.reverse) = H at HRL HRV HRG
            generalize pV (chainF C).dropLast = xs at HL6 HRV
            generalize pV (chainF C.reverse).dropLast = ys at HNW HRV HLU
            have HYC : Hid (∀ u ∈ ys, u.oneCell' = true) := fun u hu => pV_cell H u (by rw [HRV.out]; exact List.mem_append_right _ hu)
            go_upto_region 16 with (at_builtin; refine wpList_append_own _ rfl (.tmp 32) (.tmp 34) 23 rfl w.heap.size 26 i0 (.agg #[.int .i64 0, .int .i64 0]) 2 16 Try.underlying23 hi hz0 hz1 hz2 rfl (by decide) _ _ _ rfl HL6.out ⟨g2, 0, none⟩ b c2 ys rfl HLU.out HNW.out HYC.out (by unfold maxLen; omega) (by omega) hsz ?_; intro v' w7 hown1 hgrow _)
            have HB7 : Hid (Below w.heap.size w w7) := below_append HB6.out HL6.out hsz hgrow
            obtain ⟨ao', c', rfl, hcc, _⟩ := own_form hown1
            have hge : ∀ g o s, ao' = some ⟨g, o, s⟩ → w.heap.size ≤ g := fun g o s e => (own_lt hown1 g o s e).1
            rw [← HRV.out] at hown1
            by_cases hab : a + b < 3
            · have HFF := Lib.hid (told_nil (HRG.out [] (by rw [HRL.out, if_neg (by omega)])) HB7.out)
              have q1 : (a : Int) + b < 3 := by omega
              clear hown1 hgrow hge
              go_wp2
              go_ret
              exact HFF.out
            · have HFF : Hid (HullTold w l (.returned (.slice ao' (a + b) c')) w7) := ⟨ao', c', H, HRG.out H (by rw [HRL.out, if_pos (by omega)]), by rw [HRL.out], pAt_own HRL.out.symm hown1, by rw [HRL.out]; exact hcc, hge, HB7.out⟩
              have q1 : (3 : Int) ≤ (a : Int) + b := by omega
              clear hown1 hgrow hge
              go_wp2
              go_ret
              exact HFF.out
end Go.Proofs.Ytcoffankmmjehaa
