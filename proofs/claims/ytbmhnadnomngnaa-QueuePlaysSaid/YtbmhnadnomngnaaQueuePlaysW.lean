/- The walk of the law QueuePlays. -/
import Derived.Test.YtbmhnadnomngnaaQR
import Derived.Deep.CutRange
import Derived.Deep.CutBlock
import Derived.BigQuiet
namespace Go.Proofs.Ytbmhnadnomngnaa.queuePlays
open Go.RowKit Go.Lib

set_option maxRecDepth 100000 in
set_option maxHeartbeats 4000000 in
theorem core (w : World) (a0 : Option Addr) (n0 c0 : Nat) (ls : List OpT) (l0 : ls.length = n0) (h0 : OpsAt w w.heap.size a0 ls) (b0 : WfOps ls) :
    Calls Try.prog 5 #[.slice a0 n0 c0] w fun e w' => e = .returned (.bool true) ∧ Below w.heap.size w w' := by
  have hnp : ∀ (w : World) (a : Addr), (binOp .eql 23 (.pointer (some a)) (.pointer none)).run Try.prog w = .ok (.bool false) w := fun w a => by kernel_rfl
  obtain ⟨i0, hi, hz0, hz1, hz2⟩ := info_parts info_w
  obtain ⟨X, hX⟩ : ∃ X : Nat → Prop, X = fun k => k < w.heap.size := ⟨_, rfl⟩
  have HX : Hid (∀ k, X k ↔ k < w.heap.size) := fun k => by rw [hX]
  have HN := Lib.hid (one_new X w (fun k h => (HX.out k).1 h))
  have HI := Lib.hid h0
  have HBW := Lib.hid b0
  have HL := Lib.hid l0
  have HAW := Lib.hid awake16_any
  have HBELOW : Hid (∀ wx, Stay X w wx → Below w.heap.size w wx) := fun wx hx => hx.below (Nat.le_refl _) fun k hk => (HX.out k).2 hk
  clear h0 b0 hX l0
  go_enter Try.func5, Try.ntmps5
  go_wp2_with fail
  refine HN.out.mono ?_
  rintro e w1 ⟨q, rfl, h1, hb1⟩
  have H1 : Hid (One X w1 q [] ∧ Stay X w w1) := ⟨h1, Stay.of_below hb1⟩
  clear h1 hb1 HN
  go_wp2_with fail
  refine (HAW.out _).mono ?_
  rintro e w2 ⟨rfl, hb2⟩
  have H2 : Hid (St X w2 q none 0 [] [] ∧ Stay X w w2) := by
    obtain ⟨F, g1, g2⟩ := H1.out.1.later hb2
    exact ⟨⟨F, g1, g2, World.ownsRow_nil _ _ _ _, fun g o s e => (by cases e), List.Perm.refl _⟩, H1.out.2.trans (Stay.of_below hb2)⟩
  clear hb2 H1
  go_wp2
  go_loopw [4, 5] (fun v i wr => ∃ (k : Nat) (vo : Option Addr) (c : Nat) (Lq Lw : List Wt), k ≤ n0 ∧ k ≤ 80 ∧ i = .int .i64 k ∧ v = .slice vo Lw.length c ∧ Lw.length ≤ k ∧ Hid (St X wr q vo c Lq Lw ∧ Stay X w wr)) (fun _ i _ => 80 - (RowKit.intOf i).toNat)
  case atStart => exact ⟨0, none, 0, [], [], Nat.zero_le _, Nat.zero_le _, rfl, rfl, Nat.le_refl _, H2.out⟩
  case round =>
    obtain ⟨k, vo, c, Lq, Lw, hkn, hk80, rfl, rfl, hlw, HR⟩ := hrel
    by_cases hlt : k < n0 ∧ k < 80
    · obtain ⟨hlt1, hlt2⟩ := hlt
      obtain ⟨bb, off, rfl, hbb, hc⟩ := (HI.out.below (HBELOW.out _ HR.out.2)) (by rw [HL.out]; omega)
      obtain ⟨d0, d1, d2⟩ := hc k (by rw [HL.out]; omega)
      obtain ⟨wf1, wf2⟩ := HBW.out k (by rw [HL.out]; omega)
      have hbw : bb < wr.heap.size := Nat.lt_of_lt_of_le hbb HR.out.2.size
      obtain ⟨⟨κ, id, v⟩, hop⟩ : ∃ o, og ls k = o := ⟨_, rfl⟩
      rw [hop] at d0 d1 d2 wf1 wf2
      simp only at d0 d1 d2 wf1 wf2
      have HW1 := Lib.hid wf1
      have HW2 := Lib.hid wf2
      clear hc hop wf1 wf2
      have hal := (Below.refl wr.heap.size wr).alloc (Nat.le_refl _) (.cells #[.int .i64 κ, .int .u64 id, .int .i64 v] 41)
      have hh3 : Half (fun k => X k ∨ k = wr.heap.size) (wr.alloc (.cells #[.int .i64 κ, .int .u64 id, .int .i64 v] 41)) q vo c Lq Lw := HR.out.1.half.more hal (Nat.le_refl _) (by rw [World.size_alloc]; omega)
      have hs3 := HR.out.2.trans (Stay.of_below (X := X) hal)
      have hh0 : (wr.alloc (.cells #[.int .i64 κ, .int .u64 id, .int .i64 v] 41)).heap[wr.heap.size]? = some (.cells #[.int .i64 κ, .int .u64 id, .int .i64 v] 41 (0, 0)) := heap_new _ _ _ rfl
      have ho3 : wr.heap.size < (wr.alloc (.cells #[.int .i64 κ, .int .u64 id, .int .i64 v] 41)).heap.size := by rw [World.size_alloc]; omega
      have HP := Lib.hid HR.out.1.perm
      have HF := Lib.hid (⟨HR.out.1.ids, HR.out.1.nodup, HR.out.1.one.ids, HR.out.1.one.first⟩ : Ids Lw ∧ Lw.Nodup ∧ Ids Lq ∧ ∀ p ∈ Lq, lessW p (wg Lq 0) = false)
      have hlq : Lq.length ≤ 1000 := by rw [HP.out.length_eq]; omega
      have hlw2 : Lw.length ≤ 1000 := by omega
      have HH0 := Lib.hid hh0
      have HH3 := Lib.hid hh3
      have HS3 := Lib.hid hs3
      have HO3 := Lib.hid ho3
      have q1 : decide (k < n0) = true := by simpa using hlt1
      have q2 : decide ((k : Int) < 80) = true := by simp; omega
      clear hal hh3 hs3 hh0 ho3 HR H2
      go_upto_block 2 with (fail)
      generalize wr.alloc (.cells #[.int .i64 κ, .int .u64 id, .int .i64 v] 41) = w3 at *
      clear d0 d1 d2 hbw
      generalize wr.heap.size = o at *
      obtain ⟨X2, hX2⟩ : ∃ X2 : Nat → Prop, X2 = fun k => X k ∨ k = o := ⟨_, rfl⟩
      rw [← hX2] at HH3
      have HX2 : Hid (X2 o ∧ ∀ k, X k → X2 k) := by rw [hX2]; exact ⟨.inr rfl, fun k hk => .inl hk⟩
      have KEEP : Hid (∀ wx, Stay X2 w3 wx → wx.cell? ⟨o, 0, none⟩ = some (.int .i64 κ) ∧ wx.cell? ⟨o, 1, none⟩ = some (.int .u64 id) ∧ wx.cell? ⟨o, 2, none⟩ = some (.int .i64 v) ∧ o < wx.heap.size) := fun wx hx => by
        have h9 := (hx.block HO3.out HX2.out.1).trans HH0.out
        exact ⟨cell_of_row _ _ 0 _ _ _ h9, cell_of_row _ _ 1 _ _ _ h9, cell_of_row _ _ 2 _ _ _ h9, Nat.lt_of_lt_of_le HO3.out hx.size⟩
      have HM : Hid (∀ wx vo' c' L' Lw', Half X2 wx q vo' c' L' Lw' → L'.Perm Lw' → Stay X2 w3 wx → St X wx q vo' c' L' Lw' ∧ Stay X w wx) := fun wx vo' c' L' Lw' h1 h2 h3 =>
        ⟨(h1.less HX2.out.2).st h2, HS3.out.trans (h3.less HX2.out.2)⟩
      obtain ⟨d0, d1, d2, ho⟩ := KEEP.out w3 (Stay.refl _ _)
      clear hX2 HH0 HO3 HS3 HI HBW
      go_cut [4, 7, 8, 9, 10, 11, 12, 13] from 27 to 166 (fun a4 a7 a8 a9 a10 a11 a12 a13 wx => ∃ vo' c' Lq' Lw', a4 = .slice vo' Lw'.length c' ∧ Lw'.length ≤ k + 1 ∧ Hid (St X wx q vo' c' Lq' Lw' ∧ Stay X w wx))
      case first =>
        by_cases k0 : κ = 0
        · subst k0
          have HPU := Lib.hid (half_push HH3.out (id, v) ⟨HW1.out, HW2.out⟩ hlq)
          unfold aggW at HPU
          go_wp2_with fail
          refine HPU.out.mono ?_
          rintro e w4 ⟨rfl, L1, hm1, hh1, hs1⟩
          obtain ⟨d0, d1, d2, ho⟩ := KEEP.out w4 hs1
          have HWO := Lib.hid (half_without hh1 HF.out.1 HF.out.2.1 hlw2 id)
          have HM1 := Lib.hid hm1
          have HS1 := Lib.hid hs1
          clear hm1 hh1 hs1 HPU
          go_wp2_with fail
          refine HWO.out.mono ?_
          rintro e w5 ⟨vo2, c2, Lw2, b, rfl, hb, hm2, hn2, hl2, -, -, hh2, -, hs2⟩
          obtain ⟨d0, d1, d2, ho⟩ := KEEP.out w5 (HS1.out.trans hs2)
          have HPP := Lib.hid (perm_put HP.out HM1.out hm2 hh2.one.nodup hn2)
          have HH2 := Lib.hid hh2
          have HS2 := Lib.hid (HS1.out.trans hs2)
          have HBN : Hid (∀ v' wZ, wZ.ownsRow 0 28 2 v' (Lw2.length + 1) (wV Lw2 ++ [.int .u64 id, .int .i64 v]) → (w5.alloc (.cells #[.int .u64 id, .int .i64 v] 28)).grownBy wZ (Value.ownBlock (.slice vo2 Lw2.length c2)) → (v'.ownBlock = Value.ownBlock (.slice vo2 Lw2.length c2) ∨ v'.ownBlock = some (w5.alloc (.cells #[.int .u64 id, .int .i64 v] 28)).heap.size) → ∃ vo' c' Lq' Lw', v' = .slice vo' Lw'.length c' ∧ Lw'.length ≤ k + 1 ∧ Hid (St X wZ q vo' c' Lq' Lw' ∧ Stay X w wZ)) := fun v' wZ g1 g2 g3 => by
            obtain ⟨vo', c', rfl, g5, g6⟩ := HH2.out.append (x := (id, v)) g1 g2 g3
            exact ⟨vo', c', L1, Lw2 ++ [(id, v)], by rw [List.length_append]; rfl, by rw [List.length_append]; simp; omega, HM.out _ _ _ _ _ g5 HPP.out (HS2.out.trans g6)⟩
          have HOW := Lib.hid hh2.own
          have hl3 : Lw2.length ≤ 1000 := by omega
          clear hb hm2 hn2 hl2 hh2 hs2 HWO
          go_wp2_with (at_builtin; refine wpList_append_own_at _ rfl (.tmp 73) (.tmp 79) 39 rfl 0 28 i0 (.agg #[.int .u64 0, .int .i64 0]) 2 16 Try.underlying39 hi hz0 hz1 hz2 rfl (by decide) _ _ _ rfl (HOW.out.alloc _) ⟨w5.heap.size, 0, none⟩ 1 1 [.int .u64 id, .int .i64 v] rfl rfl (cells_new _ _ _ _ rfl) (by simp [Value.oneCell']) (by unfold maxLen; omega) (by omega) (by simp) ?_; intro v' wZ g1 g2 _ g3)
          have HG := HBN.out v' wZ g1 g2 g3
          clear g1 g2 g3
          go_wp2
          go_meet
          exact HG
        · have qk0 : (κ == 0) = false := by simpa using k0
          clear k0
          by_cases k3 : κ = 3
          · subst k3
            have HWO := Lib.hid (half_without HH3.out HF.out.1 HF.out.2.1 hlw2 id)
            go_wp2_with fail
            refine HWO.out.mono ?_
            rintro e w4 ⟨vo2, c2, Lw2, b, rfl, hb, hm2, hn2, hl2, hbf, -, hh2, -, hs2⟩
            obtain ⟨d0, d1, d2, ho⟩ := KEEP.out w4 hs2
            have HSE := Lib.hid (half_set hh2 HW1.out HW2.out)
            have HS2 := Lib.hid hs2
            have HM2 := Lib.hid hm2
            have HN2 := Lib.hid hn2
            have HBB := Lib.hid hb
            have HBF := Lib.hid hbf
            have hl3 : Lw2.length ≤ 1000 := by omega
            clear hb hm2 hn2 hbf hh2 hs2 HWO
            go_wp2_with fail
            refine HSE.out.mono ?_
            rintro e w5 ⟨b', L1, rfl, hb', hm1, hh1, hs1⟩
            obtain rfl : b' = b := by
              have : (b' = true) ↔ (b = true) := by
                rw [hb', HBB.out]
                exact ⟨fun ⟨p, h1, h2⟩ => ⟨p, HP.out.mem_iff.1 h1, h2⟩, fun ⟨p, h1, h2⟩ => ⟨p, HP.out.mem_iff.2 h1, h2⟩⟩
              exact Bool.eq_iff_iff.2 this
            obtain ⟨d0, d1, d2, ho⟩ := KEEP.out w5 (HS2.out.trans hs1)
            have HM1 := Lib.hid hm1
            have HH1 := Lib.hid hh1
            have HS1 := Lib.hid (HS2.out.trans hs1)
            clear hb' hm1 hh1 hs1 HSE
            cases b'
            case true =>
              have HPP : Hid (L1.Perm (Lw2 ++ [(id, v)])) := perm_put HP.out (x := (id, v)) (fun p => by rw [HM1.out p]; simp) HM2.out HH1.out.one.nodup HN2.out
              have HBN : Hid (∀ v' wZ, wZ.ownsRow 0 28 2 v' (Lw2.length + 1) (wV Lw2 ++ [.int .u64 id, .int .i64 v]) → (w5.alloc (.cells #[.int .u64 id, .int .i64 v] 28)).grownBy wZ (Value.ownBlock (.slice vo2 Lw2.length c2)) → (v'.ownBlock = Value.ownBlock (.slice vo2 Lw2.length c2) ∨ v'.ownBlock = some (w5.alloc (.cells #[.int .u64 id, .int .i64 v] 28)).heap.size) → ∃ vo' c' Lq' Lw', v' = .slice vo' Lw'.length c' ∧ Lw'.length ≤ k + 1 ∧ Hid (St X wZ q vo' c' Lq' Lw' ∧ Stay X w wZ)) := fun v' wZ g1 g2 g3 => by
                obtain ⟨vo', c', rfl, g5, g6⟩ := HH1.out.append (x := (id, v)) g1 g2 g3
                exact ⟨vo', c', L1, Lw2 ++ [(id, v)], by rw [List.length_append]; rfl, by rw [List.length_append]; simp; omega, HM.out _ _ _ _ _ g5 HPP.out (HS1.out.trans g6)⟩
              have HOW := Lib.hid HH1.out.own
              clear hl2
              go_wp2_with (at_builtin; refine wpList_append_own_at _ rfl (.tmp 154) (.tmp 160) 39 rfl 0 28 i0 (.agg #[.int .u64 0, .int .i64 0]) 2 16 Try.underlying39 hi hz0 hz1 hz2 rfl (by decide) _ _ _ rfl (HOW.out.alloc _) ⟨w5.heap.size, 0, none⟩ 1 1 [.int .u64 id, .int .i64 v] rfl rfl (cells_new _ _ _ _ rfl) (by simp [Value.oneCell']) (by unfold maxLen; omega) (by omega) (by simp) ?_; intro v' wZ g1 g2 _ g3)
              have HG := HBN.out v' wZ g1 g2 g3
              clear g1 g2 g3
              go_wp2
              go_meet
              exact HG
            case false =>
              obtain ⟨rfl, rfl, rfl⟩ := HBF.out rfl
              have HG : ∃ vo' c' Lq' Lw', Value.slice vo2 Lw2.length c2 = .slice vo' Lw'.length c' ∧ Lw'.length ≤ k + 1 ∧ Hid (St X w5 q vo' c' Lq' Lw' ∧ Stay X w w5) := ⟨vo2, c2, L1, Lw2, rfl, by omega, HM.out _ _ _ _ _ HH1.out (perm_cut HP.out (id := id) (fun p => by rw [HM1.out p]; simp) HM2.out HH1.out.one.nodup HN2.out) HS1.out⟩
              go_wp2
              go_meet
              exact HG
          · have qk3 : (κ == 3) = false := by simpa using k3
            clear k3
            by_cases k12 : κ = 1 ∨ κ = 2
            · rcases k12 with rfl | rfl
              · skip
                have HSO := Lib.hid (sorted_any vo c Lw w3 HH3.out.wat.1 hlw2)
                go_wp2_with fail
                refine HSO.out.mono ?_
                rintro e w4 ⟨ao, cs, R, rfl, hRp, hRs, hRo, hRb⟩
                clear d0 d1 d2 ho HSO
                obtain ⟨d0, d1, d2, ho⟩ := KEEP.out w4 (Stay.of_below hRb)
                have hal := (Below.refl w4.heap.size w4).alloc (Nat.le_refl _) (.cells #[.int .u64 0, .int .i64 0] 28)
                have HH4 := Lib.hid ((HH3.out.moreR hRb hRo).more hal (Nat.le_refl _) (by rw [World.size_alloc]; omega))
                have HS4 : Hid (Stay X2 w3 (w4.alloc (.cells #[.int .u64 0, .int .i64 0] 28))) := (Stay.of_below hRb).trans (Stay.of_below hal)
                have HA4 : Hid (WAt (w4.alloc (.cells #[.int .u64 0, .int .i64 0] 28)) ao R) := (wAt_own rfl hRo).below hal
                have HB4 : Hid ((w4.alloc (.cells #[.int .u64 0, .int .i64 0] 28)).heap[w4.heap.size]? = some (.cells #[.int .u64 0, .int .i64 0] 28 (0, 0))) := heap_new _ _ _ rfl
                have HZ4 : Hid (w4.heap.size < (w4.alloc (.cells #[.int .u64 0, .int .i64 0] 28)).heap.size) := by show _ < _; rw [World.size_alloc]; omega
                have HO4 : Hid (∀ g o s, ao = some ⟨g, o, s⟩ → g < w4.heap.size) := row_lt ⟨hRo.1, hRo.2.imp (fun h => h) fun ⟨g, cap, cur, hv, _, r⟩ => ⟨g, cap, cur, hv, Nat.zero_le _, r⟩⟩
                have HOX : Hid (o ≠ w4.heap.size) := Nat.ne_of_lt ho
                have HAX : Hid (∀ g o s, ao = some ⟨g, o, s⟩ → g ≠ w4.heap.size) := fun g o s e => Nat.ne_of_lt (HO4.out g o s e)
                have HSX : Hid (∀ a b, Turn (fun k => k = w4.heap.size) a b → Stay X2 a b) := fun a b h => stay_one (fun hx => Nat.lt_irrefl _ (Nat.lt_of_lt_of_le (HH3.out.lt _ hx) hRb.size)) h
                have HRP := Lib.hid hRp
                have HRS := Lib.hid hRs
                clear hRp hRs hRo hRb hal
                go_upto_region 23 with (fail)
                clear d0 d1 d2 ho
                generalize w4.alloc (.cells #[.int .u64 0, .int .i64 0] 28) = w5 at *
                generalize w4.heap.size = x8 at *
                obtain ⟨X4, hX4⟩ : ∃ X4 : Nat → Prop, X4 = fun k => XR X2 ao k ∨ k = x8 := ⟨_, rfl⟩
                rw [← hX4] at HH4
                have HX4 : Hid (X4 x8 ∧ (∀ k, X2 k → X4 k) ∧ ∀ g o s, ao = some ⟨g, o, s⟩ → X4 g) := by rw [hX4]; exact ⟨.inr rfl, fun k hk => .inl (.inl hk), fun g o s e => .inl (.inr ⟨o, s, e⟩)⟩
                obtain ⟨d0, d1, d2, ho⟩ := KEEP.out w5 HS4.out
                clear hX4
                by_cases h0 : 0 < Lq.length
                · have hxm : wg Lq 0 ∈ Lq := wg_mem h0
                  have hR0 := sorted_first (HRP.out.trans HP.out.symm) HRS.out h0 HF.out.2.2.2
                  have hRl : 0 < R.length := by rw [HRP.out.length_eq, ← HP.out.length_eq]; exact h0
                  have hpk := half_pop HH4.out
                  rw [decide_eq_true h0] at hpk
                  obtain ⟨x, hx⟩ : ∃ x, wg Lq 0 = x := ⟨_, rfl⟩
                  rw [hx] at hpk hR0 hxm
                  have HPK := Lib.hid hpk
                  have HR0 := Lib.hid hR0
                  have HXM := Lib.hid hxm
                  have qR : decide (0 < R.length) = true := by simpa using hRl
                  unfold aggW at HPK
                  clear hpk hR0 hxm hx h0
                  go_wp2_with fail
                  refine HPK.out.mono ?_
                  rintro e w6 ⟨rfl, L1, hm1, -, hh6, hs6⟩
                  obtain ⟨d0, d1, d2, ho⟩ := KEEP.out w6 (HS4.out.trans (hs6.less HX4.out.2.1))
                  have hb6 : w6.heap[x8]? = some (.cells #[.int .u64 0, .int .i64 0] 28 (0, 0)) := (hs6.block HZ4.out HX4.out.1).trans HB4.out
                  obtain ⟨y0, y1, y2⟩ := put2 (a := .int .u64 x.1) (b := .int .i64 x.2) hb6
                  have e0 : w6.cell? ⟨x8, 0, none⟩ = some (.int .u64 0) := cell_of_row _ _ 0 _ _ _ hb6
                  have e1 : w6.cell? ⟨x8, 1, none⟩ = some (.int .i64 0) := cell_of_row _ _ 1 _ _ _ hb6
                  have f0 : w6.frozen? ⟨x8, 0, none⟩ = false := frozen_of_row hb6
                  have f1 : w6.frozen? ⟨x8, 1, none⟩ = false := frozen_of_row hb6
                  have hx6 : x8 < w6.heap.size := Nat.lt_of_lt_of_le HZ4.out hs6.size
                  have HY0 := Lib.hid y0
                  have HY1 := Lib.hid y1
                  have HY2 := Lib.hid y2
                  have HX6 := Lib.hid hx6
                  have HM1 : Hid (∀ p, p ∈ L1 ↔ p ∈ Lq ∧ p.1 ≠ x.1) := pop_ids HF.out.2.2.1 HXM.out hm1
                  have HS6 : Hid (Stay X4 w5 w6) := hs6
                  have HH6 : Hid (Half X4 ((w6.setCell ⟨x8, 0, none⟩ (.int .u64 x.1)).setCell ⟨x8, 1, none⟩ (.int .i64 x.2)) q vo c L1 Lw) := hh6.wrote HX4.out.1 y2
                  clear hb6 y0 y1 y2 hs6 hh6 HPK hm1
                  go_upto_region 26 with (fail)
                  have hs7 : Turn (fun k => k = x8) w6 ((w6.setCell ⟨x8, 0, none⟩ (.int .u64 x.1)).setCell ⟨x8, 1, none⟩ (.int .i64 x.2)) := HY2.out
                  clear d0 d1 d2 ho e0 e1 f0 f1
                  have e0 := HY0.out
                  have e1 := HY1.out
                  clear HY0 HY1 HY2
                  generalize (w6.setCell ⟨x8, 0, none⟩ (.int .u64 x.1)).setCell ⟨x8, 1, none⟩ (.int .i64 x.2) = w7 at *
                  obtain ⟨b8, off8, rfl, hb8, hc8⟩ := HA4.out hRl
                  have hne8 : b8 ≠ x8 := HAX.out b8 off8 none rfl
                  have hx7 : x8 < w7.heap.size := Nat.lt_of_lt_of_le HX6.out hs7.2.2.2.1
                  have ht7 : Turn (fun k => k = x8) w5 w7 ∨ True := .inr trivial
                  have hblk : w7.heap[b8]? = w5.heap[b8]? := (hs7.2.2.2.2 b8 (Nat.lt_of_lt_of_le hb8 HS6.out.size) hne8).trans (HS6.out.block hb8 (HX4.out.2.2 b8 off8 none rfl))
                  have hc0 := hc8 0 hRl
                  rw [HR0.out, Nat.zero_mul, Nat.add_zero] at hc0
                  have g0 : w7.cell? ⟨b8, off8, none⟩ = some (.int .u64 x.1) := (World.cell?_of_block (w := w5) (a := ⟨b8, off8, none⟩) hblk).trans hc0.1
                  have g1 : w7.cell? ⟨b8, off8 + 1, none⟩ = some (.int .i64 x.2) := (World.cell?_of_block (w := w5) (a := ⟨b8, off8 + 1, none⟩) hblk).trans hc0.2
                  have hb7 : b8 < w7.heap.size := Nat.lt_of_lt_of_le hb8 (Nat.le_trans HS6.out.size hs7.2.2.2.1)
                  have hblo : w7.heap[o]? = w6.heap[o]? := hs7.2.2.2.2 o (KEEP.out w6 (HS4.out.trans (HS6.out.less HX4.out.2.1))).2.2.2 HOX.out
                  have d0 : w7.cell? ⟨o, 0, none⟩ = some (.int .i64 1) := (World.cell?_of_block (w := w6) (a := ⟨o, 0, none⟩) hblo).trans (KEEP.out w6 (HS4.out.trans (HS6.out.less HX4.out.2.1))).1
                  have ho : o < w7.heap.size := Nat.lt_of_lt_of_le (KEEP.out w6 (HS4.out.trans (HS6.out.less HX4.out.2.1))).2.2.2 hs7.2.2.2.1
                  have HS7 : Hid (Stay X2 w3 w7) := (HS4.out.trans (HS6.out.less HX4.out.2.1)).trans (HSX.out w6 w7 hs7)
                  clear hblk hblo hc0 hc8 hs7 ht7 hne8
                  have EQ := eq_wt
                  go_quiet (fail)
                  go_upto_region 28 with (fail)
                  have hs8 : Stay X2 w3 (w7.drewN nq) := HS7.out.trans (Stay.of_below (below_dn w7 nq))
                  have hh8 := HH6.out.later (below_dn w7 nq)
                  have HS8 := Lib.hid hs8
                  have HWO := Lib.hid (half_without hh8 HF.out.1 HF.out.2.1 hlw2 x.1)
                  clear hs8 hh8
                  go_wp2_with fail
                  refine HWO.out.mono ?_
                  rintro e w8 ⟨vo2, c2, Lw2, b, rfl, hb, hm2, hn2, hl2, -, -, hh2, -, hs2⟩
                  have HG : ∃ vo' c' Lq' Lw', Value.slice vo2 Lw2.length c2 = .slice vo' Lw'.length c' ∧ Lw'.length ≤ k + 1 ∧ Hid (St X w8 q vo' c' Lq' Lw' ∧ Stay X w w8) := ⟨vo2, c2, L1, Lw2, rfl, by omega, HM.out _ _ _ _ _ (hh2.less HX4.out.2.1) (perm_cut HP.out HM1.out hm2 hh2.one.nodup hn2) (HS8.out.trans (hs2.less HX4.out.2.1))⟩
                  clear hb hm2 hn2 hl2 hh2 hs2
                  go_wp2
                  go_meet
                  exact HG
                · obtain rfl : Lq = [] := List.eq_nil_of_length_eq_zero (by omega)
                  obtain rfl : Lw = [] := HP.out.nil_eq.symm
                  obtain rfl : R = [] := HRP.out.eq_nil
                  have hpk := half_pop HH4.out
                  rw [show wg ([] : List Wt) 0 = (0, 0) from rfl, decide_eq_false (by simp : ¬ 0 < ([] : List Wt).length)] at hpk
                  have HPK := Lib.hid hpk
                  unfold aggW at HPK
                  clear hpk h0
                  go_wp2_with fail
                  refine HPK.out.mono ?_
                  rintro e w6 ⟨rfl, L1, -, hl1, hh6, hs6⟩
                  obtain rfl : L1 = [] := List.eq_nil_of_length_eq_zero (by simpa using hl1)
                  clear hl1
                  obtain ⟨d0, d1, d2, ho⟩ := KEEP.out w6 (HS4.out.trans (hs6.less HX4.out.2.1))
                  have hb6 : w6.heap[x8]? = some (.cells #[.int .u64 0, .int .i64 0] 28 (0, 0)) := (hs6.block HZ4.out HX4.out.1).trans HB4.out
                  obtain ⟨y0, y1, y2⟩ := put2 (a := .int .u64 0) (b := .int .i64 0) hb6
                  have e0 : w6.cell? ⟨x8, 0, none⟩ = some (.int .u64 0) := cell_of_row _ _ 0 _ _ _ hb6
                  have e1 : w6.cell? ⟨x8, 1, none⟩ = some (.int .i64 0) := cell_of_row _ _ 1 _ _ _ hb6
                  have f0 : w6.frozen? ⟨x8, 0, none⟩ = false := frozen_of_row hb6
                  have f1 : w6.frozen? ⟨x8, 1, none⟩ = false := frozen_of_row hb6
                  have hx6 : x8 < w6.heap.size := Nat.lt_of_lt_of_le HZ4.out hs6.size
                  have HY0 := Lib.hid y0
                  have HY1 := Lib.hid y1
                  have HY2 := Lib.hid y2
                  have HX6 := Lib.hid hx6
                  have HS6 : Hid (Stay X4 w5 w6) := hs6
                  have HH6 : Hid (Half X4 ((w6.setCell ⟨x8, 0, none⟩ (.int .u64 0)).setCell ⟨x8, 1, none⟩ (.int .i64 0)) q vo c [] []) := hh6.wrote HX4.out.1 y2
                  clear hb6 y0 y1 y2 hs6 hh6 HPK
                  go_upto_region 26 with (fail)
                  have hs7 : Turn (fun k => k = x8) w6 ((w6.setCell ⟨x8, 0, none⟩ (.int .u64 0)).setCell ⟨x8, 1, none⟩ (.int .i64 0)) := HY2.out
                  clear d0 d1 d2 ho e0 e1 f0 f1
                  have e0 := HY0.out
                  have e1 := HY1.out
                  clear HY0 HY1 HY2
                  generalize (w6.setCell ⟨x8, 0, none⟩ (.int .u64 0)).setCell ⟨x8, 1, none⟩ (.int .i64 0) = w7 at *
                  have hx7 : x8 < w7.heap.size := Nat.lt_of_lt_of_le HX6.out hs7.2.2.2.1
                  have HS7 : Hid (Stay X2 w3 w7) := (HS4.out.trans (HS6.out.less HX4.out.2.1)).trans (HSX.out w6 w7 hs7)
                  clear hs7
                  have EQ := eq_wt
                  go_quiet (fail)
                  have hs8 : Stay X2 w3 (w7.drewN nq) := HS7.out.trans (Stay.of_below (below_dn w7 nq))
                  have hh8 := HH6.out.later (below_dn w7 nq)
                  have HG : ∃ vo' c' Lq' Lw', Value.slice vo 0 c = .slice vo' Lw'.length c' ∧ Lw'.length ≤ k + 1 ∧ Hid (St X (w7.drewN nq) q vo' c' Lq' Lw' ∧ Stay X w (w7.drewN nq)) := ⟨vo, c, [], [], rfl, by simp, HM.out _ _ _ _ _ (hh8.less HX4.out.2.1) (List.Perm.refl _) hs8⟩
                  clear hs8 hh8
                  go_wp2
                  go_meet
                  exact HG
              · skip
                have HSO := Lib.hid (sorted_any vo c Lw w3 HH3.out.wat.1 hlw2)
                go_wp2_with fail
                refine HSO.out.mono ?_
                rintro e w4 ⟨ao, cs, R, rfl, hRp, hRs, hRo, hRb⟩
                clear d0 d1 d2 ho HSO
                obtain ⟨d0, d1, d2, ho⟩ := KEEP.out w4 (Stay.of_below hRb)
                have hal := (Below.refl w4.heap.size w4).alloc (Nat.le_refl _) (.cells #[.int .u64 0, .int .i64 0] 28)
                have HH4 := Lib.hid ((HH3.out.moreR hRb hRo).more hal (Nat.le_refl _) (by rw [World.size_alloc]; omega))
                have HS4 : Hid (Stay X2 w3 (w4.alloc (.cells #[.int .u64 0, .int .i64 0] 28))) := (Stay.of_below hRb).trans (Stay.of_below hal)
                have HA4 : Hid (WAt (w4.alloc (.cells #[.int .u64 0, .int .i64 0] 28)) ao R) := (wAt_own rfl hRo).below hal
                have HB4 : Hid ((w4.alloc (.cells #[.int .u64 0, .int .i64 0] 28)).heap[w4.heap.size]? = some (.cells #[.int .u64 0, .int .i64 0] 28 (0, 0))) := heap_new _ _ _ rfl
                have HZ4 : Hid (w4.heap.size < (w4.alloc (.cells #[.int .u64 0, .int .i64 0] 28)).heap.size) := by show _ < _; rw [World.size_alloc]; omega
                have HO4 : Hid (∀ g o s, ao = some ⟨g, o, s⟩ → g < w4.heap.size) := row_lt ⟨hRo.1, hRo.2.imp (fun h => h) fun ⟨g, cap, cur, hv, _, r⟩ => ⟨g, cap, cur, hv, Nat.zero_le _, r⟩⟩
                have HOX : Hid (o ≠ w4.heap.size) := Nat.ne_of_lt ho
                have HAX : Hid (∀ g o s, ao = some ⟨g, o, s⟩ → g ≠ w4.heap.size) := fun g o s e => Nat.ne_of_lt (HO4.out g o s e)
                have HSX : Hid (∀ a b, Turn (fun k => k = w4.heap.size) a b → Stay X2 a b) := fun a b h => stay_one (fun hx => Nat.lt_irrefl _ (Nat.lt_of_lt_of_le (HH3.out.lt _ hx) hRb.size)) h
                have HRP := Lib.hid hRp
                have HRS := Lib.hid hRs
                clear hRp hRs hRo hRb hal
                go_upto_region 23 with (fail)
                clear d0 d1 d2 ho
                generalize w4.alloc (.cells #[.int .u64 0, .int .i64 0] 28) = w5 at *
                generalize w4.heap.size = x8 at *
                obtain ⟨X4, hX4⟩ : ∃ X4 : Nat → Prop, X4 = fun k => XR X2 ao k ∨ k = x8 := ⟨_, rfl⟩
                rw [← hX4] at HH4
                have HX4 : Hid (X4 x8 ∧ (∀ k, X2 k → X4 k) ∧ ∀ g o s, ao = some ⟨g, o, s⟩ → X4 g) := by rw [hX4]; exact ⟨.inr rfl, fun k hk => .inl (.inl hk), fun g o s e => .inl (.inr ⟨o, s, e⟩)⟩
                obtain ⟨d0, d1, d2, ho⟩ := KEEP.out w5 HS4.out
                clear hX4
                by_cases h0 : 0 < Lq.length
                · have hxm : wg Lq 0 ∈ Lq := wg_mem h0
                  have hR0 := sorted_first (HRP.out.trans HP.out.symm) HRS.out h0 HF.out.2.2.2
                  have hRl : 0 < R.length := by rw [HRP.out.length_eq, ← HP.out.length_eq]; exact h0
                  have hpk := half_peek HH4.out
                  rw [decide_eq_true h0] at hpk
                  obtain ⟨x, hx⟩ : ∃ x, wg Lq 0 = x := ⟨_, rfl⟩
                  rw [hx] at hpk hR0 hxm
                  have HPK := Lib.hid hpk
                  have HR0 := Lib.hid hR0
                  have HXM := Lib.hid hxm
                  have qR : decide (0 < R.length) = true := by simpa using hRl
                  unfold aggW at HPK
                  clear hpk hR0 hxm hx h0
                  go_wp2_with fail
                  refine HPK.out.mono ?_
                  rintro e w6 ⟨rfl, hh6, hs6⟩
                  obtain ⟨d0, d1, d2, ho⟩ := KEEP.out w6 (HS4.out.trans (hs6.less HX4.out.2.1))
                  have hb6 : w6.heap[x8]? = some (.cells #[.int .u64 0, .int .i64 0] 28 (0, 0)) := (hs6.block HZ4.out HX4.out.1).trans HB4.out
                  obtain ⟨y0, y1, y2⟩ := put2 (a := .int .u64 x.1) (b := .int .i64 x.2) hb6
                  have e0 : w6.cell? ⟨x8, 0, none⟩ = some (.int .u64 0) := cell_of_row _ _ 0 _ _ _ hb6
                  have e1 : w6.cell? ⟨x8, 1, none⟩ = some (.int .i64 0) := cell_of_row _ _ 1 _ _ _ hb6
                  have f0 : w6.frozen? ⟨x8, 0, none⟩ = false := frozen_of_row hb6
                  have f1 : w6.frozen? ⟨x8, 1, none⟩ = false := frozen_of_row hb6
                  have hx6 : x8 < w6.heap.size := Nat.lt_of_lt_of_le HZ4.out hs6.size
                  have HY0 := Lib.hid y0
                  have HY1 := Lib.hid y1
                  have HY2 := Lib.hid y2
                  have HX6 := Lib.hid hx6
                  have HS6 : Hid (Stay X4 w5 w6) := hs6
                  have HH6 : Hid (Half X4 ((w6.setCell ⟨x8, 0, none⟩ (.int .u64 x.1)).setCell ⟨x8, 1, none⟩ (.int .i64 x.2)) q vo c Lq Lw) := hh6.wrote HX4.out.1 y2
                  clear hb6 y0 y1 y2 hs6 hh6 HPK
                  go_upto_region 26 with (fail)
                  have hs7 : Turn (fun k => k = x8) w6 ((w6.setCell ⟨x8, 0, none⟩ (.int .u64 x.1)).setCell ⟨x8, 1, none⟩ (.int .i64 x.2)) := HY2.out
                  clear d0 d1 d2 ho e0 e1 f0 f1
                  have e0 := HY0.out
                  have e1 := HY1.out
                  clear HY0 HY1 HY2
                  generalize (w6.setCell ⟨x8, 0, none⟩ (.int .u64 x.1)).setCell ⟨x8, 1, none⟩ (.int .i64 x.2) = w7 at *
                  obtain ⟨b8, off8, rfl, hb8, hc8⟩ := HA4.out hRl
                  have hne8 : b8 ≠ x8 := HAX.out b8 off8 none rfl
                  have hx7 : x8 < w7.heap.size := Nat.lt_of_lt_of_le HX6.out hs7.2.2.2.1
                  have ht7 : Turn (fun k => k = x8) w5 w7 ∨ True := .inr trivial
                  have hblk : w7.heap[b8]? = w5.heap[b8]? := (hs7.2.2.2.2 b8 (Nat.lt_of_lt_of_le hb8 HS6.out.size) hne8).trans (HS6.out.block hb8 (HX4.out.2.2 b8 off8 none rfl))
                  have hc0 := hc8 0 hRl
                  rw [HR0.out, Nat.zero_mul, Nat.add_zero] at hc0
                  have g0 : w7.cell? ⟨b8, off8, none⟩ = some (.int .u64 x.1) := (World.cell?_of_block (w := w5) (a := ⟨b8, off8, none⟩) hblk).trans hc0.1
                  have g1 : w7.cell? ⟨b8, off8 + 1, none⟩ = some (.int .i64 x.2) := (World.cell?_of_block (w := w5) (a := ⟨b8, off8 + 1, none⟩) hblk).trans hc0.2
                  have hb7 : b8 < w7.heap.size := Nat.lt_of_lt_of_le hb8 (Nat.le_trans HS6.out.size hs7.2.2.2.1)
                  have hblo : w7.heap[o]? = w6.heap[o]? := hs7.2.2.2.2 o (KEEP.out w6 (HS4.out.trans (HS6.out.less HX4.out.2.1))).2.2.2 HOX.out
                  have d0 : w7.cell? ⟨o, 0, none⟩ = some (.int .i64 2) := (World.cell?_of_block (w := w6) (a := ⟨o, 0, none⟩) hblo).trans (KEEP.out w6 (HS4.out.trans (HS6.out.less HX4.out.2.1))).1
                  have ho : o < w7.heap.size := Nat.lt_of_lt_of_le (KEEP.out w6 (HS4.out.trans (HS6.out.less HX4.out.2.1))).2.2.2 hs7.2.2.2.1
                  have HS7 : Hid (Stay X2 w3 w7) := (HS4.out.trans (HS6.out.less HX4.out.2.1)).trans (HSX.out w6 w7 hs7)
                  clear hblk hblo hc0 hc8 hs7 ht7 hne8
                  have EQ := eq_wt
                  go_quiet (fail)
                  go_upto_region 28 with (fail)
                  have hs8 : Stay X2 w3 (w7.drewN nq) := HS7.out.trans (Stay.of_below (below_dn w7 nq))
                  have hh8 := HH6.out.later (below_dn w7 nq)
                  have HG : ∃ vo' c' Lq' Lw', Value.slice vo Lw.length c = .slice vo' Lw'.length c' ∧ Lw'.length ≤ k + 1 ∧ Hid (St X (w7.drewN nq) q vo' c' Lq' Lw' ∧ Stay X w (w7.drewN nq)) := ⟨vo, c, Lq, Lw, rfl, by omega, HM.out _ _ _ _ _ (hh8.less HX4.out.2.1) HP.out hs8⟩
                  clear hs8 hh8
                  go_wp2
                  go_meet
                  exact HG
                · obtain rfl : Lq = [] := List.eq_nil_of_length_eq_zero (by omega)
                  obtain rfl : Lw = [] := HP.out.nil_eq.symm
                  obtain rfl : R = [] := HRP.out.eq_nil
                  have hpk := half_peek HH4.out
                  rw [show wg ([] : List Wt) 0 = (0, 0) from rfl, decide_eq_false (by simp : ¬ 0 < ([] : List Wt).length)] at hpk
                  have HPK := Lib.hid hpk
                  unfold aggW at HPK
                  clear hpk h0
                  go_wp2_with fail
                  refine HPK.out.mono ?_
                  rintro e w6 ⟨rfl, hh6, hs6⟩
                  obtain ⟨d0, d1, d2, ho⟩ := KEEP.out w6 (HS4.out.trans (hs6.less HX4.out.2.1))
                  have hb6 : w6.heap[x8]? = some (.cells #[.int .u64 0, .int .i64 0] 28 (0, 0)) := (hs6.block HZ4.out HX4.out.1).trans HB4.out
                  obtain ⟨y0, y1, y2⟩ := put2 (a := .int .u64 0) (b := .int .i64 0) hb6
                  have e0 : w6.cell? ⟨x8, 0, none⟩ = some (.int .u64 0) := cell_of_row _ _ 0 _ _ _ hb6
                  have e1 : w6.cell? ⟨x8, 1, none⟩ = some (.int .i64 0) := cell_of_row _ _ 1 _ _ _ hb6
                  have f0 : w6.frozen? ⟨x8, 0, none⟩ = false := frozen_of_row hb6
                  have f1 : w6.frozen? ⟨x8, 1, none⟩ = false := frozen_of_row hb6
                  have hx6 : x8 < w6.heap.size := Nat.lt_of_lt_of_le HZ4.out hs6.size
                  have HY0 := Lib.hid y0
                  have HY1 := Lib.hid y1
                  have HY2 := Lib.hid y2
                  have HX6 := Lib.hid hx6
                  have HS6 : Hid (Stay X4 w5 w6) := hs6
                  have HH6 : Hid (Half X4 ((w6.setCell ⟨x8, 0, none⟩ (.int .u64 0)).setCell ⟨x8, 1, none⟩ (.int .i64 0)) q vo c [] []) := hh6.wrote HX4.out.1 y2
                  clear hb6 y0 y1 y2 hs6 hh6 HPK
                  go_upto_region 26 with (fail)
                  have hs7 : Turn (fun k => k = x8) w6 ((w6.setCell ⟨x8, 0, none⟩ (.int .u64 0)).setCell ⟨x8, 1, none⟩ (.int .i64 0)) := HY2.out
                  clear d0 d1 d2 ho e0 e1 f0 f1
                  have e0 := HY0.out
                  have e1 := HY1.out
                  clear HY0 HY1 HY2
                  generalize (w6.setCell ⟨x8, 0, none⟩ (.int .u64 0)).setCell ⟨x8, 1, none⟩ (.int .i64 0) = w7 at *
                  have hx7 : x8 < w7.heap.size := Nat.lt_of_lt_of_le HX6.out hs7.2.2.2.1
                  have HS7 : Hid (Stay X2 w3 w7) := (HS4.out.trans (HS6.out.less HX4.out.2.1)).trans (HSX.out w6 w7 hs7)
                  clear hs7
                  have EQ := eq_wt
                  go_quiet (fail)
                  have hs8 : Stay X2 w3 (w7.drewN nq) := HS7.out.trans (Stay.of_below (below_dn w7 nq))
                  have hh8 := HH6.out.later (below_dn w7 nq)
                  have HG : ∃ vo' c' Lq' Lw', Value.slice vo 0 c = .slice vo' Lw'.length c' ∧ Lw'.length ≤ k + 1 ∧ Hid (St X (w7.drewN nq) q vo' c' Lq' Lw' ∧ Stay X w (w7.drewN nq)) := ⟨vo, c, [], [], rfl, by simp, HM.out _ _ _ _ _ (hh8.less HX4.out.2.1) (List.Perm.refl _) hs8⟩
                  clear hs8 hh8
                  go_wp2
                  go_meet
                  exact HG
            · have qk1 : (κ == 1) = false := by simp; omega
              have qk2 : (κ == 2) = false := by simp; omega
              clear k12
              have HWO := Lib.hid (half_without HH3.out HF.out.1 HF.out.2.1 hlw2 id)
              go_wp2_with fail
              refine HWO.out.mono ?_
              rintro e w4 ⟨vo2, c2, Lw2, b, rfl, hb, hm2, hn2, hl2, -, -, hh2, -, hs2⟩
              obtain ⟨d0, d1, d2, ho⟩ := KEEP.out w4 hs2
              have HSE := Lib.hid (half_drop hh2 HW1.out)
              have HS2 := Lib.hid hs2
              have HM2 := Lib.hid hm2
              have HN2 := Lib.hid hn2
              have HBB := Lib.hid hb
              have hl3 : Lw2.length ≤ k + 1 := by omega
              clear hb hm2 hn2 hl2 hh2 hs2 HWO
              go_wp2_with fail
              refine HSE.out.mono ?_
              rintro e w5 ⟨b', L1, rfl, hb', hm1, hh1, hs1⟩
              obtain rfl : b' = b := by
                have : (b' = true) ↔ (b = true) := by
                  rw [hb', HBB.out]
                  exact ⟨fun ⟨p, h1, h2⟩ => ⟨p, HP.out.mem_iff.1 h1, h2⟩, fun ⟨p, h1, h2⟩ => ⟨p, HP.out.mem_iff.2 h1, h2⟩⟩
                exact Bool.eq_iff_iff.2 this
              have HG : ∃ vo' c' Lq' Lw', Value.slice vo2 Lw2.length c2 = .slice vo' Lw'.length c' ∧ Lw'.length ≤ k + 1 ∧ Hid (St X w5 q vo' c' Lq' Lw' ∧ Stay X w w5) := ⟨vo2, c2, L1, Lw2, rfl, hl3, HM.out _ _ _ _ _ hh1 (perm_cut HP.out hm1 HM2.out hh1.one.nodup HN2.out) (HS2.out.trans hs1)⟩
              clear hb' hm1 hh1 hs1 HSE HBB
              cases b'
              all_goals
                go_wp2
                go_meet
                exact HG
      case rest =>
        obtain ⟨vo', c', Lq', Lw', rfl, hl', H4⟩ := hcut
        have hln := one_len H4.out.1.one
        rw [H4.out.1.perm.length_eq] at hln
        have HLN := Lib.hid hln
        clear hln
        go_wp2_with fail
        refine HLN.out.mono ?_
        rintro e w9 ⟨rfl, rfl⟩
        go_wp2
        go_roundw
        case rel => exact ⟨k + 1, vo', c', Lq', Lw', by omega, by omega, by go_num, rfl, hl', H4.out⟩
        case measure => simp [RowKit.intOf]; omega
    · have hk3 : k = n0 ∨ (k < n0 ∧ k = 80) := by omega
      clear hlt
      rcases hk3 with hk3 | ⟨hk3, hk4⟩
      case' inl =>
        have q1 : decide (k < n0) = false := by simp; omega
        have q2 : True := trivial
        clear hk3
      case' inr =>
        have q1 : decide (k < n0) = true := by simpa using hk3
        have q2 : decide ((k : Int) < 80) = false := by simp; omega
        clear hk3 hk4
      all_goals
        have HSO := Lib.hid (sorted_any vo c Lw wr HR.out.1.half.wat.1 (by omega))
        clear H2
        obtain ⟨wo, hwo⟩ : ∃ wo : World, wo = wr := ⟨_, rfl⟩
        subst hwo
        go_wp2_with fail
        refine HSO.out.mono ?_
        rintro e w4 ⟨ao, cs, R, rfl, hRp, hRs, hRo, hRb⟩
        have H4 : Hid (Lq.Perm R ∧ SortedW R ∧ One (XR X ao) w4 q Lq ∧ WAt w4 ao R ∧ Stay X w w4) := ⟨HR.out.1.perm.trans hRp.symm, hRs, (HR.out.1.half.moreR hRb hRo).one, wAt_own rfl hRo, HR.out.2.trans (Stay.of_below hRb)⟩
        have hR80 : R.length ≤ 80 := by rw [hRp.length_eq]; omega
        clear hRp hRs hRo hRb HSO HR q1 q2
        go_wp2
        go_loopw [15] (fun i wr => ∃ (j : Nat) (L : List Wt), j ≤ R.length ∧ i = .int .i64 j ∧ Hid (L.Perm (R.drop j) ∧ One (XR X ao) wr q L ∧ Stay (XR X ao) w4 wr)) (fun i _ => R.length - (RowKit.intOf i).toNat)
        case atStart => exact ⟨0, Lq, Nat.zero_le _, rfl, H4.out.1, H4.out.2.2.1, Stay.refl _ _⟩
        case round =>
          obtain ⟨j, L, hj, rfl, HJ⟩ := hrel
          by_cases hjl : j < R.length
          · obtain ⟨hpos, hx0⟩ := next_one H4.out.2.1 hjl HJ.out.1 HJ.out.2.1.first
            have hpp := one_pop HJ.out.2.1
            rw [decide_eq_true hpos, hx0] at hpp
            simp only [if_pos hpos] at hpp
            obtain ⟨x, hx⟩ : ∃ x, wg R j = x := ⟨_, rfl⟩
            rw [hx] at hpp
            have HX0 := Lib.hid hx
            have HPP := Lib.hid hpp
            have qj : decide (j < R.length) = true := by simpa using hjl
            have HJL := Lib.hid hjl
            unfold aggW at HPP
            clear hpos hx0 hpp hx
            go_wp2_with fail
            refine HPP.out.mono ?_
            rintro e w5 ⟨rfl, L1, hp1, ho1, hs1⟩
            have hal : Below w5.heap.size w5 (w5.alloc (.cells #[.int .u64 x.1, .int .i64 x.2] 28)) := (Below.refl _ _).alloc (Nat.le_refl _) _
            have HNX : Hid (L1.Perm (R.drop (j + 1)) ∧ ∀ nq, One (XR X ao) ((w5.alloc (.cells #[.int .u64 x.1, .int .i64 x.2] 28)).drewN nq) q L1 ∧ Stay (XR X ao) w4 ((w5.alloc (.cells #[.int .u64 x.1, .int .i64 x.2] 28)).drewN nq)) :=
              ⟨next_rest HJL.out HJ.out.1 (by rw [HX0.out]; exact hp1), fun nq => ⟨(ho1.later hal).later (below_dn _ nq), ((HJ.out.2.2.trans hs1).trans (Stay.of_below hal)).trans (Stay.of_below (below_dn _ nq))⟩⟩
            have hwa : WAt w5 ao R := H4.out.2.2.2.1.stay (HJ.out.2.2.trans hs1) fun g o s e => .inr ⟨o, s, e⟩
            obtain ⟨b8, off8, rfl, hb8, hc8⟩ := hwa (by omega)
            have hc0 := hc8 j hjl
            rw [HX0.out] at hc0
            obtain ⟨g0, g1⟩ := hc0
            clear hc8 hwa hal hp1 ho1 hs1 HPP HJ
            have EQ := eq_wt
            go_upto_region 43 with (fail)
            go_quiet (fail)
            go_wp2
            go_roundw
            case rel => exact ⟨j + 1, L1, by omega, by go_num, HNX.out.1, HNX.out.2 _⟩
            case measure => simp [RowKit.intOf]; omega
          · obtain rfl : j = R.length := by omega
            obtain rfl : L = [] := by
              have := HJ.out.1
              rw [List.drop_length] at this
              exact this.eq_nil
            have hpp := one_pop HJ.out.2.1
            rw [show wg ([] : List Wt) 0 = (0, 0) from rfl, decide_eq_false (by simp : ¬ 0 < ([] : List Wt).length)] at hpp
            simp only [if_neg (by simp : ¬ 0 < ([] : List Wt).length)] at hpp
            have HPP := Lib.hid hpp
            unfold aggW at HPP
            clear hpp hjl
            go_wp2_with fail
            refine HPP.out.mono ?_
            rintro e w5 ⟨rfl, L1, rfl, ho1, hs1⟩
            have hal : Below w5.heap.size w5 (w5.alloc (.cells #[.int .u64 0, .int .i64 0] 28)) := (Below.refl _ _).alloc (Nat.le_refl _) _
            have HLN := Lib.hid (one_len (ho1.later hal))
            have HFF := Lib.hid (HBELOW.out _ (H4.out.2.2.2.2.trans (((HJ.out.2.2.trans hs1).trans (Stay.of_below hal)).less fun k hk => .inl hk)))
            clear ho1 hs1 hal HPP
            go_wp2_with fail
            refine HLN.out.mono ?_
            rintro e w6 ⟨rfl, rfl⟩
            go_wp2
            go_ret
            exact ⟨rfl, HFF.out⟩
theorem walk {w : World} (a0 : Option Addr) (n0 c0 : Nat) (ls0 : List OpT) (l0 : ls0.length = n0) (h0 : OpsAt w w.heap.size a0 ls0) (b0 : WfOps ls0) :
    Calls Try.prog 5 #[.slice a0 n0 c0] w fun e w' => e = .returned (.bool true) ∧ Below w.heap.size w w' :=
  core w a0 n0 c0 ls0 l0 h0 b0
end Go.Proofs.Ytbmhnadnomngnaa.queuePlays
