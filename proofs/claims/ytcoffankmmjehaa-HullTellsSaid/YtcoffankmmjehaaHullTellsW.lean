/- The walk of the law HullTells. -/
import Derived.Test.YtcoffankmmjehaaHullY
namespace Go.Proofs.Ytcoffankmmjehaa.hullTells
open Go.RowKit Go.Lib Hull

/-- All that is asked of one list and one point, in whatever later world. -/
structure Asks (W : World) (ao : Option Addr) (n c : Nat) (l : List Pt) (ah : Option Addr) (m ch : Nat) (H : List Pt) (p : Pt) (ar : Int) (ok cx hh hl : Bool) : Prop where
  of : ∀ wx, Below W.heap.size W wx → Calls Try.prog 10 #[.slice ao n c] wx fun e w' => ∃ ag cg, e = .returned (.slice ag H.length cg) ∧ PAt w' ag H ∧ H.length ≤ cg ∧ Below wx.heap.size wx w'
  same1 : ∀ wx ag cg, PAt wx ag H → Below W.heap.size W wx → Calls Try.prog 13 #[.slice ag H.length cg, .slice ah m ch] wx fun e w' => e = .returned (.bool true) ∧ Below wx.heap.size wx w'
  area : ∀ wx, Below W.heap.size W wx → Calls Try.prog 14 #[.slice ao n c] wx fun e w' => e = .returned (.int .i64 ar) ∧ Below wx.heap.size wx w'
  convex : ∀ wx, Below W.heap.size W wx → Calls Try.prog 16 #[.slice ao n c] wx fun e w' => e = .returned (.bool cx) ∧ Below wx.heap.size wx w'
  small : ∀ wx, Below W.heap.size W wx → Calls Try.prog 18 #[.slice ao n c, .int .i64 1000] wx fun e w' => e = .returned (.bool ok) ∧ Below wx.heap.size wx w'
  same2 : ∀ wx, Below W.heap.size W wx → Calls Try.prog 13 #[.slice ah m ch, .slice ao n c] wx fun e w' => e = .returned (.bool (decide (H = l))) ∧ Below wx.heap.size wx w'
  hh1 : ∀ wx, Below W.heap.size W wx → Calls Try.prog 11 #[.slice ah m ch, .agg #[.int .i64 p.1, .int .i64 p.2]] wx fun e w' => e = .returned (.bool hh) ∧ Below wx.heap.size wx w'
  hh2 : ∀ wx, Below W.heap.size W wx → Calls Try.prog 20 #[.slice ah m ch, .agg #[.int .i64 p.1, .int .i64 p.2]] wx fun e w' => e = .returned (.bool hh) ∧ Below wx.heap.size wx w'
  hl1 : ∀ wx, Below W.heap.size W wx → Calls Try.prog 11 #[.slice ao n c, .agg #[.int .i64 p.1, .int .i64 p.2]] wx fun e w' => e = .returned (.bool hl) ∧ Below wx.heap.size wx w'
  hl2 : ∀ wx, Below W.heap.size W wx → Calls Try.prog 20 #[.slice ao n c, .agg #[.int .i64 p.1, .int .i64 p.2]] wx fun e w' => e = .returned (.bool hl) ∧ Below wx.heap.size wx w'
theorem asks_of {W : World} {ao ah : Option Addr} {c ch : Nat} {l : List Pt} {p : Pt} (h : PAt W ao l) (hn : l.length ≤ 60) (hh : PAt W ah (hullF l)) :
    Asks W ao l.length c l ah (hullF l).length ch (hullF l) p (if okB l = true then wrap64 (Hull.area l) else 0) (okB l) (convexF l) (holdsF (hullF l) p) (holdsF l p) := by
  have hm := hullF_len l
  refine ⟨fun wx hx => (hof_any ao c l wx (h.below hx) (by omega)).mono fun e w' ⟨ag, cg, h1, h2, h3, _, h4⟩ => ⟨ag, cg, h1, h2, h3, h4⟩, fun wx ag cg h1 hx => ?_, fun wx hx => area_any ao c l wx (h.below hx) (by omega), fun wx hx => convex_any ao c l wx (h.below hx) (by omega), fun wx hx => ?_, fun wx hx => same_any ah ao ch c (hullF l) l wx (hh.below hx) (h.below hx) (by omega) (by omega), fun wx hx => holds_any ah ch _ p wx (hh.below hx) (by omega), fun wx hx => rholds_any ah ch _ p wx (hh.below hx) (by omega), fun wx hx => holds_any ao c l p wx (h.below hx) (by omega), fun wx hx => rholds_any ao c l p wx (h.below hx) (by omega)⟩
  · have := same_any ag ah cg ch (hullF l) (hullF l) wx h1 (hh.below hx) (by omega) (by omega)
    rwa [decide_eq_true (rfl : hullF l = hullF l)] at this
  · have := rsmall_any ao c l 1000 wx (h.below hx) (by omega)
    rwa [small_ok] at this
theorem ints_wider {κ : IntKind} {w : World} {B C n : Nat} {ao : Option Addr} {z : Nat → Int} (h : IntsAtK κ w B ao n z) (hC : B ≤ C) : IntsAtK κ w C ao n z := fun h0 => by
  obtain ⟨b, off, e, hlt, hc⟩ := h h0
  exact ⟨b, off, e, by omega, hc⟩
set_option maxRecDepth 100000 in
set_option maxHeartbeats 32000000 in
theorem core (w : World) (a0 : Option Addr) (n0 c0 : Nat) (ls : List Pt) (l0 : ls.length = n0) (h0 : PAt w a0 ls) (a1 : Option Addr) (n1 c1 : Nat) (z1 : Nat → Int) (g1 : IntsAtK .i64 w w.heap.size a1 n1 z1) (hn1 : n1 ≤ 1000000000000000) (S0 : Int) (p0 : Pt) :
    Calls Try.prog 8 #[.slice a0 n0 c0, .slice a1 n1 c1, .int .i64 S0, .agg #[.int .i64 p0.1, .int .i64 p0.2]] w fun e w' => e = .returned (.bool true) ∧ Below w.heap.size w w' := by
  have HAW := Lib.hid awake_any
  have hpw := pb_new w p0
  have HP0 := Lib.hid hpw.1
  have HB0 := Lib.hid hpw.2
  have HPL0 := Lib.hid (h0.below hpw.2)
  have HG := Lib.hid g1
  clear h0 g1 hpw
  by_cases hbig : 60 < n0 ∨ 100 < n1
  · rcases (show 60 < n0 ∨ (n0 ≤ 60 ∧ 100 < n1) by omega) with hb | ⟨hb, hb2⟩
    all_goals
      clear hbig
      go_enter Try.func8, Try.ntmps8
      go_wp2_with fail
      refine (HAW.out _).mono ?_
      rintro e w2 ⟨rfl, hb⟩
      have HF : Hid (Below w.heap.size w w2) := HB0.out.trans (hb.mono HB0.out.size)
      clear hb
      go_wp2
      go_ret
      exact ⟨rfl, HF.out⟩
  · have hs0 : n0 ≤ 60 := by omega
    have hs1 : n1 ≤ 100 := by omega
    clear hbig
    go_enter Try.func8, Try.ntmps8
    go_upto_region 4 with (fail)
    generalize w.alloc (.cells #[.int .i64 p0.1, .int .i64 p0.2] 26) = wP at *
    obtain ⟨pb, hpb⟩ : ∃ pb, w.heap.size = pb := ⟨_, rfl⟩
    have HPE := Lib.hid hpb
    rw [hpb] at HP0 HB0 HG ⊢
    subst l0
    clear hpb
    go_wp2
    go_loopw [2, 9, 10] (fun s2 s9 s10 wr => ∃ (i : Nat) (l : List Pt) (ao : Option Addr) (c : Nat) (p : Pt) (S : Int), i ≤ 2 ∧ s10 = .int .i64 i ∧ s9 = .slice ao l.length c ∧ s2 = .int .i64 S ∧ l.length ≤ 60 ∧ Hid (PAt wr ao l ∧ Pb wr pb p ∧ Below pb w wr)) (fun _ _ i _ => 2 - (intOf i).toNat)
    case atStart => exact ⟨0, ls, a0, c0, p0, S0, by omega, rfl, rfl, rfl, hs0, HPL0.out, HP0.out, HB0.out⟩
    case round =>
      obtain ⟨i, l, ao, c, p, S, hi, rfl, rfl, rfl, hl60, HR⟩ := hrel
      by_cases hi2 : i < 2
      · have HPL := Lib.hid HR.out.1
        have HPP := Lib.hid HR.out.2.1
        have HBR := Lib.hid HR.out.2.2
        have HRU := Lib.hid (rhull_any ao c l wr HR.out.1 (by omega))
        have hss := rsmall_any ao c l 1000 wr HR.out.1 (by omega)
        clear hss HR
        go_wp2_with fail
        refine HRU.out.mono ?_
        rintro e w2 ⟨ah, ch, rfl, hph, _, _, hb⟩
        have HPL2 := Lib.hid (HPL.out.below hb)
        have HPP2 := Lib.hid (HPP.out.below hb)
        have HPH2 := Lib.hid hph
        have hszr : pb ≤ wr.heap.size := by have := HBR.out.size; rw [HPE.out] at this; exact this
        have HB2 : Hid (Below pb w w2) := HBR.out.trans (hb.mono hszr)
        have hsz2 : pb ≤ w2.heap.size := Nat.le_trans hszr hb.size
        have hsm2 := rsmall_any ao c l 1000 w2 (HPL.out.below hb) (by omega)
        rw [small_ok] at hsm2
        have HSM2 := Lib.hid hsm2
        have HN0 : Hid (l.length = 0 → convexF l = false) := fun h => by unfold convexF; rw [decide_eq_false (fun h2 => by omega)]
        have HOK0 : Hid (l.length = 0 → okB l = false → False) := fun h h2 => by
          rw [List.eq_nil_of_length_eq_zero h] at h2; revert h2; decide
        have HNK : Hid (okB l = false → convexF l = false) := fun h => by
          cases hc : convexF l
          · rfl
          · rw [convexF_ok hc] at h; cases h
        have HCX : Hid (0 < l.length → convexF l = decide (hullF l = l)) := fun h => by unfold convexF; simp [h]
        clear hb hph hsm2 HRU HPL HPP HBR hszr
        -- the area, if the points are small
        have HASK : Hid (∀ W, Below w2.heap.size w2 W → Asks W ao l.length c l ah (hullF l).length ch (hullF l) p (if okB l = true then wrap64 (Hull.area l) else 0) (okB l) (convexF l) (holdsF (hullF l) p) (holdsF l p)) := fun W hW => asks_of (HPL2.out.below hW) hl60 (HPH2.out.below hW)
        have HRA : Hid (okB l = true → ∀ wx, Below w2.heap.size w2 wx → Calls Try.prog 19 #[.slice ao l.length c] wx fun e w' => e = .returned (.int .i64 (wrap64 (Hull.area l))) ∧ Below wx.heap.size wx w') := fun hok wx hx => rarea_any ao c l wx (HPL2.out.below hx) hok
        obtain ⟨ar, har⟩ : ∃ ar, (if okB l = true then wrap64 (Hull.area l) else 0) = ar := ⟨_, rfl⟩
        have HAR1 : Hid (okB l = true → wrap64 (Hull.area l) = ar) := fun h => by rw [← har, if_pos h]
        have HAR0 : Hid (okB l = false → ar = 0) := fun h => by rw [← har, if_neg (by rw [h]; simp)]
        rw [har] at HASK
        clear har
        obtain ⟨ok, hok⟩ : ∃ ok, okB l = ok := ⟨_, rfl⟩
        obtain ⟨cx, hcx⟩ : ∃ cx, convexF l = cx := ⟨_, rfl⟩
        obtain ⟨hh, hhh⟩ : ∃ hh, holdsF (hullF l) p = hh := ⟨_, rfl⟩
        obtain ⟨hl, hhl⟩ : ∃ hl, holdsF l p = hl := ⟨_, rfl⟩
        rw [hok] at HSM2 HASK HRA HAR1 HAR0 HNK HOK0
        rw [hcx] at HASK HN0 HNK HCX
        rw [hhh, hhl] at HASK
        generalize hullF l = H at *
        obtain ⟨n, hn⟩ : ∃ n, l.length = n := ⟨_, rfl⟩
        obtain ⟨m, hm⟩ : ∃ m, H.length = m := ⟨_, rfl⟩
        rw [hn] at hl60 HSM2 HN0 HCX HASK HRA HOK0 ⊢
        have HMM := Lib.hid hm
        rw [hm] at HASK ⊢
        clear hn hm hok hcx hhh hhl HPL2 HPH2
        cases ok
        · obtain rfl : ar = 0 := HAR0.out rfl
          obtain rfl : cx = false := HNK.out rfl
          have hnpos : 0 < n := by
            rcases Nat.eq_zero_or_pos n with h | h
            · exfalso; exact HOK0.out h rfl
            · exact h
          go_wp2_with fail
          refine HSM2.out.mono ?_
          rintro e w3 ⟨rfl, hb⟩
          have HAS := Lib.hid (HASK.out w3 hb)
          have HPB := Lib.hid (HPP2.out.below hb)
          have HBE : Hid (Below pb w w3) := HB2.out.trans (hb.mono hsz2)
          have HSZE : Hid (pb ≤ w3.heap.size) := Nat.le_trans hsz2 hb.size
          clear hb HSM2 HASK HRA HAR1 HAR0 HNK HN0 HCX HPP2 HB2 hsz2
          go_upto_region 11 with (fail)
          generalize w3 = wr at *
          go_cut [78] from 33 to 78 (fun v wx => v = .bool false ∧ Hid (Below wr.heap.size wr wx))
          case first =>
            refine wp_region_inw ([.inl (.slice ao n c), .inr (wPts H), .inl (.slice ah m ch), .inl (.bool true), .inl (.bool false), .inl (.bool false), .inl (.slice ao n c), .inl (.int .i64 0), .inl (.int .i64 0), .inl (.bool false), .inl (.bool false), .inl (.bool false), .inl (.slice ao n c), .inl (.bool false), .inl (.slice ao n c), .inl (.int .i64 n), .inl (.bool true), .inl (.bool true), .inl (.slice ao n c), .inl (.bool false), .inl (.bool false), .inl (.bool false), .inl (undef), .inl (undef), .inl (undef), .inl (.bool false), .inl (.bool false), .inl (.bool false), .inl (.bool false), .inl (.slice ah m ch), .inl (.agg #[.int .i64 p.1, .int .i64 p.2]), .inl (.bool hh), .inl (.slice ah m ch), .inl (.agg #[.int .i64 p.1, .int .i64 p.2]), .inl (.bool hh), .inl (.bool false), .inl (.bool false), .inl (.bool false), .inl (.slice ao n c), .inl (.agg #[.int .i64 p.1, .int .i64 p.2]), .inl (.bool hl), .inl (.slice ao n c), .inl (.agg #[.int .i64 p.1, .int .i64 p.2]), .inl (.bool hl), .inl (.bool false), .inl (.bool false)] : List Want) [] (by kernel_rfl) (by kernel_rfl) (by kernel_rfl) ?_
            refine inw_cons (fun wx hg hd => ?_) (fun v0 => ?_)
            · have hx := ((Below.refl wr.heap.size wr).drew).trans hg
              clear hd hg
              go_wp2
              exact ⟨_, rfl, Below.refl _ _, rfl⟩
            (try simp only [List.nil_append, Act.put, List.setIfInBounds_toArray, List.set_cons_zero, List.set_cons_succ])
            refine inw_cons (fun wx hg hd => ?_) (fun v1 => ?_)
            · have hx := ((Below.refl wr.heap.size wr).drew).trans hg
              (try (have ee : v0 = (.slice ao n c : Value) := hd 0 (by simp) (by decide); subst ee))
              clear hd hg
              go_wp2_with fail
              refine (HAS.out.of _ hx).mono ?_
              rintro e w' ⟨ag, cg, rfl, h1, h2, hb⟩
              go_wp2
              exact ⟨_, rfl, hb, ag, cg, rfl, h1, h2⟩
            (try simp only [List.cons_append, List.nil_append, Act.put, List.setIfInBounds_toArray, List.set_cons_zero, List.set_cons_succ])
            refine inw_cons (fun wx hg hd => ?_) (fun v2 => ?_)
            · have hx := ((Below.refl wr.heap.size wr).drew).trans hg
              clear hd hg
              go_wp2
              exact ⟨_, rfl, Below.refl _ _, rfl⟩
            (try simp only [List.cons_append, List.nil_append, Act.put, List.setIfInBounds_toArray, List.set_cons_zero, List.set_cons_succ])
            refine inw_cons (fun wx hg hd => ?_) (fun v3 => ?_)
            · have hx := ((Below.refl wr.heap.size wr).drew).trans hg
              have hp1 : (wPts H : SP).1 v1 wx := hd 1 (by simp) (by decide)
              (try (have ee : v2 = (.slice ah m ch : Value) := hd 2 (by simp) (by decide); subst ee))
              clear hd hg
              obtain ⟨ag, cg, rfl, h1, h2⟩ := hp1
              go_wp2_with fail
              refine (HAS.out.same1 _ _ _ h1 hx).mono ?_
              rintro e w' ⟨rfl, hb⟩
              go_wp2
              exact ⟨_, rfl, hb, rfl⟩
            (try simp only [List.cons_append, List.nil_append, Act.put, List.setIfInBounds_toArray, List.set_cons_zero, List.set_cons_succ])
            refine inw_cons (fun wx hg hd => ?_) (fun v4 => ?_)
            · have hx := ((Below.refl wr.heap.size wr).drew).trans hg
              (try (have ee : v3 = (.bool true : Value) := hd 3 (by simp) (by decide); subst ee))
              clear hd hg
              go_wp2
              exact ⟨_, rfl, Below.refl _ _, rfl⟩
            (try simp only [List.cons_append, List.nil_append, Act.put, List.setIfInBounds_toArray, List.set_cons_zero, List.set_cons_succ])
            refine inw_cons (fun wx hg hd => ?_) (fun v5 => ?_)
            · have hx := ((Below.refl wr.heap.size wr).drew).trans hg
              (try (have ee : v4 = (.bool false : Value) := hd 4 (by simp) (by decide); subst ee))
              clear hd hg
              go_wp2
              exact ⟨_, rfl, Below.refl _ _, rfl⟩
            (try simp only [List.cons_append, List.nil_append, Act.put, List.setIfInBounds_toArray, List.set_cons_zero, List.set_cons_succ])
            refine inw_cons (fun wx hg hd => ?_) (fun v6 => ?_)
            · have hx := ((Below.refl wr.heap.size wr).drew).trans hg
              (try (have ee : v5 = (.bool false : Value) := hd 5 (by simp) (by decide); subst ee))
              clear hd hg
              go_wp2
              exact ⟨_, rfl, Below.refl _ _, rfl⟩
            (try simp only [List.cons_append, List.nil_append, Act.put, List.setIfInBounds_toArray, List.set_cons_zero, List.set_cons_succ])
            refine inw_cons (fun wx hg hd => ?_) (fun v7 => ?_)
            · have hx := ((Below.refl wr.heap.size wr).drew).trans hg
              (try (have ee : v5 = (.bool false : Value) := hd 5 (by simp) (by decide); subst ee))
              (try (have ee : v6 = (.slice ao n c : Value) := hd 6 (by simp) (by decide); subst ee))
              clear hd hg
              go_wp2_with fail
              refine ((HAS.out.area) _ hx).mono ?_
              rintro e w' ⟨rfl, hb⟩
              go_wp2
              exact ⟨_, rfl, hb, rfl⟩
            (try simp only [List.cons_append, List.nil_append, Act.put, List.setIfInBounds_toArray, List.set_cons_zero, List.set_cons_succ])
            refine inw_cons (fun wx hg hd => ?_) (fun v8 => ?_)
            · have hx := ((Below.refl wr.heap.size wr).drew).trans hg
              (try (have ee : v5 = (.bool false : Value) := hd 5 (by simp) (by decide); subst ee))
              clear hd hg
              go_wp2
              exact ⟨_, rfl, Below.refl _ _, rfl⟩
            (try simp only [List.cons_append, List.nil_append, Act.put, List.setIfInBounds_toArray, List.set_cons_zero, List.set_cons_succ])
            refine inw_cons (fun wx hg hd => ?_) (fun v9 => ?_)
            · have hx := ((Below.refl wr.heap.size wr).drew).trans hg
              (try (have ee : v5 = (.bool false : Value) := hd 5 (by simp) (by decide); subst ee))
              (try (have ee : v7 = (.int .i64 0 : Value) := hd 7 (by simp) (by decide); subst ee))
              (try (have ee : v8 = (.int .i64 0 : Value) := hd 8 (by simp) (by decide); subst ee))
              clear hd hg
              go_wp2
              exact ⟨_, rfl, Below.refl _ _, rfl⟩
            (try simp only [List.cons_append, List.nil_append, Act.put, List.setIfInBounds_toArray, List.set_cons_zero, List.set_cons_succ])
            refine inw_cons (fun wx hg hd => ?_) (fun v10 => ?_)
            · have hx := ((Below.refl wr.heap.size wr).drew).trans hg
              (try (have ee : v5 = (.bool false : Value) := hd 5 (by simp) (by decide); subst ee))
              (try (have ee : v9 = (.bool false : Value) := hd 9 (by simp) (by decide); subst ee))
              clear hd hg
              go_wp2
              exact ⟨_, rfl, Below.refl _ _, rfl⟩
            (try simp only [List.cons_append, List.nil_append, Act.put, List.setIfInBounds_toArray, List.set_cons_zero, List.set_cons_succ])
            refine inw_cons (fun wx hg hd => ?_) (fun v11 => ?_)
            · have hx := ((Below.refl wr.heap.size wr).drew).trans hg
              (try (have ee : v10 = (.bool false : Value) := hd 10 (by simp) (by decide); subst ee))
              clear hd hg
              go_wp2
              exact ⟨_, rfl, Below.refl _ _, rfl⟩
            (try simp only [List.cons_append, List.nil_append, Act.put, List.setIfInBounds_toArray, List.set_cons_zero, List.set_cons_succ])
            refine inw_cons (fun wx hg hd => ?_) (fun v12 => ?_)
            · have hx := ((Below.refl wr.heap.size wr).drew).trans hg
              (try (have ee : v11 = (.bool false : Value) := hd 11 (by simp) (by decide); subst ee))
              clear hd hg
              go_wp2
              exact ⟨_, rfl, Below.refl _ _, rfl⟩
            (try simp only [List.cons_append, List.nil_append, Act.put, List.setIfInBounds_toArray, List.set_cons_zero, List.set_cons_succ])
            refine inw_cons (fun wx hg hd => ?_) (fun v13 => ?_)
            · have hx := ((Below.refl wr.heap.size wr).drew).trans hg
              (try (have ee : v11 = (.bool false : Value) := hd 11 (by simp) (by decide); subst ee))
              (try (have ee : v12 = (.slice ao n c : Value) := hd 12 (by simp) (by decide); subst ee))
              clear hd hg
              go_wp2_with fail
              refine ((HAS.out.convex) _ hx).mono ?_
              rintro e w' ⟨rfl, hb⟩
              go_wp2
              exact ⟨_, rfl, hb, rfl⟩
            (try simp only [List.cons_append, List.nil_append, Act.put, List.setIfInBounds_toArray, List.set_cons_zero, List.set_cons_succ])
            refine inw_cons (fun wx hg hd => ?_) (fun v14 => ?_)
            · have hx := ((Below.refl wr.heap.size wr).drew).trans hg
              (try (have ee : v11 = (.bool false : Value) := hd 11 (by simp) (by decide); subst ee))
              clear hd hg
              go_wp2
              exact ⟨_, rfl, Below.refl _ _, rfl⟩
            (try simp only [List.cons_append, List.nil_append, Act.put, List.setIfInBounds_toArray, List.set_cons_zero, List.set_cons_succ])
            refine inw_cons (fun wx hg hd => ?_) (fun v15 => ?_)
            · have hx := ((Below.refl wr.heap.size wr).drew).trans hg
              (try (have ee : v11 = (.bool false : Value) := hd 11 (by simp) (by decide); subst ee))
              (try (have ee : v14 = (.slice ao n c : Value) := hd 14 (by simp) (by decide); subst ee))
              clear hd hg
              go_wp2
              exact ⟨_, rfl, Below.refl _ _, rfl⟩
            (try simp only [List.cons_append, List.nil_append, Act.put, List.setIfInBounds_toArray, List.set_cons_zero, List.set_cons_succ])
            refine inw_cons (fun wx hg hd => ?_) (fun v16 => ?_)
            · have hx := ((Below.refl wr.heap.size wr).drew).trans hg
              (try (have ee : v11 = (.bool false : Value) := hd 11 (by simp) (by decide); subst ee))
              (try (have ee : v15 = (.int .i64 n : Value) := hd 15 (by simp) (by decide); subst ee))
              clear hd hg
              go_wp2
              exact ⟨_, rfl, Below.refl _ _, rfl⟩
            (try simp only [List.cons_append, List.nil_append, Act.put, List.setIfInBounds_toArray, List.set_cons_zero, List.set_cons_succ])
            refine inw_cons (fun wx hg hd => ?_) (fun v17 => ?_)
            · have hx := ((Below.refl wr.heap.size wr).drew).trans hg
              (try (have ee : v11 = (.bool false : Value) := hd 11 (by simp) (by decide); subst ee))
              (try (have ee : v16 = (.bool true : Value) := hd 16 (by simp) (by decide); subst ee))
              clear hd hg
              go_wp2
              exact ⟨_, rfl, Below.refl _ _, rfl⟩
            (try simp only [List.cons_append, List.nil_append, Act.put, List.setIfInBounds_toArray, List.set_cons_zero, List.set_cons_succ])
            refine inw_cons (fun wx hg hd => ?_) (fun v18 => ?_)
            · have hx := ((Below.refl wr.heap.size wr).drew).trans hg
              (try (have ee : v17 = (.bool true : Value) := hd 17 (by simp) (by decide); subst ee))
              clear hd hg
              go_wp2
              exact ⟨_, rfl, Below.refl _ _, rfl⟩
            (try simp only [List.cons_append, List.nil_append, Act.put, List.setIfInBounds_toArray, List.set_cons_zero, List.set_cons_succ])
            refine inw_cons (fun wx hg hd => ?_) (fun v19 => ?_)
            · have hx := ((Below.refl wr.heap.size wr).drew).trans hg
              (try (have ee : v17 = (.bool true : Value) := hd 17 (by simp) (by decide); subst ee))
              (try (have ee : v18 = (.slice ao n c : Value) := hd 18 (by simp) (by decide); subst ee))
              clear hd hg
              go_wp2_with fail
              refine ((HAS.out.small) _ hx).mono ?_
              rintro e w' ⟨rfl, hb⟩
              go_wp2
              exact ⟨_, rfl, hb, rfl⟩
            (try simp only [List.cons_append, List.nil_append, Act.put, List.setIfInBounds_toArray, List.set_cons_zero, List.set_cons_succ])
            refine inw_cons (fun wx hg hd => ?_) (fun v20 => ?_)
            · have hx := ((Below.refl wr.heap.size wr).drew).trans hg
              (try (have ee : v11 = (.bool false : Value) := hd 11 (by simp) (by decide); subst ee))
              (try (have ee : v17 = (.bool true : Value) := hd 17 (by simp) (by decide); subst ee))
              (try (have ee : v19 = (.bool false : Value) := hd 19 (by simp) (by decide); subst ee))
              clear hd hg
              go_wp2
              exact ⟨_, rfl, Below.refl _ _, rfl⟩
            (try simp only [List.cons_append, List.nil_append, Act.put, List.setIfInBounds_toArray, List.set_cons_zero, List.set_cons_succ])
            refine inw_cons (fun wx hg hd => ?_) (fun v21 => ?_)
            · have hx := ((Below.refl wr.heap.size wr).drew).trans hg
              (try (have ee : v11 = (.bool false : Value) := hd 11 (by simp) (by decide); subst ee))
              (try (have ee : v20 = (.bool false : Value) := hd 20 (by simp) (by decide); subst ee))
              clear hd hg
              go_wp2
              exact ⟨_, rfl, Below.refl _ _, rfl⟩
            (try simp only [List.cons_append, List.nil_append, Act.put, List.setIfInBounds_toArray, List.set_cons_zero, List.set_cons_succ])
            refine inw_cons (fun wx hg hd => ?_) (fun v22 => ?_)
            · have hx := ((Below.refl wr.heap.size wr).drew).trans hg
              (try (have ee : v21 = (.bool false : Value) := hd 21 (by simp) (by decide); subst ee))
              clear hd hg
              go_wp2
              exact ⟨_, rfl, Below.refl _ _, rfl⟩
            (try simp only [List.cons_append, List.nil_append, Act.put, List.setIfInBounds_toArray, List.set_cons_zero, List.set_cons_succ])
            refine inw_cons (fun wx hg hd => ?_) (fun v23 => ?_)
            · have hx := ((Below.refl wr.heap.size wr).drew).trans hg
              (try (have ee : v21 = (.bool false : Value) := hd 21 (by simp) (by decide); subst ee))
              clear hd hg
              go_wp2
              exact ⟨_, rfl, Below.refl _ _, rfl⟩
            (try simp only [List.cons_append, List.nil_append, Act.put, List.setIfInBounds_toArray, List.set_cons_zero, List.set_cons_succ])
            refine inw_cons (fun wx hg hd => ?_) (fun v24 => ?_)
            · have hx := ((Below.refl wr.heap.size wr).drew).trans hg
              (try (have ee : v21 = (.bool false : Value) := hd 21 (by simp) (by decide); subst ee))
              (try (have ee : v22 = (undef : Value) := hd 22 (by simp) (by decide); subst ee))
              (try (have ee : v23 = (undef : Value) := hd 23 (by simp) (by decide); subst ee))
              clear hd hg
              go_wp2
              exact ⟨_, rfl, Below.refl _ _, rfl⟩
            (try simp only [List.cons_append, List.nil_append, Act.put, List.setIfInBounds_toArray, List.set_cons_zero, List.set_cons_succ])
            refine inw_cons (fun wx hg hd => ?_) (fun v25 => ?_)
            · have hx := ((Below.refl wr.heap.size wr).drew).trans hg
              (try (have ee : v11 = (.bool false : Value) := hd 11 (by simp) (by decide); subst ee))
              (try (have ee : v21 = (.bool false : Value) := hd 21 (by simp) (by decide); subst ee))
              (try (have ee : v24 = (undef : Value) := hd 24 (by simp) (by decide); subst ee))
              clear hd hg
              go_wp2
              exact ⟨_, rfl, Below.refl _ _, rfl⟩
            (try simp only [List.cons_append, List.nil_append, Act.put, List.setIfInBounds_toArray, List.set_cons_zero, List.set_cons_succ])
            refine inw_cons (fun wx hg hd => ?_) (fun v26 => ?_)
            · have hx := ((Below.refl wr.heap.size wr).drew).trans hg
              (try (have ee : v11 = (.bool false : Value) := hd 11 (by simp) (by decide); subst ee))
              (try (have ee : v13 = (.bool false : Value) := hd 13 (by simp) (by decide); subst ee))
              (try (have ee : v25 = (.bool false : Value) := hd 25 (by simp) (by decide); subst ee))
              clear hd hg
              go_wp2
              exact ⟨_, rfl, Below.refl _ _, rfl⟩
            (try simp only [List.cons_append, List.nil_append, Act.put, List.setIfInBounds_toArray, List.set_cons_zero, List.set_cons_succ])
            refine inw_cons (fun wx hg hd => ?_) (fun v27 => ?_)
            · have hx := ((Below.refl wr.heap.size wr).drew).trans hg
              (try (have ee : v11 = (.bool false : Value) := hd 11 (by simp) (by decide); subst ee))
              (try (have ee : v26 = (.bool false : Value) := hd 26 (by simp) (by decide); subst ee))
              clear hd hg
              go_wp2
              exact ⟨_, rfl, Below.refl _ _, rfl⟩
            (try simp only [List.cons_append, List.nil_append, Act.put, List.setIfInBounds_toArray, List.set_cons_zero, List.set_cons_succ])
            refine inw_cons (fun wx hg hd => ?_) (fun v28 => ?_)
            · have hx := ((Below.refl wr.heap.size wr).drew).trans hg
              (try (have ee : v27 = (.bool false : Value) := hd 27 (by simp) (by decide); subst ee))
              clear hd hg
              go_wp2
              exact ⟨_, rfl, Below.refl _ _, rfl⟩
            (try simp only [List.cons_append, List.nil_append, Act.put, List.setIfInBounds_toArray, List.set_cons_zero, List.set_cons_succ])
            refine inw_cons (fun wx hg hd => ?_) (fun v29 => ?_)
            · have hx := ((Below.refl wr.heap.size wr).drew).trans hg
              (try (have ee : v28 = (.bool false : Value) := hd 28 (by simp) (by decide); subst ee))
              clear hd hg
              go_wp2
              exact ⟨_, rfl, Below.refl _ _, rfl⟩
            (try simp only [List.cons_append, List.nil_append, Act.put, List.setIfInBounds_toArray, List.set_cons_zero, List.set_cons_succ])
            refine inw_cons (fun wx hg hd => ?_) (fun v30 => ?_)
            · have hx := ((Below.refl wr.heap.size wr).drew).trans hg
              (try (have ee : v28 = (.bool false : Value) := hd 28 (by simp) (by decide); subst ee))
              clear hd hg
              obtain ⟨k1, k2, k3, k4, k5⟩ := (HPB.out.below hx).cells
              go_wp2
              exact ⟨_, rfl, Below.refl _ _, rfl⟩
            (try simp only [List.cons_append, List.nil_append, Act.put, List.setIfInBounds_toArray, List.set_cons_zero, List.set_cons_succ])
            refine inw_cons (fun wx hg hd => ?_) (fun v31 => ?_)
            · have hx := ((Below.refl wr.heap.size wr).drew).trans hg
              (try (have ee : v28 = (.bool false : Value) := hd 28 (by simp) (by decide); subst ee))
              (try (have ee : v29 = (.slice ah m ch : Value) := hd 29 (by simp) (by decide); subst ee))
              (try (have ee : v30 = (.agg #[.int .i64 p.1, .int .i64 p.2] : Value) := hd 30 (by simp) (by decide); subst ee))
              clear hd hg
              go_wp2_with fail
              refine ((HAS.out.hh1) _ hx).mono ?_
              rintro e w' ⟨rfl, hb⟩
              go_wp2
              exact ⟨_, rfl, hb, rfl⟩
            (try simp only [List.cons_append, List.nil_append, Act.put, List.setIfInBounds_toArray, List.set_cons_zero, List.set_cons_succ])
            refine inw_cons (fun wx hg hd => ?_) (fun v32 => ?_)
            · have hx := ((Below.refl wr.heap.size wr).drew).trans hg
              (try (have ee : v28 = (.bool false : Value) := hd 28 (by simp) (by decide); subst ee))
              clear hd hg
              go_wp2
              exact ⟨_, rfl, Below.refl _ _, rfl⟩
            (try simp only [List.cons_append, List.nil_append, Act.put, List.setIfInBounds_toArray, List.set_cons_zero, List.set_cons_succ])
            refine inw_cons (fun wx hg hd => ?_) (fun v33 => ?_)
            · have hx := ((Below.refl wr.heap.size wr).drew).trans hg
              (try (have ee : v28 = (.bool false : Value) := hd 28 (by simp) (by decide); subst ee))
              clear hd hg
              obtain ⟨k1, k2, k3, k4, k5⟩ := (HPB.out.below hx).cells
              go_wp2
              exact ⟨_, rfl, Below.refl _ _, rfl⟩
            (try simp only [List.cons_append, List.nil_append, Act.put, List.setIfInBounds_toArray, List.set_cons_zero, List.set_cons_succ])
            refine inw_cons (fun wx hg hd => ?_) (fun v34 => ?_)
            · have hx := ((Below.refl wr.heap.size wr).drew).trans hg
              (try (have ee : v28 = (.bool false : Value) := hd 28 (by simp) (by decide); subst ee))
              (try (have ee : v32 = (.slice ah m ch : Value) := hd 32 (by simp) (by decide); subst ee))
              (try (have ee : v33 = (.agg #[.int .i64 p.1, .int .i64 p.2] : Value) := hd 33 (by simp) (by decide); subst ee))
              clear hd hg
              go_wp2_with fail
              refine ((HAS.out.hh2) _ hx).mono ?_
              rintro e w' ⟨rfl, hb⟩
              go_wp2
              exact ⟨_, rfl, hb, rfl⟩
            (try simp only [List.cons_append, List.nil_append, Act.put, List.setIfInBounds_toArray, List.set_cons_zero, List.set_cons_succ])
            refine inw_cons (fun wx hg hd => ?_) (fun v35 => ?_)
            · have hx := ((Below.refl wr.heap.size wr).drew).trans hg
              (try (have ee : v28 = (.bool false : Value) := hd 28 (by simp) (by decide); subst ee))
              (try (have ee : v31 = (.bool hh : Value) := hd 31 (by simp) (by decide); subst ee))
              (try (have ee : v34 = (.bool hh : Value) := hd 34 (by simp) (by decide); subst ee))
              clear hd hg
              go_wp2
              exact ⟨_, rfl, Below.refl _ _, rfl⟩
            (try simp only [List.cons_append, List.nil_append, Act.put, List.setIfInBounds_toArray, List.set_cons_zero, List.set_cons_succ])
            refine inw_cons (fun wx hg hd => ?_) (fun v36 => ?_)
            · have hx := ((Below.refl wr.heap.size wr).drew).trans hg
              (try (have ee : v28 = (.bool false : Value) := hd 28 (by simp) (by decide); subst ee))
              (try (have ee : v35 = (.bool false : Value) := hd 35 (by simp) (by decide); subst ee))
              clear hd hg
              go_wp2
              exact ⟨_, rfl, Below.refl _ _, rfl⟩
            (try simp only [List.cons_append, List.nil_append, Act.put, List.setIfInBounds_toArray, List.set_cons_zero, List.set_cons_succ])
            refine inw_cons (fun wx hg hd => ?_) (fun v37 => ?_)
            · have hx := ((Below.refl wr.heap.size wr).drew).trans hg
              (try (have ee : v36 = (.bool false : Value) := hd 36 (by simp) (by decide); subst ee))
              clear hd hg
              go_wp2
              exact ⟨_, rfl, Below.refl _ _, rfl⟩
            (try simp only [List.cons_append, List.nil_append, Act.put, List.setIfInBounds_toArray, List.set_cons_zero, List.set_cons_succ])
            refine inw_cons (fun wx hg hd => ?_) (fun v38 => ?_)
            · have hx := ((Below.refl wr.heap.size wr).drew).trans hg
              (try (have ee : v37 = (.bool false : Value) := hd 37 (by simp) (by decide); subst ee))
              clear hd hg
              go_wp2
              exact ⟨_, rfl, Below.refl _ _, rfl⟩
            (try simp only [List.cons_append, List.nil_append, Act.put, List.setIfInBounds_toArray, List.set_cons_zero, List.set_cons_succ])
            refine inw_cons (fun wx hg hd => ?_) (fun v39 => ?_)
            · have hx := ((Below.refl wr.heap.size wr).drew).trans hg
              (try (have ee : v37 = (.bool false : Value) := hd 37 (by simp) (by decide); subst ee))
              clear hd hg
              obtain ⟨k1, k2, k3, k4, k5⟩ := (HPB.out.below hx).cells
              go_wp2
              exact ⟨_, rfl, Below.refl _ _, rfl⟩
            (try simp only [List.cons_append, List.nil_append, Act.put, List.setIfInBounds_toArray, List.set_cons_zero, List.set_cons_succ])
            refine inw_cons (fun wx hg hd => ?_) (fun v40 => ?_)
            · have hx := ((Below.refl wr.heap.size wr).drew).trans hg
              (try (have ee : v37 = (.bool false : Value) := hd 37 (by simp) (by decide); subst ee))
              (try (have ee : v38 = (.slice ao n c : Value) := hd 38 (by simp) (by decide); subst ee))
              (try (have ee : v39 = (.agg #[.int .i64 p.1, .int .i64 p.2] : Value) := hd 39 (by simp) (by decide); subst ee))
              clear hd hg
              go_wp2_with fail
              refine ((HAS.out.hl1) _ hx).mono ?_
              rintro e w' ⟨rfl, hb⟩
              go_wp2
              exact ⟨_, rfl, hb, rfl⟩
            (try simp only [List.cons_append, List.nil_append, Act.put, List.setIfInBounds_toArray, List.set_cons_zero, List.set_cons_succ])
            refine inw_cons (fun wx hg hd => ?_) (fun v41 => ?_)
            · have hx := ((Below.refl wr.heap.size wr).drew).trans hg
              (try (have ee : v37 = (.bool false : Value) := hd 37 (by simp) (by decide); subst ee))
              clear hd hg
              go_wp2
              exact ⟨_, rfl, Below.refl _ _, rfl⟩
            (try simp only [List.cons_append, List.nil_append, Act.put, List.setIfInBounds_toArray, List.set_cons_zero, List.set_cons_succ])
            refine inw_cons (fun wx hg hd => ?_) (fun v42 => ?_)
            · have hx := ((Below.refl wr.heap.size wr).drew).trans hg
              (try (have ee : v37 = (.bool false : Value) := hd 37 (by simp) (by decide); subst ee))
              clear hd hg
              obtain ⟨k1, k2, k3, k4, k5⟩ := (HPB.out.below hx).cells
              go_wp2
              exact ⟨_, rfl, Below.refl _ _, rfl⟩
            (try simp only [List.cons_append, List.nil_append, Act.put, List.setIfInBounds_toArray, List.set_cons_zero, List.set_cons_succ])
            refine inw_cons (fun wx hg hd => ?_) (fun v43 => ?_)
            · have hx := ((Below.refl wr.heap.size wr).drew).trans hg
              (try (have ee : v37 = (.bool false : Value) := hd 37 (by simp) (by decide); subst ee))
              (try (have ee : v41 = (.slice ao n c : Value) := hd 41 (by simp) (by decide); subst ee))
              (try (have ee : v42 = (.agg #[.int .i64 p.1, .int .i64 p.2] : Value) := hd 42 (by simp) (by decide); subst ee))
              clear hd hg
              go_wp2_with fail
              refine ((HAS.out.hl2) _ hx).mono ?_
              rintro e w' ⟨rfl, hb⟩
              go_wp2
              exact ⟨_, rfl, hb, rfl⟩
            (try simp only [List.cons_append, List.nil_append, Act.put, List.setIfInBounds_toArray, List.set_cons_zero, List.set_cons_succ])
            refine inw_cons (fun wx hg hd => ?_) (fun v44 => ?_)
            · have hx := ((Below.refl wr.heap.size wr).drew).trans hg
              (try (have ee : v37 = (.bool false : Value) := hd 37 (by simp) (by decide); subst ee))
              (try (have ee : v40 = (.bool hl : Value) := hd 40 (by simp) (by decide); subst ee))
              (try (have ee : v43 = (.bool hl : Value) := hd 43 (by simp) (by decide); subst ee))
              clear hd hg
              go_wp2
              exact ⟨_, rfl, Below.refl _ _, rfl⟩
            (try simp only [List.cons_append, List.nil_append, Act.put, List.setIfInBounds_toArray, List.set_cons_zero, List.set_cons_succ])
            refine inw_cons (fun wx hg hd => ?_) (fun v45 => ?_)
            · have hx := ((Below.refl wr.heap.size wr).drew).trans hg
              (try (have ee : v37 = (.bool false : Value) := hd 37 (by simp) (by decide); subst ee))
              (try (have ee : v44 = (.bool false : Value) := hd 44 (by simp) (by decide); subst ee))
              clear hd hg
              go_wp2
              exact ⟨_, rfl, Below.refl _ _, rfl⟩
            (try simp only [List.cons_append, List.nil_append, Act.put, List.setIfInBounds_toArray, List.set_cons_zero, List.set_cons_succ])
            refine inw_done (fun wx hg hd => ?_)
            have hx := ((Below.refl wr.heap.size wr).drew).trans hg
            (have ee : v0 = (.slice ao n c : Value) := hd 0 (by simp) (by kernel_rfl); subst ee)
            have hp1 : (wPts H : SP).1 v1 wx := hd 1 (by simp) (by kernel_rfl)
            (have ee : v2 = (.slice ah m ch : Value) := hd 2 (by simp) (by kernel_rfl); subst ee)
            (have ee : v3 = (.bool true : Value) := hd 3 (by simp) (by kernel_rfl); subst ee)
            (have ee : v4 = (.bool false : Value) := hd 4 (by simp) (by kernel_rfl); subst ee)
            (have ee : v5 = (.bool false : Value) := hd 5 (by simp) (by kernel_rfl); subst ee)
            (have ee : v6 = (.slice ao n c : Value) := hd 6 (by simp) (by kernel_rfl); subst ee)
            (have ee : v7 = (.int .i64 0 : Value) := hd 7 (by simp) (by kernel_rfl); subst ee)
            (have ee : v8 = (.int .i64 0 : Value) := hd 8 (by simp) (by kernel_rfl); subst ee)
            (have ee : v9 = (.bool false : Value) := hd 9 (by simp) (by kernel_rfl); subst ee)
            (have ee : v10 = (.bool false : Value) := hd 10 (by simp) (by kernel_rfl); subst ee)
            (have ee : v11 = (.bool false : Value) := hd 11 (by simp) (by kernel_rfl); subst ee)
            (have ee : v12 = (.slice ao n c : Value) := hd 12 (by simp) (by kernel_rfl); subst ee)
            (have ee : v13 = (.bool false : Value) := hd 13 (by simp) (by kernel_rfl); subst ee)
            (have ee : v14 = (.slice ao n c : Value) := hd 14 (by simp) (by kernel_rfl); subst ee)
            (have ee : v15 = (.int .i64 n : Value) := hd 15 (by simp) (by kernel_rfl); subst ee)
            (have ee : v16 = (.bool true : Value) := hd 16 (by simp) (by kernel_rfl); subst ee)
            (have ee : v17 = (.bool true : Value) := hd 17 (by simp) (by kernel_rfl); subst ee)
            (have ee : v18 = (.slice ao n c : Value) := hd 18 (by simp) (by kernel_rfl); subst ee)
            (have ee : v19 = (.bool false : Value) := hd 19 (by simp) (by kernel_rfl); subst ee)
            (have ee : v20 = (.bool false : Value) := hd 20 (by simp) (by kernel_rfl); subst ee)
            (have ee : v21 = (.bool false : Value) := hd 21 (by simp) (by kernel_rfl); subst ee)
            (have ee : v22 = (undef : Value) := hd 22 (by simp) (by kernel_rfl); subst ee)
            (have ee : v23 = (undef : Value) := hd 23 (by simp) (by kernel_rfl); subst ee)
            (have ee : v24 = (undef : Value) := hd 24 (by simp) (by kernel_rfl); subst ee)
            (have ee : v25 = (.bool false : Value) := hd 25 (by simp) (by kernel_rfl); subst ee)
            (have ee : v26 = (.bool false : Value) := hd 26 (by simp) (by kernel_rfl); subst ee)
            (have ee : v27 = (.bool false : Value) := hd 27 (by simp) (by kernel_rfl); subst ee)
            (have ee : v28 = (.bool false : Value) := hd 28 (by simp) (by kernel_rfl); subst ee)
            (have ee : v29 = (.slice ah m ch : Value) := hd 29 (by simp) (by kernel_rfl); subst ee)
            (have ee : v30 = (.agg #[.int .i64 p.1, .int .i64 p.2] : Value) := hd 30 (by simp) (by kernel_rfl); subst ee)
            (have ee : v31 = (.bool hh : Value) := hd 31 (by simp) (by kernel_rfl); subst ee)
            (have ee : v32 = (.slice ah m ch : Value) := hd 32 (by simp) (by kernel_rfl); subst ee)
            (have ee : v33 = (.agg #[.int .i64 p.1, .int .i64 p.2] : Value) := hd 33 (by simp) (by kernel_rfl); subst ee)
            (have ee : v34 = (.bool hh : Value) := hd 34 (by simp) (by kernel_rfl); subst ee)
            (have ee : v35 = (.bool false : Value) := hd 35 (by simp) (by kernel_rfl); subst ee)
            (have ee : v36 = (.bool false : Value) := hd 36 (by simp) (by kernel_rfl); subst ee)
            (have ee : v37 = (.bool false : Value) := hd 37 (by simp) (by kernel_rfl); subst ee)
            (have ee : v38 = (.slice ao n c : Value) := hd 38 (by simp) (by kernel_rfl); subst ee)
            (have ee : v39 = (.agg #[.int .i64 p.1, .int .i64 p.2] : Value) := hd 39 (by simp) (by kernel_rfl); subst ee)
            (have ee : v40 = (.bool hl : Value) := hd 40 (by simp) (by kernel_rfl); subst ee)
            (have ee : v41 = (.slice ao n c : Value) := hd 41 (by simp) (by kernel_rfl); subst ee)
            (have ee : v42 = (.agg #[.int .i64 p.1, .int .i64 p.2] : Value) := hd 42 (by simp) (by kernel_rfl); subst ee)
            (have ee : v43 = (.bool hl : Value) := hd 43 (by simp) (by kernel_rfl); subst ee)
            (have ee : v44 = (.bool false : Value) := hd 44 (by simp) (by kernel_rfl); subst ee)
            (have ee : v45 = (.bool false : Value) := hd 45 (by simp) (by kernel_rfl); subst ee)
            clear hd hg
            (try go_simp)
            have HXX := Lib.hid hx
            clear hx hp1
            go_wp2
            go_meet
            exact ⟨rfl, HXX.out⟩
          case rest =>
            obtain ⟨rfl, HXX⟩ := hcut
            have HB3 : Hid (Below pb w wc) := HBE.out.trans (HXX.out.mono HSZE.out)
            have HPC := Lib.hid (HPB.out.below HXX.out)
            have es : bits BinOp.and IntKind.i64 S 255 = S % 256 := i64_and_mask S 8 (by omega) 255 rfl
            have es0 : 0 ≤ S % 256 := Int.emod_nonneg _ (by omega)
            have es1 : S % 256 < 256 := Int.emod_lt_of_pos _ (by omega)
            have HNE := Lib.hid (near_any a1 n1 c1 z1 (S % 256 + 2) wc (ints_wider (HG.out.below HB3.out (Nat.le_refl _)) (by have := HB3.out.size; rw [HPE.out] at this; exact this)) hn1 (by omega) (by omega))
            have hszc : pb ≤ wc.heap.size := by have := HB3.out.size; rw [HPE.out] at this; exact this
            clear HAS HPB HBE HSZE HXX
            go_upto_region 14 with (fail)
            clear es
            generalize S % 256 = T at *
            go_wp2_with fail
            refine HNE.out.mono ?_
            rintro e w3 ⟨al, cl, l2, rfl, hl12, hsm, ho, hb, -⟩
            have HP3 := Lib.hid (HPC.out.below hb)
            have HO3 := Lib.hid ho
            have HPW : Hid (pb < wc.heap.size) := HPC.out.lt
            have HB4 : Hid (Below pb w w3) := HB3.out.trans (hb.mono hszc)
            have hsz3 : pb ≤ w3.heap.size := Nat.le_trans hszc hb.size
            clear hsm ho hb HNE HB3 HPC hszc
            obtain ⟨k1, k2, k3, k4, k5⟩ := HP3.out.cells
            obtain ⟨px, hpx⟩ : ∃ px, p.1.tmod (T + 2) = px := ⟨_, rfl⟩
            obtain ⟨py, hpy⟩ : ∃ py, p.2.tmod (T + 2) = py := ⟨_, rfl⟩
            have hT : T + 2 ≠ 0 := by omega
            have HFIN : Hid (∀ nq, PAt (((w3.drewN nq).setCell ⟨pb, 0, none⟩ (.int .i64 px)).setCell ⟨pb, 1, none⟩ (.int .i64 py)) al l2 ∧ Pb (((w3.drewN nq).setCell ⟨pb, 0, none⟩ (.int .i64 px)).setCell ⟨pb, 1, none⟩ (.int .i64 py)) pb (px, py) ∧ Below pb w (((w3.drewN nq).setCell ⟨pb, 0, none⟩ (.int .i64 px)).setCell ⟨pb, 1, none⟩ (.int .i64 py))) := fun nq => by
              have hbd : Below w3.heap.size w3 (w3.drewN nq) := below_dn _ _
              have h1 := (HP3.out.below hbd).put (px, py)
              refine ⟨?_, h1.1, ?_⟩
              · exact pAt_own rfl (own_turn (own_later HO3.out hbd) h1.2 fun g o s e h => by have := (own_lt HO3.out g o s e).1; have := HPW.out; omega)
              · exact (HB4.out.trans (hbd.mono hsz3)).trans (h1.2.below (Nat.le_trans hsz3 hbd.size) fun q hq e => by omega)
            have HF1 := Lib.hid (HFIN.out 1)
            clear HFIN HP3 HO3 HPW HB4
            go_upto_region 6 with (first | (with_reducible refine wp_region_lex (by kernel_rfl) (by kernel_rfl) ?_) | (with_reducible refine OnlyG.intro (by kernel_rfl) ?_))
            go_wp2
            go_roundw
            case rel => exact ⟨i + 1, l2, al, cl, (px, py), T + 2, by omega, by go_num, rfl, rfl, by omega, HF1.out⟩
            case measure => simp [intOf]; omega
        · have hra0 := HRA.out rfl
          rw [HAR1.out rfl] at hra0
          have HRB := Lib.hid hra0
          clear hra0 HRA HAR1 HAR0 HNK HOK0
          go_wp2_with fail
          refine HSM2.out.mono ?_
          rintro e w3 ⟨rfl, hb⟩
          have HB3' : Hid (Below w2.heap.size w2 w3) := hb
          clear hb HSM2
          go_wp2_with fail
          refine (HRB.out w3 HB3'.out).mono ?_
          rintro e w4 ⟨rfl, hb⟩
          have HB4' : Hid (Below w2.heap.size w2 w4) := HB3'.out.trans (hb.mono HB3'.out.size)
          have HAS := Lib.hid (HASK.out w4 HB4'.out)
          have HPB := Lib.hid (HPP2.out.below HB4'.out)
          have HBE : Hid (Below pb w w4) := HB2.out.trans (HB4'.out.mono hsz2)
          have HSZE : Hid (pb ≤ w4.heap.size) := Nat.le_trans hsz2 HB4'.out.size
          clear hb HRB HB3' HB4' HASK HPP2 HB2 hsz2
          go_upto_region 11 with (fail)
          generalize w4 = wr at *
          go_cut [78] from 33 to 78 (fun v wx => v = .bool false ∧ Hid (Below wr.heap.size wr wx))
          case first =>
            rcases Nat.eq_zero_or_pos n with hn0 | hn0
            · obtain rfl : cx = false := HN0.out hn0
              subst hn0
              clear HN0 HCX
              refine wp_region_inw ([.inl (.slice ao 0 c), .inr (wPts H), .inl (.slice ah m ch), .inl (.bool true), .inl (.bool false), .inl (.bool false), .inl (.slice ao 0 c), .inl (.int .i64 ar), .inl (.int .i64 ar), .inl (.bool false), .inl (.bool false), .inl (.bool false), .inl (.slice ao 0 c), .inl (.bool false), .inl (.slice ao 0 c), .inl (.int .i64 0), .inl (.bool false), .inl (.bool false), .inl (undef), .inl (undef), .inl (.bool false), .inl (.bool false), .inl (undef), .inl (undef), .inl (undef), .inl (.bool false), .inl (.bool false), .inl (.bool false), .inl (.bool false), .inl (.slice ah m ch), .inl (.agg #[.int .i64 p.1, .int .i64 p.2]), .inl (.bool hh), .inl (.slice ah m ch), .inl (.agg #[.int .i64 p.1, .int .i64 p.2]), .inl (.bool hh), .inl (.bool false), .inl (.bool false), .inl (.bool false), .inl (.slice ao 0 c), .inl (.agg #[.int .i64 p.1, .int .i64 p.2]), .inl (.bool hl), .inl (.slice ao 0 c), .inl (.agg #[.int .i64 p.1, .int .i64 p.2]), .inl (.bool hl), .inl (.bool false), .inl (.bool false)] : List Want) [] (by kernel_rfl) (by kernel_rfl) (by kernel_rfl) ?_
              refine inw_cons (fun wx hg hd => ?_) (fun v0 => ?_)
              · have hx := ((Below.refl wr.heap.size wr).drew).trans hg
                clear hd hg
                go_wp2
                exact ⟨_, rfl, Below.refl _ _, rfl⟩
              (try simp only [List.nil_append, Act.put, List.setIfInBounds_toArray, List.set_cons_zero, List.set_cons_succ])
              refine inw_cons (fun wx hg hd => ?_) (fun v1 => ?_)
              · have hx := ((Below.refl wr.heap.size wr).drew).trans hg
                (try (have ee : v0 = (.slice ao 0 c : Value) := hd 0 (by simp) (by decide); subst ee))
                clear hd hg
                go_wp2_with fail
                refine (HAS.out.of _ hx).mono ?_
                rintro e w' ⟨ag, cg, rfl, h1, h2, hb⟩
                go_wp2
                exact ⟨_, rfl, hb, ag, cg, rfl, h1, h2⟩
              (try simp only [List.cons_append, List.nil_append, Act.put, List.setIfInBounds_toArray, List.set_cons_zero, List.set_cons_succ])
              refine inw_cons (fun wx hg hd => ?_) (fun v2 => ?_)
              · have hx := ((Below.refl wr.heap.size wr).drew).trans hg
                clear hd hg
                go_wp2
                exact ⟨_, rfl, Below.refl _ _, rfl⟩
              (try simp only [List.cons_append, List.nil_append, Act.put, List.setIfInBounds_toArray, List.set_cons_zero, List.set_cons_succ])
              refine inw_cons (fun wx hg hd => ?_) (fun v3 => ?_)
              · have hx := ((Below.refl wr.heap.size wr).drew).trans hg
                have hp1 : (wPts H : SP).1 v1 wx := hd 1 (by simp) (by decide)
                (try (have ee : v2 = (.slice ah m ch : Value) := hd 2 (by simp) (by decide); subst ee))
                clear hd hg
                obtain ⟨ag, cg, rfl, h1, h2⟩ := hp1
                go_wp2_with fail
                refine (HAS.out.same1 _ _ _ h1 hx).mono ?_
                rintro e w' ⟨rfl, hb⟩
                go_wp2
                exact ⟨_, rfl, hb, rfl⟩
              (try simp only [List.cons_append, List.nil_append, Act.put, List.setIfInBounds_toArray, List.set_cons_zero, List.set_cons_succ])
              refine inw_cons (fun wx hg hd => ?_) (fun v4 => ?_)
              · have hx := ((Below.refl wr.heap.size wr).drew).trans hg
                (try (have ee : v3 = (.bool true : Value) := hd 3 (by simp) (by decide); subst ee))
                clear hd hg
                go_wp2
                exact ⟨_, rfl, Below.refl _ _, rfl⟩
              (try simp only [List.cons_append, List.nil_append, Act.put, List.setIfInBounds_toArray, List.set_cons_zero, List.set_cons_succ])
              refine inw_cons (fun wx hg hd => ?_) (fun v5 => ?_)
              · have hx := ((Below.refl wr.heap.size wr).drew).trans hg
                (try (have ee : v4 = (.bool false : Value) := hd 4 (by simp) (by decide); subst ee))
                clear hd hg
                go_wp2
                exact ⟨_, rfl, Below.refl _ _, rfl⟩
              (try simp only [List.cons_append, List.nil_append, Act.put, List.setIfInBounds_toArray, List.set_cons_zero, List.set_cons_succ])
              refine inw_cons (fun wx hg hd => ?_) (fun v6 => ?_)
              · have hx := ((Below.refl wr.heap.size wr).drew).trans hg
                (try (have ee : v5 = (.bool false : Value) := hd 5 (by simp) (by decide); subst ee))
                clear hd hg
                go_wp2
                exact ⟨_, rfl, Below.refl _ _, rfl⟩
              (try simp only [List.cons_append, List.nil_append, Act.put, List.setIfInBounds_toArray, List.set_cons_zero, List.set_cons_succ])
              refine inw_cons (fun wx hg hd => ?_) (fun v7 => ?_)
              · have hx := ((Below.refl wr.heap.size wr).drew).trans hg
                (try (have ee : v5 = (.bool false : Value) := hd 5 (by simp) (by decide); subst ee))
                (try (have ee : v6 = (.slice ao 0 c : Value) := hd 6 (by simp) (by decide); subst ee))
                clear hd hg
                go_wp2_with fail
                refine ((HAS.out.area) _ hx).mono ?_
                rintro e w' ⟨rfl, hb⟩
                go_wp2
                exact ⟨_, rfl, hb, rfl⟩
              (try simp only [List.cons_append, List.nil_append, Act.put, List.setIfInBounds_toArray, List.set_cons_zero, List.set_cons_succ])
              refine inw_cons (fun wx hg hd => ?_) (fun v8 => ?_)
              · have hx := ((Below.refl wr.heap.size wr).drew).trans hg
                (try (have ee : v5 = (.bool false : Value) := hd 5 (by simp) (by decide); subst ee))
                clear hd hg
                go_wp2
                exact ⟨_, rfl, Below.refl _ _, rfl⟩
              (try simp only [List.cons_append, List.nil_append, Act.put, List.setIfInBounds_toArray, List.set_cons_zero, List.set_cons_succ])
              refine inw_cons (fun wx hg hd => ?_) (fun v9 => ?_)
              · have hx := ((Below.refl wr.heap.size wr).drew).trans hg
                (try (have ee : v5 = (.bool false : Value) := hd 5 (by simp) (by decide); subst ee))
                (try (have ee : v7 = (.int .i64 ar : Value) := hd 7 (by simp) (by decide); subst ee))
                (try (have ee : v8 = (.int .i64 ar : Value) := hd 8 (by simp) (by decide); subst ee))
                clear hd hg
                go_wp2
                exact ⟨_, rfl, Below.refl _ _, rfl⟩
              (try simp only [List.cons_append, List.nil_append, Act.put, List.setIfInBounds_toArray, List.set_cons_zero, List.set_cons_succ])
              refine inw_cons (fun wx hg hd => ?_) (fun v10 => ?_)
              · have hx := ((Below.refl wr.heap.size wr).drew).trans hg
                (try (have ee : v5 = (.bool false : Value) := hd 5 (by simp) (by decide); subst ee))
                (try (have ee : v9 = (.bool false : Value) := hd 9 (by simp) (by decide); subst ee))
                clear hd hg
                go_wp2
                exact ⟨_, rfl, Below.refl _ _, rfl⟩
              (try simp only [List.cons_append, List.nil_append, Act.put, List.setIfInBounds_toArray, List.set_cons_zero, List.set_cons_succ])
              refine inw_cons (fun wx hg hd => ?_) (fun v11 => ?_)
              · have hx := ((Below.refl wr.heap.size wr).drew).trans hg
                (try (have ee : v10 = (.bool false : Value) := hd 10 (by simp) (by decide); subst ee))
                clear hd hg
                go_wp2
                exact ⟨_, rfl, Below.refl _ _, rfl⟩
              (try simp only [List.cons_append, List.nil_append, Act.put, List.setIfInBounds_toArray, List.set_cons_zero, List.set_cons_succ])
              refine inw_cons (fun wx hg hd => ?_) (fun v12 => ?_)
              · have hx := ((Below.refl wr.heap.size wr).drew).trans hg
                (try (have ee : v11 = (.bool false : Value) := hd 11 (by simp) (by decide); subst ee))
                clear hd hg
                go_wp2
                exact ⟨_, rfl, Below.refl _ _, rfl⟩
              (try simp only [List.cons_append, List.nil_append, Act.put, List.setIfInBounds_toArray, List.set_cons_zero, List.set_cons_succ])
              refine inw_cons (fun wx hg hd => ?_) (fun v13 => ?_)
              · have hx := ((Below.refl wr.heap.size wr).drew).trans hg
                (try (have ee : v11 = (.bool false : Value) := hd 11 (by simp) (by decide); subst ee))
                (try (have ee : v12 = (.slice ao 0 c : Value) := hd 12 (by simp) (by decide); subst ee))
                clear hd hg
                go_wp2_with fail
                refine ((HAS.out.convex) _ hx).mono ?_
                rintro e w' ⟨rfl, hb⟩
                go_wp2
                exact ⟨_, rfl, hb, rfl⟩
              (try simp only [List.cons_append, List.nil_append, Act.put, List.setIfInBounds_toArray, List.set_cons_zero, List.set_cons_succ])
              refine inw_cons (fun wx hg hd => ?_) (fun v14 => ?_)
              · have hx := ((Below.refl wr.heap.size wr).drew).trans hg
                (try (have ee : v11 = (.bool false : Value) := hd 11 (by simp) (by decide); subst ee))
                clear hd hg
                go_wp2
                exact ⟨_, rfl, Below.refl _ _, rfl⟩
              (try simp only [List.cons_append, List.nil_append, Act.put, List.setIfInBounds_toArray, List.set_cons_zero, List.set_cons_succ])
              refine inw_cons (fun wx hg hd => ?_) (fun v15 => ?_)
              · have hx := ((Below.refl wr.heap.size wr).drew).trans hg
                (try (have ee : v11 = (.bool false : Value) := hd 11 (by simp) (by decide); subst ee))
                (try (have ee : v14 = (.slice ao 0 c : Value) := hd 14 (by simp) (by decide); subst ee))
                clear hd hg
                go_wp2
                exact ⟨_, rfl, Below.refl _ _, rfl⟩
              (try simp only [List.cons_append, List.nil_append, Act.put, List.setIfInBounds_toArray, List.set_cons_zero, List.set_cons_succ])
              refine inw_cons (fun wx hg hd => ?_) (fun v16 => ?_)
              · have hx := ((Below.refl wr.heap.size wr).drew).trans hg
                (try (have ee : v11 = (.bool false : Value) := hd 11 (by simp) (by decide); subst ee))
                (try (have ee : v15 = (.int .i64 0 : Value) := hd 15 (by simp) (by decide); subst ee))
                clear hd hg
                go_wp2
                exact ⟨_, rfl, Below.refl _ _, rfl⟩
              (try simp only [List.cons_append, List.nil_append, Act.put, List.setIfInBounds_toArray, List.set_cons_zero, List.set_cons_succ])
              refine inw_cons (fun wx hg hd => ?_) (fun v17 => ?_)
              · have hx := ((Below.refl wr.heap.size wr).drew).trans hg
                (try (have ee : v11 = (.bool false : Value) := hd 11 (by simp) (by decide); subst ee))
                (try (have ee : v16 = (.bool false : Value) := hd 16 (by simp) (by decide); subst ee))
                clear hd hg
                go_wp2
                exact ⟨_, rfl, Below.refl _ _, rfl⟩
              (try simp only [List.cons_append, List.nil_append, Act.put, List.setIfInBounds_toArray, List.set_cons_zero, List.set_cons_succ])
              refine inw_cons (fun wx hg hd => ?_) (fun v18 => ?_)
              · have hx := ((Below.refl wr.heap.size wr).drew).trans hg
                (try (have ee : v17 = (.bool false : Value) := hd 17 (by simp) (by decide); subst ee))
                clear hd hg
                go_wp2
                exact ⟨_, rfl, Below.refl _ _, rfl⟩
              (try simp only [List.cons_append, List.nil_append, Act.put, List.setIfInBounds_toArray, List.set_cons_zero, List.set_cons_succ])
              refine inw_cons (fun wx hg hd => ?_) (fun v19 => ?_)
              · have hx := ((Below.refl wr.heap.size wr).drew).trans hg
                (try (have ee : v17 = (.bool false : Value) := hd 17 (by simp) (by decide); subst ee))
                (try (have ee : v18 = (undef : Value) := hd 18 (by simp) (by decide); subst ee))
                clear hd hg
                go_wp2
                exact ⟨_, rfl, Below.refl _ _, rfl⟩
              (try simp only [List.cons_append, List.nil_append, Act.put, List.setIfInBounds_toArray, List.set_cons_zero, List.set_cons_succ])
              refine inw_cons (fun wx hg hd => ?_) (fun v20 => ?_)
              · have hx := ((Below.refl wr.heap.size wr).drew).trans hg
                (try (have ee : v11 = (.bool false : Value) := hd 11 (by simp) (by decide); subst ee))
                (try (have ee : v17 = (.bool false : Value) := hd 17 (by simp) (by decide); subst ee))
                (try (have ee : v19 = (undef : Value) := hd 19 (by simp) (by decide); subst ee))
                clear hd hg
                go_wp2
                exact ⟨_, rfl, Below.refl _ _, rfl⟩
              (try simp only [List.cons_append, List.nil_append, Act.put, List.setIfInBounds_toArray, List.set_cons_zero, List.set_cons_succ])
              refine inw_cons (fun wx hg hd => ?_) (fun v21 => ?_)
              · have hx := ((Below.refl wr.heap.size wr).drew).trans hg
                (try (have ee : v11 = (.bool false : Value) := hd 11 (by simp) (by decide); subst ee))
                (try (have ee : v20 = (.bool false : Value) := hd 20 (by simp) (by decide); subst ee))
                clear hd hg
                go_wp2
                exact ⟨_, rfl, Below.refl _ _, rfl⟩
              (try simp only [List.cons_append, List.nil_append, Act.put, List.setIfInBounds_toArray, List.set_cons_zero, List.set_cons_succ])
              refine inw_cons (fun wx hg hd => ?_) (fun v22 => ?_)
              · have hx := ((Below.refl wr.heap.size wr).drew).trans hg
                (try (have ee : v21 = (.bool false : Value) := hd 21 (by simp) (by decide); subst ee))
                clear hd hg
                go_wp2
                exact ⟨_, rfl, Below.refl _ _, rfl⟩
              (try simp only [List.cons_append, List.nil_append, Act.put, List.setIfInBounds_toArray, List.set_cons_zero, List.set_cons_succ])
              refine inw_cons (fun wx hg hd => ?_) (fun v23 => ?_)
              · have hx := ((Below.refl wr.heap.size wr).drew).trans hg
                (try (have ee : v21 = (.bool false : Value) := hd 21 (by simp) (by decide); subst ee))
                clear hd hg
                go_wp2
                exact ⟨_, rfl, Below.refl _ _, rfl⟩
              (try simp only [List.cons_append, List.nil_append, Act.put, List.setIfInBounds_toArray, List.set_cons_zero, List.set_cons_succ])
              refine inw_cons (fun wx hg hd => ?_) (fun v24 => ?_)
              · have hx := ((Below.refl wr.heap.size wr).drew).trans hg
                (try (have ee : v21 = (.bool false : Value) := hd 21 (by simp) (by decide); subst ee))
                (try (have ee : v22 = (undef : Value) := hd 22 (by simp) (by decide); subst ee))
                (try (have ee : v23 = (undef : Value) := hd 23 (by simp) (by decide); subst ee))
                clear hd hg
                go_wp2
                exact ⟨_, rfl, Below.refl _ _, rfl⟩
              (try simp only [List.cons_append, List.nil_append, Act.put, List.setIfInBounds_toArray, List.set_cons_zero, List.set_cons_succ])
              refine inw_cons (fun wx hg hd => ?_) (fun v25 => ?_)
              · have hx := ((Below.refl wr.heap.size wr).drew).trans hg
                (try (have ee : v11 = (.bool false : Value) := hd 11 (by simp) (by decide); subst ee))
                (try (have ee : v21 = (.bool false : Value) := hd 21 (by simp) (by decide); subst ee))
                (try (have ee : v24 = (undef : Value) := hd 24 (by simp) (by decide); subst ee))
                clear hd hg
                go_wp2
                exact ⟨_, rfl, Below.refl _ _, rfl⟩
              (try simp only [List.cons_append, List.nil_append, Act.put, List.setIfInBounds_toArray, List.set_cons_zero, List.set_cons_succ])
              refine inw_cons (fun wx hg hd => ?_) (fun v26 => ?_)
              · have hx := ((Below.refl wr.heap.size wr).drew).trans hg
                (try (have ee : v11 = (.bool false : Value) := hd 11 (by simp) (by decide); subst ee))
                (try (have ee : v13 = (.bool false : Value) := hd 13 (by simp) (by decide); subst ee))
                (try (have ee : v25 = (.bool false : Value) := hd 25 (by simp) (by decide); subst ee))
                clear hd hg
                go_wp2
                exact ⟨_, rfl, Below.refl _ _, rfl⟩
              (try simp only [List.cons_append, List.nil_append, Act.put, List.setIfInBounds_toArray, List.set_cons_zero, List.set_cons_succ])
              refine inw_cons (fun wx hg hd => ?_) (fun v27 => ?_)
              · have hx := ((Below.refl wr.heap.size wr).drew).trans hg
                (try (have ee : v11 = (.bool false : Value) := hd 11 (by simp) (by decide); subst ee))
                (try (have ee : v26 = (.bool false : Value) := hd 26 (by simp) (by decide); subst ee))
                clear hd hg
                go_wp2
                exact ⟨_, rfl, Below.refl _ _, rfl⟩
              (try simp only [List.cons_append, List.nil_append, Act.put, List.setIfInBounds_toArray, List.set_cons_zero, List.set_cons_succ])
              refine inw_cons (fun wx hg hd => ?_) (fun v28 => ?_)
              · have hx := ((Below.refl wr.heap.size wr).drew).trans hg
                (try (have ee : v27 = (.bool false : Value) := hd 27 (by simp) (by decide); subst ee))
                clear hd hg
                go_wp2
                exact ⟨_, rfl, Below.refl _ _, rfl⟩
              (try simp only [List.cons_append, List.nil_append, Act.put, List.setIfInBounds_toArray, List.set_cons_zero, List.set_cons_succ])
              refine inw_cons (fun wx hg hd => ?_) (fun v29 => ?_)
              · have hx := ((Below.refl wr.heap.size wr).drew).trans hg
                (try (have ee : v28 = (.bool false : Value) := hd 28 (by simp) (by decide); subst ee))
                clear hd hg
                go_wp2
                exact ⟨_, rfl, Below.refl _ _, rfl⟩
              (try simp only [List.cons_append, List.nil_append, Act.put, List.setIfInBounds_toArray, List.set_cons_zero, List.set_cons_succ])
              refine inw_cons (fun wx hg hd => ?_) (fun v30 => ?_)
              · have hx := ((Below.refl wr.heap.size wr).drew).trans hg
                (try (have ee : v28 = (.bool false : Value) := hd 28 (by simp) (by decide); subst ee))
                clear hd hg
                obtain ⟨k1, k2, k3, k4, k5⟩ := (HPB.out.below hx).cells
                go_wp2
                exact ⟨_, rfl, Below.refl _ _, rfl⟩
              (try simp only [List.cons_append, List.nil_append, Act.put, List.setIfInBounds_toArray, List.set_cons_zero, List.set_cons_succ])
              refine inw_cons (fun wx hg hd => ?_) (fun v31 => ?_)
              · have hx := ((Below.refl wr.heap.size wr).drew).trans hg
                (try (have ee : v28 = (.bool false : Value) := hd 28 (by simp) (by decide); subst ee))
                (try (have ee : v29 = (.slice ah m ch : Value) := hd 29 (by simp) (by decide); subst ee))
                (try (have ee : v30 = (.agg #[.int .i64 p.1, .int .i64 p.2] : Value) := hd 30 (by simp) (by decide); subst ee))
                clear hd hg
                go_wp2_with fail
                refine ((HAS.out.hh1) _ hx).mono ?_
                rintro e w' ⟨rfl, hb⟩
                go_wp2
                exact ⟨_, rfl, hb, rfl⟩
              (try simp only [List.cons_append, List.nil_append, Act.put, List.setIfInBounds_toArray, List.set_cons_zero, List.set_cons_succ])
              refine inw_cons (fun wx hg hd => ?_) (fun v32 => ?_)
              · have hx := ((Below.refl wr.heap.size wr).drew).trans hg
                (try (have ee : v28 = (.bool false : Value) := hd 28 (by simp) (by decide); subst ee))
                clear hd hg
                go_wp2
                exact ⟨_, rfl, Below.refl _ _, rfl⟩
              (try simp only [List.cons_append, List.nil_append, Act.put, List.setIfInBounds_toArray, List.set_cons_zero, List.set_cons_succ])
              refine inw_cons (fun wx hg hd => ?_) (fun v33 => ?_)
              · have hx := ((Below.refl wr.heap.size wr).drew).trans hg
                (try (have ee : v28 = (.bool false : Value) := hd 28 (by simp) (by decide); subst ee))
                clear hd hg
                obtain ⟨k1, k2, k3, k4, k5⟩ := (HPB.out.below hx).cells
                go_wp2
                exact ⟨_, rfl, Below.refl _ _, rfl⟩
              (try simp only [List.cons_append, List.nil_append, Act.put, List.setIfInBounds_toArray, List.set_cons_zero, List.set_cons_succ])
              refine inw_cons (fun wx hg hd => ?_) (fun v34 => ?_)
              · have hx := ((Below.refl wr.heap.size wr).drew).trans hg
                (try (have ee : v28 = (.bool false : Value) := hd 28 (by simp) (by decide); subst ee))
                (try (have ee : v32 = (.slice ah m ch : Value) := hd 32 (by simp) (by decide); subst ee))
                (try (have ee : v33 = (.agg #[.int .i64 p.1, .int .i64 p.2] : Value) := hd 33 (by simp) (by decide); subst ee))
                clear hd hg
                go_wp2_with fail
                refine ((HAS.out.hh2) _ hx).mono ?_
                rintro e w' ⟨rfl, hb⟩
                go_wp2
                exact ⟨_, rfl, hb, rfl⟩
              (try simp only [List.cons_append, List.nil_append, Act.put, List.setIfInBounds_toArray, List.set_cons_zero, List.set_cons_succ])
              refine inw_cons (fun wx hg hd => ?_) (fun v35 => ?_)
              · have hx := ((Below.refl wr.heap.size wr).drew).trans hg
                (try (have ee : v28 = (.bool false : Value) := hd 28 (by simp) (by decide); subst ee))
                (try (have ee : v31 = (.bool hh : Value) := hd 31 (by simp) (by decide); subst ee))
                (try (have ee : v34 = (.bool hh : Value) := hd 34 (by simp) (by decide); subst ee))
                clear hd hg
                go_wp2
                exact ⟨_, rfl, Below.refl _ _, rfl⟩
              (try simp only [List.cons_append, List.nil_append, Act.put, List.setIfInBounds_toArray, List.set_cons_zero, List.set_cons_succ])
              refine inw_cons (fun wx hg hd => ?_) (fun v36 => ?_)
              · have hx := ((Below.refl wr.heap.size wr).drew).trans hg
                (try (have ee : v28 = (.bool false : Value) := hd 28 (by simp) (by decide); subst ee))
                (try (have ee : v35 = (.bool false : Value) := hd 35 (by simp) (by decide); subst ee))
                clear hd hg
                go_wp2
                exact ⟨_, rfl, Below.refl _ _, rfl⟩
              (try simp only [List.cons_append, List.nil_append, Act.put, List.setIfInBounds_toArray, List.set_cons_zero, List.set_cons_succ])
              refine inw_cons (fun wx hg hd => ?_) (fun v37 => ?_)
              · have hx := ((Below.refl wr.heap.size wr).drew).trans hg
                (try (have ee : v36 = (.bool false : Value) := hd 36 (by simp) (by decide); subst ee))
                clear hd hg
                go_wp2
                exact ⟨_, rfl, Below.refl _ _, rfl⟩
              (try simp only [List.cons_append, List.nil_append, Act.put, List.setIfInBounds_toArray, List.set_cons_zero, List.set_cons_succ])
              refine inw_cons (fun wx hg hd => ?_) (fun v38 => ?_)
              · have hx := ((Below.refl wr.heap.size wr).drew).trans hg
                (try (have ee : v37 = (.bool false : Value) := hd 37 (by simp) (by decide); subst ee))
                clear hd hg
                go_wp2
                exact ⟨_, rfl, Below.refl _ _, rfl⟩
              (try simp only [List.cons_append, List.nil_append, Act.put, List.setIfInBounds_toArray, List.set_cons_zero, List.set_cons_succ])
              refine inw_cons (fun wx hg hd => ?_) (fun v39 => ?_)
              · have hx := ((Below.refl wr.heap.size wr).drew).trans hg
                (try (have ee : v37 = (.bool false : Value) := hd 37 (by simp) (by decide); subst ee))
                clear hd hg
                obtain ⟨k1, k2, k3, k4, k5⟩ := (HPB.out.below hx).cells
                go_wp2
                exact ⟨_, rfl, Below.refl _ _, rfl⟩
              (try simp only [List.cons_append, List.nil_append, Act.put, List.setIfInBounds_toArray, List.set_cons_zero, List.set_cons_succ])
              refine inw_cons (fun wx hg hd => ?_) (fun v40 => ?_)
              · have hx := ((Below.refl wr.heap.size wr).drew).trans hg
                (try (have ee : v37 = (.bool false : Value) := hd 37 (by simp) (by decide); subst ee))
                (try (have ee : v38 = (.slice ao 0 c : Value) := hd 38 (by simp) (by decide); subst ee))
                (try (have ee : v39 = (.agg #[.int .i64 p.1, .int .i64 p.2] : Value) := hd 39 (by simp) (by decide); subst ee))
                clear hd hg
                go_wp2_with fail
                refine ((HAS.out.hl1) _ hx).mono ?_
                rintro e w' ⟨rfl, hb⟩
                go_wp2
                exact ⟨_, rfl, hb, rfl⟩
              (try simp only [List.cons_append, List.nil_append, Act.put, List.setIfInBounds_toArray, List.set_cons_zero, List.set_cons_succ])
              refine inw_cons (fun wx hg hd => ?_) (fun v41 => ?_)
              · have hx := ((Below.refl wr.heap.size wr).drew).trans hg
                (try (have ee : v37 = (.bool false : Value) := hd 37 (by simp) (by decide); subst ee))
                clear hd hg
                go_wp2
                exact ⟨_, rfl, Below.refl _ _, rfl⟩
              (try simp only [List.cons_append, List.nil_append, Act.put, List.setIfInBounds_toArray, List.set_cons_zero, List.set_cons_succ])
              refine inw_cons (fun wx hg hd => ?_) (fun v42 => ?_)
              · have hx := ((Below.refl wr.heap.size wr).drew).trans hg
                (try (have ee : v37 = (.bool false : Value) := hd 37 (by simp) (by decide); subst ee))
                clear hd hg
                obtain ⟨k1, k2, k3, k4, k5⟩ := (HPB.out.below hx).cells
                go_wp2
                exact ⟨_, rfl, Below.refl _ _, rfl⟩
              (try simp only [List.cons_append, List.nil_append, Act.put, List.setIfInBounds_toArray, List.set_cons_zero, List.set_cons_succ])
              refine inw_cons (fun wx hg hd => ?_) (fun v43 => ?_)
              · have hx := ((Below.refl wr.heap.size wr).drew).trans hg
                (try (have ee : v37 = (.bool false : Value) := hd 37 (by simp) (by decide); subst ee))
                (try (have ee : v41 = (.slice ao 0 c : Value) := hd 41 (by simp) (by decide); subst ee))
                (try (have ee : v42 = (.agg #[.int .i64 p.1, .int .i64 p.2] : Value) := hd 42 (by simp) (by decide); subst ee))
                clear hd hg
                go_wp2_with fail
                refine ((HAS.out.hl2) _ hx).mono ?_
                rintro e w' ⟨rfl, hb⟩
                go_wp2
                exact ⟨_, rfl, hb, rfl⟩
              (try simp only [List.cons_append, List.nil_append, Act.put, List.setIfInBounds_toArray, List.set_cons_zero, List.set_cons_succ])
              refine inw_cons (fun wx hg hd => ?_) (fun v44 => ?_)
              · have hx := ((Below.refl wr.heap.size wr).drew).trans hg
                (try (have ee : v37 = (.bool false : Value) := hd 37 (by simp) (by decide); subst ee))
                (try (have ee : v40 = (.bool hl : Value) := hd 40 (by simp) (by decide); subst ee))
                (try (have ee : v43 = (.bool hl : Value) := hd 43 (by simp) (by decide); subst ee))
                clear hd hg
                go_wp2
                exact ⟨_, rfl, Below.refl _ _, rfl⟩
              (try simp only [List.cons_append, List.nil_append, Act.put, List.setIfInBounds_toArray, List.set_cons_zero, List.set_cons_succ])
              refine inw_cons (fun wx hg hd => ?_) (fun v45 => ?_)
              · have hx := ((Below.refl wr.heap.size wr).drew).trans hg
                (try (have ee : v37 = (.bool false : Value) := hd 37 (by simp) (by decide); subst ee))
                (try (have ee : v44 = (.bool false : Value) := hd 44 (by simp) (by decide); subst ee))
                clear hd hg
                go_wp2
                exact ⟨_, rfl, Below.refl _ _, rfl⟩
              (try simp only [List.cons_append, List.nil_append, Act.put, List.setIfInBounds_toArray, List.set_cons_zero, List.set_cons_succ])
              refine inw_done (fun wx hg hd => ?_)
              have hx := ((Below.refl wr.heap.size wr).drew).trans hg
              (have ee : v0 = (.slice ao 0 c : Value) := hd 0 (by simp) (by kernel_rfl); subst ee)
              have hp1 : (wPts H : SP).1 v1 wx := hd 1 (by simp) (by kernel_rfl)
              (have ee : v2 = (.slice ah m ch : Value) := hd 2 (by simp) (by kernel_rfl); subst ee)
              (have ee : v3 = (.bool true : Value) := hd 3 (by simp) (by kernel_rfl); subst ee)
              (have ee : v4 = (.bool false : Value) := hd 4 (by simp) (by kernel_rfl); subst ee)
              (have ee : v5 = (.bool false : Value) := hd 5 (by simp) (by kernel_rfl); subst ee)
              (have ee : v6 = (.slice ao 0 c : Value) := hd 6 (by simp) (by kernel_rfl); subst ee)
              (have ee : v7 = (.int .i64 ar : Value) := hd 7 (by simp) (by kernel_rfl); subst ee)
              (have ee : v8 = (.int .i64 ar : Value) := hd 8 (by simp) (by kernel_rfl); subst ee)
              (have ee : v9 = (.bool false : Value) := hd 9 (by simp) (by kernel_rfl); subst ee)
              (have ee : v10 = (.bool false : Value) := hd 10 (by simp) (by kernel_rfl); subst ee)
              (have ee : v11 = (.bool false : Value) := hd 11 (by simp) (by kernel_rfl); subst ee)
              (have ee : v12 = (.slice ao 0 c : Value) := hd 12 (by simp) (by kernel_rfl); subst ee)
              (have ee : v13 = (.bool false : Value) := hd 13 (by simp) (by kernel_rfl); subst ee)
              (have ee : v14 = (.slice ao 0 c : Value) := hd 14 (by simp) (by kernel_rfl); subst ee)
              (have ee : v15 = (.int .i64 0 : Value) := hd 15 (by simp) (by kernel_rfl); subst ee)
              (have ee : v16 = (.bool false : Value) := hd 16 (by simp) (by kernel_rfl); subst ee)
              (have ee : v17 = (.bool false : Value) := hd 17 (by simp) (by kernel_rfl); subst ee)
              (have ee : v18 = (undef : Value) := hd 18 (by simp) (by kernel_rfl); subst ee)
              (have ee : v19 = (undef : Value) := hd 19 (by simp) (by kernel_rfl); subst ee)
              (have ee : v20 = (.bool false : Value) := hd 20 (by simp) (by kernel_rfl); subst ee)
              (have ee : v21 = (.bool false : Value) := hd 21 (by simp) (by kernel_rfl); subst ee)
              (have ee : v22 = (undef : Value) := hd 22 (by simp) (by kernel_rfl); subst ee)
              (have ee : v23 = (undef : Value) := hd 23 (by simp) (by kernel_rfl); subst ee)
              (have ee : v24 = (undef : Value) := hd 24 (by simp) (by kernel_rfl); subst ee)
              (have ee : v25 = (.bool false : Value) := hd 25 (by simp) (by kernel_rfl); subst ee)
              (have ee : v26 = (.bool false : Value) := hd 26 (by simp) (by kernel_rfl); subst ee)
              (have ee : v27 = (.bool false : Value) := hd 27 (by simp) (by kernel_rfl); subst ee)
              (have ee : v28 = (.bool false : Value) := hd 28 (by simp) (by kernel_rfl); subst ee)
              (have ee : v29 = (.slice ah m ch : Value) := hd 29 (by simp) (by kernel_rfl); subst ee)
              (have ee : v30 = (.agg #[.int .i64 p.1, .int .i64 p.2] : Value) := hd 30 (by simp) (by kernel_rfl); subst ee)
              (have ee : v31 = (.bool hh : Value) := hd 31 (by simp) (by kernel_rfl); subst ee)
              (have ee : v32 = (.slice ah m ch : Value) := hd 32 (by simp) (by kernel_rfl); subst ee)
              (have ee : v33 = (.agg #[.int .i64 p.1, .int .i64 p.2] : Value) := hd 33 (by simp) (by kernel_rfl); subst ee)
              (have ee : v34 = (.bool hh : Value) := hd 34 (by simp) (by kernel_rfl); subst ee)
              (have ee : v35 = (.bool false : Value) := hd 35 (by simp) (by kernel_rfl); subst ee)
              (have ee : v36 = (.bool false : Value) := hd 36 (by simp) (by kernel_rfl); subst ee)
              (have ee : v37 = (.bool false : Value) := hd 37 (by simp) (by kernel_rfl); subst ee)
              (have ee : v38 = (.slice ao 0 c : Value) := hd 38 (by simp) (by kernel_rfl); subst ee)
              (have ee : v39 = (.agg #[.int .i64 p.1, .int .i64 p.2] : Value) := hd 39 (by simp) (by kernel_rfl); subst ee)
              (have ee : v40 = (.bool hl : Value) := hd 40 (by simp) (by kernel_rfl); subst ee)
              (have ee : v41 = (.slice ao 0 c : Value) := hd 41 (by simp) (by kernel_rfl); subst ee)
              (have ee : v42 = (.agg #[.int .i64 p.1, .int .i64 p.2] : Value) := hd 42 (by simp) (by kernel_rfl); subst ee)
              (have ee : v43 = (.bool hl : Value) := hd 43 (by simp) (by kernel_rfl); subst ee)
              (have ee : v44 = (.bool false : Value) := hd 44 (by simp) (by kernel_rfl); subst ee)
              (have ee : v45 = (.bool false : Value) := hd 45 (by simp) (by kernel_rfl); subst ee)
              clear hd hg
              (try go_simp)
              have HXX := Lib.hid hx
              clear hx hp1
              go_wp2
              go_meet
              exact ⟨rfl, HXX.out⟩
            · have HCE : Hid (decide (H = l) = cx) := (HCX.out hn0).symm
              clear HN0 HCX
              refine wp_region_inw ([.inl (.slice ao n c), .inr (wPts H), .inl (.slice ah m ch), .inl (.bool true), .inl (.bool false), .inl (.bool false), .inl (.slice ao n c), .inl (.int .i64 ar), .inl (.int .i64 ar), .inl (.bool false), .inl (.bool false), .inl (.bool false), .inl (.slice ao n c), .inl (.bool cx), .inl (.slice ao n c), .inl (.int .i64 n), .inl (.bool true), .inl (.bool true), .inl (.slice ao n c), .inl (.bool true), .inl (.bool true), .inl (.bool true), .inl (.slice ah m ch), .inl (.slice ao n c), .inl (.bool cx), .inl (.bool cx), .inl (.bool false), .inl (.bool false), .inl (.bool false), .inl (.slice ah m ch), .inl (.agg #[.int .i64 p.1, .int .i64 p.2]), .inl (.bool hh), .inl (.slice ah m ch), .inl (.agg #[.int .i64 p.1, .int .i64 p.2]), .inl (.bool hh), .inl (.bool false), .inl (.bool false), .inl (.bool false), .inl (.slice ao n c), .inl (.agg #[.int .i64 p.1, .int .i64 p.2]), .inl (.bool hl), .inl (.slice ao n c), .inl (.agg #[.int .i64 p.1, .int .i64 p.2]), .inl (.bool hl), .inl (.bool false), .inl (.bool false)] : List Want) [] (by kernel_rfl) (by kernel_rfl) (by kernel_rfl) ?_
              refine inw_cons (fun wx hg hd => ?_) (fun v0 => ?_)
              · have hx := ((Below.refl wr.heap.size wr).drew).trans hg
                clear hd hg
                go_wp2
                exact ⟨_, rfl, Below.refl _ _, rfl⟩
              (try simp only [List.nil_append, Act.put, List.setIfInBounds_toArray, List.set_cons_zero, List.set_cons_succ])
              refine inw_cons (fun wx hg hd => ?_) (fun v1 => ?_)
              · have hx := ((Below.refl wr.heap.size wr).drew).trans hg
                (try (have ee : v0 = (.slice ao n c : Value) := hd 0 (by simp) (by decide); subst ee))
                clear hd hg
                go_wp2_with fail
                refine (HAS.out.of _ hx).mono ?_
                rintro e w' ⟨ag, cg, rfl, h1, h2, hb⟩
                go_wp2
                exact ⟨_, rfl, hb, ag, cg, rfl, h1, h2⟩
              (try simp only [List.cons_append, List.nil_append, Act.put, List.setIfInBounds_toArray, List.set_cons_zero, List.set_cons_succ])
              refine inw_cons (fun wx hg hd => ?_) (fun v2 => ?_)
              · have hx := ((Below.refl wr.heap.size wr).drew).trans hg
                clear hd hg
                go_wp2
                exact ⟨_, rfl, Below.refl _ _, rfl⟩
              (try simp only [List.cons_append, List.nil_append, Act.put, List.setIfInBounds_toArray, List.set_cons_zero, List.set_cons_succ])
              refine inw_cons (fun wx hg hd => ?_) (fun v3 => ?_)
              · have hx := ((Below.refl wr.heap.size wr).drew).trans hg
                have hp1 : (wPts H : SP).1 v1 wx := hd 1 (by simp) (by decide)
                (try (have ee : v2 = (.slice ah m ch : Value) := hd 2 (by simp) (by decide); subst ee))
                clear hd hg
                obtain ⟨ag, cg, rfl, h1, h2⟩ := hp1
                go_wp2_with fail
                refine (HAS.out.same1 _ _ _ h1 hx).mono ?_
                rintro e w' ⟨rfl, hb⟩
                go_wp2
                exact ⟨_, rfl, hb, rfl⟩
              (try simp only [List.cons_append, List.nil_append, Act.put, List.setIfInBounds_toArray, List.set_cons_zero, List.set_cons_succ])
              refine inw_cons (fun wx hg hd => ?_) (fun v4 => ?_)
              · have hx := ((Below.refl wr.heap.size wr).drew).trans hg
                (try (have ee : v3 = (.bool true : Value) := hd 3 (by simp) (by decide); subst ee))
                clear hd hg
                go_wp2
                exact ⟨_, rfl, Below.refl _ _, rfl⟩
              (try simp only [List.cons_append, List.nil_append, Act.put, List.setIfInBounds_toArray, List.set_cons_zero, List.set_cons_succ])
              refine inw_cons (fun wx hg hd => ?_) (fun v5 => ?_)
              · have hx := ((Below.refl wr.heap.size wr).drew).trans hg
                (try (have ee : v4 = (.bool false : Value) := hd 4 (by simp) (by decide); subst ee))
                clear hd hg
                go_wp2
                exact ⟨_, rfl, Below.refl _ _, rfl⟩
              (try simp only [List.cons_append, List.nil_append, Act.put, List.setIfInBounds_toArray, List.set_cons_zero, List.set_cons_succ])
              refine inw_cons (fun wx hg hd => ?_) (fun v6 => ?_)
              · have hx := ((Below.refl wr.heap.size wr).drew).trans hg
                (try (have ee : v5 = (.bool false : Value) := hd 5 (by simp) (by decide); subst ee))
                clear hd hg
                go_wp2
                exact ⟨_, rfl, Below.refl _ _, rfl⟩
              (try simp only [List.cons_append, List.nil_append, Act.put, List.setIfInBounds_toArray, List.set_cons_zero, List.set_cons_succ])
              refine inw_cons (fun wx hg hd => ?_) (fun v7 => ?_)
              · have hx := ((Below.refl wr.heap.size wr).drew).trans hg
                (try (have ee : v5 = (.bool false : Value) := hd 5 (by simp) (by decide); subst ee))
                (try (have ee : v6 = (.slice ao n c : Value) := hd 6 (by simp) (by decide); subst ee))
                clear hd hg
                go_wp2_with fail
                refine ((HAS.out.area) _ hx).mono ?_
                rintro e w' ⟨rfl, hb⟩
                go_wp2
                exact ⟨_, rfl, hb, rfl⟩
              (try simp only [List.cons_append, List.nil_append, Act.put, List.setIfInBounds_toArray, List.set_cons_zero, List.set_cons_succ])
              refine inw_cons (fun wx hg hd => ?_) (fun v8 => ?_)
              · have hx := ((Below.refl wr.heap.size wr).drew).trans hg
                (try (have ee : v5 = (.bool false : Value) := hd 5 (by simp) (by decide); subst ee))
                clear hd hg
                go_wp2
                exact ⟨_, rfl, Below.refl _ _, rfl⟩
              (try simp only [List.cons_append, List.nil_append, Act.put, List.setIfInBounds_toArray, List.set_cons_zero, List.set_cons_succ])
              refine inw_cons (fun wx hg hd => ?_) (fun v9 => ?_)
              · have hx := ((Below.refl wr.heap.size wr).drew).trans hg
                (try (have ee : v5 = (.bool false : Value) := hd 5 (by simp) (by decide); subst ee))
                (try (have ee : v7 = (.int .i64 ar : Value) := hd 7 (by simp) (by decide); subst ee))
                (try (have ee : v8 = (.int .i64 ar : Value) := hd 8 (by simp) (by decide); subst ee))
                clear hd hg
                go_wp2
                exact ⟨_, rfl, Below.refl _ _, rfl⟩
              (try simp only [List.cons_append, List.nil_append, Act.put, List.setIfInBounds_toArray, List.set_cons_zero, List.set_cons_succ])
              refine inw_cons (fun wx hg hd => ?_) (fun v10 => ?_)
              · have hx := ((Below.refl wr.heap.size wr).drew).trans hg
                (try (have ee : v5 = (.bool false : Value) := hd 5 (by simp) (by decide); subst ee))
                (try (have ee : v9 = (.bool false : Value) := hd 9 (by simp) (by decide); subst ee))
                clear hd hg
                go_wp2
                exact ⟨_, rfl, Below.refl _ _, rfl⟩
              (try simp only [List.cons_append, List.nil_append, Act.put, List.setIfInBounds_toArray, List.set_cons_zero, List.set_cons_succ])
              refine inw_cons (fun wx hg hd => ?_) (fun v11 => ?_)
              · have hx := ((Below.refl wr.heap.size wr).drew).trans hg
                (try (have ee : v10 = (.bool false : Value) := hd 10 (by simp) (by decide); subst ee))
                clear hd hg
                go_wp2
                exact ⟨_, rfl, Below.refl _ _, rfl⟩
              (try simp only [List.cons_append, List.nil_append, Act.put, List.setIfInBounds_toArray, List.set_cons_zero, List.set_cons_succ])
              refine inw_cons (fun wx hg hd => ?_) (fun v12 => ?_)
              · have hx := ((Below.refl wr.heap.size wr).drew).trans hg
                (try (have ee : v11 = (.bool false : Value) := hd 11 (by simp) (by decide); subst ee))
                clear hd hg
                go_wp2
                exact ⟨_, rfl, Below.refl _ _, rfl⟩
              (try simp only [List.cons_append, List.nil_append, Act.put, List.setIfInBounds_toArray, List.set_cons_zero, List.set_cons_succ])
              refine inw_cons (fun wx hg hd => ?_) (fun v13 => ?_)
              · have hx := ((Below.refl wr.heap.size wr).drew).trans hg
                (try (have ee : v11 = (.bool false : Value) := hd 11 (by simp) (by decide); subst ee))
                (try (have ee : v12 = (.slice ao n c : Value) := hd 12 (by simp) (by decide); subst ee))
                clear hd hg
                go_wp2_with fail
                refine ((HAS.out.convex) _ hx).mono ?_
                rintro e w' ⟨rfl, hb⟩
                go_wp2
                exact ⟨_, rfl, hb, rfl⟩
              (try simp only [List.cons_append, List.nil_append, Act.put, List.setIfInBounds_toArray, List.set_cons_zero, List.set_cons_succ])
              refine inw_cons (fun wx hg hd => ?_) (fun v14 => ?_)
              · have hx := ((Below.refl wr.heap.size wr).drew).trans hg
                (try (have ee : v11 = (.bool false : Value) := hd 11 (by simp) (by decide); subst ee))
                clear hd hg
                go_wp2
                exact ⟨_, rfl, Below.refl _ _, rfl⟩
              (try simp only [List.cons_append, List.nil_append, Act.put, List.setIfInBounds_toArray, List.set_cons_zero, List.set_cons_succ])
              refine inw_cons (fun wx hg hd => ?_) (fun v15 => ?_)
              · have hx := ((Below.refl wr.heap.size wr).drew).trans hg
                (try (have ee : v11 = (.bool false : Value) := hd 11 (by simp) (by decide); subst ee))
                (try (have ee : v14 = (.slice ao n c : Value) := hd 14 (by simp) (by decide); subst ee))
                clear hd hg
                go_wp2
                exact ⟨_, rfl, Below.refl _ _, rfl⟩
              (try simp only [List.cons_append, List.nil_append, Act.put, List.setIfInBounds_toArray, List.set_cons_zero, List.set_cons_succ])
              refine inw_cons (fun wx hg hd => ?_) (fun v16 => ?_)
              · have hx := ((Below.refl wr.heap.size wr).drew).trans hg
                (try (have ee : v11 = (.bool false : Value) := hd 11 (by simp) (by decide); subst ee))
                (try (have ee : v15 = (.int .i64 n : Value) := hd 15 (by simp) (by decide); subst ee))
                clear hd hg
                go_wp2
                exact ⟨_, rfl, Below.refl _ _, rfl⟩
              (try simp only [List.cons_append, List.nil_append, Act.put, List.setIfInBounds_toArray, List.set_cons_zero, List.set_cons_succ])
              refine inw_cons (fun wx hg hd => ?_) (fun v17 => ?_)
              · have hx := ((Below.refl wr.heap.size wr).drew).trans hg
                (try (have ee : v11 = (.bool false : Value) := hd 11 (by simp) (by decide); subst ee))
                (try (have ee : v16 = (.bool true : Value) := hd 16 (by simp) (by decide); subst ee))
                clear hd hg
                go_wp2
                exact ⟨_, rfl, Below.refl _ _, rfl⟩
              (try simp only [List.cons_append, List.nil_append, Act.put, List.setIfInBounds_toArray, List.set_cons_zero, List.set_cons_succ])
              refine inw_cons (fun wx hg hd => ?_) (fun v18 => ?_)
              · have hx := ((Below.refl wr.heap.size wr).drew).trans hg
                (try (have ee : v17 = (.bool true : Value) := hd 17 (by simp) (by decide); subst ee))
                clear hd hg
                go_wp2
                exact ⟨_, rfl, Below.refl _ _, rfl⟩
              (try simp only [List.cons_append, List.nil_append, Act.put, List.setIfInBounds_toArray, List.set_cons_zero, List.set_cons_succ])
              refine inw_cons (fun wx hg hd => ?_) (fun v19 => ?_)
              · have hx := ((Below.refl wr.heap.size wr).drew).trans hg
                (try (have ee : v17 = (.bool true : Value) := hd 17 (by simp) (by decide); subst ee))
                (try (have ee : v18 = (.slice ao n c : Value) := hd 18 (by simp) (by decide); subst ee))
                clear hd hg
                go_wp2_with fail
                refine ((HAS.out.small) _ hx).mono ?_
                rintro e w' ⟨rfl, hb⟩
                go_wp2
                exact ⟨_, rfl, hb, rfl⟩
              (try simp only [List.cons_append, List.nil_append, Act.put, List.setIfInBounds_toArray, List.set_cons_zero, List.set_cons_succ])
              refine inw_cons (fun wx hg hd => ?_) (fun v20 => ?_)
              · have hx := ((Below.refl wr.heap.size wr).drew).trans hg
                (try (have ee : v11 = (.bool false : Value) := hd 11 (by simp) (by decide); subst ee))
                (try (have ee : v17 = (.bool true : Value) := hd 17 (by simp) (by decide); subst ee))
                (try (have ee : v19 = (.bool true : Value) := hd 19 (by simp) (by decide); subst ee))
                clear hd hg
                go_wp2
                exact ⟨_, rfl, Below.refl _ _, rfl⟩
              (try simp only [List.cons_append, List.nil_append, Act.put, List.setIfInBounds_toArray, List.set_cons_zero, List.set_cons_succ])
              refine inw_cons (fun wx hg hd => ?_) (fun v21 => ?_)
              · have hx := ((Below.refl wr.heap.size wr).drew).trans hg
                (try (have ee : v11 = (.bool false : Value) := hd 11 (by simp) (by decide); subst ee))
                (try (have ee : v20 = (.bool true : Value) := hd 20 (by simp) (by decide); subst ee))
                clear hd hg
                go_wp2
                exact ⟨_, rfl, Below.refl _ _, rfl⟩
              (try simp only [List.cons_append, List.nil_append, Act.put, List.setIfInBounds_toArray, List.set_cons_zero, List.set_cons_succ])
              refine inw_cons (fun wx hg hd => ?_) (fun v22 => ?_)
              · have hx := ((Below.refl wr.heap.size wr).drew).trans hg
                (try (have ee : v21 = (.bool true : Value) := hd 21 (by simp) (by decide); subst ee))
                clear hd hg
                go_wp2
                exact ⟨_, rfl, Below.refl _ _, rfl⟩
              (try simp only [List.cons_append, List.nil_append, Act.put, List.setIfInBounds_toArray, List.set_cons_zero, List.set_cons_succ])
              refine inw_cons (fun wx hg hd => ?_) (fun v23 => ?_)
              · have hx := ((Below.refl wr.heap.size wr).drew).trans hg
                (try (have ee : v21 = (.bool true : Value) := hd 21 (by simp) (by decide); subst ee))
                clear hd hg
                go_wp2
                exact ⟨_, rfl, Below.refl _ _, rfl⟩
              (try simp only [List.cons_append, List.nil_append, Act.put, List.setIfInBounds_toArray, List.set_cons_zero, List.set_cons_succ])
              refine inw_cons (fun wx hg hd => ?_) (fun v24 => ?_)
              · have hx := ((Below.refl wr.heap.size wr).drew).trans hg
                (try (have ee : v21 = (.bool true : Value) := hd 21 (by simp) (by decide); subst ee))
                (try (have ee : v22 = (.slice ah m ch : Value) := hd 22 (by simp) (by decide); subst ee))
                (try (have ee : v23 = (.slice ao n c : Value) := hd 23 (by simp) (by decide); subst ee))
                clear hd hg
                go_wp2_with fail
                have h9 := HAS.out.same2 wx hx
                rw [HCE.out] at h9
                refine h9.mono ?_
                rintro e w' ⟨rfl, hb⟩
                go_wp2
                exact ⟨_, rfl, hb, rfl⟩
              (try simp only [List.cons_append, List.nil_append, Act.put, List.setIfInBounds_toArray, List.set_cons_zero, List.set_cons_succ])
              refine inw_cons (fun wx hg hd => ?_) (fun v25 => ?_)
              · have hx := ((Below.refl wr.heap.size wr).drew).trans hg
                (try (have ee : v11 = (.bool false : Value) := hd 11 (by simp) (by decide); subst ee))
                (try (have ee : v21 = (.bool true : Value) := hd 21 (by simp) (by decide); subst ee))
                (try (have ee : v24 = (.bool cx : Value) := hd 24 (by simp) (by decide); subst ee))
                clear hd hg
                go_wp2
                exact ⟨_, rfl, Below.refl _ _, rfl⟩
              (try simp only [List.cons_append, List.nil_append, Act.put, List.setIfInBounds_toArray, List.set_cons_zero, List.set_cons_succ])
              refine inw_cons (fun wx hg hd => ?_) (fun v26 => ?_)
              · have hx := ((Below.refl wr.heap.size wr).drew).trans hg
                (try (have ee : v11 = (.bool false : Value) := hd 11 (by simp) (by decide); subst ee))
                (try (have ee : v13 = (.bool cx : Value) := hd 13 (by simp) (by decide); subst ee))
                (try (have ee : v25 = (.bool cx : Value) := hd 25 (by simp) (by decide); subst ee))
                clear hd hg
                go_wp2
                exact ⟨_, rfl, Below.refl _ _, rfl⟩
              (try simp only [List.cons_append, List.nil_append, Act.put, List.setIfInBounds_toArray, List.set_cons_zero, List.set_cons_succ])
              refine inw_cons (fun wx hg hd => ?_) (fun v27 => ?_)
              · have hx := ((Below.refl wr.heap.size wr).drew).trans hg
                (try (have ee : v11 = (.bool false : Value) := hd 11 (by simp) (by decide); subst ee))
                (try (have ee : v26 = (.bool false : Value) := hd 26 (by simp) (by decide); subst ee))
                clear hd hg
                go_wp2
                exact ⟨_, rfl, Below.refl _ _, rfl⟩
              (try simp only [List.cons_append, List.nil_append, Act.put, List.setIfInBounds_toArray, List.set_cons_zero, List.set_cons_succ])
              refine inw_cons (fun wx hg hd => ?_) (fun v28 => ?_)
              · have hx := ((Below.refl wr.heap.size wr).drew).trans hg
                (try (have ee : v27 = (.bool false : Value) := hd 27 (by simp) (by decide); subst ee))
                clear hd hg
                go_wp2
                exact ⟨_, rfl, Below.refl _ _, rfl⟩
              (try simp only [List.cons_append, List.nil_append, Act.put, List.setIfInBounds_toArray, List.set_cons_zero, List.set_cons_succ])
              refine inw_cons (fun wx hg hd => ?_) (fun v29 => ?_)
              · have hx := ((Below.refl wr.heap.size wr).drew).trans hg
                (try (have ee : v28 = (.bool false : Value) := hd 28 (by simp) (by decide); subst ee))
                clear hd hg
                go_wp2
                exact ⟨_, rfl, Below.refl _ _, rfl⟩
              (try simp only [List.cons_append, List.nil_append, Act.put, List.setIfInBounds_toArray, List.set_cons_zero, List.set_cons_succ])
              refine inw_cons (fun wx hg hd => ?_) (fun v30 => ?_)
              · have hx := ((Below.refl wr.heap.size wr).drew).trans hg
                (try (have ee : v28 = (.bool false : Value) := hd 28 (by simp) (by decide); subst ee))
                clear hd hg
                obtain ⟨k1, k2, k3, k4, k5⟩ := (HPB.out.below hx).cells
                go_wp2
                exact ⟨_, rfl, Below.refl _ _, rfl⟩
              (try simp only [List.cons_append, List.nil_append, Act.put, List.setIfInBounds_toArray, List.set_cons_zero, List.set_cons_succ])
              refine inw_cons (fun wx hg hd => ?_) (fun v31 => ?_)
              · have hx := ((Below.refl wr.heap.size wr).drew).trans hg
                (try (have ee : v28 = (.bool false : Value) := hd 28 (by simp) (by decide); subst ee))
                (try (have ee : v29 = (.slice ah m ch : Value) := hd 29 (by simp) (by decide); subst ee))
                (try (have ee : v30 = (.agg #[.int .i64 p.1, .int .i64 p.2] : Value) := hd 30 (by simp) (by decide); subst ee))
                clear hd hg
                go_wp2_with fail
                refine ((HAS.out.hh1) _ hx).mono ?_
                rintro e w' ⟨rfl, hb⟩
                go_wp2
                exact ⟨_, rfl, hb, rfl⟩
              (try simp only [List.cons_append, List.nil_append, Act.put, List.setIfInBounds_toArray, List.set_cons_zero, List.set_cons_succ])
              refine inw_cons (fun wx hg hd => ?_) (fun v32 => ?_)
              · have hx := ((Below.refl wr.heap.size wr).drew).trans hg
                (try (have ee : v28 = (.bool false : Value) := hd 28 (by simp) (by decide); subst ee))
                clear hd hg
                go_wp2
                exact ⟨_, rfl, Below.refl _ _, rfl⟩
              (try simp only [List.cons_append, List.nil_append, Act.put, List.setIfInBounds_toArray, List.set_cons_zero, List.set_cons_succ])
              refine inw_cons (fun wx hg hd => ?_) (fun v33 => ?_)
              · have hx := ((Below.refl wr.heap.size wr).drew).trans hg
                (try (have ee : v28 = (.bool false : Value) := hd 28 (by simp) (by decide); subst ee))
                clear hd hg
                obtain ⟨k1, k2, k3, k4, k5⟩ := (HPB.out.below hx).cells
                go_wp2
                exact ⟨_, rfl, Below.refl _ _, rfl⟩
              (try simp only [List.cons_append, List.nil_append, Act.put, List.setIfInBounds_toArray, List.set_cons_zero, List.set_cons_succ])
              refine inw_cons (fun wx hg hd => ?_) (fun v34 => ?_)
              · have hx := ((Below.refl wr.heap.size wr).drew).trans hg
                (try (have ee : v28 = (.bool false : Value) := hd 28 (by simp) (by decide); subst ee))
                (try (have ee : v32 = (.slice ah m ch : Value) := hd 32 (by simp) (by decide); subst ee))
                (try (have ee : v33 = (.agg #[.int .i64 p.1, .int .i64 p.2] : Value) := hd 33 (by simp) (by decide); subst ee))
                clear hd hg
                go_wp2_with fail
                refine ((HAS.out.hh2) _ hx).mono ?_
                rintro e w' ⟨rfl, hb⟩
                go_wp2
                exact ⟨_, rfl, hb, rfl⟩
              (try simp only [List.cons_append, List.nil_append, Act.put, List.setIfInBounds_toArray, List.set_cons_zero, List.set_cons_succ])
              refine inw_cons (fun wx hg hd => ?_) (fun v35 => ?_)
              · have hx := ((Below.refl wr.heap.size wr).drew).trans hg
                (try (have ee : v28 = (.bool false : Value) := hd 28 (by simp) (by decide); subst ee))
                (try (have ee : v31 = (.bool hh : Value) := hd 31 (by simp) (by decide); subst ee))
                (try (have ee : v34 = (.bool hh : Value) := hd 34 (by simp) (by decide); subst ee))
                clear hd hg
                go_wp2
                exact ⟨_, rfl, Below.refl _ _, rfl⟩
              (try simp only [List.cons_append, List.nil_append, Act.put, List.setIfInBounds_toArray, List.set_cons_zero, List.set_cons_succ])
              refine inw_cons (fun wx hg hd => ?_) (fun v36 => ?_)
              · have hx := ((Below.refl wr.heap.size wr).drew).trans hg
                (try (have ee : v28 = (.bool false : Value) := hd 28 (by simp) (by decide); subst ee))
                (try (have ee : v35 = (.bool false : Value) := hd 35 (by simp) (by decide); subst ee))
                clear hd hg
                go_wp2
                exact ⟨_, rfl, Below.refl _ _, rfl⟩
              (try simp only [List.cons_append, List.nil_append, Act.put, List.setIfInBounds_toArray, List.set_cons_zero, List.set_cons_succ])
              refine inw_cons (fun wx hg hd => ?_) (fun v37 => ?_)
              · have hx := ((Below.refl wr.heap.size wr).drew).trans hg
                (try (have ee : v36 = (.bool false : Value) := hd 36 (by simp) (by decide); subst ee))
                clear hd hg
                go_wp2
                exact ⟨_, rfl, Below.refl _ _, rfl⟩
              (try simp only [List.cons_append, List.nil_append, Act.put, List.setIfInBounds_toArray, List.set_cons_zero, List.set_cons_succ])
              refine inw_cons (fun wx hg hd => ?_) (fun v38 => ?_)
              · have hx := ((Below.refl wr.heap.size wr).drew).trans hg
                (try (have ee : v37 = (.bool false : Value) := hd 37 (by simp) (by decide); subst ee))
                clear hd hg
                go_wp2
                exact ⟨_, rfl, Below.refl _ _, rfl⟩
              (try simp only [List.cons_append, List.nil_append, Act.put, List.setIfInBounds_toArray, List.set_cons_zero, List.set_cons_succ])
              refine inw_cons (fun wx hg hd => ?_) (fun v39 => ?_)
              · have hx := ((Below.refl wr.heap.size wr).drew).trans hg
                (try (have ee : v37 = (.bool false : Value) := hd 37 (by simp) (by decide); subst ee))
                clear hd hg
                obtain ⟨k1, k2, k3, k4, k5⟩ := (HPB.out.below hx).cells
                go_wp2
                exact ⟨_, rfl, Below.refl _ _, rfl⟩
              (try simp only [List.cons_append, List.nil_append, Act.put, List.setIfInBounds_toArray, List.set_cons_zero, List.set_cons_succ])
              refine inw_cons (fun wx hg hd => ?_) (fun v40 => ?_)
              · have hx := ((Below.refl wr.heap.size wr).drew).trans hg
                (try (have ee : v37 = (.bool false : Value) := hd 37 (by simp) (by decide); subst ee))
                (try (have ee : v38 = (.slice ao n c : Value) := hd 38 (by simp) (by decide); subst ee))
                (try (have ee : v39 = (.agg #[.int .i64 p.1, .int .i64 p.2] : Value) := hd 39 (by simp) (by decide); subst ee))
                clear hd hg
                go_wp2_with fail
                refine ((HAS.out.hl1) _ hx).mono ?_
                rintro e w' ⟨rfl, hb⟩
                go_wp2
                exact ⟨_, rfl, hb, rfl⟩
              (try simp only [List.cons_append, List.nil_append, Act.put, List.setIfInBounds_toArray, List.set_cons_zero, List.set_cons_succ])
              refine inw_cons (fun wx hg hd => ?_) (fun v41 => ?_)
              · have hx := ((Below.refl wr.heap.size wr).drew).trans hg
                (try (have ee : v37 = (.bool false : Value) := hd 37 (by simp) (by decide); subst ee))
                clear hd hg
                go_wp2
                exact ⟨_, rfl, Below.refl _ _, rfl⟩
              (try simp only [List.cons_append, List.nil_append, Act.put, List.setIfInBounds_toArray, List.set_cons_zero, List.set_cons_succ])
              refine inw_cons (fun wx hg hd => ?_) (fun v42 => ?_)
              · have hx := ((Below.refl wr.heap.size wr).drew).trans hg
                (try (have ee : v37 = (.bool false : Value) := hd 37 (by simp) (by decide); subst ee))
                clear hd hg
                obtain ⟨k1, k2, k3, k4, k5⟩ := (HPB.out.below hx).cells
                go_wp2
                exact ⟨_, rfl, Below.refl _ _, rfl⟩
              (try simp only [List.cons_append, List.nil_append, Act.put, List.setIfInBounds_toArray, List.set_cons_zero, List.set_cons_succ])
              refine inw_cons (fun wx hg hd => ?_) (fun v43 => ?_)
              · have hx := ((Below.refl wr.heap.size wr).drew).trans hg
                (try (have ee : v37 = (.bool false : Value) := hd 37 (by simp) (by decide); subst ee))
                (try (have ee : v41 = (.slice ao n c : Value) := hd 41 (by simp) (by decide); subst ee))
                (try (have ee : v42 = (.agg #[.int .i64 p.1, .int .i64 p.2] : Value) := hd 42 (by simp) (by decide); subst ee))
                clear hd hg
                go_wp2_with fail
                refine ((HAS.out.hl2) _ hx).mono ?_
                rintro e w' ⟨rfl, hb⟩
                go_wp2
                exact ⟨_, rfl, hb, rfl⟩
              (try simp only [List.cons_append, List.nil_append, Act.put, List.setIfInBounds_toArray, List.set_cons_zero, List.set_cons_succ])
              refine inw_cons (fun wx hg hd => ?_) (fun v44 => ?_)
              · have hx := ((Below.refl wr.heap.size wr).drew).trans hg
                (try (have ee : v37 = (.bool false : Value) := hd 37 (by simp) (by decide); subst ee))
                (try (have ee : v40 = (.bool hl : Value) := hd 40 (by simp) (by decide); subst ee))
                (try (have ee : v43 = (.bool hl : Value) := hd 43 (by simp) (by decide); subst ee))
                clear hd hg
                go_wp2
                exact ⟨_, rfl, Below.refl _ _, rfl⟩
              (try simp only [List.cons_append, List.nil_append, Act.put, List.setIfInBounds_toArray, List.set_cons_zero, List.set_cons_succ])
              refine inw_cons (fun wx hg hd => ?_) (fun v45 => ?_)
              · have hx := ((Below.refl wr.heap.size wr).drew).trans hg
                (try (have ee : v37 = (.bool false : Value) := hd 37 (by simp) (by decide); subst ee))
                (try (have ee : v44 = (.bool false : Value) := hd 44 (by simp) (by decide); subst ee))
                clear hd hg
                go_wp2
                exact ⟨_, rfl, Below.refl _ _, rfl⟩
              (try simp only [List.cons_append, List.nil_append, Act.put, List.setIfInBounds_toArray, List.set_cons_zero, List.set_cons_succ])
              refine inw_done (fun wx hg hd => ?_)
              have hx := ((Below.refl wr.heap.size wr).drew).trans hg
              (have ee : v0 = (.slice ao n c : Value) := hd 0 (by simp) (by kernel_rfl); subst ee)
              have hp1 : (wPts H : SP).1 v1 wx := hd 1 (by simp) (by kernel_rfl)
              (have ee : v2 = (.slice ah m ch : Value) := hd 2 (by simp) (by kernel_rfl); subst ee)
              (have ee : v3 = (.bool true : Value) := hd 3 (by simp) (by kernel_rfl); subst ee)
              (have ee : v4 = (.bool false : Value) := hd 4 (by simp) (by kernel_rfl); subst ee)
              (have ee : v5 = (.bool false : Value) := hd 5 (by simp) (by kernel_rfl); subst ee)
              (have ee : v6 = (.slice ao n c : Value) := hd 6 (by simp) (by kernel_rfl); subst ee)
              (have ee : v7 = (.int .i64 ar : Value) := hd 7 (by simp) (by kernel_rfl); subst ee)
              (have ee : v8 = (.int .i64 ar : Value) := hd 8 (by simp) (by kernel_rfl); subst ee)
              (have ee : v9 = (.bool false : Value) := hd 9 (by simp) (by kernel_rfl); subst ee)
              (have ee : v10 = (.bool false : Value) := hd 10 (by simp) (by kernel_rfl); subst ee)
              (have ee : v11 = (.bool false : Value) := hd 11 (by simp) (by kernel_rfl); subst ee)
              (have ee : v12 = (.slice ao n c : Value) := hd 12 (by simp) (by kernel_rfl); subst ee)
              (have ee : v13 = (.bool cx : Value) := hd 13 (by simp) (by kernel_rfl); subst ee)
              (have ee : v14 = (.slice ao n c : Value) := hd 14 (by simp) (by kernel_rfl); subst ee)
              (have ee : v15 = (.int .i64 n : Value) := hd 15 (by simp) (by kernel_rfl); subst ee)
              (have ee : v16 = (.bool true : Value) := hd 16 (by simp) (by kernel_rfl); subst ee)
              (have ee : v17 = (.bool true : Value) := hd 17 (by simp) (by kernel_rfl); subst ee)
              (have ee : v18 = (.slice ao n c : Value) := hd 18 (by simp) (by kernel_rfl); subst ee)
              (have ee : v19 = (.bool true : Value) := hd 19 (by simp) (by kernel_rfl); subst ee)
              (have ee : v20 = (.bool true : Value) := hd 20 (by simp) (by kernel_rfl); subst ee)
              (have ee : v21 = (.bool true : Value) := hd 21 (by simp) (by kernel_rfl); subst ee)
              (have ee : v22 = (.slice ah m ch : Value) := hd 22 (by simp) (by kernel_rfl); subst ee)
              (have ee : v23 = (.slice ao n c : Value) := hd 23 (by simp) (by kernel_rfl); subst ee)
              (have ee : v24 = (.bool cx : Value) := hd 24 (by simp) (by kernel_rfl); subst ee)
              (have ee : v25 = (.bool cx : Value) := hd 25 (by simp) (by kernel_rfl); subst ee)
              (have ee : v26 = (.bool false : Value) := hd 26 (by simp) (by kernel_rfl); subst ee)
              (have ee : v27 = (.bool false : Value) := hd 27 (by simp) (by kernel_rfl); subst ee)
              (have ee : v28 = (.bool false : Value) := hd 28 (by simp) (by kernel_rfl); subst ee)
              (have ee : v29 = (.slice ah m ch : Value) := hd 29 (by simp) (by kernel_rfl); subst ee)
              (have ee : v30 = (.agg #[.int .i64 p.1, .int .i64 p.2] : Value) := hd 30 (by simp) (by kernel_rfl); subst ee)
              (have ee : v31 = (.bool hh : Value) := hd 31 (by simp) (by kernel_rfl); subst ee)
              (have ee : v32 = (.slice ah m ch : Value) := hd 32 (by simp) (by kernel_rfl); subst ee)
              (have ee : v33 = (.agg #[.int .i64 p.1, .int .i64 p.2] : Value) := hd 33 (by simp) (by kernel_rfl); subst ee)
              (have ee : v34 = (.bool hh : Value) := hd 34 (by simp) (by kernel_rfl); subst ee)
              (have ee : v35 = (.bool false : Value) := hd 35 (by simp) (by kernel_rfl); subst ee)
              (have ee : v36 = (.bool false : Value) := hd 36 (by simp) (by kernel_rfl); subst ee)
              (have ee : v37 = (.bool false : Value) := hd 37 (by simp) (by kernel_rfl); subst ee)
              (have ee : v38 = (.slice ao n c : Value) := hd 38 (by simp) (by kernel_rfl); subst ee)
              (have ee : v39 = (.agg #[.int .i64 p.1, .int .i64 p.2] : Value) := hd 39 (by simp) (by kernel_rfl); subst ee)
              (have ee : v40 = (.bool hl : Value) := hd 40 (by simp) (by kernel_rfl); subst ee)
              (have ee : v41 = (.slice ao n c : Value) := hd 41 (by simp) (by kernel_rfl); subst ee)
              (have ee : v42 = (.agg #[.int .i64 p.1, .int .i64 p.2] : Value) := hd 42 (by simp) (by kernel_rfl); subst ee)
              (have ee : v43 = (.bool hl : Value) := hd 43 (by simp) (by kernel_rfl); subst ee)
              (have ee : v44 = (.bool false : Value) := hd 44 (by simp) (by kernel_rfl); subst ee)
              (have ee : v45 = (.bool false : Value) := hd 45 (by simp) (by kernel_rfl); subst ee)
              clear hd hg
              (try go_simp)
              have HXX := Lib.hid hx
              clear hx hp1
              go_wp2
              go_meet
              exact ⟨rfl, HXX.out⟩
          case rest =>
            obtain ⟨rfl, HXX⟩ := hcut
            have HB3 : Hid (Below pb w wc) := HBE.out.trans (HXX.out.mono HSZE.out)
            have HPC := Lib.hid (HPB.out.below HXX.out)
            have es : bits BinOp.and IntKind.i64 S 255 = S % 256 := i64_and_mask S 8 (by omega) 255 rfl
            have es0 : 0 ≤ S % 256 := Int.emod_nonneg _ (by omega)
            have es1 : S % 256 < 256 := Int.emod_lt_of_pos _ (by omega)
            have HNE := Lib.hid (near_any a1 n1 c1 z1 (S % 256 + 2) wc (ints_wider (HG.out.below HB3.out (Nat.le_refl _)) (by have := HB3.out.size; rw [HPE.out] at this; exact this)) hn1 (by omega) (by omega))
            have hszc : pb ≤ wc.heap.size := by have := HB3.out.size; rw [HPE.out] at this; exact this
            clear HAS HPB HBE HSZE HXX
            go_upto_region 14 with (fail)
            clear es
            generalize S % 256 = T at *
            go_wp2_with fail
            refine HNE.out.mono ?_
            rintro e w3 ⟨al, cl, l2, rfl, hl12, hsm, ho, hb, -⟩
            have HP3 := Lib.hid (HPC.out.below hb)
            have HO3 := Lib.hid ho
            have HPW : Hid (pb < wc.heap.size) := HPC.out.lt
            have HB4 : Hid (Below pb w w3) := HB3.out.trans (hb.mono hszc)
            have hsz3 : pb ≤ w3.heap.size := Nat.le_trans hszc hb.size
            clear hsm ho hb HNE HB3 HPC hszc
            obtain ⟨k1, k2, k3, k4, k5⟩ := HP3.out.cells
            obtain ⟨px, hpx⟩ : ∃ px, p.1.tmod (T + 2) = px := ⟨_, rfl⟩
            obtain ⟨py, hpy⟩ : ∃ py, p.2.tmod (T + 2) = py := ⟨_, rfl⟩
            have hT : T + 2 ≠ 0 := by omega
            have HFIN : Hid (∀ nq, PAt (((w3.drewN nq).setCell ⟨pb, 0, none⟩ (.int .i64 px)).setCell ⟨pb, 1, none⟩ (.int .i64 py)) al l2 ∧ Pb (((w3.drewN nq).setCell ⟨pb, 0, none⟩ (.int .i64 px)).setCell ⟨pb, 1, none⟩ (.int .i64 py)) pb (px, py) ∧ Below pb w (((w3.drewN nq).setCell ⟨pb, 0, none⟩ (.int .i64 px)).setCell ⟨pb, 1, none⟩ (.int .i64 py))) := fun nq => by
              have hbd : Below w3.heap.size w3 (w3.drewN nq) := below_dn _ _
              have h1 := (HP3.out.below hbd).put (px, py)
              refine ⟨?_, h1.1, ?_⟩
              · exact pAt_own rfl (own_turn (own_later HO3.out hbd) h1.2 fun g o s e h => by have := (own_lt HO3.out g o s e).1; have := HPW.out; omega)
              · exact (HB4.out.trans (hbd.mono hsz3)).trans (h1.2.below (Nat.le_trans hsz3 hbd.size) fun q hq e => by omega)
            have HF1 := Lib.hid (HFIN.out 1)
            clear HFIN HP3 HO3 HPW HB4
            go_upto_region 6 with (first | (with_reducible refine wp_region_lex (by kernel_rfl) (by kernel_rfl) ?_) | (with_reducible refine OnlyG.intro (by kernel_rfl) ?_))
            go_wp2
            go_roundw
            case rel => exact ⟨i + 1, l2, al, cl, (px, py), T + 2, by omega, by go_num, rfl, rfl, by omega, HF1.out⟩
            case measure => simp [intOf]; omega
      · obtain rfl : i = 2 := by omega
        have HBR := Lib.hid HR.out.2.2
        clear HR
        go_wp2_with fail
        refine (HAW.out _).mono ?_
        rintro e w6 ⟨rfl, hb⟩
        have HF : Hid (Below w.heap.size w w6) := by
          show Below _ _ _
          rw [HPE.out]
          exact HBR.out.trans (hb.mono (by have := HBR.out.size; rw [HPE.out] at this; exact this))
        clear hb
        go_wp2
        go_ret
        exact ⟨rfl, by first | exact HF.out | (rw [← HPE.out]; exact HF.out)⟩
theorem walk {w : World} (a0 : Option Addr) (n0 c0 : Nat) (ls0 : List Pt) (l0 : ls0.length = n0) (g0 : RingAt w w.heap.size a0 ls0) (a1 : Option Addr) (n1 c1 : Nat) (z1 : Nat → Int) (g1 : IntsAtK .i64 w w.heap.size a1 n1 z1) (_b1 : ∀ i, i < n1 → (Lit.int .i64 (z1 i)).wf = true) (s1 : n1 * 8 ≤ 140737488351232) (a2 : Int) (_w2 : (Lit.int .i64 a2).wf = true) (a3 b3 : Int) :
    Calls Try.prog 8 #[.slice a0 n0 c0, .slice a1 n1 c1, .int .i64 a2, .agg #[.int .i64 a3, .int .i64 b3]] w fun e w' => e = .returned (.bool true) ∧ Below w.heap.size w w' := core w a0 n0 c0 ls0 l0 g0 a1 n1 c1 z1 g1 (by omega) a2 (a3, b3)
end Go.Proofs.Ytcoffankmmjehaa.hullTells
