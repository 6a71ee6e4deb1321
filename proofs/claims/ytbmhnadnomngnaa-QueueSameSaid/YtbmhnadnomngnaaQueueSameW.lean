/- The walk of the law QueueSame. -/
import Derived.Test.YtbmhnadnomngnaaQT
import Derived.Test.YtbmhnadnomngnaaLex5
import Derived.Deep.CutRange
import Derived.Deep.CutBlock
namespace Go.Proofs.Ytbmhnadnomngnaa.queueSame
open Go.RowKit Go.Lib

def sw (z : Nat → Int) (i : Nat) : Wt := (1000 - (i : Int), (z i).tmod 10)
def sameN (z : Nat → Int) (k : Nat) : List Wt := (List.range k).map (sw z)
theorem sameN_length (z : Nat → Int) (k : Nat) : (sameN z k).length = k := by simp [sameN]
theorem sameN_succ (z : Nat → Int) (k : Nat) : sameN z (k + 1) = sameN z k ++ [sw z k] := by simp [sameN, List.range_succ]
theorem sameN_new (z : Nat → Int) (k : Nat) : ∀ p ∈ sameN z k, p.1 ≠ (sw z k).1 := fun p hp => by
  obtain ⟨j, hj, rfl⟩ := List.mem_map.1 hp
  have := List.mem_range.1 hj
  show 1000 - (j : Int) ≠ 1000 - (k : Int)
  omega
theorem sameN_ids (z : Nat → Int) (k : Nat) : ∀ p ∈ sameN z k, ∀ q ∈ sameN z k, p.1 = q.1 → p = q := fun p hp q hq e => by
  obtain ⟨j, hj, rfl⟩ := List.mem_map.1 hp
  obtain ⟨i, hi, rfl⟩ := List.mem_map.1 hq
  have : j = i := by have e' : 1000 - (j : Int) = 1000 - (i : Int) := e; omega
  rw [this]
theorem sameN_nodup (z : Nat → Int) (k : Nat) : (sameN z k).Nodup := by
  unfold sameN
  rw [List.nodup_iff_pairwise_ne]
  refine List.pairwise_map.2 (List.Pairwise.imp (fun {a b} hab e => hab ?_) List.nodup_range)
  have e' : 1000 - (a : Int) = 1000 - (b : Int) := congrArg Prod.fst e
  omega
/-- In a sorted row without a weight twice each comes ahead of the next. -/
theorem next_less {R : List Wt} (hs : SortedW R) (hn : R.Nodup) {j : Nat} (h0 : 0 < j) (hj : j < R.length) : lessW (wg R (j - 1)) (wg R j) = true := by
  have h1 := hs (j - 1) j (by omega) hj
  cases h2 : lessW (wg R (j - 1)) (wg R j) with
  | true => rfl
  | false =>
    exfalso
    have e := less_total h2 h1
    unfold wg at e
    rw [List.getD_eq_getElem?_getD, List.getElem?_eq_getElem (by omega), Option.getD_some, List.getD_eq_getElem?_getD, List.getElem?_eq_getElem hj, Option.getD_some] at e
    exact List.pairwise_iff_getElem.1 hn (j - 1) j (by omega) hj (by omega) e
theorem Half_pushN {X : Nat → Prop} {w : World} {q c : Nat} {vo : Option Addr} {Lq Lw : List Wt} (h : Half X w q vo c Lq Lw) (x : Wt) (hx : WfW x) (hno : ∀ p ∈ Lq, p.1 ≠ x.1) (hl : Lq.length ≤ 1000) :
    Calls Try.prog 9 #[.pointer (some ⟨q, 0, none⟩), aggW x] w fun e w' => e = .returned (.tuple #[]) ∧ ∃ L', L'.Perm (x :: Lq) ∧ Half X w' q vo c L' Lw ∧ Stay X w w' := by
  refine (one_push h.oneR x hx hno (by omega)).mono ?_
  rintro e w' ⟨rfl, L', h1, h3, h4⟩
  exact ⟨rfl, L', h1, h.from h3 h4, stay_r h4⟩
theorem one_moreA {X : Nat → Prop} {w w' : World} {q : Nat} {ao : Option Addr} {L : List Wt} (h : One X w q L) (hb : Below w.heap.size w w') (ha : ∀ g o s, ao = some ⟨g, o, s⟩ → w.heap.size ≤ g ∧ g < w'.heap.size) : One (XR X ao) w' q L := by
  obtain ⟨F, h1, h2⟩ := h
  refine ⟨F, h1.below hb, fun k hk => ?_⟩
  rcases hk with hk | ⟨o, s, e⟩
  · exact ⟨Nat.lt_of_lt_of_le (h2 k hk).1 hb.size, (h2 k hk).2⟩
  · exact ⟨(ha k o s e).2, fun hf => by have := h1.lt _ hf; have := (ha k o s e).1; omega⟩

set_option maxRecDepth 100000 in
set_option maxHeartbeats 4000000 in
theorem core (w : World) (a0 : Option Addr) (n0 c0 : Nat) (z : Nat → Int) (h0 : IntsAtK .i64 w w.heap.size a0 n0 z) (hsz : n0 ≤ 1000000000000000) (a1 : Int) :
    Calls Try.prog 6 #[.slice a0 n0 c0, .int .i64 a1] w fun e w' => e = .returned (.bool true) ∧ Below w.heap.size w w' := by
  have hnp : ∀ (w : World) (a : Addr), (binOp .eql 23 (.pointer (some a)) (.pointer none)).run Try.prog w = .ok (.bool false) w := fun w a => by kernel_rfl
  obtain ⟨i0, hi, hz0, hz1, hz2⟩ := info_parts info_w
  obtain ⟨X, hX⟩ : ∃ X : Nat → Prop, X = fun k => k < w.heap.size := ⟨_, rfl⟩
  have HX : Hid (∀ k, X k ↔ k < w.heap.size) := fun k => by rw [hX]
  have HN := Lib.hid (one_new X w (fun k h => (HX.out k).1 h))
  have HI := Lib.hid h0
  have HAW := Lib.hid awake16_any
  have HHE := Lib.hid heavier_any
  have HBELOW : Hid (∀ wx, Stay X w wx → Below w.heap.size w wx) := fun wx hx => hx.below (Nat.le_refl _) fun k hk => (HX.out k).2 hk
  obtain ⟨f, ef, hf0, hf1⟩ : ∃ f : Nat, bits BinOp.and IntKind.i64 a1 63 = (f : Int) ∧ 0 ≤ f ∧ f ≤ 63 := ⟨(a1 % 64).toNat, by rw [i64_and_mask a1 6 (by omega) 63 rfl]; omega, by omega, by omega⟩
  clear h0 hX
  go_enter Try.func6, Try.ntmps6
  go_wp2_with fail
  refine HN.out.mono ?_
  rintro e w1 ⟨q, rfl, h1, hb1⟩
  have H2 : Hid (St X w1 q none 0 [] [] ∧ Stay X w w1) := by
    obtain ⟨F, g1, g2⟩ := h1
    exact ⟨⟨F, g1, g2, World.ownsRow_nil _ _ _ _, fun g o s e => (by cases e), List.Perm.refl _⟩, Stay.of_below hb1⟩
  clear h1 hb1 HN
  go_wp2
  go_loopw [6, 7] (fun v i wr => ∃ (k : Nat) (vo : Option Addr) (c : Nat) (Lq : List Wt), k ≤ n0 ∧ k ≤ 60 ∧ i = .int .i64 k ∧ v = .slice vo k c ∧ Hid (St X wr q vo c Lq (sameN z k) ∧ Stay X w wr)) (fun _ i _ => 60 - (RowKit.intOf i).toNat)
  case atStart => exact ⟨0, none, 0, [], Nat.zero_le _, Nat.zero_le _, rfl, rfl, H2.out⟩
  case round =>
    obtain ⟨k, vo, c, Lq, hkn, hk60, rfl, rfl, HR⟩ := hrel
    by_cases hlt : k < n0 ∧ k < 60
    · obtain ⟨hlt1, hlt2⟩ := hlt
      obtain ⟨bb, off, rfl, hbb, hc⟩ := (HI.out.below (HBELOW.out _ HR.out.2) (Nat.le_refl _)) (by omega)
      have d0 := hc k (by omega)
      have hbw : bb < wr.heap.size := Nat.lt_of_lt_of_le hbb HR.out.2.size
      have q1 : decide (k < n0) = true := by simpa using hlt1
      have q2 : decide ((k : Int) < 60) = true := by simp; omega
      have hu : IntKind.u64.wrap (1000 - (k : Int)) = 1000 - (k : Int) := by rw [IntKind.wrap_u64]; omega
      have hal := (Below.refl wr.heap.size wr).alloc (Nat.le_refl _) (.cells #[.int .u64 (1000 - (k : Int)), .int .i64 ((z k).tmod 10)] 28)
      obtain ⟨x, hx⟩ : ∃ x : Wt, x = sw z k := ⟨_, rfl⟩
      have HXX := Lib.hid hx
      have hb0 : (1000 - (k : Int)) = x.1 := by rw [hx]; rfl
      have hb1 : (z k).tmod 10 = x.2 := by rw [hx]; rfl
      have hwx : WfW x := by
        rw [hx]
        refine ⟨?_, wf_i64 ?_ ?_⟩
        · unfold Lit.wf; rw [Bool.and_eq_true, decide_eq_true_eq, decide_eq_true_eq]
          exact ⟨show (0 : Int) ≤ 1000 - (k : Int) by omega, show 1000 - (k : Int) ≤ 18446744073709551615 by omega⟩
        · show -9223372036854775808 ≤ (z k).tmod 10
          have := Int.lt_tmod_of_pos (z k) (b := 10) (by omega)
          omega
        · show (z k).tmod 10 ≤ 9223372036854775807
          have := Int.tmod_lt_of_pos (z k) (b := 10) (by omega)
          omega
      have HWX := Lib.hid hwx
      have HB0 := Lib.hid hb0
      have HB1 := Lib.hid hb1
      have hh0 : (wr.alloc (.cells #[.int .u64 (1000 - (k : Int)), .int .i64 ((z k).tmod 10)] 28)).heap[wr.heap.size]? = some (.cells #[.int .u64 x.1, .int .i64 x.2] 28 (0, 0)) := by rw [← hb0, ← hb1]; exact heap_new _ _ _ rfl
      have HH0 := Lib.hid hh0
      have HST := Lib.hid (HR.out.1.half.more hal (Nat.le_refl _) (by rw [World.size_alloc]; omega))
      have HSY := Lib.hid (HR.out.2.trans (Stay.of_below (X := X) hal))
      have HSZ : Hid (wr.heap.size < (wr.alloc (.cells #[.int .u64 (1000 - (k : Int)), .int .i64 ((z k).tmod 10)] 28)).heap.size) := by show _ < _; rw [World.size_alloc]; omega
      have HPM := Lib.hid HR.out.1.perm
      have HK := Lib.hid hx
      clear hc hx hb0 hb1 hwx hh0 hal HR
      go_upto_region 9 with (fail)
      generalize wr.alloc (.cells #[.int .u64 (1000 - (k : Int)), .int .i64 ((z k).tmod 10)] 28) = wa at *
      clear d0 hbw hu
      generalize wr.heap.size = e0 at *
      obtain ⟨X2, hX2⟩ : ∃ X2 : Nat → Prop, X2 = fun k => X k ∨ k = e0 := ⟨_, rfl⟩
      rw [← hX2] at HST
      have HX2 : Hid (X2 e0 ∧ ∀ k, X k → X2 k) := by rw [hX2]; exact ⟨.inr rfl, fun k hk => .inl hk⟩
      clear hX2
      have KEEP : Hid (∀ wx, Stay X2 wa wx → wx.cell? ⟨e0, 0, none⟩ = some (.int .u64 x.1) ∧ wx.cell? ⟨e0, 1, none⟩ = some (.int .i64 x.2) ∧ e0 < wx.heap.size) := fun wx hx => by
        have h9 := (hx.block HSZ.out HX2.out.1).trans HH0.out
        exact ⟨cell_of_row _ _ 0 _ _ _ h9, cell_of_row _ _ 1 _ _ _ h9, Nat.lt_of_lt_of_le HSZ.out hx.size⟩
      obtain ⟨d0, d1, ho⟩ := KEEP.out wa (Stay.refl _ _)
      have hown := HST.out.own
      rw [sameN_length] at hown
      have HOW := Lib.hid hown
      have HAP : Hid (∀ v' wZ, wZ.ownsRow 0 28 2 v' (k + 1) (wV (sameN z k) ++ [.int .u64 x.1, .int .i64 x.2]) → (wa.alloc (.cells #[.int .u64 x.1, .int .i64 x.2] 28)).grownBy wZ (Value.ownBlock (.slice vo k c)) → (v'.ownBlock = Value.ownBlock (.slice vo k c) ∨ v'.ownBlock = some (wa.alloc (.cells #[.int .u64 x.1, .int .i64 x.2] 28)).heap.size) →
          ∃ vo' c', v' = .slice vo' (k + 1) c' ∧ Half X2 wZ q vo' c' Lq (sameN z (k + 1)) ∧ Stay X2 wa wZ) := fun v' wZ g1 g2 g3 => by
        have h := HST.out.append (x := x) (w3 := wZ) (v' := v') (o := .cells #[.int .u64 x.1, .int .i64 x.2] 28)
        rw [sameN_length] at h
        obtain ⟨vo', c', e1, e2, e3⟩ := h g1 g2 g3
        exact ⟨vo', c', e1, by rw [sameN_succ, ← HXX.out]; exact e2, e3⟩
      have hl3 : k ≤ 1000 := by omega
      clear hown
      go_wp2_with (at_builtin; refine wpList_append_own_at _ rfl (.tmp 35) (.tmp 37) 39 rfl 0 28 i0 (.agg #[.int .u64 0, .int .i64 0]) 2 16 Try.underlying39 hi hz0 hz1 hz2 rfl (by decide) _ _ _ rfl (HOW.out.alloc _) ⟨wa.heap.size, 0, none⟩ 1 1 [.int .u64 x.1, .int .i64 x.2] rfl rfl (cells_new _ _ _ _ rfl) (by simp [Value.oneCell']) (by unfold maxLen; omega) (by omega) (by simp) ?_; intro v' wZ g1 g2 _ g3; obtain ⟨vo', c', rfl, h5, h6⟩ := HAP.out v' wZ g1 g2 g3; obtain ⟨d0, d1, ho⟩ := KEEP.out wZ h6; have HH5 := Lib.hid h5; have HS6 := Lib.hid h6; clear h5 h6 g1 g2 g3)
      have HPU := Lib.hid (Half_pushN HH5.out x HWX.out (fun p hp => by rw [HXX.out]; exact sameN_new z k p (HPM.out.mem_iff.1 hp)) (by rw [HPM.out.length_eq, sameN_length]; omega))
      unfold aggW at HPU
      refine HPU.out.mono ?_
      rintro e w5 ⟨rfl, L', p1, h7, h8⟩
      have HNX : Hid (St X w5 q vo' c' L' (sameN z (k + 1)) ∧ Stay X w w5) :=
        ⟨(h7.less HX2.out.2).st (p1.trans ((List.Perm.cons _ HPM.out).trans (by rw [sameN_succ, ← HXX.out]; exact List.perm_append_comm (l₁ := [x])))), HSY.out.trans ((HS6.out.trans h8).less HX2.out.2)⟩
      clear p1 h7 h8 HPU d0 d1 ho
      go_wp2
      go_roundw
      case rel => exact ⟨k + 1, vo', c', L', by omega, by omega, by go_num, rfl, HNX.out⟩
      case measure => simp [RowKit.intOf]; omega
    · have hk3 : k = n0 ∨ (k < n0 ∧ k = 60) := by omega
      clear hlt
      rcases hk3 with hk3 | ⟨hk3, hk4⟩
      case' inl =>
        have q1 : decide (k < n0) = false := by simp; omega
        have q2 : True := trivial
        clear hk3
      case' inr =>
        have q1 : decide (k < n0) = true := by simpa using hk3
        have q2 : decide ((k : Int) < 60) = false := by simp; omega
        clear hk3 hk4
      all_goals
        have hto := top_any vo c (sameN z k) f wr HR.out.1.half.wat.1 (by rw [sameN_length]; omega)
        rw [sameN_length] at hto
        have HTO := Lib.hid hto
        clear hto
        obtain ⟨wo, hwo⟩ : ∃ wo : World, wo = wr := ⟨_, rfl⟩
        subst hwo
        go_wp2_with fail
        refine HTO.out.mono ?_
        rintro e w4 ⟨ao2, R, m2, rfl, hm, hmn, hp, hs, hw, hb, ha⟩
        rw [sameN_length] at hm hmn
        obtain ⟨hf2, hk2, hmfk⟩ : m2 ≤ f ∧ m2 ≤ k ∧ (f ≤ m2 ∨ (m2 < f ∧ k ≤ m2)) := by omega
        have hmin : min (f : Int) (k : Int) = (m2 : Int) := by omega
        have hrl : R.length = k := by rw [hp.length_eq, sameN_length]
        have HMF := Lib.hid hmfk
        have H4 : Hid (SortedW R ∧ R.Nodup ∧ R.length = k ∧ Lq.Perm R ∧ One (XR X ao2) w4 q Lq ∧ WAt w4 ao2 (R.take m2) ∧ Stay X w w4) :=
          ⟨hs, hp.nodup_iff.2 (sameN_nodup z k), hrl, HR.out.1.perm.trans hp.symm, one_moreA HR.out.1.half.one hb ha, hw, HR.out.2.trans (Stay.of_below hb)⟩
        clear hm hmn hp hs hw hb ha hrl hmfk HTO HR q1 q2
        go_wp2
        go_loopw [10] (fun i wr => ∃ (j : Nat) (L : List Wt), j ≤ m2 ∧ i = .int .i64 j ∧ Hid (L.Perm (R.drop j) ∧ One (XR X ao2) wr q L ∧ Stay (XR X ao2) w4 wr)) (fun i _ => m2 - (RowKit.intOf i).toNat)
        case atStart => exact ⟨0, Lq, Nat.zero_le _, rfl, H4.out.2.2.2.1, H4.out.2.2.2.2.1, Stay.refl _ _⟩
        case round =>
          obtain ⟨j, L, hj, rfl, HJ⟩ := hrel
          by_cases hjl : j < m2
          · have hjR : j < R.length := by rw [H4.out.2.2.1]; omega
            obtain ⟨hpos, hx0⟩ := next_one H4.out.1 hjR HJ.out.1 HJ.out.2.1.first
            have hpp := one_pop HJ.out.2.1
            rw [decide_eq_true hpos, hx0] at hpp
            simp only [if_pos hpos] at hpp
            obtain ⟨x, hx⟩ : ∃ x, wg R j = x := ⟨_, rfl⟩
            obtain ⟨y, hy⟩ : ∃ y, wg R (j - 1) = y := ⟨_, rfl⟩
            obtain ⟨j', hj1⟩ : ∃ j', j - 1 = j' := ⟨_, rfl⟩
            rw [hx] at hpp
            have HX0 := Lib.hid hx
            have HY0 := Lib.hid hy
            have HJ1 := Lib.hid hj1
            have HPP := Lib.hid hpp
            have qj1 : decide (j < f) = true := by simp; omega
            have qj2 : decide (j < k) = true := by simp; omega
            have qj3 : decide (j < m2) = true := by simpa using hjl
            have qj4 : decide (m2 ≤ j) = false := by simpa using hjl
            have HJR := Lib.hid hjR
            unfold aggW at HPP
            clear hpos hx0 hpp hx hy hj1 hjR
            go_wp2_with fail
            refine HPP.out.mono ?_
            rintro e w5 ⟨rfl, L1, hp1, ho1, hs1⟩
            have hal : Below w5.heap.size w5 (w5.alloc (.cells #[.int .u64 x.1, .int .i64 x.2] 28)) := (Below.refl _ _).alloc (Nat.le_refl _) _
            have HNX : Hid (L1.Perm (R.drop (j + 1)) ∧ ∀ wx, Below (w5.alloc (.cells #[.int .u64 x.1, .int .i64 x.2] 28)).heap.size (w5.alloc (.cells #[.int .u64 x.1, .int .i64 x.2] 28)) wx → One (XR X ao2) wx q L1 ∧ Stay (XR X ao2) w4 wx) :=
              ⟨next_rest HJR.out HJ.out.1 (by rw [HX0.out]; exact hp1), fun wx hx => ⟨(ho1.later hal).later hx, ((HJ.out.2.2.trans hs1).trans (Stay.of_below hal)).trans (Stay.of_below hx)⟩⟩
            have hwa : WAt (w5.alloc (.cells #[.int .u64 x.1, .int .i64 x.2] 28)) ao2 (R.take m2) := (H4.out.2.2.2.2.2.1.stay (HJ.out.2.2.trans hs1) fun g o s e => .inr ⟨o, s, e⟩).below hal
            have HTL : Hid ((R.take m2).length = m2) := by show _ = _; rw [List.length_take, H4.out.2.2.1]; omega
            have hwa0 := hwa
            obtain ⟨b2, o2, rfl, hb2, hc2⟩ := hwa0 (by rw [HTL.out]; omega)
            have hgx : wg (R.take m2) j = x := (wg_take hjl).trans HX0.out
            have hgy : wg (R.take m2) (j - 1) = y := (wg_take (by omega)).trans HY0.out
            have HCX := Lib.hid (hc2 j (by rw [HTL.out]; exact hjl))
            have HCY := Lib.hid (hc2 (j - 1) (by rw [HTL.out]; omega))
            rw [hgx] at HCX
            rw [hgy, HJ1.out] at HCY
            have HBX : Hid ((w5.alloc (.cells #[.int .u64 x.1, .int .i64 x.2] 28)).heap[w5.heap.size]? = some (.cells #[.int .u64 x.1, .int .i64 x.2] 28 (0, 0))) := heap_new _ _ _ rfl
            have HSZ : Hid (w5.heap.size < (w5.alloc (.cells #[.int .u64 x.1, .int .i64 x.2] 28)).heap.size) := by show _ < _; rw [World.size_alloc]; omega
            have HBB := Lib.hid hb2
            clear hc2 hwa hwa0 hal hp1 ho1 hs1 hgx hgy hb2 HPP HJ
            have EQ := eq_wt
            go_upto_region 17 with (fail)
            generalize w5.alloc (.cells #[.int .u64 x.1, .int .i64 x.2] 28) = wa at *
            generalize w5.heap.size = e1 at *
            have KEEP : Hid (∀ wx, Below wa.heap.size wa wx → (wx.cell? ⟨e1, 0, none⟩ = some (.int .u64 x.1) ∧ wx.cell? ⟨e1, 1, none⟩ = some (.int .i64 x.2)) ∧ (wx.cell? ⟨b2, o2 + j * 2, none⟩ = some (.int .u64 x.1) ∧ wx.cell? ⟨b2, o2 + j * 2 + 1, none⟩ = some (.int .i64 x.2)) ∧ (wx.cell? ⟨b2, o2 + j' * 2, none⟩ = some (.int .u64 y.1) ∧ wx.cell? ⟨b2, o2 + j' * 2 + 1, none⟩ = some (.int .i64 y.2))) := fun wx hx =>
              ⟨⟨(hx.cell (p := ⟨e1, 0, none⟩) HSZ.out).trans (cell_of_row _ _ 0 _ _ _ HBX.out), (hx.cell (p := ⟨e1, 1, none⟩) HSZ.out).trans (cell_of_row _ _ 1 _ _ _ HBX.out)⟩,
               ⟨(hx.cell (p := ⟨b2, _, none⟩) HBB.out).trans HCX.out.1, (hx.cell (p := ⟨b2, _, none⟩) HBB.out).trans HCX.out.2⟩,
               ⟨(hx.cell (p := ⟨b2, _, none⟩) HBB.out).trans HCY.out.1, (hx.cell (p := ⟨b2, _, none⟩) HBB.out).trans HCY.out.2⟩⟩
            by_cases hj0 : j = 0
            · have qj0 : decide (0 < j) = false := by simp; omega
              clear hj0
              refine wp_region_inv (fun w w' => Below w.heap.size w w') (fun qi_ qv_ _ => qv_ = ([.bool true, .bool false, .bool false, .int .i64 (j : Int), .slice (some ⟨b2, o2, none⟩) m2 m2, .int .i64 (m2 : Int), .bool false, .bool false, .bool false, .slice (some ⟨b2, o2, none⟩) m2 m2, .int .i64 (j : Int), .pointer (some ⟨b2, o2 + j * 2, none⟩), .agg #[.int .u64 x.1, .int .i64 x.2], .agg #[.int .u64 x.1, .int .i64 x.2], .bool false, .bool false, .bool false, .int .i64 (j : Int), .bool false, .bool false, undef, undef, undef, undef, undef, undef, undef, undef, undef, undef, undef, .bool false, .bool false] : List Value).getD qi_ undef) (by kernel_rfl) (by kernel_rfl) (fun _ => Below.refl _ _) (fun _ _ _ h1 h2 => below_later h1 h1.size h2) (fun _ _ _ _ _ _ h => h) ?_
              refine inv_cons (fun wx hg hd => ?_) (fun v0 => ?_)
              · have hx := ((Below.refl wa.heap.size wa).drew).trans hg
                clear hd hg
                go_wp2
                exact ⟨_, rfl, Below.refl _ _, rfl⟩
              simp only [List.nil_append, List.cons_append, Act.put, List.setIfInBounds_toArray, List.set_cons_zero, List.set_cons_succ]
              refine inv_cons (fun wx hg hd => ?_) (fun v1 => ?_)
              · have hx := ((Below.refl wa.heap.size wa).drew).trans hg
                (try (have ee : v0 = (.bool true : Value) := hd 0 (by simp) (by decide); subst ee))
                clear hd hg
                go_wp2
                exact ⟨_, rfl, Below.refl _ _, rfl⟩
              simp only [List.nil_append, List.cons_append, Act.put, List.setIfInBounds_toArray, List.set_cons_zero, List.set_cons_succ]
              refine inv_cons (fun wx hg hd => ?_) (fun v2 => ?_)
              · have hx := ((Below.refl wa.heap.size wa).drew).trans hg
                (try (have ee : v1 = (.bool false : Value) := hd 1 (by simp) (by decide); subst ee))
                clear hd hg
                go_wp2
                exact ⟨_, rfl, Below.refl _ _, rfl⟩
              simp only [List.nil_append, List.cons_append, Act.put, List.setIfInBounds_toArray, List.set_cons_zero, List.set_cons_succ]
              refine inv_cons (fun wx hg hd => ?_) (fun v3 => ?_)
              · have hx := ((Below.refl wa.heap.size wa).drew).trans hg
                (try (have ee : v2 = (.bool false : Value) := hd 2 (by simp) (by decide); subst ee))
                clear hd hg
                go_wp2
                exact ⟨_, rfl, Below.refl _ _, rfl⟩
              simp only [List.nil_append, List.cons_append, Act.put, List.setIfInBounds_toArray, List.set_cons_zero, List.set_cons_succ]
              refine inv_cons (fun wx hg hd => ?_) (fun v4 => ?_)
              · have hx := ((Below.refl wa.heap.size wa).drew).trans hg
                (try (have ee : v2 = (.bool false : Value) := hd 2 (by simp) (by decide); subst ee))
                clear hd hg
                go_wp2
                exact ⟨_, rfl, Below.refl _ _, rfl⟩
              simp only [List.nil_append, List.cons_append, Act.put, List.setIfInBounds_toArray, List.set_cons_zero, List.set_cons_succ]
              refine inv_cons (fun wx hg hd => ?_) (fun v5 => ?_)
              · have hx := ((Below.refl wa.heap.size wa).drew).trans hg
                (try (have ee : v2 = (.bool false : Value) := hd 2 (by simp) (by decide); subst ee))
                (try (have ee : v4 = (.slice (some ⟨b2, o2, none⟩) m2 m2 : Value) := hd 4 (by simp) (by decide); subst ee))
                clear hd hg
                go_wp2
                exact ⟨_, rfl, Below.refl _ _, rfl⟩
              simp only [List.nil_append, List.cons_append, Act.put, List.setIfInBounds_toArray, List.set_cons_zero, List.set_cons_succ]
              refine inv_cons (fun wx hg hd => ?_) (fun v6 => ?_)
              · have hx := ((Below.refl wa.heap.size wa).drew).trans hg
                (try (have ee : v2 = (.bool false : Value) := hd 2 (by simp) (by decide); subst ee))
                (try (have ee : v3 = (.int .i64 (j : Int) : Value) := hd 3 (by simp) (by decide); subst ee))
                (try (have ee : v5 = (.int .i64 (m2 : Int) : Value) := hd 5 (by simp) (by decide); subst ee))
                clear hd hg
                go_wp2
                exact ⟨_, rfl, Below.refl _ _, rfl⟩
              simp only [List.nil_append, List.cons_append, Act.put, List.setIfInBounds_toArray, List.set_cons_zero, List.set_cons_succ]
              refine inv_cons (fun wx hg hd => ?_) (fun v7 => ?_)
              · have hx := ((Below.refl wa.heap.size wa).drew).trans hg
                (try (have ee : v2 = (.bool false : Value) := hd 2 (by simp) (by decide); subst ee))
                (try (have ee : v6 = (.bool false : Value) := hd 6 (by simp) (by decide); subst ee))
                clear hd hg
                go_wp2
                exact ⟨_, rfl, Below.refl _ _, rfl⟩
              simp only [List.nil_append, List.cons_append, Act.put, List.setIfInBounds_toArray, List.set_cons_zero, List.set_cons_succ]
              refine inv_cons (fun wx hg hd => ?_) (fun v8 => ?_)
              · have hx := ((Below.refl wa.heap.size wa).drew).trans hg
                (try (have ee : v7 = (.bool false : Value) := hd 7 (by simp) (by decide); subst ee))
                clear hd hg
                go_wp2
                exact ⟨_, rfl, Below.refl _ _, rfl⟩
              simp only [List.nil_append, List.cons_append, Act.put, List.setIfInBounds_toArray, List.set_cons_zero, List.set_cons_succ]
              refine inv_cons (fun wx hg hd => ?_) (fun v9 => ?_)
              · have hx := ((Below.refl wa.heap.size wa).drew).trans hg
                (try (have ee : v8 = (.bool false : Value) := hd 8 (by simp) (by decide); subst ee))
                clear hd hg
                go_wp2
                exact ⟨_, rfl, Below.refl _ _, rfl⟩
              simp only [List.nil_append, List.cons_append, Act.put, List.setIfInBounds_toArray, List.set_cons_zero, List.set_cons_succ]
              refine inv_cons (fun wx hg hd => ?_) (fun v10 => ?_)
              · have hx := ((Below.refl wa.heap.size wa).drew).trans hg
                (try (have ee : v8 = (.bool false : Value) := hd 8 (by simp) (by decide); subst ee))
                clear hd hg
                go_wp2
                exact ⟨_, rfl, Below.refl _ _, rfl⟩
              simp only [List.nil_append, List.cons_append, Act.put, List.setIfInBounds_toArray, List.set_cons_zero, List.set_cons_succ]
              refine inv_cons (fun wx hg hd => ?_) (fun v11 => ?_)
              · have hx := ((Below.refl wa.heap.size wa).drew).trans hg
                (try (have ee : v8 = (.bool false : Value) := hd 8 (by simp) (by decide); subst ee))
                (try (have ee : v9 = (.slice (some ⟨b2, o2, none⟩) m2 m2 : Value) := hd 9 (by simp) (by decide); subst ee))
                (try (have ee : v10 = (.int .i64 (j : Int) : Value) := hd 10 (by simp) (by decide); subst ee))
                clear hd hg
                go_wp2
                exact ⟨_, rfl, Below.refl _ _, rfl⟩
              simp only [List.nil_append, List.cons_append, Act.put, List.setIfInBounds_toArray, List.set_cons_zero, List.set_cons_succ]
              refine inv_cons (fun wx hg hd => ?_) (fun v12 => ?_)
              · have hx := ((Below.refl wa.heap.size wa).drew).trans hg
                (try (have ee : v8 = (.bool false : Value) := hd 8 (by simp) (by decide); subst ee))
                (try (have ee : v11 = (.pointer (some ⟨b2, o2 + j * 2, none⟩) : Value) := hd 11 (by simp) (by decide); subst ee))
                clear hd hg
                obtain ⟨-, ⟨c0, c1⟩, -⟩ := KEEP.out _ hx
                go_wp2
                exact ⟨_, rfl, Below.refl _ _, rfl⟩
              simp only [List.nil_append, List.cons_append, Act.put, List.setIfInBounds_toArray, List.set_cons_zero, List.set_cons_succ]
              refine inv_cons (fun wx hg hd => ?_) (fun v13 => ?_)
              · have hx := ((Below.refl wa.heap.size wa).drew).trans hg
                (try (have ee : v8 = (.bool false : Value) := hd 8 (by simp) (by decide); subst ee))
                clear hd hg
                obtain ⟨⟨c0, c1⟩, -, -⟩ := KEEP.out _ hx
                go_wp2
                exact ⟨_, rfl, Below.refl _ _, rfl⟩
              simp only [List.nil_append, List.cons_append, Act.put, List.setIfInBounds_toArray, List.set_cons_zero, List.set_cons_succ]
              refine inv_cons (fun wx hg hd => ?_) (fun v14 => ?_)
              · have hx := ((Below.refl wa.heap.size wa).drew).trans hg
                (try (have ee : v8 = (.bool false : Value) := hd 8 (by simp) (by decide); subst ee))
                (try (have ee : v12 = (.agg #[.int .u64 x.1, .int .i64 x.2] : Value) := hd 12 (by simp) (by decide); subst ee))
                (try (have ee : v13 = (.agg #[.int .u64 x.1, .int .i64 x.2] : Value) := hd 13 (by simp) (by decide); subst ee))
                clear hd hg
                go_wp2
                exact ⟨_, rfl, Below.refl _ _, rfl⟩
              simp only [List.nil_append, List.cons_append, Act.put, List.setIfInBounds_toArray, List.set_cons_zero, List.set_cons_succ]
              refine inv_cons (fun wx hg hd => ?_) (fun v15 => ?_)
              · have hx := ((Below.refl wa.heap.size wa).drew).trans hg
                (try (have ee : v8 = (.bool false : Value) := hd 8 (by simp) (by decide); subst ee))
                (try (have ee : v14 = (.bool false : Value) := hd 14 (by simp) (by decide); subst ee))
                clear hd hg
                go_wp2
                exact ⟨_, rfl, Below.refl _ _, rfl⟩
              simp only [List.nil_append, List.cons_append, Act.put, List.setIfInBounds_toArray, List.set_cons_zero, List.set_cons_succ]
              refine inv_cons (fun wx hg hd => ?_) (fun v16 => ?_)
              · have hx := ((Below.refl wa.heap.size wa).drew).trans hg
                (try (have ee : v15 = (.bool false : Value) := hd 15 (by simp) (by decide); subst ee))
                clear hd hg
                go_wp2
                exact ⟨_, rfl, Below.refl _ _, rfl⟩
              simp only [List.nil_append, List.cons_append, Act.put, List.setIfInBounds_toArray, List.set_cons_zero, List.set_cons_succ]
              refine inv_cons (fun wx hg hd => ?_) (fun v17 => ?_)
              · have hx := ((Below.refl wa.heap.size wa).drew).trans hg
                (try (have ee : v16 = (.bool false : Value) := hd 16 (by simp) (by decide); subst ee))
                clear hd hg
                go_wp2
                exact ⟨_, rfl, Below.refl _ _, rfl⟩
              simp only [List.nil_append, List.cons_append, Act.put, List.setIfInBounds_toArray, List.set_cons_zero, List.set_cons_succ]
              refine inv_cons (fun wx hg hd => ?_) (fun v18 => ?_)
              · have hx := ((Below.refl wa.heap.size wa).drew).trans hg
                (try (have ee : v16 = (.bool false : Value) := hd 16 (by simp) (by decide); subst ee))
                (try (have ee : v17 = (.int .i64 (j : Int) : Value) := hd 17 (by simp) (by decide); subst ee))
                clear hd hg
                go_wp2
                exact ⟨_, rfl, Below.refl _ _, rfl⟩
              simp only [List.nil_append, List.cons_append, Act.put, List.setIfInBounds_toArray, List.set_cons_zero, List.set_cons_succ]
              refine inv_cons (fun wx hg hd => ?_) (fun v19 => ?_)
              · have hx := ((Below.refl wa.heap.size wa).drew).trans hg
                (try (have ee : v16 = (.bool false : Value) := hd 16 (by simp) (by decide); subst ee))
                (try (have ee : v18 = (.bool false : Value) := hd 18 (by simp) (by decide); subst ee))
                clear hd hg
                go_wp2
                exact ⟨_, rfl, Below.refl _ _, rfl⟩
              simp only [List.nil_append, List.cons_append, Act.put, List.setIfInBounds_toArray, List.set_cons_zero, List.set_cons_succ]
              refine inv_cons (fun wx hg hd => ?_) (fun v20 => ?_)
              · have hx := ((Below.refl wa.heap.size wa).drew).trans hg
                (try (have ee : v19 = (.bool false : Value) := hd 19 (by simp) (by decide); subst ee))
                clear hd hg
                go_wp2
                exact ⟨_, rfl, Below.refl _ _, rfl⟩
              simp only [List.nil_append, List.cons_append, Act.put, List.setIfInBounds_toArray, List.set_cons_zero, List.set_cons_succ]
              refine inv_cons (fun wx hg hd => ?_) (fun v21 => ?_)
              · have hx := ((Below.refl wa.heap.size wa).drew).trans hg
                (try (have ee : v19 = (.bool false : Value) := hd 19 (by simp) (by decide); subst ee))
                clear hd hg
                go_wp2
                exact ⟨_, rfl, Below.refl _ _, rfl⟩
              simp only [List.nil_append, List.cons_append, Act.put, List.setIfInBounds_toArray, List.set_cons_zero, List.set_cons_succ]
              refine inv_cons (fun wx hg hd => ?_) (fun v22 => ?_)
              · have hx := ((Below.refl wa.heap.size wa).drew).trans hg
                (try (have ee : v19 = (.bool false : Value) := hd 19 (by simp) (by decide); subst ee))
                (try (have ee : v21 = (undef : Value) := hd 21 (by simp) (by decide); subst ee))
                clear hd hg
                go_wp2
                exact ⟨_, rfl, Below.refl _ _, rfl⟩
              simp only [List.nil_append, List.cons_append, Act.put, List.setIfInBounds_toArray, List.set_cons_zero, List.set_cons_succ]
              refine inv_cons (fun wx hg hd => ?_) (fun v23 => ?_)
              · have hx := ((Below.refl wa.heap.size wa).drew).trans hg
                (try (have ee : v19 = (.bool false : Value) := hd 19 (by simp) (by decide); subst ee))
                (try (have ee : v20 = (undef : Value) := hd 20 (by simp) (by decide); subst ee))
                (try (have ee : v22 = (undef : Value) := hd 22 (by simp) (by decide); subst ee))
                clear hd hg
                go_wp2
                exact ⟨_, rfl, Below.refl _ _, rfl⟩
              simp only [List.nil_append, List.cons_append, Act.put, List.setIfInBounds_toArray, List.set_cons_zero, List.set_cons_succ]
              refine inv_cons (fun wx hg hd => ?_) (fun v24 => ?_)
              · have hx := ((Below.refl wa.heap.size wa).drew).trans hg
                (try (have ee : v19 = (.bool false : Value) := hd 19 (by simp) (by decide); subst ee))
                (try (have ee : v23 = (undef : Value) := hd 23 (by simp) (by decide); subst ee))
                clear hd hg
                go_wp2
                exact ⟨_, rfl, Below.refl _ _, rfl⟩
              simp only [List.nil_append, List.cons_append, Act.put, List.setIfInBounds_toArray, List.set_cons_zero, List.set_cons_succ]
              refine inv_cons (fun wx hg hd => ?_) (fun v25 => ?_)
              · have hx := ((Below.refl wa.heap.size wa).drew).trans hg
                (try (have ee : v19 = (.bool false : Value) := hd 19 (by simp) (by decide); subst ee))
                clear hd hg
                go_wp2
                exact ⟨_, rfl, Below.refl _ _, rfl⟩
              simp only [List.nil_append, List.cons_append, Act.put, List.setIfInBounds_toArray, List.set_cons_zero, List.set_cons_succ]
              refine inv_cons (fun wx hg hd => ?_) (fun v26 => ?_)
              · have hx := ((Below.refl wa.heap.size wa).drew).trans hg
                (try (have ee : v19 = (.bool false : Value) := hd 19 (by simp) (by decide); subst ee))
                clear hd hg
                go_wp2
                exact ⟨_, rfl, Below.refl _ _, rfl⟩
              simp only [List.nil_append, List.cons_append, Act.put, List.setIfInBounds_toArray, List.set_cons_zero, List.set_cons_succ]
              refine inv_cons (fun wx hg hd => ?_) (fun v27 => ?_)
              · have hx := ((Below.refl wa.heap.size wa).drew).trans hg
                (try (have ee : v19 = (.bool false : Value) := hd 19 (by simp) (by decide); subst ee))
                (try (have ee : v25 = (undef : Value) := hd 25 (by simp) (by decide); subst ee))
                (try (have ee : v26 = (undef : Value) := hd 26 (by simp) (by decide); subst ee))
                clear hd hg
                go_wp2
                exact ⟨_, rfl, Below.refl _ _, rfl⟩
              simp only [List.nil_append, List.cons_append, Act.put, List.setIfInBounds_toArray, List.set_cons_zero, List.set_cons_succ]
              refine inv_cons (fun wx hg hd => ?_) (fun v28 => ?_)
              · have hx := ((Below.refl wa.heap.size wa).drew).trans hg
                (try (have ee : v19 = (.bool false : Value) := hd 19 (by simp) (by decide); subst ee))
                (try (have ee : v27 = (undef : Value) := hd 27 (by simp) (by decide); subst ee))
                clear hd hg
                go_wp2
                exact ⟨_, rfl, Below.refl _ _, rfl⟩
              simp only [List.nil_append, List.cons_append, Act.put, List.setIfInBounds_toArray, List.set_cons_zero, List.set_cons_succ]
              refine inv_cons (fun wx hg hd => ?_) (fun v29 => ?_)
              · have hx := ((Below.refl wa.heap.size wa).drew).trans hg
                (try (have ee : v19 = (.bool false : Value) := hd 19 (by simp) (by decide); subst ee))
                (try (have ee : v24 = (undef : Value) := hd 24 (by simp) (by decide); subst ee))
                (try (have ee : v28 = (undef : Value) := hd 28 (by simp) (by decide); subst ee))
                clear hd hg
                go_wp2
                exact ⟨_, rfl, Below.refl _ _, rfl⟩
              simp only [List.nil_append, List.cons_append, Act.put, List.setIfInBounds_toArray, List.set_cons_zero, List.set_cons_succ]
              refine inv_cons (fun wx hg hd => ?_) (fun v30 => ?_)
              · have hx := ((Below.refl wa.heap.size wa).drew).trans hg
                (try (have ee : v19 = (.bool false : Value) := hd 19 (by simp) (by decide); subst ee))
                (try (have ee : v29 = (undef : Value) := hd 29 (by simp) (by decide); subst ee))
                clear hd hg
                go_wp2
                exact ⟨_, rfl, Below.refl _ _, rfl⟩
              simp only [List.nil_append, List.cons_append, Act.put, List.setIfInBounds_toArray, List.set_cons_zero, List.set_cons_succ]
              refine inv_cons (fun wx hg hd => ?_) (fun v31 => ?_)
              · have hx := ((Below.refl wa.heap.size wa).drew).trans hg
                (try (have ee : v16 = (.bool false : Value) := hd 16 (by simp) (by decide); subst ee))
                (try (have ee : v19 = (.bool false : Value) := hd 19 (by simp) (by decide); subst ee))
                (try (have ee : v30 = (undef : Value) := hd 30 (by simp) (by decide); subst ee))
                clear hd hg
                go_wp2
                exact ⟨_, rfl, Below.refl _ _, rfl⟩
              simp only [List.nil_append, List.cons_append, Act.put, List.setIfInBounds_toArray, List.set_cons_zero, List.set_cons_succ]
              refine inv_cons (fun wx hg hd => ?_) (fun v32 => ?_)
              · have hx := ((Below.refl wa.heap.size wa).drew).trans hg
                (try (have ee : v16 = (.bool false : Value) := hd 16 (by simp) (by decide); subst ee))
                (try (have ee : v31 = (.bool false : Value) := hd 31 (by simp) (by decide); subst ee))
                clear hd hg
                go_wp2
                exact ⟨_, rfl, Below.refl _ _, rfl⟩
              simp only [List.nil_append, List.cons_append, Act.put, List.setIfInBounds_toArray, List.set_cons_zero, List.set_cons_succ]
              refine inv_done (fun wx hg hd => ?_)
              have hx := ((Below.refl wa.heap.size wa).drew).trans hg
              (have ee : v0 = (.bool true : Value) := hd 0 (by simp); subst ee)
              (have ee : v1 = (.bool false : Value) := hd 1 (by simp); subst ee)
              (have ee : v2 = (.bool false : Value) := hd 2 (by simp); subst ee)
              (have ee : v3 = (.int .i64 (j : Int) : Value) := hd 3 (by simp); subst ee)
              (have ee : v4 = (.slice (some ⟨b2, o2, none⟩) m2 m2 : Value) := hd 4 (by simp); subst ee)
              (have ee : v5 = (.int .i64 (m2 : Int) : Value) := hd 5 (by simp); subst ee)
              (have ee : v6 = (.bool false : Value) := hd 6 (by simp); subst ee)
              (have ee : v7 = (.bool false : Value) := hd 7 (by simp); subst ee)
              (have ee : v8 = (.bool false : Value) := hd 8 (by simp); subst ee)
              (have ee : v9 = (.slice (some ⟨b2, o2, none⟩) m2 m2 : Value) := hd 9 (by simp); subst ee)
              (have ee : v10 = (.int .i64 (j : Int) : Value) := hd 10 (by simp); subst ee)
              (have ee : v11 = (.pointer (some ⟨b2, o2 + j * 2, none⟩) : Value) := hd 11 (by simp); subst ee)
              (have ee : v12 = (.agg #[.int .u64 x.1, .int .i64 x.2] : Value) := hd 12 (by simp); subst ee)
              (have ee : v13 = (.agg #[.int .u64 x.1, .int .i64 x.2] : Value) := hd 13 (by simp); subst ee)
              (have ee : v14 = (.bool false : Value) := hd 14 (by simp); subst ee)
              (have ee : v15 = (.bool false : Value) := hd 15 (by simp); subst ee)
              (have ee : v16 = (.bool false : Value) := hd 16 (by simp); subst ee)
              (have ee : v17 = (.int .i64 (j : Int) : Value) := hd 17 (by simp); subst ee)
              (have ee : v18 = (.bool false : Value) := hd 18 (by simp); subst ee)
              (have ee : v19 = (.bool false : Value) := hd 19 (by simp); subst ee)
              (have ee : v20 = (undef : Value) := hd 20 (by simp); subst ee)
              (have ee : v21 = (undef : Value) := hd 21 (by simp); subst ee)
              (have ee : v22 = (undef : Value) := hd 22 (by simp); subst ee)
              (have ee : v23 = (undef : Value) := hd 23 (by simp); subst ee)
              (have ee : v24 = (undef : Value) := hd 24 (by simp); subst ee)
              (have ee : v25 = (undef : Value) := hd 25 (by simp); subst ee)
              (have ee : v26 = (undef : Value) := hd 26 (by simp); subst ee)
              (have ee : v27 = (undef : Value) := hd 27 (by simp); subst ee)
              (have ee : v28 = (undef : Value) := hd 28 (by simp); subst ee)
              (have ee : v29 = (undef : Value) := hd 29 (by simp); subst ee)
              (have ee : v30 = (undef : Value) := hd 30 (by simp); subst ee)
              (have ee : v31 = (.bool false : Value) := hd 31 (by simp); subst ee)
              (have ee : v32 = (.bool false : Value) := hd 32 (by simp); subst ee)
              clear hd hg
              (try go_simp)
              have HN2 := Lib.hid (HNX.out.2 _ hx)
              clear hx
              go_wp2
              go_roundw
              case rel => exact ⟨j + 1, L1, by omega, by go_num, HNX.out.1, HN2.out⟩
              case measure => simp [RowKit.intOf]; omega
            · have qj0 : decide (0 < j) = true := by simp; omega
              have hji : (j : Int) - 1 = (j' : Int) := by have := HJ1.out; omega
              have hjm' : j' < m2 := by have := HJ1.out; omega
              have hle := HHE.out y x
              rw [← HX0.out, ← HY0.out, next_less H4.out.1 H4.out.2.1 (by omega) HJR.out, HX0.out, HY0.out] at hle
              have HLE := Lib.hid hle
              clear hle
              refine wp_region_inv (fun w w' => Below w.heap.size w w') (fun qi_ qv_ _ => qv_ = ([.bool true, .bool false, .bool false, .int .i64 (j : Int), .slice (some ⟨b2, o2, none⟩) m2 m2, .int .i64 (m2 : Int), .bool false, .bool false, .bool false, .slice (some ⟨b2, o2, none⟩) m2 m2, .int .i64 (j : Int), .pointer (some ⟨b2, o2 + j * 2, none⟩), .agg #[.int .u64 x.1, .int .i64 x.2], .agg #[.int .u64 x.1, .int .i64 x.2], .bool false, .bool false, .bool false, .int .i64 (j : Int), .bool true, .bool true, .slice (some ⟨b2, o2, none⟩) m2 m2, .int .i64 (j : Int), .int .i64 (j' : Int), .pointer (some ⟨b2, o2 + j' * 2, none⟩), .agg #[.int .u64 y.1, .int .i64 y.2], .slice (some ⟨b2, o2, none⟩) m2 m2, .int .i64 (j : Int), .pointer (some ⟨b2, o2 + j * 2, none⟩), .agg #[.int .u64 x.1, .int .i64 x.2], .bool true, .bool false, .bool false, .bool false] : List Value).getD qi_ undef) (by kernel_rfl) (by kernel_rfl) (fun _ => Below.refl _ _) (fun _ _ _ h1 h2 => below_later h1 h1.size h2) (fun _ _ _ _ _ _ h => h) ?_
              refine inv_cons (fun wx hg hd => ?_) (fun v0 => ?_)
              · have hx := ((Below.refl wa.heap.size wa).drew).trans hg
                clear hd hg
                go_wp2
                exact ⟨_, rfl, Below.refl _ _, rfl⟩
              simp only [List.nil_append, List.cons_append, Act.put, List.setIfInBounds_toArray, List.set_cons_zero, List.set_cons_succ]
              refine inv_cons (fun wx hg hd => ?_) (fun v1 => ?_)
              · have hx := ((Below.refl wa.heap.size wa).drew).trans hg
                (try (have ee : v0 = (.bool true : Value) := hd 0 (by simp) (by decide); subst ee))
                clear hd hg
                go_wp2
                exact ⟨_, rfl, Below.refl _ _, rfl⟩
              simp only [List.nil_append, List.cons_append, Act.put, List.setIfInBounds_toArray, List.set_cons_zero, List.set_cons_succ]
              refine inv_cons (fun wx hg hd => ?_) (fun v2 => ?_)
              · have hx := ((Below.refl wa.heap.size wa).drew).trans hg
                (try (have ee : v1 = (.bool false : Value) := hd 1 (by simp) (by decide); subst ee))
                clear hd hg
                go_wp2
                exact ⟨_, rfl, Below.refl _ _, rfl⟩
              simp only [List.nil_append, List.cons_append, Act.put, List.setIfInBounds_toArray, List.set_cons_zero, List.set_cons_succ]
              refine inv_cons (fun wx hg hd => ?_) (fun v3 => ?_)
              · have hx := ((Below.refl wa.heap.size wa).drew).trans hg
                (try (have ee : v2 = (.bool false : Value) := hd 2 (by simp) (by decide); subst ee))
                clear hd hg
                go_wp2
                exact ⟨_, rfl, Below.refl _ _, rfl⟩
              simp only [List.nil_append, List.cons_append, Act.put, List.setIfInBounds_toArray, List.set_cons_zero, List.set_cons_succ]
              refine inv_cons (fun wx hg hd => ?_) (fun v4 => ?_)
              · have hx := ((Below.refl wa.heap.size wa).drew).trans hg
                (try (have ee : v2 = (.bool false : Value) := hd 2 (by simp) (by decide); subst ee))
                clear hd hg
                go_wp2
                exact ⟨_, rfl, Below.refl _ _, rfl⟩
              simp only [List.nil_append, List.cons_append, Act.put, List.setIfInBounds_toArray, List.set_cons_zero, List.set_cons_succ]
              refine inv_cons (fun wx hg hd => ?_) (fun v5 => ?_)
              · have hx := ((Below.refl wa.heap.size wa).drew).trans hg
                (try (have ee : v2 = (.bool false : Value) := hd 2 (by simp) (by decide); subst ee))
                (try (have ee : v4 = (.slice (some ⟨b2, o2, none⟩) m2 m2 : Value) := hd 4 (by simp) (by decide); subst ee))
                clear hd hg
                go_wp2
                exact ⟨_, rfl, Below.refl _ _, rfl⟩
              simp only [List.nil_append, List.cons_append, Act.put, List.setIfInBounds_toArray, List.set_cons_zero, List.set_cons_succ]
              refine inv_cons (fun wx hg hd => ?_) (fun v6 => ?_)
              · have hx := ((Below.refl wa.heap.size wa).drew).trans hg
                (try (have ee : v2 = (.bool false : Value) := hd 2 (by simp) (by decide); subst ee))
                (try (have ee : v3 = (.int .i64 (j : Int) : Value) := hd 3 (by simp) (by decide); subst ee))
                (try (have ee : v5 = (.int .i64 (m2 : Int) : Value) := hd 5 (by simp) (by decide); subst ee))
                clear hd hg
                go_wp2
                exact ⟨_, rfl, Below.refl _ _, rfl⟩
              simp only [List.nil_append, List.cons_append, Act.put, List.setIfInBounds_toArray, List.set_cons_zero, List.set_cons_succ]
              refine inv_cons (fun wx hg hd => ?_) (fun v7 => ?_)
              · have hx := ((Below.refl wa.heap.size wa).drew).trans hg
                (try (have ee : v2 = (.bool false : Value) := hd 2 (by simp) (by decide); subst ee))
                (try (have ee : v6 = (.bool false : Value) := hd 6 (by simp) (by decide); subst ee))
                clear hd hg
                go_wp2
                exact ⟨_, rfl, Below.refl _ _, rfl⟩
              simp only [List.nil_append, List.cons_append, Act.put, List.setIfInBounds_toArray, List.set_cons_zero, List.set_cons_succ]
              refine inv_cons (fun wx hg hd => ?_) (fun v8 => ?_)
              · have hx := ((Below.refl wa.heap.size wa).drew).trans hg
                (try (have ee : v7 = (.bool false : Value) := hd 7 (by simp) (by decide); subst ee))
                clear hd hg
                go_wp2
                exact ⟨_, rfl, Below.refl _ _, rfl⟩
              simp only [List.nil_append, List.cons_append, Act.put, List.setIfInBounds_toArray, List.set_cons_zero, List.set_cons_succ]
              refine inv_cons (fun wx hg hd => ?_) (fun v9 => ?_)
              · have hx := ((Below.refl wa.heap.size wa).drew).trans hg
                (try (have ee : v8 = (.bool false : Value) := hd 8 (by simp) (by decide); subst ee))
                clear hd hg
                go_wp2
                exact ⟨_, rfl, Below.refl _ _, rfl⟩
              simp only [List.nil_append, List.cons_append, Act.put, List.setIfInBounds_toArray, List.set_cons_zero, List.set_cons_succ]
              refine inv_cons (fun wx hg hd => ?_) (fun v10 => ?_)
              · have hx := ((Below.refl wa.heap.size wa).drew).trans hg
                (try (have ee : v8 = (.bool false : Value) := hd 8 (by simp) (by decide); subst ee))
                clear hd hg
                go_wp2
                exact ⟨_, rfl, Below.refl _ _, rfl⟩
              simp only [List.nil_append, List.cons_append, Act.put, List.setIfInBounds_toArray, List.set_cons_zero, List.set_cons_succ]
              refine inv_cons (fun wx hg hd => ?_) (fun v11 => ?_)
              · have hx := ((Below.refl wa.heap.size wa).drew).trans hg
                (try (have ee : v8 = (.bool false : Value) := hd 8 (by simp) (by decide); subst ee))
                (try (have ee : v9 = (.slice (some ⟨b2, o2, none⟩) m2 m2 : Value) := hd 9 (by simp) (by decide); subst ee))
                (try (have ee : v10 = (.int .i64 (j : Int) : Value) := hd 10 (by simp) (by decide); subst ee))
                clear hd hg
                go_wp2
                exact ⟨_, rfl, Below.refl _ _, rfl⟩
              simp only [List.nil_append, List.cons_append, Act.put, List.setIfInBounds_toArray, List.set_cons_zero, List.set_cons_succ]
              refine inv_cons (fun wx hg hd => ?_) (fun v12 => ?_)
              · have hx := ((Below.refl wa.heap.size wa).drew).trans hg
                (try (have ee : v8 = (.bool false : Value) := hd 8 (by simp) (by decide); subst ee))
                (try (have ee : v11 = (.pointer (some ⟨b2, o2 + j * 2, none⟩) : Value) := hd 11 (by simp) (by decide); subst ee))
                clear hd hg
                obtain ⟨-, ⟨c0, c1⟩, -⟩ := KEEP.out _ hx
                go_wp2
                exact ⟨_, rfl, Below.refl _ _, rfl⟩
              simp only [List.nil_append, List.cons_append, Act.put, List.setIfInBounds_toArray, List.set_cons_zero, List.set_cons_succ]
              refine inv_cons (fun wx hg hd => ?_) (fun v13 => ?_)
              · have hx := ((Below.refl wa.heap.size wa).drew).trans hg
                (try (have ee : v8 = (.bool false : Value) := hd 8 (by simp) (by decide); subst ee))
                clear hd hg
                obtain ⟨⟨c0, c1⟩, -, -⟩ := KEEP.out _ hx
                go_wp2
                exact ⟨_, rfl, Below.refl _ _, rfl⟩
              simp only [List.nil_append, List.cons_append, Act.put, List.setIfInBounds_toArray, List.set_cons_zero, List.set_cons_succ]
              refine inv_cons (fun wx hg hd => ?_) (fun v14 => ?_)
              · have hx := ((Below.refl wa.heap.size wa).drew).trans hg
                (try (have ee : v8 = (.bool false : Value) := hd 8 (by simp) (by decide); subst ee))
                (try (have ee : v12 = (.agg #[.int .u64 x.1, .int .i64 x.2] : Value) := hd 12 (by simp) (by decide); subst ee))
                (try (have ee : v13 = (.agg #[.int .u64 x.1, .int .i64 x.2] : Value) := hd 13 (by simp) (by decide); subst ee))
                clear hd hg
                go_wp2
                exact ⟨_, rfl, Below.refl _ _, rfl⟩
              simp only [List.nil_append, List.cons_append, Act.put, List.setIfInBounds_toArray, List.set_cons_zero, List.set_cons_succ]
              refine inv_cons (fun wx hg hd => ?_) (fun v15 => ?_)
              · have hx := ((Below.refl wa.heap.size wa).drew).trans hg
                (try (have ee : v8 = (.bool false : Value) := hd 8 (by simp) (by decide); subst ee))
                (try (have ee : v14 = (.bool false : Value) := hd 14 (by simp) (by decide); subst ee))
                clear hd hg
                go_wp2
                exact ⟨_, rfl, Below.refl _ _, rfl⟩
              simp only [List.nil_append, List.cons_append, Act.put, List.setIfInBounds_toArray, List.set_cons_zero, List.set_cons_succ]
              refine inv_cons (fun wx hg hd => ?_) (fun v16 => ?_)
              · have hx := ((Below.refl wa.heap.size wa).drew).trans hg
                (try (have ee : v15 = (.bool false : Value) := hd 15 (by simp) (by decide); subst ee))
                clear hd hg
                go_wp2
                exact ⟨_, rfl, Below.refl _ _, rfl⟩
              simp only [List.nil_append, List.cons_append, Act.put, List.setIfInBounds_toArray, List.set_cons_zero, List.set_cons_succ]
              refine inv_cons (fun wx hg hd => ?_) (fun v17 => ?_)
              · have hx := ((Below.refl wa.heap.size wa).drew).trans hg
                (try (have ee : v16 = (.bool false : Value) := hd 16 (by simp) (by decide); subst ee))
                clear hd hg
                go_wp2
                exact ⟨_, rfl, Below.refl _ _, rfl⟩
              simp only [List.nil_append, List.cons_append, Act.put, List.setIfInBounds_toArray, List.set_cons_zero, List.set_cons_succ]
              refine inv_cons (fun wx hg hd => ?_) (fun v18 => ?_)
              · have hx := ((Below.refl wa.heap.size wa).drew).trans hg
                (try (have ee : v16 = (.bool false : Value) := hd 16 (by simp) (by decide); subst ee))
                (try (have ee : v17 = (.int .i64 (j : Int) : Value) := hd 17 (by simp) (by decide); subst ee))
                clear hd hg
                go_wp2
                exact ⟨_, rfl, Below.refl _ _, rfl⟩
              simp only [List.nil_append, List.cons_append, Act.put, List.setIfInBounds_toArray, List.set_cons_zero, List.set_cons_succ]
              refine inv_cons (fun wx hg hd => ?_) (fun v19 => ?_)
              · have hx := ((Below.refl wa.heap.size wa).drew).trans hg
                (try (have ee : v16 = (.bool false : Value) := hd 16 (by simp) (by decide); subst ee))
                (try (have ee : v18 = (.bool true : Value) := hd 18 (by simp) (by decide); subst ee))
                clear hd hg
                go_wp2
                exact ⟨_, rfl, Below.refl _ _, rfl⟩
              simp only [List.nil_append, List.cons_append, Act.put, List.setIfInBounds_toArray, List.set_cons_zero, List.set_cons_succ]
              refine inv_cons (fun wx hg hd => ?_) (fun v20 => ?_)
              · have hx := ((Below.refl wa.heap.size wa).drew).trans hg
                (try (have ee : v19 = (.bool true : Value) := hd 19 (by simp) (by decide); subst ee))
                clear hd hg
                go_wp2
                exact ⟨_, rfl, Below.refl _ _, rfl⟩
              simp only [List.nil_append, List.cons_append, Act.put, List.setIfInBounds_toArray, List.set_cons_zero, List.set_cons_succ]
              refine inv_cons (fun wx hg hd => ?_) (fun v21 => ?_)
              · have hx := ((Below.refl wa.heap.size wa).drew).trans hg
                (try (have ee : v19 = (.bool true : Value) := hd 19 (by simp) (by decide); subst ee))
                clear hd hg
                go_wp2
                exact ⟨_, rfl, Below.refl _ _, rfl⟩
              simp only [List.nil_append, List.cons_append, Act.put, List.setIfInBounds_toArray, List.set_cons_zero, List.set_cons_succ]
              refine inv_cons (fun wx hg hd => ?_) (fun v22 => ?_)
              · have hx := ((Below.refl wa.heap.size wa).drew).trans hg
                (try (have ee : v19 = (.bool true : Value) := hd 19 (by simp) (by decide); subst ee))
                (try (have ee : v21 = (.int .i64 (j : Int) : Value) := hd 21 (by simp) (by decide); subst ee))
                clear hd hg
                go_wp2
                exact ⟨_, rfl, Below.refl _ _, rfl⟩
              simp only [List.nil_append, List.cons_append, Act.put, List.setIfInBounds_toArray, List.set_cons_zero, List.set_cons_succ]
              refine inv_cons (fun wx hg hd => ?_) (fun v23 => ?_)
              · have hx := ((Below.refl wa.heap.size wa).drew).trans hg
                (try (have ee : v19 = (.bool true : Value) := hd 19 (by simp) (by decide); subst ee))
                (try (have ee : v20 = (.slice (some ⟨b2, o2, none⟩) m2 m2 : Value) := hd 20 (by simp) (by decide); subst ee))
                (try (have ee : v22 = (.int .i64 (j' : Int) : Value) := hd 22 (by simp) (by decide); subst ee))
                clear hd hg
                go_wp2
                exact ⟨_, rfl, Below.refl _ _, rfl⟩
              simp only [List.nil_append, List.cons_append, Act.put, List.setIfInBounds_toArray, List.set_cons_zero, List.set_cons_succ]
              refine inv_cons (fun wx hg hd => ?_) (fun v24 => ?_)
              · have hx := ((Below.refl wa.heap.size wa).drew).trans hg
                (try (have ee : v19 = (.bool true : Value) := hd 19 (by simp) (by decide); subst ee))
                (try (have ee : v23 = (.pointer (some ⟨b2, o2 + j' * 2, none⟩) : Value) := hd 23 (by simp) (by decide); subst ee))
                clear hd hg
                obtain ⟨-, -, ⟨c0, c1⟩⟩ := KEEP.out _ hx
                go_wp2
                exact ⟨_, rfl, Below.refl _ _, rfl⟩
              simp only [List.nil_append, List.cons_append, Act.put, List.setIfInBounds_toArray, List.set_cons_zero, List.set_cons_succ]
              refine inv_cons (fun wx hg hd => ?_) (fun v25 => ?_)
              · have hx := ((Below.refl wa.heap.size wa).drew).trans hg
                (try (have ee : v19 = (.bool true : Value) := hd 19 (by simp) (by decide); subst ee))
                clear hd hg
                go_wp2
                exact ⟨_, rfl, Below.refl _ _, rfl⟩
              simp only [List.nil_append, List.cons_append, Act.put, List.setIfInBounds_toArray, List.set_cons_zero, List.set_cons_succ]
              refine inv_cons (fun wx hg hd => ?_) (fun v26 => ?_)
              · have hx := ((Below.refl wa.heap.size wa).drew).trans hg
                (try (have ee : v19 = (.bool true : Value) := hd 19 (by simp) (by decide); subst ee))
                clear hd hg
                go_wp2
                exact ⟨_, rfl, Below.refl _ _, rfl⟩
              simp only [List.nil_append, List.cons_append, Act.put, List.setIfInBounds_toArray, List.set_cons_zero, List.set_cons_succ]
              refine inv_cons (fun wx hg hd => ?_) (fun v27 => ?_)
              · have hx := ((Below.refl wa.heap.size wa).drew).trans hg
                (try (have ee : v19 = (.bool true : Value) := hd 19 (by simp) (by decide); subst ee))
                (try (have ee : v25 = (.slice (some ⟨b2, o2, none⟩) m2 m2 : Value) := hd 25 (by simp) (by decide); subst ee))
                (try (have ee : v26 = (.int .i64 (j : Int) : Value) := hd 26 (by simp) (by decide); subst ee))
                clear hd hg
                go_wp2
                exact ⟨_, rfl, Below.refl _ _, rfl⟩
              simp only [List.nil_append, List.cons_append, Act.put, List.setIfInBounds_toArray, List.set_cons_zero, List.set_cons_succ]
              refine inv_cons (fun wx hg hd => ?_) (fun v28 => ?_)
              · have hx := ((Below.refl wa.heap.size wa).drew).trans hg
                (try (have ee : v19 = (.bool true : Value) := hd 19 (by simp) (by decide); subst ee))
                (try (have ee : v27 = (.pointer (some ⟨b2, o2 + j * 2, none⟩) : Value) := hd 27 (by simp) (by decide); subst ee))
                clear hd hg
                obtain ⟨-, ⟨c0, c1⟩, -⟩ := KEEP.out _ hx
                go_wp2
                exact ⟨_, rfl, Below.refl _ _, rfl⟩
              simp only [List.nil_append, List.cons_append, Act.put, List.setIfInBounds_toArray, List.set_cons_zero, List.set_cons_succ]
              refine inv_cons (fun wx hg hd => ?_) (fun v29 => ?_)
              · have hx := ((Below.refl wa.heap.size wa).drew).trans hg
                (try (have ee : v19 = (.bool true : Value) := hd 19 (by simp) (by decide); subst ee))
                (try (have ee : v24 = (.agg #[.int .u64 y.1, .int .i64 y.2] : Value) := hd 24 (by simp) (by decide); subst ee))
                (try (have ee : v28 = (.agg #[.int .u64 x.1, .int .i64 x.2] : Value) := hd 28 (by simp) (by decide); subst ee))
                clear hd hg
                go_wp2_with fail
                refine (HLE.out _).mono ?_
                rintro e w' ⟨rfl, hb⟩
                go_wp2
                exact ⟨_, rfl, hb, rfl⟩
              simp only [List.nil_append, List.cons_append, Act.put, List.setIfInBounds_toArray, List.set_cons_zero, List.set_cons_succ]
              refine inv_cons (fun wx hg hd => ?_) (fun v30 => ?_)
              · have hx := ((Below.refl wa.heap.size wa).drew).trans hg
                (try (have ee : v19 = (.bool true : Value) := hd 19 (by simp) (by decide); subst ee))
                (try (have ee : v29 = (.bool true : Value) := hd 29 (by simp) (by decide); subst ee))
                clear hd hg
                go_wp2
                exact ⟨_, rfl, Below.refl _ _, rfl⟩
              simp only [List.nil_append, List.cons_append, Act.put, List.setIfInBounds_toArray, List.set_cons_zero, List.set_cons_succ]
              refine inv_cons (fun wx hg hd => ?_) (fun v31 => ?_)
              · have hx := ((Below.refl wa.heap.size wa).drew).trans hg
                (try (have ee : v16 = (.bool false : Value) := hd 16 (by simp) (by decide); subst ee))
                (try (have ee : v19 = (.bool true : Value) := hd 19 (by simp) (by decide); subst ee))
                (try (have ee : v30 = (.bool false : Value) := hd 30 (by simp) (by decide); subst ee))
                clear hd hg
                go_wp2
                exact ⟨_, rfl, Below.refl _ _, rfl⟩
              simp only [List.nil_append, List.cons_append, Act.put, List.setIfInBounds_toArray, List.set_cons_zero, List.set_cons_succ]
              refine inv_cons (fun wx hg hd => ?_) (fun v32 => ?_)
              · have hx := ((Below.refl wa.heap.size wa).drew).trans hg
                (try (have ee : v16 = (.bool false : Value) := hd 16 (by simp) (by decide); subst ee))
                (try (have ee : v31 = (.bool false : Value) := hd 31 (by simp) (by decide); subst ee))
                clear hd hg
                go_wp2
                exact ⟨_, rfl, Below.refl _ _, rfl⟩
              simp only [List.nil_append, List.cons_append, Act.put, List.setIfInBounds_toArray, List.set_cons_zero, List.set_cons_succ]
              refine inv_done (fun wx hg hd => ?_)
              have hx := ((Below.refl wa.heap.size wa).drew).trans hg
              (have ee : v0 = (.bool true : Value) := hd 0 (by simp); subst ee)
              (have ee : v1 = (.bool false : Value) := hd 1 (by simp); subst ee)
              (have ee : v2 = (.bool false : Value) := hd 2 (by simp); subst ee)
              (have ee : v3 = (.int .i64 (j : Int) : Value) := hd 3 (by simp); subst ee)
              (have ee : v4 = (.slice (some ⟨b2, o2, none⟩) m2 m2 : Value) := hd 4 (by simp); subst ee)
              (have ee : v5 = (.int .i64 (m2 : Int) : Value) := hd 5 (by simp); subst ee)
              (have ee : v6 = (.bool false : Value) := hd 6 (by simp); subst ee)
              (have ee : v7 = (.bool false : Value) := hd 7 (by simp); subst ee)
              (have ee : v8 = (.bool false : Value) := hd 8 (by simp); subst ee)
              (have ee : v9 = (.slice (some ⟨b2, o2, none⟩) m2 m2 : Value) := hd 9 (by simp); subst ee)
              (have ee : v10 = (.int .i64 (j : Int) : Value) := hd 10 (by simp); subst ee)
              (have ee : v11 = (.pointer (some ⟨b2, o2 + j * 2, none⟩) : Value) := hd 11 (by simp); subst ee)
              (have ee : v12 = (.agg #[.int .u64 x.1, .int .i64 x.2] : Value) := hd 12 (by simp); subst ee)
              (have ee : v13 = (.agg #[.int .u64 x.1, .int .i64 x.2] : Value) := hd 13 (by simp); subst ee)
              (have ee : v14 = (.bool false : Value) := hd 14 (by simp); subst ee)
              (have ee : v15 = (.bool false : Value) := hd 15 (by simp); subst ee)
              (have ee : v16 = (.bool false : Value) := hd 16 (by simp); subst ee)
              (have ee : v17 = (.int .i64 (j : Int) : Value) := hd 17 (by simp); subst ee)
              (have ee : v18 = (.bool true : Value) := hd 18 (by simp); subst ee)
              (have ee : v19 = (.bool true : Value) := hd 19 (by simp); subst ee)
              (have ee : v20 = (.slice (some ⟨b2, o2, none⟩) m2 m2 : Value) := hd 20 (by simp); subst ee)
              (have ee : v21 = (.int .i64 (j : Int) : Value) := hd 21 (by simp); subst ee)
              (have ee : v22 = (.int .i64 (j' : Int) : Value) := hd 22 (by simp); subst ee)
              (have ee : v23 = (.pointer (some ⟨b2, o2 + j' * 2, none⟩) : Value) := hd 23 (by simp); subst ee)
              (have ee : v24 = (.agg #[.int .u64 y.1, .int .i64 y.2] : Value) := hd 24 (by simp); subst ee)
              (have ee : v25 = (.slice (some ⟨b2, o2, none⟩) m2 m2 : Value) := hd 25 (by simp); subst ee)
              (have ee : v26 = (.int .i64 (j : Int) : Value) := hd 26 (by simp); subst ee)
              (have ee : v27 = (.pointer (some ⟨b2, o2 + j * 2, none⟩) : Value) := hd 27 (by simp); subst ee)
              (have ee : v28 = (.agg #[.int .u64 x.1, .int .i64 x.2] : Value) := hd 28 (by simp); subst ee)
              (have ee : v29 = (.bool true : Value) := hd 29 (by simp); subst ee)
              (have ee : v30 = (.bool false : Value) := hd 30 (by simp); subst ee)
              (have ee : v31 = (.bool false : Value) := hd 31 (by simp); subst ee)
              (have ee : v32 = (.bool false : Value) := hd 32 (by simp); subst ee)
              clear hd hg
              (try go_simp)
              have HN2 := Lib.hid (HNX.out.2 _ hx)
              clear hx
              go_wp2
              go_roundw
              case rel => exact ⟨j + 1, L1, by omega, by go_num, HNX.out.1, HN2.out⟩
              case measure => simp [RowKit.intOf]; omega
          · obtain rfl : j = m2 := by omega
            obtain ⟨d, hd⟩ : ∃ d : Nat, (k : Int) - (j : Int) = (d : Int) := ⟨k - j, by omega⟩
            have hld : L.length = d := by rw [HJ.out.1.length_eq, List.length_drop, H4.out.2.2.1]; omega
            have hln := one_len HJ.out.2.1
            rw [hld] at hln
            have HLN := Lib.hid hln
            have HFF := Lib.hid (H4.out.2.2.2.2.2.2.trans (stay_r HJ.out.2.2))
            have HMF2 := HMF.out
            clear hln hld HJ hjl hj
            rcases HMF2 with q | ⟨q, q'⟩
            case' inl =>
              have q1 : decide (j < f) = false := by simp; omega
              have q2 : True := trivial
              clear q
            case' inr =>
              have q1 : decide (j < f) = true := by simp; omega
              have q2 : decide (j < k) = false := by simp; omega
              clear q q'
            all_goals
              go_wp2_with fail
              refine HLN.out.mono ?_
              rintro e w6 ⟨rfl, rfl⟩
              go_wp2_with fail
              refine (HAW.out _).mono ?_
              rintro e w7 ⟨rfl, hb⟩
              have HF : Hid (Below w.heap.size w w7) := HBELOW.out _ (HFF.out.trans (Stay.of_below hb))
              clear hb
              go_wp2
              go_ret
              exact ⟨rfl, HF.out⟩
theorem walk {w : World} (a0 : Option Addr) (n0 c0 : Nat) (z0 : Nat → Int) (h0 : IntsAtK .i64 w w.heap.size a0 n0 z0) (_b0 : ∀ i, i < n0 → (Lit.int .i64 (z0 i)).wf = true) (s0 : n0 * 8 ≤ 140737488351232)
    (a1 : Int) (_w1 : (Lit.int .i64 a1).wf = true) :
    Calls Try.prog 6 #[.slice a0 n0 c0, .int .i64 a1] w fun e w' => e = .returned (.bool true) ∧ Below w.heap.size w w' :=
  core w a0 n0 c0 z0 h0 (by omega) a1
end Go.Proofs.Ytbmhnadnomngnaa.queueSame
