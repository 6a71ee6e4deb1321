/- The walk of the law CellsSets. -/
import Derived.Test.YtpbednjnompefaaSlI
namespace Go.Proofs.Ytpbednjnompefaa.cellsSets
open Go.RowKit Go.Lib Go.Sort

set_option maxRecDepth 100000 in
set_option maxHeartbeats 4000000 in
theorem core (oa ob : Option Addr) (ca cb : Nat) (la lb : List Int) (x0 : Int) (w : World) (ha : WordsAt w w.heap.size oa la) (hb : WordsAt w w.heap.size ob lb)
    (za : oa = none → la.length = 0 ∧ ca = 0) (zb : ob = none → lb.length = 0 ∧ cb = 0) (hna : la.length ≤ 17592186044404) (hnb : lb.length ≤ 17592186044404) :
    Calls Try.prog 4 #[.slice oa la.length ca, .slice ob lb.length cb, .int .u64 x0] w fun e w' => e = .returned (.bool true) ∧ Below w.heap.size w w' := by
  have HAW := Lib.hid awake7_any
  by_cases hbig : 200 < la.length ∨ 200 < lb.length
  · obtain ⟨na, hna'⟩ : ∃ n, la.length = n := ⟨_, rfl⟩
    obtain ⟨nb, hnb'⟩ : ∃ n, lb.length = n := ⟨_, rfl⟩
    rw [hna', hnb'] at hbig ⊢
    rw [hna'] at hna
    rw [hnb'] at hnb
    clear ha hb za zb hna' hnb'
    by_cases h1 : 200 < na
    · have q1 : decide (200 < (na : Int)) = true := by simp; omega
      clear hbig
      go_enter Try.func4, Try.ntmps4
      go_wp2_with fail
      refine (HAW.out _).mono ?_
      rintro e w1 ⟨rfl, hb1⟩
      go_wp2
      go_ret
      exact ⟨rfl, hb1⟩
    · have q1 : decide (200 < (na : Int)) = false := by simp; omega
      have q2 : decide (200 < (nb : Int)) = true := by simp; omega
      clear hbig
      go_enter Try.func4, Try.ntmps4
      go_wp2_with fail
      refine (HAW.out _).mono ?_
      rintro e w1 ⟨rfl, hb1⟩
      go_wp2
      go_ret
      exact ⟨rfl, hb1⟩
  · have sa : la.length ≤ 200 := by omega
    have sb : lb.length ≤ 200 := by omega
    clear hbig hna hnb
    obtain ⟨i0, hi, hz0, hz1, hz2⟩ := info_parts info_u
    have EU := Lib.hid (unionL_small (a := la) (b := lb) (by omega))
    have EE : Hid (unionE la lb = 0) := by
      have := setF_length (la ++ lb)
      rw [List.length_append] at this
      show _ = _
      unfold unionE toldE
      rw [if_neg (by omega), if_neg (by omega)]
    have EM := Lib.hid (sideL_small (p := fun x => hasF (setF lb) x) (a := la) (b := lb) (by omega) (by omega))
    have EN := Lib.hid (sideL_small (p := fun x => !hasF (setF lb) x) (a := la) (b := lb) (by omega) (by omega))
    have ES : Hid (sideE la lb = 0) := by show _ = _; unfold sideE; rw [if_neg (by omega)]
    have EH : Hid (hasF (setF la) x0 = hasF la x0) := by show _ = _; rw [Bool.eq_iff_iff, hasF_iff, hasF_iff, setF_mem]
    have EX := Lib.hid (setF_length la)
    obtain ⟨na, hna⟩ : ∃ n, la.length = n := ⟨_, rfl⟩
    obtain ⟨nb, hnb⟩ : ∃ n, lb.length = n := ⟨_, rfl⟩
    rw [hna] at sa za ⊢
    rw [hnb] at sb zb ⊢
    have HNA := Lib.hid hna
    have HNB := Lib.hid hnb
    have HE0 : Hid (Env w [(oa, na, ca, 200, la), (ob, nb, cb, 200, lb)]) :=
      ((Env.nil w).cons ⟨hb, hnb, sb, zb⟩).cons ⟨ha, hna, sa, za⟩
    have HB0 : Hid (Below w.heap.size w w) := Below.refl _ _
    have ZA := Lib.hid za
    have ZB := Lib.hid zb
    have q1 : decide (200 < (na : Int)) = false := by simp; omega
    have q2 : decide (200 < (nb : Int)) = false := by simp; omega
    clear ha hb za zb hna hnb
    go_enter Try.func4, Try.ntmps4
    go_wp2_with fail
    refine (rset_env (a := la) (y := 200) HE0.out (by simp) (by decide)).mono ?_
    rintro e w1 ⟨ox, nx, cx, rfl, hE, hb⟩
    have HE1 := Lib.hid hE
    have HB1 := Lib.hid (below_later HB0.out HB0.out.size hb)
    clear hE hb HE0 HB0
    go_wp2_with fail
    refine (rset_env (a := lb) (y := 200) HE1.out (by simp) (by decide)).mono ?_
    rintro e w2 ⟨oy, ny, cy, rfl, hE, hb⟩
    have HE2 := Lib.hid hE
    have HB2 := Lib.hid (below_later HB1.out HB1.out.size hb)
    clear hE hb HE1 HB1
    -- the document's answer, word by word
    obtain ⟨X, hX⟩ : ∃ l, setF la = l := ⟨_, rfl⟩
    obtain ⟨Y, hY⟩ : ∃ l, setF lb = l := ⟨_, rfl⟩
    have EXX := Lib.hid hX
    have EYY := Lib.hid hY
    have HUX : Hid (Rising X) := by show Rising X; rw [← hX]; exact (setF_up _).rising
    have HUY : Hid (Rising Y) := by show Rising Y; rw [← hY]; exact (setF_up _).rising
    rw [hX] at HE2
    simp only [hY] at HE2 EM EN
    rw [hX] at EM EN EH
    clear hX hY
    have gx := HE2.out.get (ao := ox) (n := nx) (c := cx) (z := 200) (l := X) (by simp)
    have HWX := Lib.hid gx.1
    have HLX := Lib.hid gx.2.1
    have hnx : nx ≤ 200 := gx.2.2.1
    clear gx
    go_wp2
    go_loopw [9, 10, 11] (fun v u i wr => ∃ (k m q : Nat), k ≤ nx ∧ m ≤ k ∧ q ≤ k ∧ i = .int .i64 k ∧ Hid (((X.take k).filter fun x => hasF Y x).length = m ∧ ((X.take k).filter fun x => !hasF Y x).length = q) ∧ wr.ownsRow w2.heap.size 23 1 v m (uV ((X.take k).filter fun x => hasF Y x)) ∧ wr.ownsRow w2.heap.size 23 1 u q (uV ((X.take k).filter fun x => !hasF Y x)) ∧ Hid (Apart v u) ∧ Below w2.heap.size w2 wr) (fun _ _ i _ => nx - (intOf i).toNat)
    case atStart => exact ⟨0, 0, 0, Nat.zero_le _, Nat.le_refl _, Nat.le_refl _, rfl, ⟨rfl, rfl⟩, World.ownsRow_nil _ _ _ _, World.ownsRow_nil _ _ _ _, fun k h => by simp [Value.ownBlock] at h, Below.refl _ _⟩
    case round =>
      obtain ⟨k, m, q, hk, hm, hq, rfl, HM, hv, hu, HD, hnx2⟩ := hrel
      have hsz := hnx2.size
      obtain ⟨vo, vc, rfl, _, _⟩ := own_form hv
      obtain ⟨uo, uc, rfl, _, _⟩ := own_form hu
      by_cases hlt : k < nx
      · obtain ⟨b, off, rfl, hb, hc⟩ := (HWX.out.below hnx2 (Nat.le_refl _)) (by rw [HLX.out]; omega)
        have c0 := hc k (by rw [HLX.out]; exact hlt)
        have HF1 := Lib.hid (take_filter_succ (fun x => hasF Y x) X (k := k) (by rw [HLX.out]; exact hlt))
        have HF2 := Lib.hid (take_filter_succ (fun x => !hasF Y x) X (k := k) (by rw [HLX.out]; exact hlt))
        generalize X.getD k 0 = y at c0 HF1 HF2
        have hbw : b < wr.heap.size := by omega
        have HC := Lib.hid (rhas_env (a := Y) (ao := oy) (n := ny) (c := cy) (y := 200) (HE2.out.later hnx2) y (by simp) (by decide) HUY.out)
        obtain ⟨o, ho⟩ : ∃ o, hasF Y y = o := ⟨_, rfl⟩
        rw [ho] at HC
        simp only [ho] at HF1 HF2
        clear hc ho
        cases o
        all_goals
          simp only [Bool.false_eq_true, if_true, if_false, List.append_nil, Bool.not_false, Bool.not_true] at HF1 HF2
        · go_wp2_with (first | (go_at_call 14; refine HC.out.mono ?_; rintro e w' ⟨rfl, rfl⟩) | (at_builtin; refine wpList_append_own_at _ rfl (.tmp 50) (.tmp 55) 22 rfl w2.heap.size 23 i0 (.int .u64 0) 1 8 Try.underlying22 hi hz0 hz1 hz2 rfl (by decide) _ _ _ rfl (hu.alloc _) ⟨wr.heap.size, 0, none⟩ 1 1 [.int .u64 y] rfl rfl (cells_new _ _ _ _ rfl) (by simp [Value.oneCell']) (by unfold maxLen; omega) (by omega) (by simp; omega) ?_; intro v' w3 hown1 hgrow _ hat))
          go_roundw
          case rel =>
            rw [← uV_snoc, ← HF2.out] at hown1
            exact ⟨k + 1, m, q + 1, by omega, by omega, by omega, by go_num, ⟨by rw [HF1.out]; exact HM.out.1, by rw [HF2.out, List.length_append, HM.out.2]; rfl⟩,
              by rw [HF1.out]; exact (hv.alloc _).kept hgrow HD.out.ne, hown1, (HD.out.symm.step hat (hv.alloc (.cells #[.int .u64 y] 23)).lt_size).symm, below_append (hnx2.alloc hsz _) (hu.alloc _) (by simp; omega) hgrow⟩
          case measure => simp [intOf]; omega
        · go_wp2_with (first | (go_at_call 14; refine HC.out.mono ?_; rintro e w' ⟨rfl, rfl⟩) | (at_builtin; refine wpList_append_own_at _ rfl (.tmp 43) (.tmp 48) 22 rfl w2.heap.size 23 i0 (.int .u64 0) 1 8 Try.underlying22 hi hz0 hz1 hz2 rfl (by decide) _ _ _ rfl (hv.alloc _) ⟨wr.heap.size, 0, none⟩ 1 1 [.int .u64 y] rfl rfl (cells_new _ _ _ _ rfl) (by simp [Value.oneCell']) (by unfold maxLen; omega) (by omega) (by simp; omega) ?_; intro v' w3 hown1 hgrow _ hat))
          go_roundw
          case rel =>
            rw [← uV_snoc, ← HF1.out] at hown1
            exact ⟨k + 1, m + 1, q, by omega, by omega, by omega, by go_num, ⟨by rw [HF1.out, List.length_append, HM.out.1]; rfl, by rw [HF2.out]; exact HM.out.2⟩,
              hown1, by rw [HF2.out]; exact (hu.alloc _).kept hgrow HD.out.symm.ne, HD.out.step hat (hu.alloc (.cells #[.int .u64 y] 23)).lt_size, below_append (hnx2.alloc hsz _) (hv.alloc _) (by simp; omega) hgrow⟩
          case measure => simp [intOf]; omega
      · obtain rfl : k = nx := by omega
        have HFL : Hid (X.take k = X) := by show _ = _; rw [← HLX.out, List.take_length]
        rw [HFL.out] at hv hu
        have hml := HM.out
        rw [HFL.out] at hml
        have HE3 : Hid (Env wr ((vo, m, vc, 200, X.filter fun x => hasF Y x) :: (uo, q, uc, 200, X.filter fun x => !hasF Y x) :: _)) :=
          ((HE2.out.later hnx2).cons (own_ent hml.2.symm (by omega) hu)).cons (own_ent hml.1.symm (by omega) hv)
        have HB3 := Lib.hid (below_later HB2.out HB2.out.size hnx2)
        clear hv hu hml HM HD hnx2 hsz HE2 HB2 HWX
        go_wp2_with fail
        refine (union_err (a := la) (b := lb) (y := 200) (z := 200) HE3.out (by simp) (by simp) (by omega)).mono ?_
        rintro e w3 ⟨oU, nU, cU, rfl, hE, hb⟩
        rw [EU.out] at hE
        rw [EE.out]
        have HE4 := Lib.hid hE
        have HB4 := Lib.hid (below_later HB3.out HB3.out.size hb)
        clear hE hb HE3 HB3
        go_wp2_with fail
        refine (meet_err (a := la) (b := lb) (y := 200) (z := 200) HE4.out (by simp) (by simp) (by omega)).mono ?_
        rintro e w4 ⟨oM, nM, cM, rfl, hE, hb⟩
        simp only [EYY.out] at hE
        rw [EM.out] at hE
        rw [ES.out]
        have HE5 := Lib.hid hE
        have HB5 := Lib.hid (below_later HB4.out HB4.out.size hb)
        clear hE hb HE4 HB4
        go_wp2_with fail
        refine (minus_err (a := la) (b := lb) (y := 200) (z := 200) HE5.out (by simp) (by simp) (by omega)).mono ?_
        rintro e w5 ⟨oN, nN, cN, rfl, hE, hb⟩
        simp only [EYY.out] at hE
        rw [EN.out] at hE
        rw [ES.out]
        have HE6 := Lib.hid hE
        have HB6 := Lib.hid (below_later HB5.out HB5.out.size hb)
        clear hE hb HE5 HB5
        go_wp2_with fail
        refine (set_env (a := la) (y := 200) HE6.out (by simp) (by decide)).mono ?_
        rintro e w6 ⟨oS, nS, cS, rfl, -, hE, hb⟩
        rw [EXX.out] at hE
        have HE7 := Lib.hid hE
        have HB7 := Lib.hid (below_later HB6.out HB6.out.size hb)
        clear hE hb HE6 HB6
        go_wp2_with fail
        refine (same_true (ao := oS) (n := nS) (c := cS) (bo := ox) (m := k) (d := cx) (a := X) (b := X) (y := 200) (z := 200) HE7.out (by simp) (by simp) (by decide) rfl).mono ?_
        rintro e w7 ⟨rfl, hE, hb⟩
        have HE8 := Lib.hid hE
        have HB8 := Lib.hid (below_later HB7.out HB7.out.size hb)
        clear hE hb HE7 HB7
        obtain ⟨v1, wA, hr1, hA, hgA⟩ := append_words (w := w7.alloc (.cells #[] 23)) (base := w7.heap.size) (n := 0) (v := .slice (some ⟨w7.heap.size, 0, none⟩) 0 0) (xs := []) (l := la) (ao := oa) (m := na) (c := ca)
          (World.ownsRow_lit (size := 1) (e := 23) w7 #[] 0 (Nat.le_refl _) (by decide) rfl) (((HE8.out.get (ao := oa) (n := na) (c := ca) (z := 200) (l := la) (by simp)).later ((Below.refl _ _).alloc (Nat.le_refl _) _)).1) HNA.out ZA.out (by simp) (by omega)
        simp only [Nat.zero_add, List.nil_append] at hA
        have hbA : Below w7.heap.size w7 wA := below_append ((Below.refl _ _).alloc (Nat.le_refl _) _) (World.ownsRow_lit (size := 1) (e := 23) w7 #[] 0 (Nat.le_refl _) (by decide) rfl) (by simp) hgA
        obtain ⟨v2, wB, hr2, hB, hgB⟩ := append_words (w := wA) (base := w7.heap.size) (v := v1) (xs := la) (l := lb) (ao := ob) (m := nb) (c := cb)
          hA ((HE8.out.get (ao := ob) (n := nb) (c := cb) (z := 200) (l := lb) (by simp)).later hbA).1 HNB.out ZB.out hbA.size (by omega)
        have hbB : Below w7.heap.size w7 wB := below_append hbA hA hbA.size hgB
        obtain ⟨vo2, vc2, rfl, _, _⟩ := own_form hB
        have HE9 := Lib.hid ((HE8.out.later hbB).cons (own_ent (z := 400) (l := la ++ lb) (by rw [List.length_append, HNA.out, HNB.out]) (by omega) hB))
        have HB9 := Lib.hid (below_later HB8.out HB8.out.size hbB)
        have HR1 := Lib.hid hr1
        have HR2 := Lib.hid hr2
        clear hA hgA hbA hgB hbB hB hr1 hr2 HE8 HB8
        go_wp2_with (at_builtin; first | (refine wpList_append_want _ (by kernel_rfl) (.tmp 93) (.tmp 94) 22 22 rfl _ _ rfl rfl _ _ HR1.out ?_) | (refine wpList_append_want _ (by kernel_rfl) (.tmp 95) (.tmp 96) 22 22 rfl _ _ rfl rfl _ _ HR2.out ?_))
        refine (rset_env (a := la ++ lb) (y := 400) HE9.out (by simp) (by decide)).mono ?_
        rintro e wC ⟨oW, nW, cW, rfl, hE, hb⟩
        have HE10 := Lib.hid hE
        have HB10 := Lib.hid (below_later HB9.out HB9.out.size hb)
        clear hE hb HE9 HB9 HR1 HR2
        go_wp2_with fail
        refine (same_true (ao := oU) (n := nU) (c := cU) (bo := oW) (m := nW) (d := cW) (a := setF (la ++ lb)) (b := setF (la ++ lb)) (y := 400) (z := 400) HE10.out (by simp) (by simp) (by decide) rfl).mono ?_
        rintro e wD10 ⟨rfl, hE, hb⟩
        have HE11 := Lib.hid hE
        have HB11 := Lib.hid (below_later HB10.out HB10.out.size hb)
        clear hE hb HE10 HB10
        go_wp2_with fail
        refine (same_true (ao := oM) (n := nM) (c := cM) (bo := vo) (m := m) (d := vc) (a := X.filter fun x => hasF Y x) (b := X.filter fun x => hasF Y x) (y := 200) (z := 200) HE11.out (by simp) (by simp) (by decide) rfl).mono ?_
        rintro e wD11 ⟨rfl, hE, hb⟩
        have HE12 := Lib.hid hE
        have HB12 := Lib.hid (below_later HB11.out HB11.out.size hb)
        clear hE hb HE11 HB11
        go_wp2_with fail
        refine (same_true (ao := oN) (n := nN) (c := cN) (bo := uo) (m := q) (d := uc) (a := X.filter fun x => !hasF Y x) (b := X.filter fun x => !hasF Y x) (y := 200) (z := 200) HE12.out (by simp) (by simp) (by decide) rfl).mono ?_
        rintro e wD12 ⟨rfl, hE, hb⟩
        have HE13 := Lib.hid hE
        have HB13 := Lib.hid (below_later HB12.out HB12.out.size hb)
        clear hE hb HE12 HB12
        have C1 := Lib.hid (has_env (a := la) (ao := oa) (n := na) (c := ca) (y := 200) HE13.out x0 (by simp) (by decide))
        have C2 := Lib.hid (rhas_env (a := X) (ao := ox) (n := k) (c := cx) (y := 200) HE13.out x0 (by simp) (by decide) HUX.out)
        rw [EH.out] at C2
        generalize hasF la x0 = p at C1 C2
        clear HE13 EH
        cases p
        all_goals
          go_wp2_with fail
          refine C1.out.mono ?_
          rintro e wE ⟨rfl, rfl⟩
          go_wp2_with fail
          refine C2.out.mono ?_
          rintro e wE ⟨rfl, rfl⟩
          go_wp2_with fail
          refine (HAW.out _).mono ?_
          rintro e wF ⟨rfl, hb⟩
          have hb2 := below_later HB13.out HB13.out.size hb
          clear hb
          go_wp2
          go_ret
          exact ⟨rfl, hb2⟩

theorem walk {w : World} (a0 : Option Addr) (n0 c0 : Nat) (z0 : Nat → Int) (h0 : IntsAtK .u64 w w.heap.size a0 n0 z0) (_b0 : ∀ i, i < n0 → (Lit.int .u64 (z0 i)).wf = true) (s0 : n0 * 8 ≤ 140737488351232) (o0 : a0 = none → n0 = 0 ∧ c0 = 0)
    (a1 : Option Addr) (n1 c1 : Nat) (z1 : Nat → Int) (h1 : IntsAtK .u64 w w.heap.size a1 n1 z1) (_b1 : ∀ i, i < n1 → (Lit.int .u64 (z1 i)).wf = true) (s1 : n1 * 8 ≤ 140737488351232) (o1 : a1 = none → n1 = 0 ∧ c1 = 0)
    (a2 : Int) (_w2 : (Lit.int .u64 a2).wf = true) :
    Calls Try.prog 4 #[.slice a0 n0 c0, .slice a1 n1 c1, .int .u64 a2] w fun e w' => e = .returned (.bool true) ∧ Below w.heap.size w w' := by
  have h := core a0 a1 c0 c1 ((List.range n0).map z0) ((List.range n1).map z1) a2 w (words_of_ints h0) (words_of_ints h1) (by simpa using o0) (by simpa using o1) (by simp; omega) (by simp; omega)
  simpa using h
end Go.Proofs.Ytpbednjnompefaa.cellsSets
