/- Contracts of cells.told, side, Meet, Minus. -/
import Derived.Test.YtpbednjnompefaaSetP
namespace Go.Proofs.Ytpbednjnompefaa
open Go.RowKit Go.Lib Go.Sort

/-- An answer that may be too long. -/
def toldF (l : List Int) : List Int := if 20000 < l.length then [] else l
def toldE (l : List Int) : Int := if 20000 < l.length then 7 else 0
def Told (w : World) (l : List Int) (e : Ending) (w' : World) : Prop :=
  ∃ ao c, e = .returned (.tuple #[.slice ao (toldF l).length c, .int .i64 (toldE l)]) ∧ WordsAt w' w'.heap.size ao (toldF l) ∧ Below w.heap.size w w' ∧ (ao = none → c = 0)
set_option maxHeartbeats 400000 in
theorem told_any (ao : Option Addr) (c : Nat) (l : List Int) (w : World) (h : WordsAt w w.heap.size ao l) (hn : l.length ≤ 1000000000) (zc : ao = none → c = 0) :
    Calls Try.prog 24 #[.slice ao l.length c] w (Told w l) := by
  by_cases h2 : 20000 < l.length
  · have HT : Hid (Told w l (.returned (.tuple #[.slice none 0 0, .int .i64 7])) w) := ⟨none, 0, by unfold toldF toldE; rw [if_pos h2, if_pos h2]; rfl, by unfold toldF; rw [if_pos h2]; exact fun h => by simp at h, Below.refl _ _, fun _ => rfl⟩
    clear zc
    go_enter Try.func24, Try.ntmps24
    go_wp2
    go_ret2
    exact HT.out
  · have HT : Hid (Told w l (.returned (.tuple #[.slice ao l.length c, .int .i64 0])) w) := ⟨ao, c, by unfold toldF toldE; rw [if_neg h2, if_neg h2], by unfold toldF; rw [if_neg h2]; exact h, Below.refl _ _, zc⟩
    clear zc
    go_enter Try.func24, Try.ntmps24
    go_wp2
    go_ret2
    exact HT.out

theorem uV_snoc (l : List Int) (x : Int) : uV (l ++ [x]) = uV l ++ [.int .u64 x] := by simp [uV]
theorem take_filter_succ (p : Int → Bool) (l : List Int) {k : Nat} (h : k < l.length) : (l.take (k + 1)).filter p = (l.take k).filter p ++ (if p (l.getD k 0) then [l.getD k 0] else []) := by
  rw [List.take_succ_eq_append_getElem h, List.filter_append]
  have : l.getD k 0 = l[k] := by rw [List.getD_eq_getElem?_getD, List.getElem?_eq_getElem h, Option.getD_some]
  rw [this]
  by_cases hp : p l[k] = true <;> simp [hp]
/-- What a side of two lists comes to. -/
def sideL (p : Int → Bool) (a b : List Int) : List Int := if 20000 < a.length ∨ 20000 < b.length then [] else (setF a).filter p
def sideE (a b : List Int) : Int := if 20000 < a.length ∨ 20000 < b.length then 7 else 0
def Side (w : World) (p : Int → Bool) (a b : List Int) (e : Ending) (w' : World) : Prop :=
  ∃ ao c, e = .returned (.tuple #[.slice ao (sideL p a b).length c, .int .i64 (sideE a b)]) ∧ WordsAt w' w'.heap.size ao (sideL p a b) ∧ Below w.heap.size w w' ∧ (ao = none → c = 0)
/-- A nil row of a call's own has no room. -/
theorem own_nil {w : World} {base n c size : Nat} {e : TypeId} {ao : Option Addr} {xs : List Value} (h : w.ownsRow base e size (.slice ao n c) n xs) : ao = none → c = 0 := fun h0 => by
  subst h0
  rcases h.2 with ⟨h1, _⟩ | ⟨g, cap, cur, hv, _⟩
  · cases h1; rfl
  · cases hv
theorem words_own {w : World} {base n c : Nat} {ao : Option Addr} {l : List Int} (hn : n = l.length) (h : w.ownsRow base 23 1 (.slice ao n c) n (uV l)) : WordsAt w w.heap.size ao l := fun h0 => by
  subst hn
  obtain ⟨ao', c', e, _, hh⟩ := own_form h
  cases e
  obtain ⟨g, rfl, _, hg, hc⟩ := hh h0
  exact ⟨g, 0, rfl, hg, fun i hi => by rw [hc (0 + i) _ (by rw [Nat.zero_add]; exact uV_get l i hi)]⟩

set_option maxRecDepth 100000 in
set_option maxHeartbeats 4000000 in
theorem side_in_any (ao bo : Option Addr) (c d : Nat) (a b : List Int) (w : World) (ha : WordsAt w w.heap.size ao a) (hb : WordsAt w w.heap.size bo b) (hna : a.length ≤ 1000000000) (hnb : b.length ≤ 1000000000) :
    Calls Try.prog 26 #[.slice ao a.length c, .slice bo b.length d, .func (.func 27) #[] #[]] w (Side w (fun x => hasF (setF b) x) a b) := by
  obtain ⟨i0, hi, hz0, hz1, hz2⟩ := info_parts info_u
  by_cases hbig : 20000 < a.length ∨ 20000 < b.length
  · have HT : Hid (Side w (fun x => hasF (setF b) x) a b (.returned (.tuple #[.slice none 0 0, .int .i64 7])) w) :=
      ⟨none, 0, by unfold sideL sideE; rw [if_pos hbig, if_pos hbig]; rfl, by unfold sideL; rw [if_pos hbig]; exact fun h => by simp at h, Below.refl _ _, fun _ => rfl⟩
    by_cases h1 : 20000 < a.length
    · have q1 : decide (20000 < (a.length : Int)) = true := by simp; omega
      clear hbig
      go_enter Try.func26, Try.ntmps26
      go_wp2_with fail
      go_ret2
      exact HT.out
    · have q1 : decide (20000 < (a.length : Int)) = false := by simp; omega
      have q2 : decide (20000 < (b.length : Int)) = true := by simp; omega
      clear hbig
      go_enter Try.func26, Try.ntmps26
      go_wp2_with fail
      go_ret2
      exact HT.out
  · have HL : Hid (sideL (fun x => hasF (setF b) x) a b = (setF a).filter fun x => hasF (setF b) x) := by show _ = _; unfold sideL; rw [if_neg hbig]
    have HE : Hid (sideE a b = 0) := by show _ = _; unfold sideE; rw [if_neg hbig]
    have q1 : decide (20000 < (a.length : Int)) = false := by simp; omega
    have q2 : decide (20000 < (b.length : Int)) = false := by simp; omega
    have hsa := setF_length a
    have hsb := setF_length b
    have HB := Lib.hid (uset_any bo d b w _ hb hnb)
    have HA := Lib.hid (fun w1 (hw : Below w.heap.size w w1) => uset_any ao c a w1 _ (ha.below hw (Nat.le_refl _)) hna)
    have hs2 : (setF a).length ≤ 20000 := by omega
    have hs3 : (setF b).length ≤ 20000 := by omega
    clear hbig ha hb hna hnb hsa hsb
    obtain ⟨na, hna⟩ : ∃ n, a.length = n := ⟨_, rfl⟩
    obtain ⟨nb, hnb⟩ : ∃ n, b.length = n := ⟨_, rfl⟩
    rw [hna] at HA q1 ⊢
    rw [hnb] at HB q2 ⊢
    clear hna hnb
    have HRB := Lib.hid (setF_up b).rising
    obtain ⟨s, hs⟩ : ∃ s, setF a = s := ⟨_, rfl⟩
    obtain ⟨t, ht⟩ : ∃ s, setF b = s := ⟨_, rfl⟩
    rw [hs] at HL hs2
    rw [ht] at HB HRB hs3
    simp only [ht] at HL
    have HA : Hid (∀ w1, Below w.heap.size w w1 → Calls Try.prog 16 #[.slice ao na c] w1 fun e w' => ∃ ao' c', e = .returned (.slice ao' s.length c') ∧ (ao' = none → c' = 0) ∧ WordsAt w' w'.heap.size ao' s ∧ Below w1.heap.size w1 w') := fun w1 hw => by
      have := HA.out w1 hw
      rw [hs] at this
      exact this
    have HS := Lib.hid hs
    have HTT := Lib.hid ht
    clear hs ht
    go_enter Try.func26, Try.ntmps26
    go_wp2_with fail
    refine HB.out.mono ?_
    rintro e w1 ⟨to', tc, rfl, -, hwt, hb1⟩
    have HW1 := Lib.hid hwt
    have HB1 := Lib.hid hb1
    clear hwt hb1
    go_wp2_with fail
    refine (HA.out w1 HB1.out).mono ?_
    rintro e w2 ⟨so', sc, rfl, -, hws, hb2⟩
    have HW2 := Lib.hid hws
    have HT2 : Hid (WordsAt w2 w2.heap.size to' t) := (HW1.out.below hb2 (Nat.le_refl _)).wider hb2.size
    have HB2 := Lib.hid (below_later HB1.out HB1.out.size hb2)
    clear hws hb2
    obtain ⟨n, hn⟩ : ∃ n, s.length = n := ⟨_, rfl⟩
    have HN := Lib.hid hn
    rw [hn] at hs2 ⊢
    clear hn
    go_wp2
    go_loopw [9, 25] (fun v i wr => ∃ (k m : Nat), k ≤ n ∧ m ≤ k ∧ i = .int .i64 k ∧ Hid (((s.take k).filter fun x => hasF t x).length = m) ∧ wr.ownsRow w2.heap.size 23 1 v m (uV ((s.take k).filter fun x => hasF t x)) ∧ Below w2.heap.size w2 wr) (fun _ i _ => n - (intOf i).toNat)
    case atStart => exact ⟨0, 0, Nat.zero_le _, Nat.le_refl _, rfl, rfl, World.ownsRow_nil _ _ _ _, Below.refl _ _⟩
    case round =>
      obtain ⟨k, m, hk, hm, rfl, HM, hown, hnx⟩ := hrel
      have hsz := hnx.size
      obtain ⟨vo, vc, rfl, _, _⟩ := own_form hown
      by_cases hlt : k < n
      · obtain ⟨g, off, rfl, hg, hc⟩ := (HW2.out.below hnx (Nat.le_refl _)) (by rw [HN.out]; omega)
        have c0 := hc k (by rw [HN.out]; exact hlt)
        have HF := Lib.hid (take_filter_succ (fun x => hasF t x) s (k := k) (by rw [HN.out]; exact hlt))
        generalize s.getD k 0 = y at c0 HF
        have hgw : g < wr.heap.size := by omega
        have HC := Lib.hid (uin_any to' tc t y wr _ (HT2.out.below hnx (Nat.le_refl _)) (by omega) HRB.out)
        obtain ⟨o, ho⟩ : ∃ o, hasF t y = o := ⟨_, rfl⟩
        rw [ho] at HC
        simp only [ho] at HF
        clear hc ho
        cases o
        all_goals
          simp only [Bool.false_eq_true, if_true, if_false, List.append_nil] at HF
        · go_wp2_with (first | (go_at_call 27; refine HC.out.mono ?_; rintro e w' ⟨rfl, rfl⟩))
          go_roundw
          case rel => exact ⟨k + 1, m, by omega, by omega, by go_num, by show _ = _; rw [HF.out]; exact HM.out, by rw [HF.out]; exact hown, hnx⟩
          case measure => simp [intOf]; omega
        · go_wp2_with (first | (go_at_call 27; refine HC.out.mono ?_; rintro e w' ⟨rfl, rfl⟩) | (at_builtin; refine wpList_append_own _ rfl (.tmp 33) (.tmp 35) 22 rfl w2.heap.size 23 i0 (.int .u64 0) 1 8 Try.underlying22 hi hz0 hz1 hz2 rfl (by decide) _ _ _ rfl (hown.alloc _) ⟨wr.heap.size, 0, none⟩ 1 1 [.int .u64 y] rfl rfl (cells_new _ _ _ _ rfl) (by simp [Value.oneCell']) (by unfold maxLen; omega) (by omega) (by simp; omega) ?_; intro v' w3 hown1 hgrow _))
          go_roundw
          case rel =>
            rw [← uV_snoc, ← HF.out] at hown1
            exact ⟨k + 1, m + 1, by omega, by omega, by go_num, by show _ = _; rw [HF.out, List.length_append, HM.out]; rfl, hown1, below_append (hnx.alloc hsz _) (hown.alloc _) (by simp; omega) hgrow⟩
          case measure => simp [intOf]; omega
      · obtain rfl : k = n := by omega
        have HFL : Hid ((s.take k).filter (fun x => hasF t x) = s.filter fun x => hasF t x) := by show _ = _; rw [← HN.out, List.take_length]
        rw [HFL.out] at hown
        have hml : m = (s.filter fun x => hasF t x).length := by rw [← HM.out, HFL.out]
        have hwd := words_own hml hown
        have hfl : (s.filter fun x => hasF t x).length ≤ 20000 := by omega
        have HCT := told_any vo vc _ wr hwd (by omega) (own_nil hown)
        rw [← hml] at HCT
        have HCT := Lib.hid HCT
        have HMM := Lib.hid hml
        have HBB := Lib.hid (below_later HB2.out HB2.out.size hnx)
        clear hwd hml hfl hown
        go_wp2_with fail
        refine HCT.out.mono ?_
        rintro e w4 ⟨ro, rc, rfl, hwr, hb4, hz4⟩
        have htl : toldF (s.filter fun x => hasF t x) = s.filter fun x => hasF t x := by unfold toldF; rw [if_neg (by rw [← HMM.out]; omega)]
        have hte : toldE (s.filter fun x => hasF t x) = 0 := by unfold toldE; rw [if_neg (by rw [← HMM.out]; omega)]
        rw [htl] at hwr
        rw [htl, hte]
        have HWR := Lib.hid hwr
        have HZ4 := Lib.hid hz4
        have HB4 := Lib.hid (below_later HBB.out HBB.out.size hb4)
        have HFIN : Hid (∀ z, z = (s.filter fun x => hasF t x).length → Side w (fun x => hasF (setF b) x) a b (.returned (.tuple #[.slice ro z rc, .int .i64 0])) w4) := fun z hz => by
          subst hz
          exact ⟨ro, rc, by simp only [HTT.out]; rw [HL.out, HE.out], by simp only [HTT.out]; rw [HL.out]; exact HWR.out, HB4.out, HZ4.out⟩
        clear hwr hb4 hz4 htl hte
        rw [← HMM.out]
        go_wp2
        go_ret2
        exact HFIN.out _ HMM.out

set_option maxRecDepth 100000 in
set_option maxHeartbeats 4000000 in
theorem side_out_any (ao bo : Option Addr) (c d : Nat) (a b : List Int) (w : World) (ha : WordsAt w w.heap.size ao a) (hb : WordsAt w w.heap.size bo b) (hna : a.length ≤ 1000000000) (hnb : b.length ≤ 1000000000) :
    Calls Try.prog 26 #[.slice ao a.length c, .slice bo b.length d, .func (.func 28) #[] #[]] w (Side w (fun x => !hasF (setF b) x) a b) := by
  obtain ⟨i0, hi, hz0, hz1, hz2⟩ := info_parts info_u
  by_cases hbig : 20000 < a.length ∨ 20000 < b.length
  · have HT : Hid (Side w (fun x => !hasF (setF b) x) a b (.returned (.tuple #[.slice none 0 0, .int .i64 7])) w) :=
      ⟨none, 0, by unfold sideL sideE; rw [if_pos hbig, if_pos hbig]; rfl, by unfold sideL; rw [if_pos hbig]; exact fun h => by simp at h, Below.refl _ _, fun _ => rfl⟩
    by_cases h1 : 20000 < a.length
    · have q1 : decide (20000 < (a.length : Int)) = true := by simp; omega
      clear hbig
      go_enter Try.func26, Try.ntmps26
      go_wp2_with fail
      go_ret2
      exact HT.out
    · have q1 : decide (20000 < (a.length : Int)) = false := by simp; omega
      have q2 : decide (20000 < (b.length : Int)) = true := by simp; omega
      clear hbig
      go_enter Try.func26, Try.ntmps26
      go_wp2_with fail
      go_ret2
      exact HT.out
  · have HL : Hid (sideL (fun x => !hasF (setF b) x) a b = (setF a).filter fun x => !hasF (setF b) x) := by show _ = _; unfold sideL; rw [if_neg hbig]
    have HE : Hid (sideE a b = 0) := by show _ = _; unfold sideE; rw [if_neg hbig]
    have q1 : decide (20000 < (a.length : Int)) = false := by simp; omega
    have q2 : decide (20000 < (b.length : Int)) = false := by simp; omega
    have hsa := setF_length a
    have hsb := setF_length b
    have HB := Lib.hid (uset_any bo d b w _ hb hnb)
    have HA := Lib.hid (fun w1 (hw : Below w.heap.size w w1) => uset_any ao c a w1 _ (ha.below hw (Nat.le_refl _)) hna)
    have hs2 : (setF a).length ≤ 20000 := by omega
    have hs3 : (setF b).length ≤ 20000 := by omega
    clear hbig ha hb hna hnb hsa hsb
    obtain ⟨na, hna⟩ : ∃ n, a.length = n := ⟨_, rfl⟩
    obtain ⟨nb, hnb⟩ : ∃ n, b.length = n := ⟨_, rfl⟩
    rw [hna] at HA q1 ⊢
    rw [hnb] at HB q2 ⊢
    clear hna hnb
    have HRB := Lib.hid (setF_up b).rising
    obtain ⟨s, hs⟩ : ∃ s, setF a = s := ⟨_, rfl⟩
    obtain ⟨t, ht⟩ : ∃ s, setF b = s := ⟨_, rfl⟩
    rw [hs] at HL hs2
    rw [ht] at HB HRB hs3
    simp only [ht] at HL
    have HA : Hid (∀ w1, Below w.heap.size w w1 → Calls Try.prog 16 #[.slice ao na c] w1 fun e w' => ∃ ao' c', e = .returned (.slice ao' s.length c') ∧ (ao' = none → c' = 0) ∧ WordsAt w' w'.heap.size ao' s ∧ Below w1.heap.size w1 w') := fun w1 hw => by
      have := HA.out w1 hw
      rw [hs] at this
      exact this
    have HS := Lib.hid hs
    have HTT := Lib.hid ht
    clear hs ht
    go_enter Try.func26, Try.ntmps26
    go_wp2_with fail
    refine HB.out.mono ?_
    rintro e w1 ⟨to', tc, rfl, -, hwt, hb1⟩
    have HW1 := Lib.hid hwt
    have HB1 := Lib.hid hb1
    clear hwt hb1
    go_wp2_with fail
    refine (HA.out w1 HB1.out).mono ?_
    rintro e w2 ⟨so', sc, rfl, -, hws, hb2⟩
    have HW2 := Lib.hid hws
    have HT2 : Hid (WordsAt w2 w2.heap.size to' t) := (HW1.out.below hb2 (Nat.le_refl _)).wider hb2.size
    have HB2 := Lib.hid (below_later HB1.out HB1.out.size hb2)
    clear hws hb2
    obtain ⟨n, hn⟩ : ∃ n, s.length = n := ⟨_, rfl⟩
    have HN := Lib.hid hn
    rw [hn] at hs2 ⊢
    clear hn
    go_wp2
    go_loopw [9, 25] (fun v i wr => ∃ (k m : Nat), k ≤ n ∧ m ≤ k ∧ i = .int .i64 k ∧ Hid (((s.take k).filter fun x => !hasF t x).length = m) ∧ wr.ownsRow w2.heap.size 23 1 v m (uV ((s.take k).filter fun x => !hasF t x)) ∧ Below w2.heap.size w2 wr) (fun _ i _ => n - (intOf i).toNat)
    case atStart => exact ⟨0, 0, Nat.zero_le _, Nat.le_refl _, rfl, rfl, World.ownsRow_nil _ _ _ _, Below.refl _ _⟩
    case round =>
      obtain ⟨k, m, hk, hm, rfl, HM, hown, hnx⟩ := hrel
      have hsz := hnx.size
      obtain ⟨vo, vc, rfl, _, _⟩ := own_form hown
      by_cases hlt : k < n
      · obtain ⟨g, off, rfl, hg, hc⟩ := (HW2.out.below hnx (Nat.le_refl _)) (by rw [HN.out]; omega)
        have c0 := hc k (by rw [HN.out]; exact hlt)
        have HF := Lib.hid (take_filter_succ (fun x => !hasF t x) s (k := k) (by rw [HN.out]; exact hlt))
        generalize s.getD k 0 = y at c0 HF
        have hgw : g < wr.heap.size := by omega
        have HC := Lib.hid (uout_any to' tc t y wr _ (HT2.out.below hnx (Nat.le_refl _)) (by omega) HRB.out)
        obtain ⟨o, ho⟩ : ∃ o, hasF t y = o := ⟨_, rfl⟩
        rw [ho] at HC
        simp only [ho] at HF
        clear hc ho
        cases o
        all_goals
          simp only [Bool.not_false, Bool.not_true, Bool.false_eq_true, if_true, if_false, List.append_nil] at HF HC
        · go_wp2_with (first | (go_at_call 28; refine HC.out.mono ?_; rintro e w' ⟨rfl, rfl⟩) | (at_builtin; refine wpList_append_own _ rfl (.tmp 33) (.tmp 35) 22 rfl w2.heap.size 23 i0 (.int .u64 0) 1 8 Try.underlying22 hi hz0 hz1 hz2 rfl (by decide) _ _ _ rfl (hown.alloc _) ⟨wr.heap.size, 0, none⟩ 1 1 [.int .u64 y] rfl rfl (cells_new _ _ _ _ rfl) (by simp [Value.oneCell']) (by unfold maxLen; omega) (by omega) (by simp; omega) ?_; intro v' w3 hown1 hgrow _))
          go_roundw
          case rel =>
            rw [← uV_snoc, ← HF.out] at hown1
            exact ⟨k + 1, m + 1, by omega, by omega, by go_num, by show _ = _; rw [HF.out, List.length_append, HM.out]; rfl, hown1, below_append (hnx.alloc hsz _) (hown.alloc _) (by simp; omega) hgrow⟩
          case measure => simp [intOf]; omega
        · go_wp2_with (first | (go_at_call 28; refine HC.out.mono ?_; rintro e w' ⟨rfl, rfl⟩))
          go_roundw
          case rel => exact ⟨k + 1, m, by omega, by omega, by go_num, by show _ = _; rw [HF.out]; exact HM.out, by rw [HF.out]; exact hown, hnx⟩
          case measure => simp [intOf]; omega
      · obtain rfl : k = n := by omega
        have HFL : Hid ((s.take k).filter (fun x => !hasF t x) = s.filter fun x => !hasF t x) := by show _ = _; rw [← HN.out, List.take_length]
        rw [HFL.out] at hown
        have hml : m = (s.filter fun x => !hasF t x).length := by rw [← HM.out, HFL.out]
        have hwd := words_own hml hown
        have hfl : (s.filter fun x => !hasF t x).length ≤ 20000 := by omega
        have HCT := told_any vo vc _ wr hwd (by omega) (own_nil hown)
        rw [← hml] at HCT
        have HCT := Lib.hid HCT
        have HMM := Lib.hid hml
        have HBB := Lib.hid (below_later HB2.out HB2.out.size hnx)
        clear hwd hml hfl hown
        go_wp2_with fail
        refine HCT.out.mono ?_
        rintro e w4 ⟨ro, rc, rfl, hwr, hb4, hz4⟩
        have htl : toldF (s.filter fun x => !hasF t x) = s.filter fun x => !hasF t x := by unfold toldF; rw [if_neg (by rw [← HMM.out]; omega)]
        have hte : toldE (s.filter fun x => !hasF t x) = 0 := by unfold toldE; rw [if_neg (by rw [← HMM.out]; omega)]
        rw [htl] at hwr
        rw [htl, hte]
        have HWR := Lib.hid hwr
        have HZ4 := Lib.hid hz4
        have HB4 := Lib.hid (below_later HBB.out HBB.out.size hb4)
        have HFIN : Hid (∀ z, z = (s.filter fun x => !hasF t x).length → Side w (fun x => !hasF (setF b) x) a b (.returned (.tuple #[.slice ro z rc, .int .i64 0])) w4) := fun z hz => by
          subst hz
          exact ⟨ro, rc, by simp only [HTT.out]; rw [HL.out, HE.out], by simp only [HTT.out]; rw [HL.out]; exact HWR.out, HB4.out, HZ4.out⟩
        clear hwr hb4 hz4 htl hte
        rw [← HMM.out]
        go_wp2
        go_ret2
        exact HFIN.out _ HMM.out


set_option maxHeartbeats 400000 in
theorem meet_any (ao bo : Option Addr) (c d : Nat) (a b : List Int) (w : World) (ha : WordsAt w w.heap.size ao a) (hb : WordsAt w w.heap.size bo b) (hna : a.length ≤ 1000000000) (hnb : b.length ≤ 1000000000) :
    Calls Try.prog 10 #[.slice ao a.length c, .slice bo b.length d] w (Side w (fun x => hasF (setF b) x) a b) := by
  have HS := Lib.hid (side_in_any ao bo c d a b w ha hb hna hnb)
  go_enter Try.func10, Try.ntmps10
  go_wp2_with fail
  refine HS.out.mono ?_
  rintro e w1 hs
  have HP := Lib.hid hs
  obtain ⟨ro, rc, rfl, _, _⟩ := hs
  go_wp2
  go_ret2
  exact HP.out
set_option maxHeartbeats 400000 in
theorem minus_any (ao bo : Option Addr) (c d : Nat) (a b : List Int) (w : World) (ha : WordsAt w w.heap.size ao a) (hb : WordsAt w w.heap.size bo b) (hna : a.length ≤ 1000000000) (hnb : b.length ≤ 1000000000) :
    Calls Try.prog 11 #[.slice ao a.length c, .slice bo b.length d] w (Side w (fun x => !hasF (setF b) x) a b) := by
  have HS := Lib.hid (side_out_any ao bo c d a b w ha hb hna hnb)
  go_enter Try.func11, Try.ntmps11
  go_wp2_with fail
  refine HS.out.mono ?_
  rintro e w1 hs
  have HP := Lib.hid hs
  obtain ⟨ro, rc, rfl, _, _⟩ := hs
  go_wp2
  go_ret2
  exact HP.out
end Go.Proofs.Ytpbednjnompefaa
