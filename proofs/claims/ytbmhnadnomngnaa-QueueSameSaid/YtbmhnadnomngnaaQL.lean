/- Contract of apiaryref21.Sorted. -/
import Derived.Test.YtbmhnadnomngnaaQK
namespace Go.Proofs.Ytbmhnadnomngnaa
open Go.RowKit Go.Lib

def SortedW (L : List Wt) : Prop := ∀ i j, i < j → j < L.length → lessW (wg L j) (wg L i) = false
def putW (s : List Wt) (lo : Nat) (x : Wt) : List Wt := s.take lo ++ x :: s.drop lo
theorem putW_length {s : List Wt} {lo : Nat} {x : Wt} (h : lo ≤ s.length) : (putW s lo x).length = s.length + 1 := by simp [putW]; omega
theorem putW_perm (s : List Wt) (lo : Nat) (x : Wt) : (putW s lo x).Perm (x :: s) := by
  have := List.perm_middle (a := x) (l₁ := s.take lo) (l₂ := s.drop lo)
  rwa [List.take_append_drop] at this
theorem wg_put {s : List Wt} {lo : Nat} {x : Wt} (h : lo ≤ s.length) (i : Nat) : wg (putW s lo x) i = if i < lo then wg s i else if i = lo then x else wg s (i - 1) := by
  unfold wg putW
  rw [List.getD_eq_getElem?_getD]
  have hl : (s.take lo).length = lo := by rw [List.length_take]; omega
  by_cases h1 : i < lo
  · rw [if_pos h1, List.getElem?_append_left (by omega), List.getElem?_take_of_lt h1, List.getD_eq_getElem?_getD]
  · rw [if_neg h1, List.getElem?_append_right (by omega), hl]
    by_cases h2 : i = lo
    · subst h2; simp
    · rw [if_neg h2]
      obtain ⟨j, hj⟩ : ∃ j, i - lo = j + 1 := ⟨i - lo - 1, by omega⟩
      rw [hj, List.getElem?_cons_succ, List.getElem?_drop, List.getD_eq_getElem?_getD]
      congr 2
      omega
theorem sorted_put {s : List Wt} (hs : SortedW s) {lo : Nat} (hlo : lo ≤ s.length) {x : Wt} (h1 : 0 < lo → lessW x (wg s (lo - 1)) = false) (h2 : ∀ j, lo ≤ j → j < s.length → lessW x (wg s j) = true) : SortedW (putW s lo x) := by
  have h3 : ∀ j, j < lo → lessW x (wg s j) = false := fun j hj => by
    by_cases e : j = lo - 1
    · rw [e]; exact h1 (by omega)
    · exact less_ntrans (h1 (by omega)) (hs j (lo - 1) (by omega) (by omega))
  intro i j hij hj
  rw [putW_length hlo] at hj
  rw [wg_put hlo, wg_put hlo]
  by_cases a1 : j < lo
  · rw [if_pos a1, if_pos (by omega)]
    exact hs i j hij (by omega)
  · rw [if_neg a1]
    by_cases a2 : j = lo
    · rw [if_pos a2, if_pos (by omega)]
      exact h3 i (by omega)
    · rw [if_neg a2]
      by_cases b1 : i < lo
      · rw [if_pos b1]; exact hs i (j - 1) (by omega) (by omega)
      · rw [if_neg b1]
        by_cases b2 : i = lo
        · rw [if_pos b2]
          exact less_asymm (h2 (j - 1) (by omega) (by omega))
        · rw [if_neg b2]; exact hs (i - 1) (j - 1) (by omega) (by omega)
theorem wV_append (a b : List Wt) : wV (a ++ b) = wV a ++ wV b := by simp [wV]
theorem own_later {w w' : World} {base n size : Nat} {e : TypeId} {v : Value} {xs : List Value} (h : w.ownsRow base e size v n xs) (hb : Below w.heap.size w w') : w'.ownsRow base e size v n xs := by
  refine ⟨h.1, ?_⟩
  rcases h.2 with h1 | ⟨g, cap, cur, hv, hbg, hh, hx⟩
  · exact .inl h1
  · exact .inr ⟨g, cap, cur, hv, hbg, (hb.block g (Array.getElem?_eq_some_iff.1 hh).1).trans hh, hx⟩
/-- A row of a call's own, behind the weights from lo on moved by one and one put there. -/
theorem own_putw {w : World} {base g cap m lo : Nat} {s : List Wt} {x : Wt} {cur : List Value} (hb : base ≤ g) (hl : s.length = m) (hlo : lo ≤ m) (hm : m + 1 ≤ cap) (hc : cap ≤ maxLen) (hcur : cur.length = cap * 2) (htk : cur.take ((m + 1) * 2) = wV s ++ [.int .u64 0, .int .i64 0])
    (h : w.heap[g]? = some (.cells (splice cur ((lo + 1) * 2) (wV (s.drop lo))).toArray 28 (0, 0))) :
    ((w.setCell ⟨g, lo * 2, none⟩ (.int .u64 x.1)).setCell ⟨g, lo * 2 + 1, none⟩ (.int .i64 x.2)).ownsRow base 28 2 (.slice (some ⟨g, 0, none⟩) (m + 1) cap) (m + 1) (wV (putW s lo x)) := by
  have hdl : (wV (s.drop lo)).length = (m - lo) * 2 := by rw [wV_length, List.length_drop, hl]
  have hsz : (splice cur ((lo + 1) * 2) (wV (s.drop lo))).length = cap * 2 := by rw [length_splice _ _ _ (by omega)]; exact hcur
  have h0 : w.ownsRow base 28 2 (.slice (some ⟨g, 0, none⟩) (m + 1) cap) (m + 1) ((splice cur ((lo + 1) * 2) (wV (s.drop lo))).take ((m + 1) * 2)) :=
    ⟨by rw [List.length_take, hsz]; omega, .inr ⟨g, cap, _, rfl, hb, h, hm, hc, by simpa using hsz, rfl⟩⟩
  have h1 := own_set (own_set h0 (lo * 2) (.int .u64 x.1)) (lo * 2 + 1) (.int .i64 x.2)
  have e : (((splice cur ((lo + 1) * 2) (wV (s.drop lo))).take ((m + 1) * 2)).set (lo * 2) (.int .u64 x.1)).set (lo * 2 + 1) (.int .i64 x.2) = wV (putW s lo x) := by
    have hp : wV (putW s lo x) = wV (s.take lo) ++ (.int .u64 x.1 :: .int .i64 x.2 :: wV (s.drop lo)) := by
      unfold putW
      rw [wV_append]
      rfl
    have htl : (wV (s.take lo)).length = lo * 2 := by rw [wV_length, List.length_take]; omega
    have hc0 : cur.take (lo * 2) = wV (s.take lo) := by
      have := congrArg (List.take (lo * 2)) htk
      rw [List.take_take, Nat.min_eq_left (by omega), List.take_append_of_le_length (by rw [wV_length]; omega)] at this
      rw [this]
      conv => lhs; rw [← List.take_append_drop lo s]
      rw [wV_append, List.take_append_of_le_length (by omega)]
      exact List.take_of_length_le (by omega)
    rw [hp]
    apply List.ext_getElem?
    intro j
    rw [List.getElem?_set, List.getElem?_set, List.length_set, List.length_take, hsz]
    by_cases hj : j < (m + 1) * 2
    · by_cases e1 : lo * 2 + 1 = j
      · rw [if_pos e1, if_pos (by omega), List.getElem?_append_right (by omega), htl, show j - lo * 2 = 1 by omega]
        rfl
      · rw [if_neg e1]
        by_cases e2 : lo * 2 = j
        · rw [if_pos e2, if_pos (by omega), List.getElem?_append_right (by omega), htl, show j - lo * 2 = 0 by omega]
          rfl
        · rw [if_neg e2, List.getElem?_take_of_lt hj]
          unfold splice
          have hA : (cur.take ((lo + 1) * 2)).length = (lo + 1) * 2 := by rw [List.length_take]; omega
          rcases Nat.lt_or_gt_of_ne e2 with h3 | h3
          · rw [List.getElem?_append_right (l₁ := cur.take ((lo + 1) * 2)) (by rw [hA]; omega), hA, List.getElem?_append_left (by omega), List.getElem?_append_right (l₁ := wV (s.take lo)) (by omega), htl]
            obtain ⟨i, hi⟩ : ∃ i, j - lo * 2 = i + 2 := ⟨j - lo * 2 - 2, by omega⟩
            rw [hi, List.getElem?_cons_succ, List.getElem?_cons_succ]
            congr 1
            omega
          · rw [List.getElem?_append_left (by omega), List.getElem?_append_left (by omega), List.getElem?_take_of_lt (by omega), ← hc0, List.getElem?_take_of_lt h3]
    · rw [if_neg (by omega), if_neg (by omega), List.getElem?_take_eq_none (by omega), List.getElem?_eq_none (by simp [wV_length]; omega)]
  rw [e] at h1
  exact h1
theorem wg_take_succ {l : List Wt} {k : Nat} (h : k < l.length) : l.take (k + 1) = l.take k ++ [wg l k] := by
  rw [List.take_succ_eq_append_getElem h]
  unfold wg; rw [List.getD_eq_getElem?_getD, List.getElem?_eq_getElem h, Option.getD_some]
def SortedTo (w : World) (l : List Wt) (e : Ending) (w' : World) : Prop :=
  ∃ ao c R, e = .returned (.slice ao R.length c) ∧ R.Perm l ∧ SortedW R ∧ w'.ownsRow w.heap.size 28 2 (.slice ao R.length c) R.length (wV R) ∧ Below w.heap.size w w'
set_option maxRecDepth 100000 in
set_option maxHeartbeats 4000000 in
theorem sorted_any (ao : Option Addr) (c : Nat) (l : List Wt) (w : World) (h : WAt w ao l) (hn : l.length ≤ 1000) :
    Calls Try.prog 17 #[.slice ao l.length c] w (SortedTo w l) := by
  obtain ⟨i0, hi, hz0, hz1, hz2⟩ := info_parts info_w
  obtain ⟨n, hnn⟩ : ∃ n, l.length = n := ⟨_, rfl⟩
  have HN := Lib.hid hnn
  have HW := Lib.hid h
  rw [hnn] at hn ⊢
  clear hnn h
  go_enter Try.func17, Try.ntmps17
  go_wp2
  go_loopw [3, 4] (fun v i wr => ∃ (k : Nat) (s : List Wt), k ≤ n ∧ i = .int .i64 k ∧ Hid (s.Perm (l.take k) ∧ SortedW s ∧ s.length = k) ∧ wr.ownsRow w.heap.size 28 2 v k (wV s) ∧ Below w.heap.size w wr) (fun _ i _ => n - (RowKit.intOf i).toNat)
  case atStart => exact ⟨0, [], Nat.zero_le _, rfl, ⟨List.Perm.refl _, fun i j _ hj => absurd hj (Nat.not_lt_zero _), rfl⟩, World.ownsRow_nil _ _ _ _, Below.refl _ _⟩
  case round =>
    obtain ⟨k, s, hk, rfl, HS, hown, hnx⟩ := hrel
    have hsz := hnx.size
    obtain ⟨vo, vc, rfl, _, _⟩ := own_form hown
    have HOWN := Lib.hid hown
    have HNX := Lib.hid hnx
    have HWO := Lib.hid (wAt_own HS.out.2.2.symm hown)
    by_cases hlt : k < n
    · obtain ⟨b, off, rfl, hb, hc⟩ := (HW.out.below hnx) (by rw [HN.out]; omega)
      obtain ⟨c0, c1⟩ := hc k (by rw [HN.out]; exact hlt)
      obtain ⟨x, hx⟩ : ∃ x, wg l k = x := ⟨_, rfl⟩
      rw [hx] at c0 c1
      have HX := Lib.hid hx
      have hbo : b < w.heap.size := by
        obtain ⟨b', off', e, hlt', _⟩ := HW.out (by rw [HN.out]; omega)
        cases e; exact hlt'
      have KEEP : Hid (∀ X : World, Below wr.heap.size wr X → X.cell? ⟨b, off + k * 2, none⟩ = some (.int .u64 x.1) ∧ X.cell? ⟨b, off + k * 2 + 1, none⟩ = some (.int .i64 x.2) ∧ b < X.heap.size ∧ WAt X vo s ∧ X.ownsRow w.heap.size 28 2 (.slice vo k vc) k (wV s) ∧ Below w.heap.size w X) := fun X hX =>
        ⟨(hX.cell (p := ⟨b, off + k * 2, none⟩) hb).trans c0, (hX.cell (p := ⟨b, off + k * 2 + 1, none⟩) hb).trans c1, Nat.lt_of_lt_of_le hb hX.size, HWO.out.below hX, own_later HOWN.out hX, HNX.out.trans (hX.mono HNX.out.size)⟩
      have HBO := Lib.hid hbo
      clear hc hx hown hnx c0 c1 HWO hsz hbo
      obtain ⟨wo, hwo⟩ : ∃ wo : World, wo = wr := ⟨_, rfl⟩
      subst hwo
      go_wp2
      go_loopw [5] (fun j wr => ∃ lo : Nat, lo ≤ k ∧ j = .int .i64 lo ∧ Hid (∀ j, lo ≤ j → j < k → lessW x (wg s j) = true) ∧ Below wo.heap.size wo wr) (fun j _ => (RowKit.intOf j).toNat)
      case atStart => exact ⟨k, Nat.le_refl _, rfl, fun j h1 h2 => by omega, Below.refl _ _⟩
      case round =>
        obtain ⟨lo, hlo, rfl, HA, hbx⟩ := hrel
        obtain ⟨c0, c1, hbw, hwa, hown, hnx⟩ := KEEP.out wr hbx
        have hsz := hnx.size
        clear hnx hown
        have HBX := Lib.hid hbx
        clear hbx
        rcases Nat.eq_zero_or_pos lo with hl0 | hl0
        case' inl =>
          have HST : Hid (0 < lo → lessW x (wg s (lo - 1)) = false) := fun h => by omega
          have q0 : decide (0 < lo) = false := by simp; omega
          clear hwa hl0
          go_upto_region 8 with (first | (with_reducible refine wp_region_lex (by kernel_rfl) (by kernel_rfl) ?_) | (with_reducible refine OnlyG.intro (by kernel_rfl) ?_))
          have HBX2 := Lib.hid HBX.out.drew
          generalize wr.drew = wX at HBX2 ⊢
        case' inr =>
          obtain ⟨q, hq1, hq⟩ : ∃ q : Nat, (lo : Int) - 1 = (q : Int) ∧ q = lo - 1 := ⟨lo - 1, by omega, rfl⟩
          have q0 : decide (0 < lo) = true := by simpa using hl0
          obtain ⟨g1, off1, rfl, hg1, hc1⟩ := hwa (by rw [HS.out.2.2]; omega)
          obtain ⟨d0, d1⟩ := hc1 q (by rw [HS.out.2.2]; omega)
          have hqk : q < k := by omega
          have HH := Lib.hid (heavier_any x (wg s q))
          obtain ⟨y, hy⟩ : ∃ y, wg s q = y := ⟨_, rfl⟩
          rw [hy] at d0 d1 HH
          obtain ⟨o, ho⟩ : ∃ o, lessW x y = o := ⟨_, rfl⟩
          rw [ho] at HH
          have HO : Hid (lessW x (wg s q) = o) := by show _ = _; rw [hy]; exact ho
          have HQ := Lib.hid hq
          clear hc1 hy ho
          cases o
          case true =>
            have HA2 : Hid (∀ j, q ≤ j → j < k → lessW x (wg s j) = true) := fun j h1 h2 => by
              by_cases e : j = q
              · rw [e]; exact HO.out
              · exact HA.out j (by rw [HQ.out] at h1 e; omega) h2
            clear hq
            go_wp2_with (first | (with_reducible refine wp_region_lex (by kernel_rfl) (by kernel_rfl) ?_) | (with_reducible refine OnlyG.intro (by kernel_rfl) ?_) | (go_at_call 20; refine (HH.out _).mono ?_; rintro e w1 ⟨rfl, hb1⟩))
            have hb2 : Below wo.heap.size wo w1 := HBX.out.drew.trans (hb1.mono HBX.out.size)
            clear hq1 hb1
            go_roundw
            case rel => exact ⟨q, by omega, rfl, HA2.out, hb2⟩
            case measure => have := HQ.out; simp [RowKit.intOf]; omega
          case' false =>
            have HST : Hid (0 < lo → lessW x (wg s (lo - 1)) = false) := fun _ => by rw [← HQ.out]; exact HO.out
            clear hq
            go_upto_region 8 with (first | (with_reducible refine wp_region_lex (by kernel_rfl) (by kernel_rfl) ?_) | (with_reducible refine OnlyG.intro (by kernel_rfl) ?_) | (go_at_call 20; refine (HH.out _).mono ?_; rintro e w1 ⟨rfl, hb1⟩))
            have HBX2 : Hid (Below wo.heap.size wo w1) := HBX.out.drew.trans (hb1.mono HBX.out.size)
            clear hq1 hb1 d0 d1 HH HO HQ
            generalize w1 = wX at HBX2 ⊢
        all_goals
          obtain ⟨c0, c1, hbw, hwa, hown, hnx⟩ := KEEP.out wX HBX2.out
          have hszX := hnx.size
          have HOWNX := Lib.hid hown
          have HNXX := Lib.hid hnx
          clear hwa
          go_upto_region 9 with (at_builtin; refine wpList_append_own _ rfl (.tmp 30) (.tmp 32) 39 rfl w.heap.size 28 i0 (.agg #[.int .u64 0, .int .i64 0]) 2 16 Try.underlying39 hi hz0 hz1 hz2 rfl (by decide) _ _ _ rfl (hown.alloc _) ⟨wX.heap.size, 0, none⟩ 1 1 [.int .u64 0, .int .i64 0] rfl rfl (cells_new _ _ _ _ rfl) (by simp [Value.oneCell']) (by unfold maxLen; omega) (by omega) (by simp; omega) ?_; intro v' w3 hown1 hgrow _)
          have hbel : Below w.heap.size w w3 := below_append (hnx.alloc hszX _) (hown.alloc _) (by simp; omega) hgrow
          rcases hown1.2 with ⟨_, h0⟩ | ⟨g, cap, ⟨cur⟩, rfl, hbg, hheap, hcap, hmax, hcsz, htake⟩
          · omega
          obtain ⟨e, he⟩ : ∃ e, s.drop lo = e := ⟨_, rfl⟩
          have hdl : (wV e).length = (k - lo) * 2 := by rw [wV_length, ← he, List.length_drop, HS.out.2.2]
          have hcl : cur.length = cap * 2 := by simpa using hcsz
          have hmin : Nat.min (k + 1 - lo) (k - lo) = k - lo := by show min _ _ = _; omega
          have HSRC : Hid (∀ j v, (wV e)[j]? = some v → w3.drew.cell? ((⟨g, lo * 2, none⟩ : Addr).add j) = some v) := fun j v hj => by
            have hj' : j < (wV e).length := (List.getElem?_eq_some_iff.1 hj).1
            have hadd : (⟨g, lo * 2, none⟩ : Addr).add j = ⟨g, lo * 2 + j, none⟩ := by unfold Addr.add; split <;> simp_all
            have hsl : (wV s).length = k * 2 := by rw [wV_length, HS.out.2.2]
            rw [hadd]
            have h9 : w3.cell? ⟨g, lo * 2 + j, none⟩ = _ := hown1.cellAt (lo * 2 + j) (by omega)
            refine (show w3.drew.cell? _ = w3.cell? _ from rfl).trans (h9.trans ?_)
            rw [List.getElem?_append_left (by omega), ← hj, ← he]
            conv => lhs; rw [← List.take_append_drop lo s]
            have htl : (wV (s.take lo)).length = lo * 2 := by rw [wV_length, List.length_take, HS.out.2.2]; omega
            rw [wV_append, List.getElem?_append_right (by omega), htl]
            congr 1
            omega
          have HRUN : Hid ((Builtin.copy_ #[39, 39] 3 #[.slice (if cap = lo + 1 then some (⟨g, 0, none⟩ : Addr) else some ⟨g, (lo + 1) * 2, none⟩) (k - lo) (cap - (lo + 1)), .slice (some ⟨g, lo * 2, none⟩) (k + 1 - lo) (cap - lo)]).run Try.prog w3.drew = .ok (goInt ((k - lo : Nat) : Int)) (w3.drew.setRow g (splice cur ((lo + 1) * 2) (wV e)).toArray)) := by
            show _ = _
            by_cases hce : cap = lo + 1
            · have hkl : k = lo := by omega
              have hz : wV e = [] := List.eq_nil_of_length_eq_zero (by rw [hdl]; omega)
              have := run_copy_w w3.drew 3 g 0 (k - lo) (cap - (lo + 1)) ⟨g, lo * 2, none⟩ (k + 1 - lo) (cap - lo) cur 28 [] hheap (by rw [hmin]; simp; omega) (fun j v h => by simp at h) (by simp) (fun v h => by cases h)
              rw [hmin] at this
              rw [if_pos hce, this, hz]
              simp [splice]
            · have := run_copy_w w3.drew 3 g ((lo + 1) * 2) (k - lo) (cap - (lo + 1)) ⟨g, lo * 2, none⟩ (k + 1 - lo) (cap - lo) cur 28 (wV e) hheap (by rw [hmin]; exact hdl) HSRC.out (by rw [hdl, hcl]; omega) (wV_cell e)
              rw [hmin] at this
              rw [if_neg hce, this]
          have HTK : Hid (cur.take ((k + 1) * 2) = wV s ++ [.int .u64 0, .int .i64 0]) := htake
          have HCL := Lib.hid hcl
          have HDE := Lib.hid he
          have hbel' := hbel.drew
          have hheap' : w3.drew.heap[g]? = some (.cells cur.toArray 28 (0, 0)) := hheap
          have hw1 : IntKind.i64.wrap ((lo : Int) + 1) = (lo : Int) + 1 := IntWalk.i64_in _ (by omega)
          have hb1 : (lo : Int) + 1 ≤ (k : Int) + 1 := by omega
          have hb2 : (lo : Int) ≤ (k : Int) + 1 := by omega
          have hb0 : (0 : Int) ≤ (lo : Int) + 1 := by omega
          have hne : ¬ cap = lo := by omega
          clear htake hcsz hown1 hgrow hown he hdl hcl
          go_region_law (refine step_copy_runI rfl (.tmp 37) (.tmp 40) 39 39 rfl _ _ (by simp [Act.eval, Act.put]) (by simp [Act.eval, Act.put]) HRUN.out ?_)
          all_goals
            have hb4 : Below w.heap.size w (w3.drew.setRow g (splice cur ((lo + 1) * 2) (wV e)).toArray) := below_setRow hbel' hbg _
            have hh4 : (w3.drew.setRow g (splice cur ((lo + 1) * 2) (wV e)).toArray).heap[g]? = some (.cells (splice cur ((lo + 1) * 2) (wV e)).toArray 28 (0, 0)) := setRow_heap _ g _ _ _ _ hheap'
            have hel : (wV e).length = (k - lo) * 2 := by rw [wV_length, ← HDE.out, List.length_drop, HS.out.2.2]
            have hcl := HCL.out
            have hsl : (splice cur ((lo + 1) * 2) (wV e)).length = cap * 2 := by rw [length_splice _ _ _ (by omega)]; exact hcl
            generalize w3.drew.setRow g (splice cur ((lo + 1) * 2) (wV e)).toArray = w4 at hb4 hh4 ⊢
            have c4 : w4.cell? ⟨b, off + k * 2, none⟩ = some (.int .u64 x.1) := (hb4.cell (p := ⟨b, off + k * 2, none⟩) HBO.out).trans ((HNXX.out.cell (p := ⟨b, off + k * 2, none⟩) HBO.out).symm.trans c0)
            have c5 : w4.cell? ⟨b, off + k * 2 + 1, none⟩ = some (.int .i64 x.2) := (hb4.cell (p := ⟨b, off + k * 2 + 1, none⟩) HBO.out).trans ((HNXX.out.cell (p := ⟨b, off + k * 2 + 1, none⟩) HBO.out).symm.trans c1)
            have hbw4 : b < w4.heap.size := Nat.lt_of_lt_of_le HBO.out hb4.size
            have hg4 : g < w4.heap.size := (Array.getElem?_eq_some_iff.1 hh4).1
            have d4 : w4.cell? ⟨g, lo * 2, none⟩ = some ((splice cur ((lo + 1) * 2) (wV e))[lo * 2]'(by omega)) := by
              rw [cell_of_row _ _ _ _ _ _ hh4, List.getElem?_toArray, List.getElem?_eq_getElem (by omega)]
            have d5 : w4.cell? ⟨g, lo * 2 + 1, none⟩ = some ((splice cur ((lo + 1) * 2) (wV e))[lo * 2 + 1]'(by omega)) := by
              rw [cell_of_row _ _ _ _ _ _ hh4, List.getElem?_toArray, List.getElem?_eq_getElem (by omega)]
            have f4 : w4.frozen? ⟨g, lo * 2, none⟩ = false := frozen_of_row hh4
            have f5 : w4.frozen? ⟨g, lo * 2 + 1, none⟩ = false := frozen_of_row hh4
            have HB5 : Hid (Below w.heap.size w ((w4.setCell ⟨g, lo * 2, none⟩ (.int .u64 x.1)).setCell ⟨g, lo * 2 + 1, none⟩ (.int .i64 x.2))) := (hb4.setCell (p := ⟨g, lo * 2, none⟩) hbg _).setCell (p := ⟨g, lo * 2 + 1, none⟩) hbg _
            have HOWN5 : Hid (((w4.setCell ⟨g, lo * 2, none⟩ (.int .u64 x.1)).setCell ⟨g, lo * 2 + 1, none⟩ (.int .i64 x.2)).ownsRow w.heap.size 28 2 (.slice (some ⟨g, 0, none⟩) (k + 1) cap) (k + 1) (wV (putW s lo x))) :=
              own_putw hbg HS.out.2.2 hlo hcap hmax HCL.out HTK.out (by rw [HDE.out]; exact hh4)
            have HS5 : Hid ((putW s lo x).Perm (l.take (k + 1)) ∧ SortedW (putW s lo x) ∧ (putW s lo x).length = k + 1) := by
              refine ⟨?_, sorted_put HS.out.2.1 (by rw [HS.out.2.2]; exact hlo) HST.out (by rw [HS.out.2.2]; exact HA.out), by rw [putW_length (by rw [HS.out.2.2]; exact hlo), HS.out.2.2]⟩
              rw [wg_take_succ (by rw [HN.out]; exact hlt), HX.out]
              exact (putW_perm s lo x).trans ((List.Perm.cons x HS.out.1).trans (List.perm_append_comm (l₁ := [x])))
            generalize (splice cur ((lo + 1) * 2) (wV e))[lo * 2]'(by omega) = z4 at d4
            generalize (splice cur ((lo + 1) * 2) (wV e))[lo * 2 + 1]'(by omega) = z5 at d5
            clear hb4 hh4 hel hcl hsl hheap hheap' hbel hbel' hmin HRUN HSRC
            go_wp2_with (first | (with_reducible refine wp_region_lex (by kernel_rfl) (by kernel_rfl) ?_) | (with_reducible refine OnlyG.intro (by kernel_rfl) ?_))
            go_roundw
            case rel => exact ⟨k + 1, putW s lo x, by omega, by go_num, HS5.out, HOWN5.out, HB5.out⟩
            case measure => simp [RowKit.intOf]; omega
    · obtain rfl : k = n := by omega
      have hJ : Hid (SortedTo w l (.returned (.slice vo k vc)) wr) := by
        have e : l.take k = l := by rw [← HN.out, List.take_length]
        exact ⟨vo, vc, s, by rw [HS.out.2.2], by rw [← e]; exact HS.out.1, HS.out.2.1, by rw [HS.out.2.2]; exact hown, hnx⟩
      clear hown hnx
      go_wp2
      go_ret
      exact hJ.out
end Go.Proofs.Ytbmhnadnomngnaa
