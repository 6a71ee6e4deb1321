/- The contract of poly.Check. -/
import Derived.Test.YtnnfkdajbaicoaaPolyB
namespace Go.Proofs.Ytnnfkdajbaicoaa
open Go.RowKit

def rg (ls : List (List Pt)) (i : Nat) : List Pt := ls.getD i []
/-- In w, below block B, a slice's address leads to rings. -/
def RingsAt (w : World) (B : Nat) (ao : Option Addr) (ls : List (List Pt)) : Prop :=
  0 < ls.length → ∃ b off, ao = some ⟨b, off, none⟩ ∧ b < B ∧ ∀ i, i < ls.length →
    ∃ ri ci, w.cell? ⟨b, off + i, none⟩ = some (.slice ri (rg ls i).length ci) ∧ RingAt w B ri (rg ls i)
theorem RingsAt.below {w w' : World} {B : Nat} {ao : Option Addr} {ls : List (List Pt)} (h : RingsAt w B ao ls) {C : Nat} (hb : Below C w w') (hC : B ≤ C) : RingsAt w' B ao ls := by
  intro h0
  obtain ⟨b, off, e, hlt, hc⟩ := h h0
  refine ⟨b, off, e, hlt, fun i hi => ?_⟩
  obtain ⟨ri, ci, h1, h2⟩ := hc i hi
  exact ⟨ri, ci, by rw [hb.cell (p := ⟨b, _, none⟩) (show b < C by omega)]; exact h1, h2.below hb hC⟩

def outP (p : Pt) : Bool := decide (p.1 < 0) || decide (1073741824 ≤ p.1) || decide (p.2 < 0) || decide (1073741824 ≤ p.2)
def outs (l : List Pt) (j : Nat) : Bool := (l.take j).any outP
def totTo (ls : List (List Pt)) (k : Nat) : Nat := ((ls.take k).map List.length).sum
def shTo (ls : List (List Pt)) (k : Nat) : Bool := decide (ls.length = 0) || (ls.take k).any fun l => decide (l.length < 3)
def outTo (ls : List (List Pt)) (k : Nat) : Bool := (ls.take k).any fun l => l.any outP
def checkF (ls : List (List Pt)) : Int :=
  if 20 < ls.length ∨ 500 < totTo ls ls.length then 7 else if shTo ls ls.length = true then 1 else if outTo ls ls.length = true then 4 else 0

theorem take_succ' {α : Type} (l : List α) (k : Nat) (d : α) (h : k < l.length) : l.take (k + 1) = l.take k ++ [l.getD k d] := by
  rw [List.take_succ_eq_append_getElem h]; simp [h]
theorem totTo_succ (ls : List (List Pt)) (k : Nat) (h : k < ls.length) : totTo ls (k + 1) = totTo ls k + (rg ls k).length := by
  unfold totTo rg; rw [take_succ' ls k [] h]; simp
theorem totTo_le (ls : List (List Pt)) (k : Nat) (h : k ≤ ls.length) : totTo ls k ≤ totTo ls ls.length := by
  obtain ⟨d, hd⟩ : ∃ d, ls.length = k + d := ⟨ls.length - k, by omega⟩
  clear h
  rw [hd]
  clear hd
  induction d with
  | zero => exact Nat.le_refl _
  | succ d ih =>
    refine Nat.le_trans ih ?_
    rw [show k + (d + 1) = (k + d) + 1 from rfl]
    by_cases h : k + d < ls.length
    · rw [totTo_succ ls _ h]; omega
    · unfold totTo; rw [List.take_of_length_le (by omega), List.take_of_length_le (by omega)]; exact Nat.le_refl _
theorem shTo_succ (ls : List (List Pt)) (k : Nat) (h : k < ls.length) : shTo ls (k + 1) = (shTo ls k || decide ((rg ls k).length < 3)) := by
  unfold shTo rg; rw [take_succ' ls k [] h]; simp [Bool.or_assoc]
theorem outTo_succ (ls : List (List Pt)) (k : Nat) (h : k < ls.length) : outTo ls (k + 1) = (outTo ls k || outs (rg ls k) (rg ls k).length) := by
  unfold outTo outs rg; rw [take_succ' ls k [] h]; simp
theorem outs_succ (l : List Pt) (j : Nat) (h : j < l.length) : outs l (j + 1) = (outs l j || outP (px l j, py l j)) := by
  unfold outs px py; rw [take_succ' l j (0, 0) h]; simp
theorem outs_zero (l : List Pt) : outs l 0 = false := rfl

set_option maxHeartbeats 2000000 in
theorem check_any (ao : Option Addr) (c : Nat) (ls : List (List Pt)) (w : World) (B : Nat) (hB : B ≤ w.heap.size) (h : RingsAt w B ao ls) (hn : ls.length ≤ 1000000000) (ht : totTo ls ls.length ≤ 1000000000) :
    Calls Try.prog 14 #[.slice ao ls.length c] w fun e w' => e = .returned (.int .i64 (checkF ls)) ∧ Below w.heap.size w w' := by
  obtain ⟨n, hnn⟩ : ∃ n, ls.length = n := ⟨_, rfl⟩
  rw [hnn] at hn
  rw [hnn]
  have hs0 : shTo ls 0 = decide (n = 0) := by simp [shTo, hnn]
  have ht0 : totTo ls 0 = 0 := rfl
  have ho0 : outTo ls 0 = false := rfl
  have HN : Hid (ls.length = n) := hnn
  have HS0 : Hid (shTo ls 0 = decide (n = 0)) := hs0
  clear hnn hs0
  go_enter Try.func14, Try.ntmps14
  go_wp2
  go_loopw [3, 4, 5, 15] (fun v3 v4 v5 i wr => ∃ (k t : Nat) (s o : Bool), k ≤ n ∧ i = .int .i64 k ∧ v3 = .int .i64 t ∧ v4 = .bool s ∧ v5 = .bool o ∧ Hid (t = totTo ls k ∧ s = shTo ls k ∧ o = outTo ls k) ∧ Below w.heap.size w wr) (fun _ _ _ i _ => n - (intOf i).toNat)
  case atStart => exact ⟨0, 0, decide (n = 0), false, Nat.zero_le _, rfl, rfl, by rw [Value.bool.injEq, Bool.eq_iff_iff]; simp, rfl, ⟨rfl, HS0.out.symm, rfl⟩, Below.refl _ _⟩
  case round =>
    obtain ⟨k, t, s, o, hk, rfl, rfl, rfl, rfl, HT, hnx⟩ := hrel
    have hsz := hnx.size
    by_cases hlt : k < n
    · obtain ⟨b, off, rfl, hb, hc⟩ := h (by rw [HN.out]; omega)
      obtain ⟨ri, ci, c0w, hri⟩ := hc k (by rw [HN.out]; exact hlt)
      have c0 := (hnx.cell (p := ⟨b, off + k, none⟩) (show b < w.heap.size by omega)).trans c0w
      have HM : Hid (∃ m, (rg ls k).length = m) := ⟨_, rfl⟩
      obtain ⟨m, hm⟩ := HM.out
      rw [hm] at c0
      clear c0w
      have htm : t + m ≤ 1000000000 := by
        rw [HT.out.1, ← hm, ← totTo_succ ls k (by rw [HN.out]; exact hlt)]
        exact Nat.le_trans (totTo_le ls _ (by rw [HN.out]; omega)) ht
      have HML : Hid ((rg ls k).length = m) := hm
      clear hm HM hc
      obtain ⟨wo, hwo⟩ : ∃ wo : World, wo = wr := ⟨_, rfl⟩
      subst hwo
      have h3 : s = true ∨ (s = false ∧ m < 3) ∨ (s = false ∧ ¬ m < 3) := by
        cases s
        · by_cases h3 : m < 3
          · exact .inr (.inl ⟨rfl, h3⟩)
          · exact .inr (.inr ⟨rfl, h3⟩)
        · exact .inl rfl
      rcases h3 with rfl | ⟨rfl, hm3⟩ | ⟨rfl, hm3⟩
      all_goals
        go_wp2
        go_loopw [5, 31] (fun v5 i wi => ∃ (j : Nat) (o2 : Bool), j ≤ m ∧ i = .int .i64 j ∧ v5 = .bool o2 ∧ Hid (o2 = (o || outs (rg ls k) j)) ∧ Below w.heap.size w wi) (fun _ i _ => m - (intOf i).toNat)
        case atStart => exact ⟨0, o, Nat.zero_le _, rfl, rfl, (by simp [outs_zero] : o = (o || outs (rg ls k) 0)), hnx⟩
        case round =>
          obtain ⟨j, o2, hj, rfl, rfl, HO, hni⟩ := hrel
          by_cases hjl : j < m
          · have hsi := hni.size
            obtain ⟨rb, ro, rfl, hrb, hrc⟩ := hri.below hni hB (by rw [HML.out]; omega)
            have d0 := (hrc j (by rw [HML.out]; exact hjl)).1
            have d1 := (hrc j (by rw [HML.out]; exact hjl)).2
            have HOS := outs_succ (rg ls k) j (by rw [HML.out]; exact hjl)
            generalize px (rg ls k) j = x at d0 HOS
            generalize py (rg ls k) j = y at d1 HOS
            have HOX : Hid (outs (rg ls k) (j + 1) = (outs (rg ls k) j || outP (x, y))) := HOS
            clear hrc HOS
            have hcases : o2 = true ∨ (o2 = false ∧ x < 0) ∨ (o2 = false ∧ 0 ≤ x ∧ 1073741824 ≤ x) ∨ (o2 = false ∧ 0 ≤ x ∧ x < 1073741824 ∧ y < 0) ∨ (o2 = false ∧ 0 ≤ x ∧ x < 1073741824 ∧ 0 ≤ y ∧ 1073741824 ≤ y) ∨ (o2 = false ∧ 0 ≤ x ∧ x < 1073741824 ∧ 0 ≤ y ∧ y < 1073741824) := by
              cases o2
              · by_cases h1 : x < 0
                · exact .inr (.inl ⟨rfl, h1⟩)
                · by_cases h2 : 1073741824 ≤ x
                  · exact .inr (.inr (.inl ⟨rfl, by omega, h2⟩))
                  · by_cases h3 : y < 0
                    · exact .inr (.inr (.inr (.inl ⟨rfl, by omega, by omega, h3⟩)))
                    · by_cases h4 : 1073741824 ≤ y
                      · exact .inr (.inr (.inr (.inr (.inl ⟨rfl, by omega, by omega, by omega, h4⟩))))
                      · exact .inr (.inr (.inr (.inr (.inr ⟨rfl, by omega, by omega, by omega, by omega⟩))))
              · exact .inl rfl
            rcases hcases with rfl | ⟨rfl, h1⟩ | ⟨rfl, h1, h2⟩ | ⟨rfl, h1, h2, h3⟩ | ⟨rfl, h1, h2, h3, h4⟩ | ⟨rfl, h1, h2, h3, h4⟩
            all_goals
              go_wp2
              go_roundw
              case rel => exact ⟨j + 1, _, by omega, by go_num, rfl, by show _ = _; rw [HOX.out, ← Bool.or_assoc, ← HO.out]; simp [outP]; try omega, (hni.alloc hsi _)⟩
              case measure => simp [intOf]; omega
          · obtain rfl : j = m := by omega
            have hkl : k < ls.length := by rw [HN.out]; exact hlt
            go_wp2
            go_roundw
            case rel =>
              exact ⟨k + 1, t + j, _, o2, by omega, by go_num, by go_num, rfl, rfl, ⟨by rw [HT.out.1, totTo_succ ls k hkl, HML.out],
                by rw [shTo_succ ls k hkl, ← HT.out.2.1, HML.out]; simp; try omega, by rw [outTo_succ ls k hkl, ← HT.out.2.2, HML.out]; exact HO.out⟩, hni⟩
            case measure => simp [intOf]; omega
    · obtain rfl : k = n := by omega
      have FIN : Hid (checkF ls = if 20 < k ∨ 500 < t then 7 else if s = true then 1 else if o = true then 4 else 0) := by
        show checkF ls = _
        unfold checkF
        rw [HN.out, HT.out.1, HT.out.2.1, HT.out.2.2]
      clear HT
      by_cases h20 : 20 < k
      · go_wp2
        go_ret
        exact ⟨ret_int (by rw [FIN.out, if_pos (by omega)]), hnx⟩
      · by_cases h500 : 500 < t
        · go_wp2
          go_ret
          exact ⟨ret_int (by rw [FIN.out, if_pos (by omega)]), hnx⟩
        · cases s
          · cases o
            · go_wp2
              go_ret
              exact ⟨ret_int (by rw [FIN.out, if_neg (by omega)]; rfl), hnx⟩
            · go_wp2
              go_ret
              exact ⟨ret_int (by rw [FIN.out, if_neg (by omega)]; rfl), hnx⟩
          · go_wp2
            go_ret
            exact ⟨ret_int (by rw [FIN.out, if_neg (by omega)]; rfl), hnx⟩
end Go.Proofs.Ytnnfkdajbaicoaa
