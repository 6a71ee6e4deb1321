/- Joined: PoC, PoD, PoE, PoF, FiA, FiB, PoP, PoT, FiP, CvG, CvH, NfJ, LbA: contracts and plain laws, each with its own heading below. -/
import Derived.Test.YtpkoapmpknbgoaaGreatPackAI
import Derived.Lib.MinMax
import Derived.BigRegion
import Derived.Deep.CutRange
import Derived.Test.YtpkoapmpknbgoaaGreatPackAC
import Derived.Laws.EntriesVeiled
import Derived.Test.YtpkoapmpknbgoaaGreatPackAH
import Derived.Test.YtpkoapmpknbgoaaGreatPackAG
/- The contract of poly.Check. -/
namespace Go.Proofs.YtpkoapmpknbgoaaGreat.Po
open Go.RowKit

def rg (ls : List (List Pt)) (i : Nat) : List Pt := ls.getD i []
/-- In w, below block B, a slice's address leads to rings. -/
def RingsAt (w : World) (B : Nat) (ao : Option Addr) (ls : List (List Pt)) : Prop :=
  0 < ls.length → ∃ b off, ao = some ⟨b, off, none⟩ ∧ b < B ∧ ∀ i, i < ls.length →
    ∃ ri ci, w.cell? ⟨b, off + i, none⟩ = some (.slice ri (rg ls i).length ci) ∧ RingAt w B ri (rg ls i)
theorem RingsAt.below {w w' : World} {B : Nat} {ao : Option Addr} {ls : List (List Pt)} (h : RingsAt w B ao ls) {C : Nat} (hb : Below C w w') (hC : B ≤ C) : RingsAt w' B ao ls := by
  intro h0
  obtain ⟨b, off, e, hlt, hc⟩ := h h0
  refine ⟨b, off, e, hlt, fun i hi => ?_⟩
  obtain ⟨ri, ci, h1, h2⟩ := hc i hi
  exact ⟨ri, ci, by rw [hb.cell (p := ⟨b, _, none⟩) (show b < C by omega)]; exact h1, h2.below hb hC⟩

def outP (p : Pt) : Bool := decide (p.1 < 0) || decide (1073741824 ≤ p.1) || decide (p.2 < 0) || decide (1073741824 ≤ p.2)
def outs (l : List Pt) (j : Nat) : Bool := (l.take j).any outP
def totTo (ls : List (List Pt)) (k : Nat) : Nat := ((ls.take k).map List.length).sum
def shTo (ls : List (List Pt)) (k : Nat) : Bool := decide (ls.length = 0) || (ls.take k).any fun l => decide (l.length < 3)
def outTo (ls : List (List Pt)) (k : Nat) : Bool := (ls.take k).any fun l => l.any outP
def checkF (ls : List (List Pt)) : Int :=
  if 20 < ls.length ∨ 500 < totTo ls ls.length then 7 else if shTo ls ls.length = true then 1 else if outTo ls ls.length = true then 4 else 0

theorem take_succ' {α : Type} (l : List α) (k : Nat) (d : α) (h : k < l.length) : l.take (k + 1) = l.take k ++ [l.getD k d] := by
  rw [List.take_succ_eq_append_getElem h]; simp [h]
theorem totTo_succ (ls : List (List Pt)) (k : Nat) (h : k < ls.length) : totTo ls (k + 1) = totTo ls k + (rg ls k).length := by
  unfold totTo rg; rw [take_succ' ls k [] h]; simp
theorem totTo_le (ls : List (List Pt)) (k : Nat) (h : k ≤ ls.length) : totTo ls k ≤ totTo ls ls.length := by
  obtain ⟨d, hd⟩ : ∃ d, ls.length = k + d := ⟨ls.length - k, by omega⟩
  clear h
  rw [hd]
  clear hd
  induction d with
  | zero => exact Nat.le_refl _
  | succ d ih =>
    refine Nat.le_trans ih ?_
    rw [show k + (d + 1) = (k + d) + 1 from rfl]
    by_cases h : k + d < ls.length
    · rw [totTo_succ ls _ h]; omega
    · unfold totTo; rw [List.take_of_length_le (by omega), List.take_of_length_le (by omega)]; exact Nat.le_refl _
theorem shTo_succ (ls : List (List Pt)) (k : Nat) (h : k < ls.length) : shTo ls (k + 1) = (shTo ls k || decide ((rg ls k).length < 3)) := by
  unfold shTo rg; rw [take_succ' ls k [] h]; simp [Bool.or_assoc]
theorem outTo_succ (ls : List (List Pt)) (k : Nat) (h : k < ls.length) : outTo ls (k + 1) = (outTo ls k || outs (rg ls k) (rg ls k).length) := by
  unfold outTo outs rg; rw [take_succ' ls k [] h]; simp
theorem outs_succ (l : List Pt) (j : Nat) (h : j < l.length) : outs l (j + 1) = (outs l j || outP (px l j, py l j)) := by
  unfold outs px py; rw [take_succ' l j (0, 0) h]; simp
theorem outs_zero (l : List Pt) : outs l 0 = false := rfl

set_option maxHeartbeats 2000000 in
theorem check_any (ao : Option Addr) (c : Nat) (ls : List (List Pt)) (w : World) (B : Nat) (hB : B ≤ w.heap.size) (h : RingsAt w B ao ls) (hn : ls.length ≤ 1000000000) (ht : totTo ls ls.length ≤ 1000000000) :
    Calls Tryz.prog 27 #[.slice ao ls.length c] w fun e w' => e = .returned (.int .i64 (checkF ls)) ∧ Below w.heap.size w w' := by
  obtain ⟨n, hnn⟩ : ∃ n, ls.length = n := ⟨_, rfl⟩
  rw [hnn] at hn
  rw [hnn]
  have hs0 : shTo ls 0 = decide (n = 0) := by simp [shTo, hnn]
  have ht0 : totTo ls 0 = 0 := rfl
  have ho0 : outTo ls 0 = false := rfl
  have HN : Hid (ls.length = n) := hnn
  have HS0 : Hid (shTo ls 0 = decide (n = 0)) := hs0
  clear hnn hs0
  go_enter Tryz.func27, Tryz.ntmps27
  go_wp2
  go_loopw [3, 4, 5, 15] (fun v3 v4 v5 i wr => ∃ (k t : Nat) (s o : Bool), k ≤ n ∧ i = .int .i64 k ∧ v3 = .int .i64 t ∧ v4 = .bool s ∧ v5 = .bool o ∧ Hid (t = totTo ls k ∧ s = shTo ls k ∧ o = outTo ls k) ∧ Below w.heap.size w wr) (fun _ _ _ i _ => n - (intOf i).toNat)
  case atStart => exact ⟨0, 0, decide (n = 0), false, Nat.zero_le _, rfl, rfl, by rw [Value.bool.injEq, Bool.eq_iff_iff]; simp, rfl, ⟨rfl, HS0.out.symm, rfl⟩, Below.refl _ _⟩
  case round =>
    obtain ⟨k, t, s, o, hk, rfl, rfl, rfl, rfl, HT, hnx⟩ := hrel
    have hsz := hnx.size
    by_cases hlt : k < n
    · obtain ⟨b, off, rfl, hb, hc⟩ := h (by rw [HN.out]; omega)
      obtain ⟨ri, ci, c0w, hri⟩ := hc k (by rw [HN.out]; exact hlt)
      have c0 := (hnx.cell (p := ⟨b, off + k, none⟩) (show b < w.heap.size by omega)).trans c0w
      have HM : Hid (∃ m, (rg ls k).length = m) := ⟨_, rfl⟩
      obtain ⟨m, hm⟩ := HM.out
      rw [hm] at c0
      clear c0w
      have htm : t + m ≤ 1000000000 := by
        rw [HT.out.1, ← hm, ← totTo_succ ls k (by rw [HN.out]; exact hlt)]
        exact Nat.le_trans (totTo_le ls _ (by rw [HN.out]; omega)) ht
      have HML : Hid ((rg ls k).length = m) := hm
      clear hm HM hc
      obtain ⟨wo, hwo⟩ : ∃ wo : World, wo = wr := ⟨_, rfl⟩
      subst hwo
      have h3 : s = true ∨ (s = false ∧ m < 3) ∨ (s = false ∧ ¬ m < 3) := by
        cases s
        · by_cases h3 : m < 3
          · exact .inr (.inl ⟨rfl, h3⟩)
          · exact .inr (.inr ⟨rfl, h3⟩)
        · exact .inl rfl
      rcases h3 with rfl | ⟨rfl, hm3⟩ | ⟨rfl, hm3⟩
      all_goals
        go_wp2
        go_loopw [5, 31] (fun v5 i wi => ∃ (j : Nat) (o2 : Bool), j ≤ m ∧ i = .int .i64 j ∧ v5 = .bool o2 ∧ Hid (o2 = (o || outs (rg ls k) j)) ∧ Below w.heap.size w wi) (fun _ i _ => m - (intOf i).toNat)
        case atStart => exact ⟨0, o, Nat.zero_le _, rfl, rfl, (by simp [outs_zero] : o = (o || outs (rg ls k) 0)), hnx⟩
        case round =>
          obtain ⟨j, o2, hj, rfl, rfl, HO, hni⟩ := hrel
          by_cases hjl : j < m
          · have hsi := hni.size
            obtain ⟨rb, ro, rfl, hrb, hrc⟩ := hri.below hni hB (by rw [HML.out]; omega)
            have d0 := (hrc j (by rw [HML.out]; exact hjl)).1
            have d1 := (hrc j (by rw [HML.out]; exact hjl)).2
            have HOS := outs_succ (rg ls k) j (by rw [HML.out]; exact hjl)
            generalize px (rg ls k) j = x at d0 HOS
            generalize py (rg ls k) j = y at d1 HOS
            have HOX : Hid (outs (rg ls k) (j + 1) = (outs (rg ls k) j || outP (x, y))) := HOS
            clear hrc HOS
            have hcases : o2 = true ∨ (o2 = false ∧ x < 0) ∨ (o2 = false ∧ 0 ≤ x ∧ 1073741824 ≤ x) ∨ (o2 = false ∧ 0 ≤ x ∧ x < 1073741824 ∧ y < 0) ∨ (o2 = false ∧ 0 ≤ x ∧ x < 1073741824 ∧ 0 ≤ y ∧ 1073741824 ≤ y) ∨ (o2 = false ∧ 0 ≤ x ∧ x < 1073741824 ∧ 0 ≤ y ∧ y < 1073741824) := by
              cases o2
              · by_cases h1 : x < 0
                · exact .inr (.inl ⟨rfl, h1⟩)
                · by_cases h2 : 1073741824 ≤ x
                  · exact .inr (.inr (.inl ⟨rfl, by omega, h2⟩))
                  · by_cases h3 : y < 0
                    · exact .inr (.inr (.inr (.inl ⟨rfl, by omega, by omega, h3⟩)))
                    · by_cases h4 : 1073741824 ≤ y
                      · exact .inr (.inr (.inr (.inr (.inl ⟨rfl, by omega, by omega, by omega, h4⟩))))
                      · exact .inr (.inr (.inr (.inr (.inr ⟨rfl, by omega, by omega, by omega, by omega⟩))))
              · exact .inl rfl
            rcases hcases with rfl | ⟨rfl, h1⟩ | ⟨rfl, h1, h2⟩ | ⟨rfl, h1, h2, h3⟩ | ⟨rfl, h1, h2, h3, h4⟩ | ⟨rfl, h1, h2, h3, h4⟩
            all_goals
              go_wp2
              go_roundw
              case rel => exact ⟨j + 1, _, by omega, by go_num, rfl, by show _ = _; rw [HOX.out, ← Bool.or_assoc, ← HO.out]; simp [outP]; try omega, (hni.alloc hsi _)⟩
              case measure => simp [intOf]; omega
          · obtain rfl : j = m := by omega
            have hkl : k < ls.length := by rw [HN.out]; exact hlt
            go_wp2
            go_roundw
            case rel =>
              exact ⟨k + 1, t + j, _, o2, by omega, by go_num, by go_num, rfl, rfl, ⟨by rw [HT.out.1, totTo_succ ls k hkl, HML.out],
                by rw [shTo_succ ls k hkl, ← HT.out.2.1, HML.out]; simp; try omega, by rw [outTo_succ ls k hkl, ← HT.out.2.2, HML.out]; exact HO.out⟩, hni⟩
            case measure => simp [intOf]; omega
    · obtain rfl : k = n := by omega
      have FIN : Hid (checkF ls = if 20 < k ∨ 500 < t then 7 else if s = true then 1 else if o = true then 4 else 0) := by
        show checkF ls = _
        unfold checkF
        rw [HN.out, HT.out.1, HT.out.2.1, HT.out.2.2]
      clear HT
      by_cases h20 : 20 < k
      · go_wp2
        go_ret
        exact ⟨ret_int (by rw [FIN.out, if_pos (by omega)]), hnx⟩
      · by_cases h500 : 500 < t
        · go_wp2
          go_ret
          exact ⟨ret_int (by rw [FIN.out, if_pos (by omega)]), hnx⟩
        · cases s
          · cases o
            · go_wp2
              go_ret
              exact ⟨ret_int (by rw [FIN.out, if_neg (by omega)]; rfl), hnx⟩
            · go_wp2
              go_ret
              exact ⟨ret_int (by rw [FIN.out, if_neg (by omega)]; rfl), hnx⟩
          · go_wp2
            go_ret
            exact ⟨ret_int (by rw [FIN.out, if_neg (by omega)]; rfl), hnx⟩
end Go.Proofs.YtpkoapmpknbgoaaGreat.Po
/- Contracts of poly.near, poly.On, poly.Inside. -/
namespace Go.Proofs.YtpkoapmpknbgoaaGreat.Po
open Go.RowKit

theorem edgeVs_length (l : List Pt) (n : Nat) : (edgeVs l n).length = n * 4 := by
  induction n with
  | zero => rfl
  | succ n ih => rw [edgeVs_succ, List.length_append, ih]; simp [edgeV]; omega
theorem edgeVs_get (l : List Pt) (n j t : Nat) (hj : j < n) (ht : t < 4) : (edgeVs l n)[j * 4 + t]? = (edgeV l j)[t]? := by
  induction n with
  | zero => omega
  | succ n ih =>
    rw [edgeVs_succ]
    by_cases h : j < n
    · rw [List.getElem?_append_left (by rw [edgeVs_length]; omega)]; exact ih h
    · obtain rfl : j = n := by omega
      rw [List.getElem?_append_right (by rw [edgeVs_length]; omega), edgeVs_length]
      congr 1; omega
/-- A slice's address leads to a ring's edges. -/
def EdgesAt (w : World) (B : Nat) (ao : Option Addr) (l : List Pt) : Prop :=
  0 < l.length → ∃ g, ao = some ⟨g, 0, none⟩ ∧ g < B ∧ ∀ j, j < l.length →
    w.cell? ⟨g, j * 4, none⟩ = some (.int .i64 (px l j)) ∧ w.cell? ⟨g, j * 4 + 1, none⟩ = some (.int .i64 (py l j)) ∧
    w.cell? ⟨g, j * 4 + 2, none⟩ = some (.int .i64 (px l ((j + 1) % l.length))) ∧ w.cell? ⟨g, j * 4 + 3, none⟩ = some (.int .i64 (py l ((j + 1) % l.length)))
theorem EdgesAt.below {w w' : World} {B : Nat} {ao : Option Addr} {l : List Pt} (h : EdgesAt w B ao l) {C : Nat} (hb : Below C w w') (hC : B ≤ C) : EdgesAt w' B ao l := by
  intro h0
  obtain ⟨g, e, hlt, hc⟩ := h h0
  refine ⟨g, e, hlt, fun j hj => ?_⟩
  rw [hb.cell (p := ⟨g, _, none⟩) (show g < C by omega), hb.cell (p := ⟨g, _, none⟩) (show g < C by omega), hb.cell (p := ⟨g, _, none⟩) (show g < C by omega), hb.cell (p := ⟨g, _, none⟩) (show g < C by omega)]
  exact hc j hj
theorem edges_at (ao : Option Addr) (c : Nat) (l : List Pt) (w : World) (B : Nat) (hB : B ≤ w.heap.size) (h : RingAt w B ao l) (hl : l.length ≤ 1000000000) :
    Calls Tryz.prog 95 #[.slice ao l.length c] w fun e w' => ∃ ao' c', e = .returned (.slice ao' l.length c') ∧ EdgesAt w' w'.heap.size ao' l ∧ Below w.heap.size w w' :=
  (edges_any ao c l w B hB h hl).mono fun e w' ⟨v, he, hown, hb⟩ => by
    obtain ⟨ao', c', rfl, _, hc⟩ := own_form hown
    refine ⟨ao', c', he, fun h0 => ?_, hb⟩
    obtain ⟨g, e1, _, hg, hc⟩ := hc h0
    refine ⟨g, e1, hg, fun j hj => ?_⟩
    have hx := fun t ht u hu => hc (j * 4 + t) u ((edgeVs_get l l.length j t hj ht).trans hu)
    exact ⟨hx 0 (by omega) _ rfl, hx 1 (by omega) _ rfl, hx 2 (by omega) _ rfl, hx 3 (by omega) _ rfl⟩

def nearF (ls : List (List Pt)) (x y : Int) : Bool := decide (-2147483648 ≤ x) && decide (x ≤ 2147483648) && decide (-2147483648 ≤ y) && decide (y ≤ 2147483648) && checkF ls == 0
theorem near_any (ao : Option Addr) (c : Nat) (ls : List (List Pt)) (x y : Int) (w : World) (B : Nat) (hB : B ≤ w.heap.size) (h : RingsAt w B ao ls) (hn : ls.length ≤ 1000000000) (ht : totTo ls ls.length ≤ 1000000000) :
    Calls Tryz.prog 94 #[.slice ao ls.length c, .int .i64 x, .int .i64 y] w fun e w' => e = .returned (.bool (nearF ls x y)) ∧ Below w.heap.size w w' := by
  have hc : ∀ w', Below w.heap.size w w' → RingsAt w' B ao ls := fun w' hb => h.below hb hB
  by_cases h1 : -2147483648 ≤ x ∧ x ≤ 2147483648 ∧ -2147483648 ≤ y ∧ y ≤ 2147483648
  · obtain ⟨h1, h2, h3, h4⟩ := h1
    have HF : Hid (nearF ls x y = (checkF ls == 0)) := by
      show _ = _
      unfold nearF
      simp [h1, h2, h3, h4]
    go_enter Tryz.func94, Tryz.ntmps94
    go_wp2_with (go_at_call 27; refine (check_any _ _ _ _ B hB h hn ht).mono ?_; rintro e w' ⟨rfl, hb⟩)
    go_ret
    exact ⟨ret_bool HF.out.symm, hb⟩
  · have HF : Hid (nearF ls x y = false) := by
      show _ = _
      unfold nearF
      simp
      omega
    rcases (show x < -2147483648 ∨ (-2147483648 ≤ x ∧ 2147483648 < x) ∨ (-2147483648 ≤ x ∧ x ≤ 2147483648 ∧ y < -2147483648) ∨ (-2147483648 ≤ x ∧ x ≤ 2147483648 ∧ -2147483648 ≤ y ∧ 2147483648 < y) by omega) with h2 | ⟨h2, h3⟩ | ⟨h2, h3, h4⟩ | ⟨h2, h3, h4, h5⟩
    all_goals
      clear h1
      go_enter Tryz.func94, Tryz.ntmps94
      go_wp2
      go_ret
      exact ⟨ret_bool HF.out.symm, Below.refl _ _⟩

def onEl (l : List Pt) (x y : Int) (j : Nat) : Bool := onE (px l j) (py l j) (px l ((j + 1) % l.length)) (py l ((j + 1) % l.length)) x y
def crEl (l : List Pt) (x y : Int) (j : Nat) : Bool := crE (px l j) (py l j) (px l ((j + 1) % l.length)) (py l ((j + 1) % l.length)) x y
/-- One of the first j edges has the point. -/
def onR (l : List Pt) (x y : Int) (j : Nat) : Bool := (List.range j).any (onEl l x y)
/-- The number of the first j edges that cross is odd. -/
def crR (l : List Pt) (x y : Int) (j : Nat) : Bool := (List.range j).foldl (fun o i => o != crEl l x y i) false
def onTo (ls : List (List Pt)) (x y : Int) (k : Nat) : Bool := (ls.take k).any fun l => onR l x y l.length
def crTo (ls : List (List Pt)) (x y : Int) (k : Nat) : Bool := (ls.take k).foldl (fun o l => o != crR l x y l.length) false
def onF (ls : List (List Pt)) (x y : Int) : Bool := nearF ls x y && onTo ls x y ls.length
def insideF (ls : List (List Pt)) (x y : Int) : Bool := nearF ls x y && (onTo ls x y ls.length || crTo ls x y ls.length)
theorem onR_succ (l : List Pt) (x y : Int) (j : Nat) : onR l x y (j + 1) = (onR l x y j || onEl l x y j) := by unfold onR; rw [List.range_succ]; simp
theorem crR_succ (l : List Pt) (x y : Int) (j : Nat) : crR l x y (j + 1) = (crR l x y j != crEl l x y j) := by unfold crR; rw [List.range_succ]; simp
theorem onTo_succ (ls : List (List Pt)) (x y : Int) (k : Nat) (h : k < ls.length) : onTo ls x y (k + 1) = (onTo ls x y k || onR (rg ls k) x y (rg ls k).length) := by
  unfold onTo rg; rw [take_succ' ls k [] h]; simp
theorem crTo_succ (ls : List (List Pt)) (x y : Int) (k : Nat) (h : k < ls.length) : crTo ls x y (k + 1) = (crTo ls x y k != crR (rg ls k) x y (rg ls k).length) := by
  unfold crTo rg; rw [take_succ' ls k [] h]; simp
theorem onR_true {l : List Pt} {x y : Int} {j n : Nat} (hj : j < n) (h : onEl l x y j = true) : onR l x y n = true := by
  unfold onR; rw [List.any_eq_true]; exact ⟨j, by simpa using hj, h⟩
theorem onTo_true {ls : List (List Pt)} {x y : Int} {k : Nat} (hk : k < ls.length) (h : onR (rg ls k) x y (rg ls k).length = true) : onTo ls x y ls.length = true := by
  unfold onTo; rw [List.any_eq_true]; exact ⟨rg ls k, by simp [rg, hk], h⟩

set_option maxHeartbeats 2000000 in
theorem inside_any (ao : Option Addr) (c : Nat) (ls : List (List Pt)) (x y : Int) (w : World) (B : Nat) (hB : B ≤ w.heap.size) (h : RingsAt w B ao ls) (hn : ls.length ≤ 1000000000) (ht : totTo ls ls.length ≤ 1000000000) :
    Calls Tryz.prog 57 #[.slice ao ls.length c, .int .i64 x, .int .i64 y] w fun e w' => e = .returned (.bool (insideF ls x y)) ∧ Below w.heap.size w w' := by
  have hnear := fun w (hB : B ≤ w.heap.size) (h : RingsAt w B ao ls) => near_any ao c ls x y w B hB h hn ht
  obtain ⟨n, hnn⟩ : ∃ n, ls.length = n := ⟨_, rfl⟩
  rw [hnn] at hn hnear ⊢
  have HNEAR := Lib.hid hnear
  have HT := Lib.hid ht
  have HN : Hid (ls.length = n) := hnn
  clear hnn hnear ht
  cases hnf : nearF ls x y
  · have HF : Hid (insideF ls x y = false) := by show _ = _; unfold insideF; rw [hnf]; rfl
    go_enter Tryz.func57, Tryz.ntmps57
    go_wp2_with (go_at_call 94; refine (HNEAR.out _ hB h).mono ?_; rintro e w' ⟨rfl, hb⟩)
    go_ret
    exact ⟨ret_bool HF.out.symm, hb⟩
  · have HF : Hid (insideF ls x y = (onTo ls x y n || crTo ls x y n)) := by show _ = _; unfold insideF; rw [hnf, HN.out]; rfl
    go_enter Tryz.func57, Tryz.ntmps57
    go_wp2_with (go_at_call 94; refine (HNEAR.out _ hB h).mono ?_; rintro e w' ⟨rfl, hb⟩)
    go_loopw [7, 19] (fun v7 i wr => ∃ (k : Nat) (o : Bool), k ≤ n ∧ i = .int .i64 k ∧ v7 = .bool o ∧ Hid (onTo ls x y k = false ∧ o = crTo ls x y k) ∧ Below w.heap.size w wr) (fun _ i _ => n - (intOf i).toNat)
    case atStart => exact ⟨0, false, Nat.zero_le _, rfl, rfl, ⟨rfl, rfl⟩, hb⟩
    case round =>
      obtain ⟨k, o, hk, rfl, rfl, HO, hnx⟩ := hrel
      have hsz := hnx.size
      by_cases hlt : k < n
      · have hkl : k < ls.length := by rw [HN.out]; exact hlt
        obtain ⟨b, off, rfl, hbB, hc⟩ := h (by omega)
        obtain ⟨ri, ci, c0w, hri⟩ := hc k hkl
        have c0 := (hnx.cell (p := ⟨b, off + k, none⟩) (show b < w.heap.size by omega)).trans c0w
        have hlen : (rg ls k).length ≤ 1000000000 := by
          have h1 := totTo_succ ls k hkl
          have h2 := totTo_le ls (k + 1) (by omega)
          have := HT.out
          omega
        have HE := Lib.hid (edges_at ri ci (rg ls k) wr B (by omega) (hri.below hnx hB) hlen)
        have HK := Lib.hid hkl
        obtain ⟨m, hm⟩ : ∃ m, (rg ls k).length = m := ⟨_, rfl⟩
        rw [hm] at c0 HE hlen
        have HML : Hid ((rg ls k).length = m) := hm
        clear hm c0w hc hri hkl
        obtain ⟨wo, hwo⟩ : ∃ wo : World, wo = wr := ⟨_, rfl⟩
        subst hwo
        go_wp2_with (go_at_call 95; refine HE.out.mono ?_; rintro e w2 ⟨ao2, c2, rfl, hea, hb2⟩)
        have hnx2 := below_later hnx hsz hb2
        go_loopw [7, 26] (fun v7 i wi => ∃ (j : Nat) (o2 : Bool), j ≤ m ∧ i = .int .i64 j ∧ v7 = .bool o2 ∧ Hid (onR (rg ls k) x y j = false ∧ o2 = (o != crR (rg ls k) x y j)) ∧ Below w2.heap.size w2 wi) (fun _ i _ => m - (intOf i).toNat)
        case atStart => exact ⟨0, o, Nat.zero_le _, rfl, rfl, ⟨rfl, by simp [crR]⟩, Below.refl _ _⟩
        case round =>
          obtain ⟨j, o2, hj, rfl, rfl, HO2, hni⟩ := hrel
          have hsi := hni.size
          by_cases hjl : j < m
          · obtain ⟨g, rfl, hg, hgc⟩ := hea.below hni (Nat.le_refl _) (by rw [HML.out]; omega)
            obtain ⟨d0, d1, d2, d3⟩ := hgc j (by rw [HML.out]; exact hjl)
            have HON : Hid (onE (px (rg ls k) j) (py (rg ls k) j) (px (rg ls k) ((j + 1) % (rg ls k).length)) (py (rg ls k) ((j + 1) % (rg ls k).length)) x y = onEl (rg ls k) x y j) := rfl
            have HCR : Hid (crE (px (rg ls k) j) (py (rg ls k) j) (px (rg ls k) ((j + 1) % (rg ls k).length)) (py (rg ls k) ((j + 1) % (rg ls k).length)) x y = crEl (rg ls k) x y j) := rfl
            generalize px (rg ls k) j = p0 at d0 HON HCR
            generalize py (rg ls k) j = p1 at d1 HON HCR
            generalize px (rg ls k) ((j + 1) % (rg ls k).length) = q0 at d2 HON HCR
            generalize py (rg ls k) ((j + 1) % (rg ls k).length) = q1 at d3 HON HCR
            clear hgc
            cases hon : onEl (rg ls k) x y j
            · rw [show onEl (rg ls k) x y j = false from hon] at HON
              have HONF := Lib.hid hon
              clear hon
              have hon2 : onE p0 p1 q0 q1 x y = false := HON
              go_wp2_with (first | (go_at_call 96; refine (on_any _ _ _ _ _ _ _).mono ?_; rintro e w3 ⟨rfl, hb3⟩; have e0 := cell_kept hb3 0 _ rfl; have e1 := cell_kept hb3 1 _ rfl; have e2 := cell_kept hb3 2 _ rfl; have e3 := cell_kept hb3 3 _ rfl) | (go_at_call 97; refine (cr_any _ _ _ _ _ _ _).mono ?_; rintro e w4 ⟨rfl, hb4⟩))
              go_roundw
              case rel => exact ⟨j + 1, _, by omega, by go_num, rfl, ⟨by rw [onR_succ, HO2.out.1, HONF.out]; rfl, by rw [crR_succ, HO2.out.2, ← HCR.out]; cases o <;> cases crR (rg ls k) x y j <;> cases crE p0 p1 q0 q1 x y <;> rfl⟩, (below_alloc' hni hb3).trans (hb4.mono (by have := hb3.size; simp at this; omega))⟩
              case measure => simp [intOf]; omega
            · rw [show onEl (rg ls k) x y j = true from hon] at HON
              have hon2 : onE p0 p1 q0 q1 x y = true := HON
              have HFT : Hid (insideF ls x y = true) := by
                show _ = _
                rw [HF.out, ← HN.out, onTo_true HK.out (onR_true (by rw [HML.out]; exact hjl) hon)]
                rfl
              clear hon
              go_wp2_with (first | (go_at_call 96; refine (on_any _ _ _ _ _ _ _).mono ?_; rintro e w3 ⟨rfl, hb3⟩; have e0 := cell_kept hb3 0 _ rfl; have e1 := cell_kept hb3 1 _ rfl; have e2 := cell_kept hb3 2 _ rfl; have e3 := cell_kept hb3 3 _ rfl))
              go_ret
              exact ⟨ret_bool HFT.out.symm, below_later hnx2 (by have := hnx2.size; omega) (below_alloc' hni hb3)⟩
          · obtain rfl : j = m := by omega
            go_wp2
            go_roundw
            case rel => exact ⟨k + 1, _, by omega, by go_num, rfl, ⟨by rw [onTo_succ ls x y k HK.out, HO.out.1, HML.out, HO2.out.1]; rfl, by rw [crTo_succ ls x y k HK.out, ← HO.out.2, HML.out]; exact HO2.out.2⟩, below_later hnx2 (by have := hnx2.size; omega) hni⟩
            case measure => simp [intOf]; omega
      · obtain rfl : k = n := by omega
        go_wp2
        go_ret
        exact ⟨ret_bool (by rw [HF.out, HO.out.1, ← HO.out.2]; rfl), hnx⟩
end Go.Proofs.YtpkoapmpknbgoaaGreat.Po
/- Contracts of poly.On, poly.Area2, poly.Box. -/
namespace Go.Proofs.YtpkoapmpknbgoaaGreat.Po
open Go.RowKit

def stepA (l : List Pt) (s : Int) (j : Nat) : Int :=
  wrap64 (s + wrap64 (wrap64 (px l j * py l ((j + 1) % l.length)) - wrap64 (px l ((j + 1) % l.length) * py l j)))
def areaTo (l : List Pt) (j : Nat) : Int := (List.range j).foldl (stepA l) 0
def area2F (l : List Pt) : Int := if checkF [l] = 0 then areaTo l l.length else 0
theorem areaTo_succ (l : List Pt) (j : Nat) : areaTo l (j + 1) = stepA l (areaTo l j) j := by unfold areaTo; rw [List.range_succ]; simp

/-- A ring in a new row of one. -/
theorem rings_one {w : World} {B : Nat} {ri : Option Addr} {l : List Pt} (ci : Nat) (t : TypeId) (h : RingAt w B ri l) (hB : B ≤ w.heap.size) :
    RingsAt (w.alloc (.cells #[.slice ri l.length ci] t)) (w.heap.size + 1) (some ⟨w.heap.size, 0, none⟩) [l] := by
  intro _
  refine ⟨w.heap.size, 0, rfl, by omega, fun i hi => ?_⟩
  obtain rfl : i = 0 := by simpa using hi
  refine ⟨ri, ci, ?_, ?_⟩
  · rw [cell_of_row _ w.heap.size _ _ t (0, 0) (heap_new w _ _ rfl)]; rfl
  · intro h0
    obtain ⟨b, off, e, hlt, hc⟩ := (h.below ((Below.refl _ _).alloc (Nat.le_refl _) (.cells #[.slice ri l.length ci] t)) hB) h0
    exact ⟨b, off, e, by omega, hc⟩

end Go.Proofs.YtpkoapmpknbgoaaGreat.Po
/- The contract of poly.Box. -/
namespace Go.Proofs.YtpkoapmpknbgoaaGreat.Po
open Go.RowKit

structure Bx where
  a : Int
  b : Int
  c : Int
  d : Int
def bstep (s : Bx) (x y : Int) : Bx := ⟨min s.a x, min s.b y, max s.c x, max s.d y⟩
def bxR (l : List Pt) (s : Bx) (j : Nat) : Bx := (List.range j).foldl (fun s i => bstep s (px l i) (py l i)) s
def bx0 (ls : List (List Pt)) : Bx := ⟨px (rg ls 0) 0, py (rg ls 0) 0, px (rg ls 0) 0, py (rg ls 0) 0⟩
def bxTo (ls : List (List Pt)) (k : Nat) : Bx := (List.range k).foldl (fun s i => bxR (rg ls i) s (rg ls i).length) (bx0 ls)
def boxF (ls : List (List Pt)) : Bx := if checkF ls = 0 then bxTo ls ls.length else ⟨0, 0, 0, 0⟩
theorem bxR_succ (l : List Pt) (s : Bx) (j : Nat) : bxR l s (j + 1) = bstep (bxR l s j) (px l j) (py l j) := by unfold bxR; rw [List.range_succ]; simp
theorem bxTo_succ (ls : List (List Pt)) (k : Nat) : bxTo ls (k + 1) = bxR (rg ls k) (bxTo ls k) (rg ls k).length := by unfold bxTo; rw [List.range_succ]; simp

def boxV (s : Bx) : Value := .tuple #[.agg #[.int .i64 s.a, .int .i64 s.b], .agg #[.int .i64 s.c, .int .i64 s.d]]
theorem check_zero {ls : List (List Pt)} (h : checkF ls = 0) : 0 < ls.length ∧ ∀ k, k < ls.length → 3 ≤ (rg ls k).length := by
  unfold checkF at h
  split at h
  · omega
  · split at h
    · omega
    · rename_i h2
      unfold shTo at h2
      simp only [Bool.or_eq_true, decide_eq_true_eq, not_or] at h2
      refine ⟨by omega, fun k hk => ?_⟩
      have h3 := h2.2
      simp only [List.any_eq_true, decide_eq_true_eq, not_exists, not_and] at h3
      have := h3 (rg ls k) (by simp [rg, hk])
      omega

/-- Two blocks of two numbers each, which may be written. -/
structure BoxAt (w : World) (g : Nat) (s : Bx) : Prop where
  c0 : w.cell? ⟨g, 0, none⟩ = some (.int .i64 s.a)
  c1 : w.cell? ⟨g, 1, none⟩ = some (.int .i64 s.b)
  d0 : w.cell? ⟨g + 1, 0, none⟩ = some (.int .i64 s.c)
  d1 : w.cell? ⟨g + 1, 1, none⟩ = some (.int .i64 s.d)
  f0 : w.frozen? ⟨g, 0, none⟩ = false
  f1 : w.frozen? ⟨g, 1, none⟩ = false
  f2 : w.frozen? ⟨g + 1, 0, none⟩ = false
  f3 : w.frozen? ⟨g + 1, 1, none⟩ = false
  sz : g + 1 < w.heap.size
theorem BoxAt.below {w w' : World} {g : Nat} {s : Bx} (h : BoxAt w g s) (hb : Below w.heap.size w w') : BoxAt w' g s := by
  have hs := h.sz
  have hz := hb.size
  exact ⟨(hb.cell (p := ⟨g, 0, none⟩) (by show g < _; omega)).trans h.c0, (hb.cell (p := ⟨g, 1, none⟩) (by show g < _; omega)).trans h.c1, (hb.cell (p := ⟨g + 1, 0, none⟩) hs).trans h.d0, (hb.cell (p := ⟨g + 1, 1, none⟩) hs).trans h.d1,
    (hb.frozen (p := ⟨g, 0, none⟩) (by show g < _; omega)).trans h.f0, (hb.frozen (p := ⟨g, 1, none⟩) (by show g < _; omega)).trans h.f1, (hb.frozen (p := ⟨g + 1, 0, none⟩) hs).trans h.f2, (hb.frozen (p := ⟨g + 1, 1, none⟩) hs).trans h.f3, by omega⟩
theorem BoxAt.drew {w : World} {g : Nat} {s : Bx} (h : BoxAt w g s) : BoxAt w.drew g s := ⟨h.c0, h.c1, h.d0, h.d1, h.f0, h.f1, h.f2, h.f3, h.sz⟩
theorem BoxAt.new (w : World) (t : TypeId) (a b c d : Int) : BoxAt ((w.alloc (.cells #[.int .i64 a, .int .i64 b] t)).alloc (.cells #[.int .i64 c, .int .i64 d] t)) w.heap.size ⟨a, b, c, d⟩ := by
  have h1 : ((w.alloc (.cells #[.int .i64 a, .int .i64 b] t)).alloc (.cells #[.int .i64 c, .int .i64 d] t)).heap[w.heap.size]? = some (.cells #[.int .i64 a, .int .i64 b] t) := by
    rw [Below.heap_alloc _ _ _ (by simp)]; exact heap_new _ _ _ rfl
  have h2 : ((w.alloc (.cells #[.int .i64 a, .int .i64 b] t)).alloc (.cells #[.int .i64 c, .int .i64 d] t)).heap[w.heap.size + 1]? = some (.cells #[.int .i64 c, .int .i64 d] t) := heap_new _ _ _ (by simp)
  refine ⟨?_, ?_, ?_, ?_, ?_, ?_, ?_, ?_, by simp⟩
  · rw [cell_of_row _ _ _ _ _ _ h1]; rfl
  · rw [cell_of_row _ _ _ _ _ _ h1]; rfl
  · rw [cell_of_row _ _ _ _ _ _ h2]; rfl
  · rw [cell_of_row _ _ _ _ _ _ h2]; rfl
  · exact frozen_of_row _ _ _ _ _ h1
  · exact frozen_of_row _ _ _ _ _ h1
  · exact frozen_of_row _ _ _ _ _ h2
  · exact frozen_of_row _ _ _ _ _ h2
theorem BoxAt.put {w : World} {g : Nat} {s : Bx} (h : BoxAt w g s) (x y : Int) (s' : Bx) (k : Nat)
    (hk : (k = 0 ∧ s' = ⟨x, s.b, y, s.d⟩) ∨ (k = 1 ∧ s' = ⟨s.a, x, s.c, y⟩)) : BoxAt ((w.setCell ⟨g, k, none⟩ (.int .i64 x)).setCell ⟨g + 1, k, none⟩ (.int .i64 y)) g s' := by
  have hs := h.sz
  have e1 : ∀ (w : World) (i j : Nat) (v : Value), i ≠ j → (w.setCell ⟨g, i, none⟩ v).cell? ⟨g, j, none⟩ = w.cell? ⟨g, j, none⟩ := fun w i j v hij => World.cell?_setCell_other _ _ _ _ (fun h => hij (congrArg Addr.off h))
  have e2 : ∀ (w : World) (i j : Nat) (v : Value), i ≠ j → (w.setCell ⟨g + 1, i, none⟩ v).cell? ⟨g + 1, j, none⟩ = w.cell? ⟨g + 1, j, none⟩ := fun w i j v hij => World.cell?_setCell_other _ _ _ _ (fun h => hij (congrArg Addr.off h))
  have e3 : ∀ (w : World) (i j : Nat) (v : Value), (w.setCell ⟨g, i, none⟩ v).cell? ⟨g + 1, j, none⟩ = w.cell? ⟨g + 1, j, none⟩ := fun w i j v => World.cell?_setCell_other _ _ _ _ (by simp)
  have e4 : ∀ (w : World) (i j : Nat) (v : Value), (w.setCell ⟨g + 1, i, none⟩ v).cell? ⟨g, j, none⟩ = w.cell? ⟨g, j, none⟩ := fun w i j v => World.cell?_setCell_other _ _ _ _ (by simp)
  rcases hk with ⟨rfl, rfl⟩ | ⟨rfl, rfl⟩
  · refine ⟨?_, ?_, ?_, ?_, ?_, ?_, ?_, ?_, ?_⟩
    · rw [e4]; exact World.cell?_setCell_same _ _ _ h.c0
    · rw [e4, e1 _ _ _ _ (by decide)]; exact h.c1
    · exact World.cell?_setCell_same _ _ _ ((e3 _ _ _ _).trans h.d0)
    · rw [e2 _ _ _ _ (by decide), e3]; exact h.d1
    · rw [World.frozen?_setCell, World.frozen?_setCell]; exact h.f0
    · rw [World.frozen?_setCell, World.frozen?_setCell]; exact h.f1
    · rw [World.frozen?_setCell, World.frozen?_setCell]; exact h.f2
    · rw [World.frozen?_setCell, World.frozen?_setCell]; exact h.f3
    · simpa using hs
  · refine ⟨?_, ?_, ?_, ?_, ?_, ?_, ?_, ?_, ?_⟩
    · rw [e4, e1 _ _ _ _ (by decide)]; exact h.c0
    · rw [e4]; exact World.cell?_setCell_same _ _ _ h.c1
    · rw [e2 _ _ _ _ (by decide), e3]; exact h.d0
    · exact World.cell?_setCell_same _ _ _ ((e3 _ _ _ _).trans h.d1)
    · rw [World.frozen?_setCell, World.frozen?_setCell]; exact h.f0
    · rw [World.frozen?_setCell, World.frozen?_setCell]; exact h.f1
    · rw [World.frozen?_setCell, World.frozen?_setCell]; exact h.f2
    · rw [World.frozen?_setCell, World.frozen?_setCell]; exact h.f3
    · simpa using hs
/-- Both boxes stored whole. -/
theorem BoxAt.put4 {w : World} {g : Nat} {s : Bx} (h : BoxAt w g s) (a b c d : Int) :
    BoxAt ((((w.setCell ⟨g, 0, none⟩ (.int .i64 a)).setCell ⟨g, 1, none⟩ (.int .i64 b)).setCell ⟨g + 1, 0, none⟩ (.int .i64 c)).setCell ⟨g + 1, 1, none⟩ (.int .i64 d)) g ⟨a, b, c, d⟩ := by
  have hs := h.sz
  have e1 : ∀ (w : World) (i j : Nat) (v : Value), i ≠ j → (w.setCell ⟨g, i, none⟩ v).cell? ⟨g, j, none⟩ = w.cell? ⟨g, j, none⟩ := fun w i j v hij => World.cell?_setCell_other _ _ _ _ (fun h => hij (congrArg Addr.off h))
  have e2 : ∀ (w : World) (i j : Nat) (v : Value), i ≠ j → (w.setCell ⟨g + 1, i, none⟩ v).cell? ⟨g + 1, j, none⟩ = w.cell? ⟨g + 1, j, none⟩ := fun w i j v hij => World.cell?_setCell_other _ _ _ _ (fun h => hij (congrArg Addr.off h))
  have e3 : ∀ (w : World) (i j : Nat) (v : Value), (w.setCell ⟨g, i, none⟩ v).cell? ⟨g + 1, j, none⟩ = w.cell? ⟨g + 1, j, none⟩ := fun w i j v => World.cell?_setCell_other _ _ _ _ (by simp)
  have e4 : ∀ (w : World) (i j : Nat) (v : Value), (w.setCell ⟨g + 1, i, none⟩ v).cell? ⟨g, j, none⟩ = w.cell? ⟨g, j, none⟩ := fun w i j v => World.cell?_setCell_other _ _ _ _ (by simp)
  refine ⟨?_, ?_, ?_, ?_, ?_, ?_, ?_, ?_, ?_⟩
  · rw [e4, e4, e1 _ _ _ _ (by decide)]; exact World.cell?_setCell_same _ _ _ h.c0
  · rw [e4, e4]; exact World.cell?_setCell_same _ _ _ ((e1 _ _ _ _ (by decide)).trans h.c1)
  · rw [e2 _ _ _ _ (by decide)]; exact World.cell?_setCell_same _ _ _ (((e3 _ _ _ _).trans (e3 _ _ _ _)).trans h.d0)
  · exact World.cell?_setCell_same _ _ _ (((e2 _ _ _ _ (by decide)).trans ((e3 _ _ _ _).trans (e3 _ _ _ _))).trans h.d1)
  · simp only [World.frozen?_setCell]; exact h.f0
  · simp only [World.frozen?_setCell]; exact h.f1
  · simp only [World.frozen?_setCell]; exact h.f2
  · simp only [World.frozen?_setCell]; exact h.f3
  · simpa using hs
theorem below_put {B g k : Nat} {a w : World} (h : Below B a w) (hB : B ≤ g) (x y : Value) : Below B a ((w.setCell ⟨g, k, none⟩ x).setCell ⟨g + 1, k, none⟩ y) :=
  (h.setCell (p := ⟨g, k, none⟩) hB x).setCell (p := ⟨g + 1, k, none⟩) (by show B ≤ g + 1; omega) y
theorem below_put4 {B g : Nat} {a w : World} (h : Below B a w) (hB : B ≤ g) (x y z t : Value) : Below B a ((((w.setCell ⟨g, 0, none⟩ x).setCell ⟨g, 1, none⟩ y).setCell ⟨g + 1, 0, none⟩ z).setCell ⟨g + 1, 1, none⟩ t) :=
  (((h.setCell (p := ⟨g, 0, none⟩) hB x).setCell (p := ⟨g, 1, none⟩) hB y).setCell (p := ⟨g + 1, 0, none⟩) (by show B ≤ g + 1; omega) z).setCell (p := ⟨g + 1, 1, none⟩) (by show B ≤ g + 1; omega) t

set_option maxHeartbeats 2000000 in
theorem box_no (ao : Option Addr) (c : Nat) (ls : List (List Pt)) (w : World) (B : Nat) (hB : B ≤ w.heap.size) (h : RingsAt w B ao ls) (hn : ls.length ≤ 1000000000) (ht : totTo ls ls.length ≤ 1000000000) (hz : checkF ls ≠ 0) :
    Calls Tryz.prog 28 #[.slice ao ls.length c] w fun e w' => e = .returned (boxV (boxF ls)) ∧ Below w.heap.size w w' := by
  have HC := Lib.hid (fun w1 (hb : Below w.heap.size w w1) => check_any ao c ls w1 B (by have := hb.size; omega) (h.below hb hB) hn ht)
  obtain ⟨n, hnn⟩ : ∃ n, ls.length = n := ⟨_, rfl⟩
  rw [hnn] at hn HC ⊢
  have HN : Hid (ls.length = n) := hnn
  clear hnn ht
  have HF : Hid (boxF ls = ⟨0, 0, 0, 0⟩) := by show _ = _; unfold boxF; rw [if_neg hz]
  have hzb : (checkF ls != 0) = true := by simpa using hz
  go_enter Tryz.func28, Tryz.ntmps28
  go_wp2_with fail
  have HB : Hid (BoxAt _ _ _) := BoxAt.new w 26 0 0 0 0
  have HBl : Hid (Below w.heap.size w ((w.alloc (.cells #[.int .i64 0, .int .i64 0] 26)).alloc (.cells #[.int .i64 0, .int .i64 0] 26))) := ((Below.refl _ _).alloc (Nat.le_refl _) _).alloc (by simp) _
  refine (HC.out _ HBl.out).mono ?_
  rintro e w1 ⟨rfl, hb1⟩
  have hbx := HB.out.below hb1
  have hbw : Below w.heap.size w w1 := HBl.out.trans (hb1.mono (by simp; omega))
  obtain ⟨c0, c1, d0, d1, f0, f1, f2, f3, sz⟩ := hbx
  have HX : Hid (BoxAt w1 w.heap.size ⟨0, 0, 0, 0⟩) := HB.out.below hb1
  clear HB HBl hb1 HC
  go_upto_region 2 with (fail)
  go_region
  go_wp2
  have HY := (HX.out.put4 0 0 0 0).drew
  refine bodyPost_ret (v := boxV ⟨0, 0, 0, 0⟩) (by have c0 := HY.c0; have c1 := HY.c1; have d0 := HY.d0; have d1 := HY.d1; simp [results, Tryz.results28, go_sem, boxV, *]) rfl ⟨by rw [HF.out], (below_put4 hbw (Nat.le_refl _) _ _ _ _).drew⟩

theorem iminD (a x : Int) : (if x < a then x else a) = min a x := by split <;> omega
theorem imaxD (a x : Int) : (if a < x then x else a) = max a x := by split <;> omega
def bpart (s : Bx) (x y : Int) : Nat → Bx
  | 0 => s
  | 1 => ⟨min s.a x, s.b, max s.c x, s.d⟩
  | _ => bstep s x y

set_option maxHeartbeats 4000000 in
theorem box_yes (ao : Option Addr) (c : Nat) (ls : List (List Pt)) (w : World) (B : Nat) (hB : B ≤ w.heap.size) (h : RingsAt w B ao ls) (hn : ls.length ≤ 1000000000) (ht : totTo ls ls.length ≤ 1000000000) (hz : checkF ls = 0) :
    Calls Tryz.prog 28 #[.slice ao ls.length c] w fun e w' => e = .returned (boxV (boxF ls)) ∧ Below w.heap.size w w' := by
  have HC := Lib.hid (fun w1 (hb : Below w.heap.size w w1) => check_any ao c ls w1 B (by have := hb.size; omega) (h.below hb hB) hn ht)
  obtain ⟨hl0, hl3⟩ := check_zero hz
  have HTT : Hid (∀ k, k < ls.length → (rg ls k).length ≤ 1000000000) := fun k hk => by
    have h1 := totTo_succ ls k hk
    have h2 := totTo_le ls (k + 1) (by omega)
    omega
  have HL3 := Lib.hid hl3
  have HR := Lib.hid h
  obtain ⟨n, hnn⟩ : ∃ n, ls.length = n := ⟨_, rfl⟩
  rw [hnn] at hn HC hl0 HTT HL3 ⊢
  have HN : Hid (ls.length = n) := hnn
  clear hnn ht hl3 h
  have HF : Hid (boxF ls = bxTo ls n) := by show _ = _; unfold boxF; rw [if_pos hz, HN.out]
  have hzb : (checkF ls != 0) = false := by simpa using hz
  go_enter Tryz.func28, Tryz.ntmps28
  go_wp2_with fail
  have HB : Hid (BoxAt _ _ _) := BoxAt.new w 26 0 0 0 0
  have HBl : Hid (Below w.heap.size w ((w.alloc (.cells #[.int .i64 0, .int .i64 0] 26)).alloc (.cells #[.int .i64 0, .int .i64 0] 26))) := ((Below.refl _ _).alloc (Nat.le_refl _) _).alloc (by simp) _
  refine (HC.out _ HBl.out).mono ?_
  rintro e w1 ⟨rfl, hb1⟩
  have hbx := HB.out.below hb1
  have hbw : Below w.heap.size w w1 := HBl.out.trans (hb1.mono (by simp; omega))
  obtain ⟨c0, c1, d0, d1, f0, f1, f2, f3, sz⟩ := hbx
  have HX : Hid (BoxAt w1 w.heap.size ⟨0, 0, 0, 0⟩) := HB.out.below hb1
  clear HB HBl hb1 HC
  obtain ⟨b, off, rfl, hb, hc⟩ := (HR.out.below hbw hB) (by rw [HN.out]; omega)
  obtain ⟨ri, ci, r0, hri⟩ := hc 0 (by rw [HN.out]; omega)
  obtain ⟨rb, ro, rfl, hrb, hrc⟩ := hri (by have := HL3.out 0 (by omega); omega)
  obtain ⟨p0, p1⟩ := hrc 0 (by have := HL3.out 0 (by omega); omega)
  have hlen : 3 ≤ (rg ls 0).length := HL3.out 0 (by omega)
  clear hc hrc
  generalize (rg ls 0).length = m0 at r0 hlen
  simp only [Nat.add_zero, Nat.zero_mul] at p0 p1 r0
  have hbw0 : b < w.heap.size := by omega
  have hrbw0 : rb < w.heap.size := by omega
  go_upto_region 3 with (fail)
  go_region
  go_wp2
  go_loopw [27] (fun i wr => ∃ k : Nat, k ≤ n ∧ i = .int .i64 k ∧ Hid (BoxAt wr w.heap.size (bxTo ls k)) ∧ Below w.heap.size w wr) (fun i _ => n - (intOf i).toNat)
  case atStart => exact ⟨0, Nat.zero_le _, rfl, (HX.out.put4 _ _ _ _).drew, (below_put4 hbw (Nat.le_refl _) _ _ _ _).drew⟩
  case round =>
    obtain ⟨k, hk, rfl, HY, hnx⟩ := hrel
    clear c0 c1 d0 d1 f0 f1 f2 f3 sz HX p0 p1 r0 hri hbw hrb
    have hsz := hnx.size
    by_cases hlt : k < n
    · obtain ⟨b', off', e', hb', hc⟩ := (HR.out.below hnx hB) (by rw [HN.out]; omega)
      cases e'
      obtain ⟨ri, ci, r0, hri⟩ := hc k (by rw [HN.out]; omega)
      clear hc
      have hm3 := HL3.out k hlt
      have hmb := HTT.out k hlt
      have HS := Lib.hid (bxTo_succ ls k)
      have HRI := Lib.hid hri
      clear hri
      obtain ⟨l, hl⟩ : ∃ l, rg ls k = l := ⟨_, rfl⟩
      rw [hl] at HRI hm3 hmb HS r0
      clear hl
      obtain ⟨m, hm⟩ : ∃ m, l.length = m := ⟨_, rfl⟩
      rw [hm] at r0 hm3 hmb HS
      have HM : Hid (l.length = m) := hm
      clear hm
      obtain ⟨rb, ro, rfl, hrb, _⟩ := HRI.out (by rw [HM.out]; omega)
      have HRB : Hid (∀ wx, Below w.heap.size wr wx → ∀ j, j < m → wx.cell? ⟨rb, ro + j * 2, none⟩ = some (.int .i64 (px l j)) ∧ wx.cell? ⟨rb, ro + j * 2 + 1, none⟩ = some (.int .i64 (py l j))) := fun wx hbx j hj => by
        obtain ⟨rb', ro', e', _, hc⟩ := (HRI.out.below hbx hB) (by rw [HM.out]; omega)
        cases e'
        exact hc j (by rw [HM.out]; exact hj)
      obtain ⟨wo, hwo⟩ : ∃ wo : World, wo = wr := ⟨_, rfl⟩
      subst hwo
      go_wp2
      go_loopw [33] (fun i wi => ∃ j : Nat, j ≤ m ∧ i = .int .i64 j ∧ Hid (BoxAt wi w.heap.size (bxR l (bxTo ls k) j)) ∧ Below w.heap.size wo wi) (fun i _ => m - (intOf i).toNat)
      case atStart => exact ⟨0, Nat.zero_le _, rfl, HY, Below.refl _ _⟩
      case round =>
        obtain ⟨j, hj, rfl, HZ, hni⟩ := hrel
        have hsi := hni.size
        by_cases hjl : j < m
        · obtain ⟨p0, p1⟩ := HRB.out _ hni j hjl
          have HSJ := Lib.hid (bxR_succ l (bxTo ls k) j)
          generalize px l j = x at p0 HSJ
          generalize py l j = y at p1 HSJ
          generalize bxR l (bxTo ls k) j = s at HZ HSJ
          have hrbi : rb < wr.heap.size := by omega
          obtain ⟨wj, hwj⟩ : ∃ wj : World, wj = wr := ⟨_, rfl⟩
          subst hwj
          go_wp2
          go_loopw [38] (fun i wt => ∃ t : Nat, t ≤ 2 ∧ i = .int .i64 t ∧ Hid (BoxAt wt w.heap.size (bpart s x y t)) ∧ Below w.heap.size wj wt) (fun i _ => 2 - (intOf i).toNat)
          case atStart => exact ⟨0, Nat.zero_le _, rfl, HZ.out.below ((Below.refl _ _).alloc (Nat.le_refl _) _), (Below.refl _ _).alloc (by omega) _⟩
          case round =>
            obtain ⟨t, ht, rfl, HT, hnt⟩ := hrel
            have hst := hnt.size
            have i0 : ∀ w, (Instr.index 26 (.agg #[.int .i64 x, .int .i64 y]) (.int .i64 0)).run Tryz.prog w = .ok (.int .i64 x) w := fun _ => by kernel_rfl
            have i1 : ∀ w, (Instr.index 26 (.agg #[.int .i64 x, .int .i64 y]) (.int .i64 1)).run Tryz.prog w = .ok (.int .i64 y) w := fun _ => by kernel_rfl
            rcases (show t = 0 ∨ t = 1 ∨ t = 2 by omega) with rfl | rfl | rfl
            · obtain ⟨c0, c1, d0, d1, f0, f1, f2, f3, sz⟩ := HT.out
              simp only [bpart] at c0 c1 d0 d1
              go_upto_region 13 with (fail)
              go_region
              go_wp2
              refine ⟨⟨1, by omega, rfl, ?_, (below_put hnt (Nat.le_refl _) _ _).drew⟩, by simp [intOf]⟩
              (try rw [iminD, imaxD])
              exact (HT.out.put (k := 0) _ _ _ (.inl ⟨rfl, rfl⟩)).drew
            · obtain ⟨c0, c1, d0, d1, f0, f1, f2, f3, sz⟩ := HT.out
              simp only [bpart] at c0 c1 d0 d1
              go_upto_region 13 with (fail)
              go_region
              go_wp2
              refine ⟨⟨2, by omega, rfl, ?_, (below_put hnt (Nat.le_refl _) _ _).drew⟩, by simp [intOf]⟩
              (try rw [iminD, imaxD])
              exact (HT.out.put (k := 1) _ _ _ (.inr ⟨rfl, rfl⟩)).drew
            · go_wp2
              go_roundw
              case rel => exact ⟨j + 1, by omega, by go_num, by rw [HSJ.out]; exact HT, hni.trans hnt⟩
              case measure => simp [intOf]; omega
        · obtain rfl : j = m := by omega
          go_wp2
          go_roundw
          case rel => exact ⟨k + 1, by omega, by go_num, by rw [HS.out]; exact HZ, hnx.trans hni⟩
          case measure => simp [intOf]; omega
    · obtain rfl : k = n := by omega
      obtain ⟨c0, c1, d0, d1, f0, f1, f2, f3, sz⟩ := HY.out
      have HP := (HY.out.put4 (bxTo ls k).a (bxTo ls k).b (bxTo ls k).c (bxTo ls k).d).drew
      have HP' := Lib.hid HP
      clear HP
      have HFF := HF
      generalize bxTo ls k = s at *
      go_upto_region 17 with (fail)
      go_region
      go_wp2
      refine bodyPost_ret (v := boxV s) (by have c0 := HP'.out.c0; have c1 := HP'.out.c1; have d0 := HP'.out.d0; have d1 := HP'.out.d1; simp [results, Tryz.results28, go_sem, boxV, *]) rfl ⟨by rw [HF.out], (below_put4 hnx (Nat.le_refl _) _ _ _ _).drew⟩

theorem box_any (ao : Option Addr) (c : Nat) (ls : List (List Pt)) (w : World) (B : Nat) (hB : B ≤ w.heap.size) (h : RingsAt w B ao ls) (hn : ls.length ≤ 1000000000) (ht : totTo ls ls.length ≤ 1000000000) :
    Calls Tryz.prog 28 #[.slice ao ls.length c] w fun e w' => e = .returned (boxV (boxF ls)) ∧ Below w.heap.size w w' := by
  by_cases hz : checkF ls = 0
  · exact box_yes ao c ls w B hB h hn ht hz
  · exact box_no ao c ls w B hB h hn ht hz
end Go.Proofs.YtpkoapmpknbgoaaGreat.Po
/- Contracts of package fill: has, the question of Fill. -/
namespace Go.Proofs.YtpkoapmpknbgoaaGreat
open Go.RowKit Go.Lib Wd Cv

/-- Rings in memory that are not too many. -/
structure RgAt (w : World) (B : Nat) (ao : Option Addr) (n : Nat) (ls : List (List (Int × Int))) : Prop where
  rings : Po.RingsAt w B ao ls
  len : ls.length = n
  few : n ≤ 1000000000
  tot : Po.totTo ls ls.length ≤ 1000000000
theorem RgAt.below {w w' : World} {B n : Nat} {ao : Option Addr} {ls : List (List (Int × Int))} (h : RgAt w B ao n ls) {C : Nat} (hb : Below C w w') (hC : B ≤ C) : RgAt w' B ao n ls := ⟨h.rings.below hb hC, h.len, h.few, h.tot⟩
/-- Whether a word's centre is inside. -/
def fillB (ls : List (List (Int × Int))) (r : Nat) (x : Int) : Bool := Po.insideF ls (atE (12 - r) (zW x.toNat)).1 (atE (12 - r) (zW x.toNat)).2
set_option maxRecDepth 100000 in
set_option maxHeartbeats 4000000 in
theorem has_in {ao : Option Addr} {n c B r : Nat} {ls : List (List (Int × Int))} {z : E2} (hz : okB r z = true) {w : World} (hB : B ≤ w.heap.size) (h : RgAt w B ao n ls) :
    Calls Tryz.prog 29 #[.slice ao n c, .int .u64 (wordN r z : Nat)] w fun e w' => e = .returned (.bool (fillB ls r (wordN r z : Nat))) ∧ Below w.heap.size w w' := by
  obtain ⟨v1, v2, v3⟩ := word_cell hz
  have hr := (okB_parts hz).1
  have hlt := (wordN_lt hz).1
  have HC := Lib.hid (cell_any (wordN r z) (by omega))
  have e1 : cvR (wordN r z) = r := by unfold cvR; rw [if_pos v1, v2]
  have e2 : cvZ (wordN r z) = z := by unfold cvZ; rw [if_pos v1, v3]
  rw [e1, e2] at HC
  have hsm : Sm 1073741824 z := by
    have := (shapeB_iff r z).1 ((okB_iff r z).1 hz).1
    unfold Sm; omega
  have HCE := Lib.hid (fun w => centre_in z hsm r hr w)
  have HF : Hid (fillB ls r (wordN r z : Nat) = Po.insideF ls (atE (12 - r) z).1 (atE (12 - r) z).2) := by
    show _ = _
    unfold fillB
    rw [Int.toNat_natCast, v3]
  have HIN : Hid (∀ W, Below w.heap.size w W → ∀ x y, Calls Tryz.prog 57 #[.slice ao n c, .int .i64 x, .int .i64 y] W fun e w' => e = .returned (.bool (Po.insideF ls x y)) ∧ Below W.heap.size W w') := fun W hW x y => by
    have h1 := h.below hW hB
    have := Po.inside_any ao c ls x y W B (Nat.le_trans hB hW.size) h1.rings (by rw [h1.len]; exact h1.few) h1.tot
    rwa [h1.len] at this
  generalize fillB ls r (wordN r z : Nat) = res at *
  generalize wordN r z = wd at *
  generalize atE (12 - r) z = p at *
  obtain ⟨x, y⟩ := p
  simp only at HF
  obtain ⟨q, hq⟩ : ∃ q, Po.insideF ls x y = q := ⟨_, rfl⟩
  have HI2 : Hid (∀ W, Below w.heap.size w W → Calls Tryz.prog 57 #[.slice ao n c, .int .i64 x, .int .i64 y] W fun e w' => e = .returned (.bool res) ∧ Below W.heap.size W w') := fun W hW => by rw [HF.out]; exact HIN.out W hW x y
  clear HF HIN v1 v2 v3 e1 e2 hlt hz hsm hr h hB hq
  go_enter Tryz.func29, Tryz.ntmps29
  go_wp2_with fail
  refine (HC.out _).mono ?_
  rintro e w1 ⟨rfl, hb1⟩
  have HB1 := Lib.hid hb1
  clear hb1 HC
  simp only [vC, vE] at *
  go_upto_region 2 with (fail)
  have K1 : Below w.heap.size w (w1.alloc (.cells #[.int .i64 r, .int .i64 z.1, .int .i64 z.2] 39)) := HB1.out.alloc HB1.out.size _
  have x1 : (w1.alloc (.cells #[.int .i64 r, .int .i64 z.1, .int .i64 z.2] 39)).heap[w1.heap.size]? = some (.cells #[.int .i64 r, .int .i64 z.1, .int .i64 z.2] 39 (0, 0)) := heap_new _ _ _ rfl
  generalize w1.alloc (.cells #[.int .i64 r, .int .i64 z.1, .int .i64 z.2] 39) = w2 at *
  generalize w1.heap.size = d at *
  have d0 : w2.cell? ⟨d, 0, none⟩ = some (.int .i64 r) := cell_of_row _ _ 0 _ _ _ x1
  have d1 : w2.cell? ⟨d, 1, none⟩ = some (.int .i64 z.1) := cell_of_row _ _ 1 _ _ _ x1
  have d2 : w2.cell? ⟨d, 2, none⟩ = some (.int .i64 z.2) := cell_of_row _ _ 2 _ _ _ x1
  have hd := (Array.getElem?_eq_some_iff.1 x1).1
  have HB2 := Lib.hid K1
  clear K1 x1 HB1
  go_wp2_with fail
  refine (HCE.out _).mono ?_
  rintro e w3 ⟨rfl, hb3⟩
  have HB3 := Lib.hid (HB2.out.trans (hb3.mono HB2.out.size))
  clear hb3 d0 d1 d2 hd HCE HB2
  go_wp2_with fail
  refine (HI2.out _ HB3.out).mono ?_
  rintro e w4 ⟨rfl, hb4⟩
  have HB4 := Lib.hid (HB3.out.trans (hb4.mono HB3.out.size))
  clear hb4
  go_wp2
  go_ret
  exact ⟨rfl, HB4.out⟩
set_option maxHeartbeats 1000000 in
theorem filask_any {ao : Option Addr} {n c B r hb : Nat} {ls : List (List (Int × Int))} {z : E2} (hz : okB r z = true) {w : World} (hB : B ≤ w.heap.size) (h : RgAt w B ao n ls) (hc : w.cell? ⟨hb, 0, none⟩ = some (.func (.func 29) #[.slice ao n c] #[])) :
    Calls Tryz.prog 31 (#[.int .u64 (wordN r z : Nat)] ++ #[.pointer (some ⟨hb, 0, none⟩)]) w fun e w' => e = .returned (.bool (!fillB ls r (wordN r z : Nat))) ∧ Below w.heap.size w w' := by
  have HH := Lib.hid (has_in (c := c) hz hB h)
  have hl := World.block_lt_of_cell? w _ hc
  dsimp only at hl
  generalize fillB ls r (wordN r z : Nat) = res at *
  generalize wordN r z = wd at *
  clear hz h hB
  show Calls Tryz.prog 31 #[.int .u64 wd, .pointer (some ⟨hb, 0, none⟩)] w _
  go_enter Tryz.func31, Tryz.ntmps31
  go_wp2_with fail
  refine HH.out.mono ?_
  rintro e w1 ⟨rfl, hb1⟩
  have HB1 := Lib.hid hb1
  clear hb1
  go_wp2
  go_ret
  exact ⟨rfl, HB1.out⟩
end Go.Proofs.YtpkoapmpknbgoaaGreat
/- Contract of fill.Fill. -/
namespace Go.Proofs.YtpkoapmpknbgoaaGreat
open Go.RowKit Go.Lib Wd Cv

def blo (ls : List (List (Int × Int))) : E2 := ((Po.boxF ls).a, (Po.boxF ls).b)
def bhi (ls : List (List (Int × Int))) : E2 := ((Po.boxF ls).c, (Po.boxF ls).d)
/-- What Fill tells. -/
def FillP (w : World) (ls : List (List (Int × Int))) (r : Int) (e : Ending) (w' : World) : Prop :=
  if Po.checkF ls = 0 then
    if chE (blo ls) (bhi ls) r = 0 then
      (∃ D L ao c n, AllOf (12 - r.toNat) (triE (blo ls)) (triE (bhi ls)) D ∧ D.length ≤ 20000 ∧ L = ((srt (wsL r.toNat D)).filter (cenB r.toNat (blo ls) (bhi ls))).filter (fillB ls r.toNat) ∧ e = .returned (.tuple #[.slice ao n c, .int .i64 0]) ∧ n = L.length ∧ w'.ownsRow w.heap.size 35 1 (.slice ao n c) n (uV L)) ∨
      (∃ D : List E2, D.Nodup ∧ D.length = 20001 ∧ (∀ z ∈ D, TouchP (hexC (12 - r.toNat) z) (triE (blo ls)) (triE (bhi ls))) ∧ e = .returned (.tuple #[.slice none 0 0, .int .i64 7]))
    else e = .returned (.tuple #[.slice none 0 0, .int .i64 (chE (blo ls) (bhi ls) r)])
  else e = .returned (.tuple #[.slice none 0 0, .int .i64 (Po.checkF ls)])
theorem mine_turn2 {w W W' : World} {blk : Nat} (h : Below w.heap.size w W) (ht : Turn (fun k => k = blk) W W') (hb : w.heap.size ≤ blk) : Below w.heap.size w W' :=
  ⟨ht.1.trans h.os, ht.2.1.trans h.tape, ht.2.2.1.trans h.output, Nat.le_trans h.size ht.2.2.2.1, fun k hk => (ht.2.2.2.2 k (Nat.lt_of_lt_of_le hk h.size) (fun hs => by omega)).trans (h.block k hk)⟩
theorem mine_turn3 {w W W' : World} {S : Nat → Prop} (h : Below w.heap.size w W) (ht : Turn S W W') (hb : ∀ k, S k → w.heap.size ≤ k) : Below w.heap.size w W' :=
  ⟨ht.1.trans h.os, ht.2.1.trans h.tape, ht.2.2.1.trans h.output, Nat.le_trans h.size ht.2.2.2.1, fun k hk => (ht.2.2.2.2 k (Nat.lt_of_lt_of_le hk h.size) (fun hs => by have := hb k hs; omega)).trans (h.block k hk)⟩
set_option maxRecDepth 100000 in
set_option maxHeartbeats 4000000 in
theorem fill_any {ao : Option Addr} {n c B : Nat} {ls : List (List (Int × Int))} (r : Int) {w : World} (hB : B ≤ w.heap.size) (h : RgAt w B ao n ls) :
    Calls Tryz.prog 8 #[.slice ao n c, .int .i64 r] w fun e w' => FillP w ls r e w' ∧ Below w.heap.size w w' := by
  have hmf : ∀ (fn : Fn) (first cap : Array Value) (w : World), (Instr.makeFunc fn first cap).run Tryz.prog w = .ok (.func fn first cap) w := fun _ _ _ _ => rfl
  have hch := Po.check_any ao c ls w B hB h.rings (by rw [h.len]; exact h.few) h.tot
  rw [h.len] at hch
  have HCH := Lib.hid hch
  have HBX : Hid (∀ W, Below w.heap.size w W → Calls Tryz.prog 28 #[.slice ao n c] W fun e w' => e = .returned (Po.boxV (Po.boxF ls)) ∧ Below W.heap.size W w') := fun W hW => by
    have h1 := h.below hW hB
    have := Po.box_any ao c ls W B (Nat.le_trans hB hW.size) h1.rings (by rw [h1.len]; exact h1.few) h1.tot
    rwa [h1.len] at this
  have HRG : Hid (∀ W, Below w.heap.size w W → RgAt W B ao n ls) := fun W hW => h.below hW hB
  have HBB := Lib.hid hB
  by_cases hck : Po.checkF ls = 0
  · obtain ⟨⟨a, b, c', d⟩, hs⟩ : ∃ s, Po.boxF ls = s := ⟨_, rfl⟩
    have HFP : Hid (∀ e w', CenP w (a, b) (c', d) r e w' → True) := fun _ _ _ => trivial
    rw [hck] at HCH
    rw [hs] at HBX
    unfold Po.boxV at HBX
    have HS := Lib.hid hs
    have HK := Lib.hid hck
    clear hch h hB hck hs HFP
    go_enter Tryz.func8, Tryz.ntmps8
    go_wp2_with fail
    refine HCH.out.mono ?_
    rintro e w1 ⟨rfl, hb1⟩
    have HB1 := Lib.hid hb1
    clear hb1 HCH
    go_wp2_with fail
    refine (HBX.out w1 HB1.out).mono ?_
    rintro e w2 ⟨rfl, hb2⟩
    have HB2 := Lib.hid (HB1.out.trans (hb2.mono HB1.out.size))
    clear hb2 HBX
    go_upto_region 5 with (fail)
    obtain ⟨w3, hw3⟩ : ∃ W, (w2.alloc (.cells #[.int .i64 a, .int .i64 b] 26)).alloc (.cells #[.int .i64 c', .int .i64 d] 26) = W := ⟨_, rfl⟩
    have hb3 : Below w2.heap.size w2 w3 := by rw [← hw3]; exact ((Below.refl _ _).alloc (Nat.le_refl _) _).alloc (by simp) _
    have y0 : w3.heap[w2.heap.size]? = some (.cells #[.int .i64 a, .int .i64 b] 26 (0, 0)) := by rw [← hw3, Below.heap_alloc _ _ _ (by simp)]; exact heap_new _ _ _ rfl
    have y1 : w3.heap[w2.heap.size + 1]? = some (.cells #[.int .i64 c', .int .i64 d] 26 (0, 0)) := by rw [← hw3]; exact heap_new _ _ _ (by simp)
    rw [hw3]
    have l0 : w3.cell? ⟨w2.heap.size, 0, none⟩ = some (.int .i64 a) := cell_of_row _ _ 0 _ _ _ y0
    have l1 : w3.cell? ⟨w2.heap.size, 1, none⟩ = some (.int .i64 b) := cell_of_row _ _ 1 _ _ _ y0
    have u0 : w3.cell? ⟨w2.heap.size + 1, 0, none⟩ = some (.int .i64 c') := cell_of_row _ _ 0 _ _ _ y1
    have u1 : w3.cell? ⟨w2.heap.size + 1, 1, none⟩ = some (.int .i64 d) := cell_of_row _ _ 1 _ _ _ y1
    have g0 := (Array.getElem?_eq_some_iff.1 y0).1
    have g1 := (Array.getElem?_eq_some_iff.1 y1).1
    have HB3 := Lib.hid (HB2.out.trans (hb3.mono HB2.out.size))
    have hcen := centres_any (a, b) (c', d) r w3
    simp only [vE] at hcen
    have HCE := Lib.hid hcen
    clear hw3 hb3 y0 y1 hcen
    go_wp2_with fail
    refine HCE.out.mono ?_
    rintro e w4 ⟨hP, hb4⟩
    have HB34 := Lib.hid hb4
    have HB4 := Lib.hid (HB3.out.trans (hb4.mono HB3.out.size))
    clear hb4 HCE l0 l1 u0 u1 g0 g1
    unfold CenP at hP
    by_cases hch : chE (a, b) (c', d) r = 0
    · rw [if_pos hch] at hP
      rcases hP with ⟨D, L, aL, cL, m, h1, h2, rfl, rfl, h3, h4⟩ | ⟨D, h1, h2, h3, rfl⟩
      · obtain ⟨k, rfl⟩ : ∃ k : Nat, r = k := ⟨r.toNat, by have := (ch_ok hch).1; omega⟩
        simp only [Int.toNat_natCast] at h1 h3 h4
        have h20 : m ≤ 20000 := by rw [h3]; exact Nat.le_trans (List.length_filter_le _ _) (by rw [srt_length]; exact Nat.le_trans (wsL_le _ _) h2)
        obtain ⟨w5, hw5⟩ : ∃ W, w4.alloc (.cells #[.func (.func 29) #[.slice ao n c] #[]] 62) = W := ⟨_, rfl⟩
        have hb5 : Below w4.heap.size w4 w5 := by rw [← hw5]; exact (Below.refl _ _).alloc (Nat.le_refl _) _
        have z0 : w5.heap[w4.heap.size]? = some (.cells #[.func (.func 29) #[.slice ao n c] #[]] 62 (0, 0)) := by rw [← hw5]; exact heap_new _ _ _ rfl
        have HW5 := Lib.hid hw5
        have HB5 := Lib.hid (HB4.out.trans (hb5.mono HB4.out.size))
        have g5 := (Array.getElem?_eq_some_iff.1 z0).1
        have hLL : ∀ g o s, aL = some ⟨g, o, s⟩ → w3.heap.size ≤ g ∧ g < w4.heap.size := fun g o s e => own_lt h4 g o s e
        obtain ⟨blk, hblk, hge, hne⟩ : ∃ blk, (∀ g o s, aL = some ⟨g, o, s⟩ → g = blk) ∧ w3.heap.size ≤ blk ∧ blk ≠ w4.heap.size := by
          cases aL with
          | none => exact ⟨w4.heap.size + 1, fun g o s e => (by cases e), by have := HB34.out.size; omega, by omega⟩
          | some x =>
            obtain ⟨g, o, s⟩ := x
            exact ⟨g, fun g' o' s' e => by cases e; rfl, (hLL g o s rfl).1, by have := (hLL g o s rfl).2; omega⟩
        have hAsk : AskU 31 #[.pointer (some ⟨w4.heap.size, 0, none⟩)] (fun x => !fillB ls k x) w5 blk ((srt (wsL k D)).filter (cenB k (a, b) (c', d))) := by
          intro W x hW hxm
          have hxs := (List.mem_filter.1 hxm).1
          rw [srt_mem] at hxs
          unfold wsL at hxs
          obtain ⟨z, hz, rfl⟩ := List.mem_map.1 hxs
          have hz2 := (List.mem_filter.1 hz).2
          have hbw : Below w.heap.size w W := mine_turn2 HB5.out hW (by have := HB3.out.size; omega)
          refine filask_any (c := c) hz2 (Nat.le_trans HBB.out hbw.size) (HRG.out W hbw) ?_
          exact (World.cell?_of_block (a := ⟨w4.heap.size, 0, none⟩) (hW.2.2.2.2 _ g5 (fun e => hne e.symm))).trans (cell_of_row _ _ 0 _ _ _ z0)
        have HDF := Lib.hid (fildelete_any _ _ aL m cL _ w5 w3.heap.size blk h3.symm (by omega) (Nat.le_trans HB34.out.size hb5.size) (own_later h4 hb5) hAsk hblk)
        have hff : (((srt (wsL k D)).filter (cenB k (a, b) (c', d))).filter fun x => !(!fillB ls k x)) = ((srt (wsL k D)).filter (cenB k (a, b) (c', d))).filter (fillB ls k) := List.filter_congr fun x _ => Bool.not_not _
        rw [hff] at HDF
        have HY : Hid (∀ w' q, q = (((srt (wsL k D)).filter (cenB k (a, b) (c', d))).filter (fillB ls k)).length → w'.ownsRow w3.heap.size 35 1 (.slice aL q cL) q (uV (((srt (wsL k D)).filter (cenB k (a, b) (c', d))).filter (fillB ls k))) → FillP w ls k (.returned (.tuple #[.slice aL q cL, .int .i64 0])) w') := fun w' q hq ho => by
          unfold FillP blo bhi
          rw [if_pos HK.out, HS.out, if_pos hch]
          simp only [Int.toNat_natCast]
          exact .inl ⟨D, _, aL, cL, q, h1, h2, rfl, rfl, hq, own_base ho HB3.out.size⟩
        have HT : Hid (∀ g o s, aL = some ⟨g, o, s⟩ → w.heap.size ≤ g) := fun g o s e => Nat.le_trans HB3.out.size (hLL g o s e).1
        generalize ((srt (wsL k D)).filter (cenB k (a, b) (c', d))).filter (fillB ls k) = F at *
        generalize (fun x => !fillB ls k x) = pp at *
        clear h1 h2 h3 h4 hch hAsk hff hblk hge hne hLL z0 hb5 hw5 h20 g5
        go_wp2_with (rw [HW5.out])
        go_wp2_with fail
        refine HDF.out.mono ?_
        rintro e w6 ⟨rfl, ho, ht⟩
        have HQ := Lib.hid (HY.out w6 _ rfl ho)
        have HB6 : Hid (Below w.heap.size w w6) := mine_turn3 HB5.out ht fun q hq => HT.out q 0 none hq
        clear ho ht
        go_wp2
        go_ret2
        exact ⟨HQ.out, HB6.out⟩
      · have HQ : Hid (FillP w ls r (.returned (.tuple #[.slice none 0 0, .int .i64 7])) w4) := by
          unfold FillP blo bhi
          rw [if_pos HK.out, HS.out, if_pos hch]
          exact .inr ⟨D, h1, h2, h3, rfl⟩
        clear h1 h2 h3 hch
        go_wp2
        go_ret2
        exact ⟨HQ.out, HB4.out⟩
    · rw [if_neg hch] at hP
      subst hP
      have HQ : Hid (FillP w ls r (.returned (.tuple #[.slice none 0 0, .int .i64 (chE (a, b) (c', d) r)])) w4) := by
        unfold FillP blo bhi
        rw [if_pos HK.out, HS.out, if_neg hch]
        rfl
      have hb : (chE (a, b) (c', d) r != 0) = true := by simpa using hch
      generalize chE (a, b) (c', d) r = er at *
      clear hch
      go_wp2
      go_ret2
      exact ⟨HQ.out, HB4.out⟩
  · have HQ : Hid (∀ w', FillP w ls r (.returned (.tuple #[.slice none 0 0, .int .i64 (Po.checkF ls)])) w') := fun w' => by unfold FillP; rw [if_neg hck]
    obtain ⟨q, hq⟩ : ∃ q, Po.checkF ls = q := ⟨_, rfl⟩
    rw [hq] at HCH HQ hck
    have qb : (q != 0) = true := by simpa using hck
    clear hch h hB hck hq
    go_enter Tryz.func8, Tryz.ntmps8
    go_wp2_with fail
    refine HCH.out.mono ?_
    rintro e w1 ⟨rfl, hb1⟩
    have HB1 := Lib.hid hb1
    clear hb1
    go_wp2
    go_ret2
    exact ⟨HQ.out w1, HB1.out⟩
end Go.Proofs.YtpkoapmpknbgoaaGreat
/- The plain laws on rings: no Go in sight. -/
namespace Go.Proofs.YtpkoapmpknbgoaaGreat.Po
open Go.RowKit

theorem mul_abs_le {u v U V : Int} (h1 : -U ≤ u) (h2 : u ≤ U) (h3 : -V ≤ v) (h4 : v ≤ V) : -(U * V) ≤ u * v ∧ u * v ≤ U * V := by
  have hu : u.natAbs ≤ U.natAbs := by omega
  have hv : v.natAbs ≤ V.natAbs := by omega
  have h := Nat.mul_le_mul hu hv
  rw [← Int.natAbs_mul, ← Int.natAbs_mul] at h
  have hp : 0 ≤ U * V := Int.mul_nonneg (by omega) (by omega)
  omega

/-- Twice the area of the edge and the point. -/
def det (a b c d x y : Int) : Int := (c - a) * (y - b) - (x - a) * (d - b)
theorem det_id (a b c d x y : Int) : det a b c d x y = (c - x) * (y - b) + (a - x) * (d - y) := by
  unfold det; simp only [Int.sub_mul, Int.mul_sub]; omega
def InWorld (p : Pt) : Prop := 0 ≤ p.1 ∧ p.1 < 1073741824 ∧ 0 ≤ p.2 ∧ p.2 < 1073741824
theorem side_plain {a b c d x y : Int} (h1 : 0 ≤ a ∧ a < 1073741824) (h2 : 0 ≤ b ∧ b < 1073741824) (h3 : 0 ≤ c ∧ c < 1073741824) (h4 : 0 ≤ d ∧ d < 1073741824)
    (hx : -2147483648 ≤ x ∧ x ≤ 2147483648) (hy : -2147483648 ≤ y ∧ y ≤ 2147483648) :
    side a b c d x y = if 0 < det a b c d x y then 1 else if det a b c d x y < 0 then -1 else 0 := by
  have e1 := mul_abs_le (u := c - a) (v := y - b) (U := 1073741824) (V := 3221225472) (by omega) (by omega) (by omega) (by omega)
  have e2 := mul_abs_le (u := x - a) (v := d - b) (U := 3221225472) (V := 1073741824) (by omega) (by omega) (by omega) (by omega)
  unfold side det
  rw [IntWalk.wrap64_in (c - a) (by omega), IntWalk.wrap64_in (y - b) (by omega), IntWalk.wrap64_in (x - a) (by omega), IntWalk.wrap64_in (d - b) (by omega),
    IntWalk.wrap64_in ((c - a) * (y - b)) (by omega), IntWalk.wrap64_in ((x - a) * (d - b)) (by omega)]
  generalize (c - a) * (y - b) = m
  generalize (x - a) * (d - b) = n
  by_cases h1 : n < m
  · rw [if_pos h1, if_pos (by omega)]
  · by_cases h2 : m < n
    · rw [if_neg h1, if_pos h2, if_neg (by omega), if_pos (by omega)]
    · rw [if_neg h1, if_neg h2, if_neg (by omega), if_neg (by omega)]

theorem px_mem {l : List Pt} {j : Nat} (h : j < l.length) : (px l j, py l j) ∈ l := by
  unfold px py
  simp only [List.getD_eq_getElem?_getD, List.getElem?_eq_getElem h, Option.getD_some]
  exact List.getElem_mem h

/-- Which way an edge leads past a row: from its row or below to above it, or back. -/
def straddle (b d y : Int) : Bool := decide (b ≤ y) != decide (d ≤ y)
/-- An edge that lies right of a point crosses its row right of it just if it leads past it. -/
theorem cr_right {a b c d x y : Int} (h1 : 0 ≤ a ∧ a < 1073741824) (h2 : 0 ≤ b ∧ b < 1073741824) (h3 : 0 ≤ c ∧ c < 1073741824) (h4 : 0 ≤ d ∧ d < 1073741824)
    (hx : -2147483648 ≤ x ∧ x ≤ 2147483648) (hy : -2147483648 ≤ y ∧ y ≤ 2147483648) (ha : x < a) (hc : x < c) : crE a b c d x y = straddle b d y := by
  unfold crE straddle
  rw [side_plain h1 h2 h3 h4 hx hy]
  have hd := det_id a b c d x y
  by_cases k1 : b ≤ y
  · by_cases k2 : y < d
    · have p1 : 0 ≤ (c - x) * (y - b) := Int.mul_nonneg (by omega) (by omega)
      have p2 : 0 < (a - x) * (d - y) := Int.mul_pos (by omega) (by omega)
      rw [if_pos ⟨k1, k2⟩, if_pos (by omega)]
      simp [k1]; omega
    · rw [if_neg (by omega), if_neg (by omega)]
      simp [k1]; omega
  · by_cases k2 : d ≤ y
    · have p1 : 0 < (c - x) * (b - y) := Int.mul_pos (by omega) (by omega)
      have p2 : 0 ≤ (a - x) * (y - d) := Int.mul_nonneg (by omega) (by omega)
      have e1 : (c - x) * (y - b) = -((c - x) * (b - y)) := by rw [← Int.mul_neg]; congr 1; omega
      have e2 : (a - x) * (d - y) = -((a - x) * (y - d)) := by rw [← Int.mul_neg]; congr 1; omega
      rw [if_neg (by omega), if_pos (by omega), if_neg (by omega), if_pos (by omega)]
      simp [k1, k2]
    · rw [if_neg (by omega), if_neg (by omega)]
      simp [k1, k2]
/-- An edge that lies left of a point crosses nothing right of it. -/
theorem cr_left {a b c d x y : Int} (h1 : 0 ≤ a ∧ a < 1073741824) (h2 : 0 ≤ b ∧ b < 1073741824) (h3 : 0 ≤ c ∧ c < 1073741824) (h4 : 0 ≤ d ∧ d < 1073741824)
    (hx : -2147483648 ≤ x ∧ x ≤ 2147483648) (hy : -2147483648 ≤ y ∧ y ≤ 2147483648) (ha : a < x) (hc : c < x) : crE a b c d x y = false := by
  unfold crE
  rw [side_plain h1 h2 h3 h4 hx hy]
  have hd := det_id a b c d x y
  by_cases k1 : b ≤ y ∧ y < d
  · have p1 : 0 ≤ (x - c) * (y - b) := Int.mul_nonneg (by omega) (by omega)
    have p2 : 0 < (x - a) * (d - y) := Int.mul_pos (by omega) (by omega)
    have e1 : (c - x) * (y - b) = -((x - c) * (y - b)) := by rw [← Int.neg_mul]; congr 1; omega
    have e2 : (a - x) * (d - y) = -((x - a) * (d - y)) := by rw [← Int.neg_mul]; congr 1; omega
    rw [if_pos k1, if_neg (by omega), if_pos (by omega)]
    rfl
  · by_cases k2 : d ≤ y ∧ y < b
    · have p1 : 0 < (x - c) * (b - y) := Int.mul_pos (by omega) (by omega)
      have p2 : 0 ≤ (x - a) * (y - d) := Int.mul_nonneg (by omega) (by omega)
      have e1 : (c - x) * (y - b) = (x - c) * (b - y) := by rw [← Int.neg_mul_neg]; congr 1 <;> omega
      have e2 : (a - x) * (d - y) = (x - a) * (y - d) := by rw [← Int.neg_mul_neg]; congr 1 <;> omega
      rw [if_neg k1, if_pos k2, if_pos (by omega)]
      rfl
    · rw [if_neg k1, if_neg k2]

theorem on_far {a b c d x y : Int} (h : (x < a ∧ x < c) ∨ (a < x ∧ c < x) ∨ (y < b ∧ y < d) ∨ (b < y ∧ d < y)) : onE a b c d x y = false := by
  unfold onE btw
  simp only [Bool.and_eq_false_iff, decide_eq_false_iff_not, Int.not_le]
  omega

/-- Along a way that comes back the number of changes is even. -/
theorem odd_fold (f : Nat → Bool) : ∀ n, (List.range n).foldl (fun o i => o != (f i != f (i + 1))) false = (f 0 != f n)
  | 0 => by simp
  | n + 1 => by
    rw [List.range_succ, List.foldl_append, odd_fold f n]
    simp only [List.foldl_cons, List.foldl_nil]
    cases f 0 <;> cases f n <;> cases f (n + 1) <;> rfl
theorem foldl_congr {α : Type} (f g : Bool → α → Bool) : ∀ (l : List α) (s : Bool), (∀ x ∈ l, ∀ b, f b x = g b x) → l.foldl f s = l.foldl g s
  | [], _, _ => rfl
  | a :: l, s, h => by rw [List.foldl_cons, List.foldl_cons, h a (by simp)]; exact foldl_congr f g l _ fun x hx => h x (by simp [hx])
theorem crR_congr (l : List Pt) (x y : Int) (n : Nat) (g : Nat → Bool) (h : ∀ i, i < n → crEl l x y i = g i) : crR l x y n = (List.range n).foldl (fun o i => o != g i) false := by
  unfold crR
  exact foldl_congr _ _ _ _ fun i hi b => by rw [h i (by simpa using hi)]
theorem straddle_even (l : List Pt) (y : Int) (_h0 : 0 < l.length) : (List.range l.length).foldl (fun o i => o != straddle (py l i) (py l ((i + 1) % l.length)) y) false = false := by
  have h1 : (List.range l.length).foldl (fun o i => o != straddle (py l i) (py l ((i + 1) % l.length)) y) false = (List.range l.length).foldl (fun o i => o != ((fun k => decide (py l (k % l.length) ≤ y)) i != (fun k => decide (py l (k % l.length) ≤ y)) (i + 1))) false :=
    foldl_congr _ _ _ _ fun i hi b => by
      have hi : i < l.length := by simpa using hi
      simp only [straddle, Nat.mod_eq_of_lt hi]
  rw [h1, odd_fold (fun k => decide (py l (k % l.length) ≤ y))]
  have e : decide (py l (0 % l.length) ≤ y) = decide (py l (l.length % l.length) ≤ y) := by rw [decide_eq_decide, Nat.zero_mod, Nat.mod_self]
  show (decide (py l (0 % l.length) ≤ y) != decide (py l (l.length % l.length) ≤ y)) = false
  rw [e]
  cases decide (py l (l.length % l.length) ≤ y) <;> rfl
theorem fold_false (n : Nat) : (List.range n).foldl (fun o _ => o != false) false = false := by
  induction n with
  | zero => rfl
  | succ n ih => rw [List.range_succ, List.foldl_append, ih]; rfl

def AllIn (l : List Pt) : Prop := ∀ p ∈ l, InWorld p
theorem AllIn.at {l : List Pt} (h : AllIn l) {j : Nat} (hj : j < l.length) : (0 ≤ px l j ∧ px l j < 1073741824) ∧ (0 ≤ py l j ∧ py l j < 1073741824) := by
  have := h _ (px_mem hj)
  exact ⟨⟨this.1, this.2.1⟩, this.2.2⟩
theorem next_lt {n j : Nat} (h : j < n) : (j + 1) % n < n := Nat.mod_lt _ (by omega)
/-- A ring right of a point is crossed an even number of times. -/
theorem ring_right {l : List Pt} (hl : AllIn l) (h0 : 0 < l.length) {x y : Int} (hx : -2147483648 ≤ x ∧ x ≤ 2147483648) (hy : -2147483648 ≤ y ∧ y ≤ 2147483648) (h : ∀ p ∈ l, x < p.1) :
    crR l x y l.length = false ∧ onR l x y l.length = false := by
  constructor
  · rw [crR_congr l x y l.length (fun i => straddle (py l i) (py l ((i + 1) % l.length)) y) (fun i hi => by
      obtain ⟨h1, h2⟩ := hl.at hi
      obtain ⟨h3, h4⟩ := hl.at (next_lt hi)
      exact cr_right h1 h2 h3 h4 hx hy (h _ (px_mem hi)) (h _ (px_mem (next_lt hi))))]
    exact straddle_even l y h0
  · unfold onR
    rw [List.any_eq_false]
    intro i hi
    have hi : i < l.length := by simpa using hi
    unfold onEl
    rw [on_far (.inl ⟨h _ (px_mem hi), h _ (px_mem (next_lt hi))⟩)]
    simp
theorem ring_left {l : List Pt} (hl : AllIn l) {x y : Int} (hx : -2147483648 ≤ x ∧ x ≤ 2147483648) (hy : -2147483648 ≤ y ∧ y ≤ 2147483648) (h : ∀ p ∈ l, p.1 < x) :
    crR l x y l.length = false ∧ onR l x y l.length = false := by
  constructor
  · rw [crR_congr l x y l.length (fun _ => false) (fun i hi => by
      obtain ⟨h1, h2⟩ := hl.at hi
      obtain ⟨h3, h4⟩ := hl.at (next_lt hi)
      exact cr_left h1 h2 h3 h4 hx hy (h _ (px_mem hi)) (h _ (px_mem (next_lt hi))))]
    exact fold_false _
  · unfold onR
    rw [List.any_eq_false]
    intro i hi
    have hi : i < l.length := by simpa using hi
    unfold onEl
    rw [on_far (.inr (.inl ⟨h _ (px_mem hi), h _ (px_mem (next_lt hi))⟩))]
    simp

/-- A ring moved by whole steps. -/
def moved (dx dy : Int) (l : List Pt) : List Pt := l.map fun p => (p.1 + dx, p.2 + dy)
theorem moved_length (dx dy : Int) (l : List Pt) : (moved dx dy l).length = l.length := by simp [moved]
theorem moved_at (dx dy : Int) (l : List Pt) {j : Nat} (h : j < l.length) : px (moved dx dy l) j = px l j + dx ∧ py (moved dx dy l) j = py l j + dy := by
  unfold moved px py
  simp [List.getD_eq_getElem?_getD, h]
theorem det_moved (a b c d x y dx dy : Int) : det (a + dx) (b + dy) (c + dx) (d + dy) (x + dx) (y + dy) = det a b c d x y := by
  unfold det
  rw [show c + dx - (a + dx) = c - a by omega, show y + dy - (b + dy) = y - b by omega, show x + dx - (a + dx) = x - a by omega, show d + dy - (b + dy) = d - b by omega]
theorem edge_moved {a b c d x y dx dy : Int} (h1 : 0 ≤ a ∧ a < 1073741824) (h2 : 0 ≤ b ∧ b < 1073741824) (h3 : 0 ≤ c ∧ c < 1073741824) (h4 : 0 ≤ d ∧ d < 1073741824)
    (hx : -2147483648 ≤ x ∧ x ≤ 2147483648) (hy : -2147483648 ≤ y ∧ y ≤ 2147483648)
    (g1 : 0 ≤ a + dx ∧ a + dx < 1073741824) (g2 : 0 ≤ b + dy ∧ b + dy < 1073741824) (g3 : 0 ≤ c + dx ∧ c + dx < 1073741824) (g4 : 0 ≤ d + dy ∧ d + dy < 1073741824)
    (gx : -2147483648 ≤ x + dx ∧ x + dx ≤ 2147483648) (gy : -2147483648 ≤ y + dy ∧ y + dy ≤ 2147483648) :
    onE (a + dx) (b + dy) (c + dx) (d + dy) (x + dx) (y + dy) = onE a b c d x y ∧ crE (a + dx) (b + dy) (c + dx) (d + dy) (x + dx) (y + dy) = crE a b c d x y := by
  have hs : side (a + dx) (b + dy) (c + dx) (d + dy) (x + dx) (y + dy) = side a b c d x y := by rw [side_plain h1 h2 h3 h4 hx hy, side_plain g1 g2 g3 g4 gx gy, det_moved]
  constructor
  · unfold onE btw
    rw [hs]
    have e1 : decide (min (a + dx) (c + dx) ≤ x + dx) = decide (min a c ≤ x) := by rw [decide_eq_decide]; omega
    have e2 : decide (x + dx ≤ max (a + dx) (c + dx)) = decide (x ≤ max a c) := by rw [decide_eq_decide]; omega
    have e3 : decide (min (b + dy) (d + dy) ≤ y + dy) = decide (min b d ≤ y) := by rw [decide_eq_decide]; omega
    have e4 : decide (y + dy ≤ max (b + dy) (d + dy)) = decide (y ≤ max b d) := by rw [decide_eq_decide]; omega
    rw [e1, e2, e3, e4]
  · unfold crE
    rw [hs]
    by_cases k1 : b ≤ y ∧ y < d
    · rw [if_pos k1, if_pos (by omega)]
    · rw [if_neg k1, if_neg (by omega)]
      by_cases k2 : d ≤ y ∧ y < b
      · rw [if_pos k2, if_pos (by omega)]
      · rw [if_neg k2, if_neg (by omega)]
theorem ring_moved {l : List Pt} {dx dy x y : Int} (hl : AllIn l) (hm : AllIn (moved dx dy l)) (hx : -2147483648 ≤ x ∧ x ≤ 2147483648) (hy : -2147483648 ≤ y ∧ y ≤ 2147483648)
    (gx : -2147483648 ≤ x + dx ∧ x + dx ≤ 2147483648) (gy : -2147483648 ≤ y + dy ∧ y + dy ≤ 2147483648) :
    onR (moved dx dy l) (x + dx) (y + dy) l.length = onR l x y l.length ∧ crR (moved dx dy l) (x + dx) (y + dy) l.length = crR l x y l.length := by
  have hE : ∀ i, i < l.length → onEl (moved dx dy l) (x + dx) (y + dy) i = onEl l x y i ∧ crEl (moved dx dy l) (x + dx) (y + dy) i = crEl l x y i := fun i hi => by
    obtain ⟨h1, h2⟩ := hl.at hi
    obtain ⟨h3, h4⟩ := hl.at (next_lt hi)
    have hi' : i < (moved dx dy l).length := by rw [moved_length]; exact hi
    obtain ⟨g1, g2⟩ := hm.at hi'
    obtain ⟨g3, g4⟩ := hm.at (next_lt hi')
    rw [moved_length] at g3 g4
    rw [(moved_at dx dy l hi).1] at g1
    rw [(moved_at dx dy l hi).2] at g2
    rw [(moved_at dx dy l (next_lt hi)).1] at g3
    rw [(moved_at dx dy l (next_lt hi)).2] at g4
    unfold onEl crEl
    rw [moved_length, (moved_at dx dy l hi).1, (moved_at dx dy l hi).2, (moved_at dx dy l (next_lt hi)).1, (moved_at dx dy l (next_lt hi)).2]
    exact edge_moved h1 h2 h3 h4 hx hy g1 g2 g3 g4 gx gy
  constructor
  · unfold onR
    rw [Bool.eq_iff_iff, List.any_eq_true, List.any_eq_true]
    exact ⟨fun ⟨i, hi, h⟩ => ⟨i, hi, by rw [← (hE i (by simpa using hi)).1]; exact h⟩, fun ⟨i, hi, h⟩ => ⟨i, hi, by rw [(hE i (by simpa using hi)).1]; exact h⟩⟩
  · rw [crR_congr _ _ _ _ _ fun i hi => (hE i hi).2]
    rfl

/-- Rings that may be. -/
theorem totTo_bound (c : Nat) : ∀ (ls : List (List Pt)) (k : Nat), (∀ l ∈ ls, l.length ≤ c) → totTo ls k ≤ ls.length * c
  | [], k, _ => by simp [totTo]
  | l :: ls, 0, _ => by simp [totTo]
  | l :: ls, k + 1, h => by
    have ih := totTo_bound c ls k fun x hx => h x (by simp [hx])
    have h1 := h l (by simp)
    have e : totTo (l :: ls) (k + 1) = l.length + totTo ls k := by unfold totTo; simp
    rw [e, List.length_cons, Nat.add_mul]
    omega
theorem check_ok {ls : List (List Pt)} {c : Nat} (h0 : 0 < ls.length) (h1 : ls.length ≤ 20) (hc : ls.length * c ≤ 500) (hl : ∀ l ∈ ls, 3 ≤ l.length ∧ l.length ≤ c ∧ AllIn l) : checkF ls = 0 := by
  have hb := totTo_bound c ls ls.length fun l h => (hl l h).2.1
  have hs : shTo ls ls.length = false := by
    unfold shTo
    simp only [List.take_length, Bool.or_eq_false_iff, decide_eq_false_iff_not, List.any_eq_false, decide_eq_true_eq]
    exact ⟨by omega, fun l h => by have := (hl l h).1; omega⟩
  have ho : outTo ls ls.length = false := by
    unfold outTo
    simp only [List.take_length, List.any_eq_false]
    intro l h1 h2
    rw [List.any_eq_true] at h2
    obtain ⟨p, hp, h3⟩ := h2
    have := (hl l h1).2.2 p hp
    unfold InWorld at this
    unfold outP at h3
    simp only [Bool.or_eq_true, decide_eq_true_eq] at h3
    omega
  unfold checkF
  rw [if_neg (by omega), hs, ho]
  rfl
theorem near_ok {ls : List (List Pt)} {x y : Int} (h : checkF ls = 0) (hx : -2147483648 ≤ x ∧ x ≤ 2147483648) (hy : -2147483648 ≤ y ∧ y ≤ 2147483648) : nearF ls x y = true := by
  unfold nearF; simp [h, hx, hy]

/-! ### Rings together -/
def TameR' (size : Int) (l : List Pt) : Prop := ∀ p ∈ l, 500000 ≤ p.1 ∧ p.1 < 500000 + size ∧ 500000 ≤ p.2 ∧ p.2 < 500000 + size
theorem tame_in {size : Int} {l : List Pt} (h : TameR' size l) (hs : size ≤ 1000000) : AllIn l := fun p hp => by
  obtain ⟨h1, h2, h3, h4⟩ := h p hp
  exact ⟨by omega, by omega, by omega, by omega⟩
theorem one_on (l : List Pt) (x y : Int) : onTo [l] x y [l].length = onR l x y l.length := by simp [onTo]
theorem one_cr (l : List Pt) (x y : Int) : crTo [l] x y [l].length = crR l x y l.length := by simp [crTo]
theorem two_on (l m : List Pt) (x y : Int) : onTo [l, m] x y [l, m].length = (onR l x y l.length || onR m x y m.length) := by simp [onTo]
theorem two_cr (l m : List Pt) (x y : Int) : crTo [l, m] x y [l, m].length = (crR l x y l.length != crR m x y m.length) := by simp [crTo]

theorem together (a : List Pt) (h : TameR' 60 a) (h3 : 3 ≤ a.length) (h6 : a.length ≤ 6) (u v i : Int) (hu : 499999 ≤ u ∧ u ≤ 500060) (hv : 499999 ≤ v ∧ v ≤ 500060) (hi : i = 0 ∨ i = 1) :
    insideF [a, moved 1000 0 a] (u + 1000 * i) v = (insideF [a] (u + 1000 * i) v || insideF [moved 1000 0 a] (u + 1000 * i) v) ∧
    insideF [a, a] (u + 1000 * i) v = onF [a] (u + 1000 * i) v ∧ insideF [moved 1000 0 a] (u + 1000 * i) v = insideF [a] (u + 1000 * i - 1000) v := by
  have ha := tame_in h (by omega)
  have hb : AllIn (moved 1000 0 a) := fun p hp => by
    unfold moved at hp
    obtain ⟨q, hq, rfl⟩ := List.mem_map.1 hp
    obtain ⟨g1, g2, g3, g4⟩ := h q hq
    exact ⟨by show 0 ≤ q.1 + 1000; omega, by show q.1 + 1000 < _; omega, by show 0 ≤ q.2 + 0; omega, by show q.2 + 0 < _; omega⟩
  have hbl := moved_length 1000 0 a
  have c1 : checkF [a] = 0 := check_ok (c := 6) (by simp) (by simp) (by simp) (by simp; exact ⟨h3, h6, ha⟩)
  have c2 : checkF [moved 1000 0 a] = 0 := check_ok (c := 6) (by simp) (by simp) (by simp) (by simp [hbl]; exact ⟨h3, h6, hb⟩)
  have c3 : checkF [a, moved 1000 0 a] = 0 := check_ok (c := 6) (by simp) (by simp) (by simp) (by simp [hbl]; exact ⟨⟨h3, h6, ha⟩, h3, h6, hb⟩)
  have c4 : checkF [a, a] = 0 := check_ok (c := 6) (by simp) (by simp) (by simp) (by simp; exact ⟨h3, h6, ha⟩)
  have hy : -2147483648 ≤ v ∧ v ≤ 2147483648 := by omega
  have hx : -2147483648 ≤ u + 1000 * i ∧ u + 1000 * i ≤ 2147483648 := by omega
  have hx' : -2147483648 ≤ u + 1000 * i - 1000 ∧ u + 1000 * i - 1000 ≤ 2147483648 := by omega
  have hm := ring_moved ha hb hx' hy (by omega) (by omega)
  rw [show u + 1000 * i - 1000 + 1000 = u + 1000 * i by omega, show v + 0 = v by omega] at hm
  unfold insideF onF
  rw [near_ok c1 hx hy, near_ok c1 hx' hy, near_ok c2 hx hy, near_ok c3 hx hy, near_ok c4 hx hy, one_on, one_on, one_cr, one_cr, one_on, one_cr, two_on, two_on, two_cr, two_cr, hbl, hm.1, hm.2]
  refine ⟨?_, ?_, rfl⟩
  · rcases hi with rfl | rfl
    · have := ring_right (l := moved 1000 0 a) hb (by omega) hx hy (fun p hp => by
        unfold moved at hp
        obtain ⟨q, hq, rfl⟩ := List.mem_map.1 hp
        have := (h q hq).1
        show _ < q.1 + 1000
        omega)
      rw [hbl, hm.1, hm.2] at this
      rw [this.1, this.2]
      cases onR a (u + 1000 * 0) v a.length <;> cases crR a (u + 1000 * 0) v a.length <;> rfl
    · have := ring_left (l := a) ha hx hy (fun p hp => by have := (h p hp).2.1; omega)
      rw [this.1, this.2]
      simp
  · cases onR a (u + 1000 * i) v a.length <;> cases crR a (u + 1000 * i) v a.length <;> rfl
end Go.Proofs.YtpkoapmpknbgoaaGreat.Po
/- The plain law on triangles: which points are on one side of all edges. -/
namespace Go.Proofs.YtpkoapmpknbgoaaGreat.Po

namespace Tri
def cx (a b c d : Int) : Int := a * d - c * b
theorem bary_v (u1 v1 u2 v2 u3 v3 : Int) : cx u2 v2 u3 v3 * v1 + cx u3 v3 u1 v1 * v2 + cx u1 v1 u2 v2 * v3 = 0 := by
  unfold cx; simp only [Int.mul_sub, Int.mul_left_comm, Int.mul_comm]; omega
theorem bary_u (u1 v1 u2 v2 u3 v3 : Int) : cx u2 v2 u3 v3 * u1 + cx u3 v3 u1 v1 * u2 + cx u1 v1 u2 v2 * u3 = 0 := by
  unfold cx; simp only [Int.mul_sub, Int.mul_left_comm, Int.mul_comm]; omega
theorem pp {a b : Int} (h1 : 0 < a) (h2 : 0 < b) : 0 < a * b := Int.mul_pos h1 h2
theorem pn {a b : Int} (h1 : 0 < a) (h2 : b < 0) : a * b < 0 := Int.mul_neg_of_pos_of_neg h1 h2
theorem np {a b : Int} (h1 : a < 0) (h2 : 0 < b) : a * b < 0 := Int.mul_neg_of_neg_of_pos h1 h2
theorem nn {a b : Int} (h1 : a < 0) (h2 : b < 0) : 0 < a * b := Int.mul_pos_of_neg_of_neg h1 h2
/-- The sign of a product. -/
theorem sg (a b : Int) : (0 < a ∧ 0 < b ∧ 0 < a * b) ∨ (0 < a ∧ b < 0 ∧ a * b < 0) ∨ (a < 0 ∧ 0 < b ∧ a * b < 0) ∨ (a < 0 ∧ b < 0 ∧ 0 < a * b) ∨ (a = 0 ∧ a * b = 0) ∨ (b = 0 ∧ a * b = 0) := by
  rcases Int.lt_trichotomy a 0 with h | h | h
  · rcases Int.lt_trichotomy b 0 with g | g | g
    · exact .inr (.inr (.inr (.inl ⟨h, g, nn h g⟩)))
    · subst g; simp
    · exact .inr (.inr (.inl ⟨h, g, np h g⟩))
  · subst h; simp
  · rcases Int.lt_trichotomy b 0 with g | g | g
    · exact .inr (.inl ⟨h, g, pn h g⟩)
    · subst g; simp
    · exact .inl ⟨h, g, pp h g⟩
def On (a b c d : Int) : Prop := (a ≤ 0 ∨ c ≤ 0) ∧ (0 ≤ a ∨ 0 ≤ c) ∧ (b ≤ 0 ∨ d ≤ 0) ∧ (0 ≤ b ∨ 0 ≤ d) ∧ cx a b c d = 0
def Cr (a b c d : Int) : Prop := (b ≤ 0 ∧ 0 < d ∧ 0 < cx a b c d) ∨ (d ≤ 0 ∧ 0 < b ∧ cx a b c d < 0)
/-- An edge through the row with the point on its line has the point on it. -/
theorem on_zero {a b c d : Int} (h : cx a b c d = 0) (hs : (b ≤ 0 ∧ 0 < d) ∨ (d ≤ 0 ∧ 0 < b)) : On a b c d := by
  have h' := h
  unfold cx at h'
  refine ⟨?_, ?_, by omega, by omega, h⟩
  · rcases sg a d with h1 | h1 | h1 | h1 | h1 | h1 <;> rcases sg c b with h2 | h2 | h2 | h2 | h2 | h2 <;> omega
  · rcases sg a d with h1 | h1 | h1 | h1 | h1 | h1 <;> rcases sg c b with h2 | h2 | h2 | h2 | h2 | h2 <;> omega
/-- Who lies on an edge is on one side of all. -/
theorem on_one {u1 v1 u2 v2 u3 v3 : Int} (h : On u1 v1 u2 v2) :
    ¬ (0 < cx u2 v2 u3 v3 ∧ cx u3 v3 u1 v1 < 0) ∧ ¬ (cx u2 v2 u3 v3 < 0 ∧ 0 < cx u3 v3 u1 v1) := by
  obtain ⟨h1, h2, h3, h4, h5⟩ := h
  have hv := bary_v u1 v1 u2 v2 u3 v3
  have hu := bary_u u1 v1 u2 v2 u3 v3
  rw [h5] at hv hu
  have hz : ∀ p q : Int, p = 0 → q = 0 → cx p q u3 v3 = 0 := fun p q e1 e2 => by unfold cx; rw [e1, e2]; simp
  have hz2 : u2 = 0 → v2 = 0 → cx u2 v2 u3 v3 = 0 := fun e1 e2 => hz _ _ e1 e2
  generalize cx u2 v2 u3 v3 = D2 at *
  generalize cx u3 v3 u1 v1 = D3 at *
  rw [Int.zero_mul] at hv hu
  constructor
  · rintro ⟨g1, g2⟩
    have e1 : u2 = 0 := by
      rcases sg D2 u1 with k | k | k | k | k | k <;> rcases sg D3 u2 with m | m | m | m | m | m <;> omega
    have e2 : v2 = 0 := by
      rcases sg D2 v1 with k | k | k | k | k | k <;> rcases sg D3 v2 with m | m | m | m | m | m <;> omega
    have := hz2 e1 e2
    omega
  · rintro ⟨g1, g2⟩
    have e1 : u2 = 0 := by
      rcases sg D2 u1 with k | k | k | k | k | k <;> rcases sg D3 u2 with m | m | m | m | m | m <;> omega
    have e2 : v2 = 0 := by
      rcases sg D2 v1 with k | k | k | k | k | k <;> rcases sg D3 v2 with m | m | m | m | m | m <;> omega
    have := hz2 e1 e2
    omega

def One (a b c : Int) : Prop := (0 ≤ a ∧ 0 ≤ b ∧ 0 ≤ c) ∨ (a ≤ 0 ∧ b ≤ 0 ∧ c ≤ 0)
instance (a b c : Int) : Decidable (One a b c) := by unfold One; infer_instance
def Odd (p q r : Prop) : Prop := (p ∧ q ∧ r) ∨ (p ∧ ¬ q ∧ ¬ r) ∨ (¬ p ∧ q ∧ ¬ r) ∨ (¬ p ∧ ¬ q ∧ r)
def Law (u1 v1 u2 v2 u3 v3 : Int) : Prop :=
  (cx u1 v1 u2 v2 + cx u2 v2 u3 v3 + cx u3 v3 u1 v1 ≠ 0 → ((On u1 v1 u2 v2 ∨ On u2 v2 u3 v3 ∨ On u3 v3 u1 v1 ∨ Odd (Cr u1 v1 u2 v2) (Cr u2 v2 u3 v3) (Cr u3 v3 u1 v1)) ↔ One (cx u1 v1 u2 v2) (cx u2 v2 u3 v3) (cx u3 v3 u1 v1))) ∧
  (cx u1 v1 u2 v2 + cx u2 v2 u3 v3 + cx u3 v3 u1 v1 = 0 → Odd (Cr u1 v1 u2 v2) (Cr u2 v2 u3 v3) (Cr u3 v3 u1 v1) → On u1 v1 u2 v2 ∨ On u2 v2 u3 v3 ∨ On u3 v3 u1 v1)
theorem Odd.rot {p q r : Prop} : Odd q r p ↔ Odd p q r := by
  unfold Odd
  by_cases h1 : p <;> by_cases h2 : q <;> by_cases h3 : r <;> simp [h1, h2, h3]
theorem One.rot {a b c : Int} : One b c a ↔ One a b c := by unfold One; omega
theorem Law.rot {u1 v1 u2 v2 u3 v3 : Int} (h : Law u2 v2 u3 v3 u1 v1) : Law u1 v1 u2 v2 u3 v3 := by
  obtain ⟨h1, h2⟩ := h
  refine ⟨fun g => ?_, fun g k => ?_⟩
  · have := h1 (by omega)
    rw [← One.rot, ← this, Odd.rot.symm]
    constructor
    · rintro (h | h | h | h)
      · exact .inr (.inr (.inl h))
      · exact .inl h
      · exact .inr (.inl h)
      · exact .inr (.inr (.inr h))
    · rintro (h | h | h | h)
      · exact .inr (.inl h)
      · exact .inr (.inr (.inl h))
      · exact .inl h
      · exact .inr (.inr (.inr h))
  · rcases h2 (by omega) (Odd.rot.2 k) with h | h | h
    · exact .inr (.inl h)
    · exact .inr (.inr h)
    · exact .inl h

theorem all_above {u1 v1 u2 v2 u3 v3 : Int} (h1 : 0 < v1) (h2 : 0 < v2) (h3 : 0 < v3) : Law u1 v1 u2 v2 u3 v3 := by
  have hv := bary_v u1 v1 u2 v2 u3 v3
  have n1 : ¬ On u1 v1 u2 v2 := fun h => by have := h.2.2.1; omega
  have n2 : ¬ On u2 v2 u3 v3 := fun h => by have := h.2.2.1; omega
  have n3 : ¬ On u3 v3 u1 v1 := fun h => by have := h.2.2.1; omega
  have c1 : ¬ Cr u1 v1 u2 v2 := fun h => by unfold Cr at h; omega
  have c2 : ¬ Cr u2 v2 u3 v3 := fun h => by unfold Cr at h; omega
  have c3 : ¬ Cr u3 v3 u1 v1 := fun h => by unfold Cr at h; omega
  have hodd : ¬ Odd (Cr u1 v1 u2 v2) (Cr u2 v2 u3 v3) (Cr u3 v3 u1 v1) := by unfold Odd; simp [c1, c2, c3]
  refine ⟨fun g => ⟨fun k => ?_, fun k => ?_⟩, fun g k => (hodd k).elim⟩
  · rcases k with k | k | k | k
    · exact (n1 k).elim
    · exact (n2 k).elim
    · exact (n3 k).elim
    · exact (hodd k).elim
  · exfalso
    unfold One at k
    clear n1 n2 n3 c1 c2 c3 hodd
    generalize cx u1 v1 u2 v2 = D1 at *
    generalize cx u2 v2 u3 v3 = D2 at *
    generalize cx u3 v3 u1 v1 = D3 at *
    rcases k with ⟨k1, k2, k3⟩ | ⟨k1, k2, k3⟩
    · have a : 0 ≤ D2 * v1 ∧ (D2 * v1 = 0 → D2 = 0) := by have := sg D2 v1; omega
      have b : 0 ≤ D3 * v2 ∧ (D3 * v2 = 0 → D3 = 0) := by have := sg D3 v2; omega
      have c : 0 ≤ D1 * v3 ∧ (D1 * v3 = 0 → D1 = 0) := by have := sg D1 v3; omega
      have := a.2 (by omega); have := b.2 (by omega); have := c.2 (by omega)
      omega
    · have a : D2 * v1 ≤ 0 ∧ (D2 * v1 = 0 → D2 = 0) := by have := sg D2 v1; omega
      have b : D3 * v2 ≤ 0 ∧ (D3 * v2 = 0 → D3 = 0) := by have := sg D3 v2; omega
      have c : D1 * v3 ≤ 0 ∧ (D1 * v3 = 0 → D1 = 0) := by have := sg D1 v3; omega
      have := a.2 (by omega); have := b.2 (by omega); have := c.2 (by omega)
      omega

/-- A corner on the row, the others not above it. -/
theorem corner {u1 v1 u2 v2 u3 : Int} (h1 : v1 ≤ 0) (h2 : v2 ≤ 0) (hD : (0 < cx u1 v1 u2 v2 ∧ 0 ≤ cx u2 v2 u3 0 ∧ 0 ≤ cx u3 0 u1 v1) ∨ (cx u1 v1 u2 v2 < 0 ∧ cx u2 v2 u3 0 ≤ 0 ∧ cx u3 0 u1 v1 ≤ 0)) :
    On u2 v2 u3 0 ∨ On u3 0 u1 v1 := by
  unfold On
  unfold cx at *
  simp only [Int.mul_zero, Int.zero_sub, Int.sub_zero] at *
  rcases sg u3 v2 with a | a | a | a | a | a <;> rcases sg u3 v1 with b | b | b | b | b | b <;> first
    | omega
    | (rcases sg u1 v2 with c | c | c | c | c | c <;> rcases sg u2 v1 with d | d | d | d | d | d <;> omega)

theorem none_above {u1 v1 u2 v2 u3 v3 : Int} (h1 : v1 ≤ 0) (h2 : v2 ≤ 0) (h3 : v3 ≤ 0) : Law u1 v1 u2 v2 u3 v3 := by
  have hv := bary_v u1 v1 u2 v2 u3 v3
  have c1 : ¬ Cr u1 v1 u2 v2 := by unfold Cr; omega
  have c2 : ¬ Cr u2 v2 u3 v3 := by unfold Cr; omega
  have c3 : ¬ Cr u3 v3 u1 v1 := by unfold Cr; omega
  have hodd : ¬ Odd (Cr u1 v1 u2 v2) (Cr u2 v2 u3 v3) (Cr u3 v3 u1 v1) := by unfold Odd; simp [c1, c2, c3]
  refine ⟨fun g => ⟨fun k => ?_, fun k => ?_⟩, fun _ k => (hodd k).elim⟩
  · rcases k with k | k | k | k
    · have := on_one (u3 := u3) (v3 := v3) k; have := k.2.2.2.2; unfold One; omega
    · have := on_one (u3 := u1) (v3 := v1) k; have := k.2.2.2.2; unfold One; omega
    · have := on_one (u3 := u2) (v3 := v2) k; have := k.2.2.2.2; unfold One; omega
    · exact (hodd k).elim
  · have hz : (cx u1 v1 u2 v2 ≠ 0 → v3 = 0) ∧ (cx u2 v2 u3 v3 ≠ 0 → v1 = 0) ∧ (cx u3 v3 u1 v1 ≠ 0 → v2 = 0) := by
      unfold One at k
      generalize cx u1 v1 u2 v2 = D1 at *
      generalize cx u2 v2 u3 v3 = D2 at *
      generalize cx u3 v3 u1 v1 = D3 at *
      clear c1 c2 c3 hodd
      rcases k with k | k
      · have a : D2 * v1 ≤ 0 ∧ (D2 * v1 = 0 → D2 ≠ 0 → v1 = 0) := by have := sg D2 v1; omega
        have b : D3 * v2 ≤ 0 ∧ (D3 * v2 = 0 → D3 ≠ 0 → v2 = 0) := by have := sg D3 v2; omega
        have c : D1 * v3 ≤ 0 ∧ (D1 * v3 = 0 → D1 ≠ 0 → v3 = 0) := by have := sg D1 v3; omega
        omega
      · have a : 0 ≤ D2 * v1 ∧ (D2 * v1 = 0 → D2 ≠ 0 → v1 = 0) := by have := sg D2 v1; omega
        have b : 0 ≤ D3 * v2 ∧ (D3 * v2 = 0 → D3 ≠ 0 → v2 = 0) := by have := sg D3 v2; omega
        have c : 0 ≤ D1 * v3 ∧ (D1 * v3 = 0 → D1 ≠ 0 → v3 = 0) := by have := sg D1 v3; omega
        omega
    unfold One at k
    by_cases g1 : cx u1 v1 u2 v2 = 0
    · by_cases g2 : cx u2 v2 u3 v3 = 0
      · have g3 : cx u3 v3 u1 v1 ≠ 0 := by omega
        obtain rfl := hz.2.2 g3
        rcases corner (u1 := u3) (v1 := v3) (u2 := u1) (v2 := v1) (u3 := u2) h3 h1 (by omega) with h | h
        · exact .inl h
        · exact .inr (.inl h)
      · obtain rfl := hz.2.1 g2
        rcases corner (u1 := u2) (v1 := v2) (u2 := u3) (v2 := v3) (u3 := u1) h2 h3 (by omega) with h | h
        · exact .inr (.inr (.inl h))
        · exact .inl h
    · obtain rfl := hz.1 g1
      rcases corner (u1 := u1) (v1 := v1) (u2 := u2) (v2 := v2) (u3 := u3) h1 h2 (by omega) with h | h
      · exact .inr (.inl h)
      · exact .inr (.inr (.inl h))

/-- One corner alone above the row. -/
theorem one_above {u1 v1 u2 v2 u3 v3 : Int} (h1 : 0 < v1) (h2 : v2 ≤ 0) (h3 : v3 ≤ 0) : Law u1 v1 u2 v2 u3 v3 := by
  have hv := bary_v u1 v1 u2 v2 u3 v3
  have E1 : cx u1 v1 u2 v2 = 0 → On u1 v1 u2 v2 := fun h => on_zero h (by omega)
  have E3 : cx u3 v3 u1 v1 = 0 → On u3 v3 u1 v1 := fun h => on_zero h (by omega)
  have F : (0 ≤ cx u1 v1 u2 v2 → 0 ≤ cx u3 v3 u1 v1 → 0 ≤ cx u2 v2 u3 v3) ∧ (cx u1 v1 u2 v2 ≤ 0 → cx u3 v3 u1 v1 ≤ 0 → cx u2 v2 u3 v3 ≤ 0) := by
    generalize cx u1 v1 u2 v2 = D1 at *
    generalize cx u2 v2 u3 v3 = D2 at *
    generalize cx u3 v3 u1 v1 = D3 at *
    clear E1 E3
    refine ⟨fun g k => ?_, fun g k => ?_⟩
    · have b : D3 * v2 ≤ 0 := by have := sg D3 v2; omega
      have c : D1 * v3 ≤ 0 := by have := sg D1 v3; omega
      have a := sg D2 v1
      omega
    · have b : 0 ≤ D3 * v2 := by have := sg D3 v2; omega
      have c : 0 ≤ D1 * v3 := by have := sg D1 v3; omega
      have a := sg D2 v1
      omega
  have G : cx u1 v1 u2 v2 ≠ 0 → cx u3 v3 u1 v1 ≠ 0 → On u2 v2 u3 v3 → ¬ ((0 < cx u1 v1 u2 v2 ∧ cx u3 v3 u1 v1 < 0) ∨ (cx u1 v1 u2 v2 < 0 ∧ 0 < cx u3 v3 u1 v1)) := by
    intro g1 g3 ho hm
    have ho1 := on_one (u3 := u1) (v3 := v1) ho
    omega
  have c1 : Cr u1 v1 u2 v2 ↔ cx u1 v1 u2 v2 < 0 := by unfold Cr; omega
  have c2 : ¬ Cr u2 v2 u3 v3 := by unfold Cr; omega
  have c3 : Cr u3 v3 u1 v1 ↔ 0 < cx u3 v3 u1 v1 := by unfold Cr; omega
  have h5 : On u2 v2 u3 v3 → cx u2 v2 u3 v3 = 0 := fun h => h.2.2.2.2
  have h6 : On u1 v1 u2 v2 → cx u1 v1 u2 v2 = 0 := fun h => h.2.2.2.2
  have h7 : On u3 v3 u1 v1 → cx u3 v3 u1 v1 = 0 := fun h => h.2.2.2.2
  unfold Law Odd One
  rw [c1, c3]
  generalize cx u1 v1 u2 v2 = D1 at *
  generalize cx u2 v2 u3 v3 = D2 at *
  generalize cx u3 v3 u1 v1 = D3 at *
  generalize On u1 v1 u2 v2 = O1 at *
  generalize On u2 v2 u3 v3 = O2 at *
  generalize On u3 v3 u1 v1 = O3 at *
  generalize Cr u2 v2 u3 v3 = C2 at *
  clear hv c1 c3
  by_cases k1 : O1 <;> by_cases k2 : O2 <;> by_cases k3 : O3 <;> simp only [k1, k2, k3, c2, true_or, or_true, false_or, or_false, true_iff, false_and, and_false, not_false_eq_true, true_and, and_true, forall_const, imp_false, implies_true, false_implies] at * <;> omega

/-- One corner alone not above the row. -/
theorem one_below {u1 v1 u2 v2 u3 v3 : Int} (h1 : v1 ≤ 0) (h2 : 0 < v2) (h3 : 0 < v3) : Law u1 v1 u2 v2 u3 v3 := by
  have hv := bary_v u1 v1 u2 v2 u3 v3
  have E1 : cx u1 v1 u2 v2 = 0 → On u1 v1 u2 v2 := fun h => on_zero h (by omega)
  have E3 : cx u3 v3 u1 v1 = 0 → On u3 v3 u1 v1 := fun h => on_zero h (by omega)
  have F : (0 ≤ cx u1 v1 u2 v2 → 0 ≤ cx u3 v3 u1 v1 → 0 < cx u1 v1 u2 v2 ∨ 0 < cx u3 v3 u1 v1 → 0 < cx u2 v2 u3 v3) ∧
      (cx u1 v1 u2 v2 ≤ 0 → cx u3 v3 u1 v1 ≤ 0 → cx u1 v1 u2 v2 < 0 ∨ cx u3 v3 u1 v1 < 0 → cx u2 v2 u3 v3 < 0) := by
    generalize cx u1 v1 u2 v2 = D1 at *
    generalize cx u2 v2 u3 v3 = D2 at *
    generalize cx u3 v3 u1 v1 = D3 at *
    clear E1 E3
    refine ⟨fun g k j => ?_, fun g k j => ?_⟩
    · have b : 0 ≤ D3 * v2 ∧ (D3 * v2 = 0 → D3 = 0) := by have := sg D3 v2; omega
      have c : 0 ≤ D1 * v3 ∧ (D1 * v3 = 0 → D1 = 0) := by have := sg D1 v3; omega
      have a := sg D2 v1
      omega
    · have b : D3 * v2 ≤ 0 ∧ (D3 * v2 = 0 → D3 = 0) := by have := sg D3 v2; omega
      have c : D1 * v3 ≤ 0 ∧ (D1 * v3 = 0 → D1 = 0) := by have := sg D1 v3; omega
      have a := sg D2 v1
      omega
  have c1 : Cr u1 v1 u2 v2 ↔ 0 < cx u1 v1 u2 v2 := by unfold Cr; omega
  have c2 : ¬ Cr u2 v2 u3 v3 := by unfold Cr; omega
  have c3 : Cr u3 v3 u1 v1 ↔ cx u3 v3 u1 v1 < 0 := by unfold Cr; omega
  have k2 : ¬ On u2 v2 u3 v3 := by unfold On; omega
  have h6 : On u1 v1 u2 v2 → cx u1 v1 u2 v2 = 0 := fun h => h.2.2.2.2
  have h7 : On u3 v3 u1 v1 → cx u3 v3 u1 v1 = 0 := fun h => h.2.2.2.2
  unfold Law Odd One
  rw [c1, c3]
  generalize cx u1 v1 u2 v2 = D1 at *
  generalize cx u2 v2 u3 v3 = D2 at *
  generalize cx u3 v3 u1 v1 = D3 at *
  generalize On u1 v1 u2 v2 = O1 at *
  generalize On u2 v2 u3 v3 = O2 at *
  generalize On u3 v3 u1 v1 = O3 at *
  generalize Cr u2 v2 u3 v3 = C2 at *
  clear hv c1 c3
  by_cases k1 : O1 <;> by_cases k3 : O3 <;> simp only [k1, k2, k3, c2, true_or, or_true, false_or, or_false, true_iff, false_and, and_false, not_false_eq_true, true_and, and_true, forall_const, imp_false, implies_true, false_implies] at * <;> omega

theorem law (u1 v1 u2 v2 u3 v3 : Int) : Law u1 v1 u2 v2 u3 v3 := by
  by_cases h1 : 0 < v1 <;> by_cases h2 : 0 < v2 <;> by_cases h3 : 0 < v3
  · exact all_above h1 h2 h3
  · exact Law.rot (Law.rot (one_below (by omega) h1 h2))
  · exact Law.rot (one_below (by omega) h3 h1)
  · exact one_above h1 (by omega) (by omega)
  · exact one_below (by omega) h2 h3
  · exact Law.rot (one_above h2 (by omega) (by omega))
  · exact Law.rot (Law.rot (one_above h3 (by omega) (by omega)))
  · exact none_above (by omega) (by omega) (by omega)
end Tri
open Go.RowKit
theorem On_iff {a b c d x y : Int} (h1 : 0 ≤ a ∧ a ≤ 63) (h2 : 0 ≤ b ∧ b ≤ 63) (h3 : 0 ≤ c ∧ c ≤ 63) (h4 : 0 ≤ d ∧ d ≤ 63) (hx : -30 ≤ x ∧ x ≤ 97) (hy : -30 ≤ y ∧ y ≤ 97) :
    (onE a b c d x y = true ↔ Tri.On (a - x) (b - y) (c - x) (d - y)) ∧ (crE a b c d x y = true ↔ Tri.Cr (a - x) (b - y) (c - x) (d - y)) := by
  have e : Tri.cx (a - x) (b - y) (c - x) (d - y) = det a b c d x y := by
    unfold Tri.cx det; simp only [Int.mul_sub, Int.mul_comm]; omega
  unfold onE btw crE Tri.On Tri.Cr
  rw [e, side_plain (by omega) (by omega) (by omega) (by omega) (by omega) (by omega)]
  generalize det a b c d x y = D
  constructor
  · simp only [Bool.and_eq_true, decide_eq_true_eq, beq_iff_eq]
    split
    · omega
    · split <;> omega
  · split
    · simp only [decide_eq_true_eq]; split <;> try split
      all_goals omega
    · split
      · simp only [decide_eq_true_eq]; split <;> try split
        all_goals omega
      · simp; omega

/-- The three corners as a ring. -/
def tri (A B C D E F : Int) : List Pt := [(A, B), (C, D), (E, F)]
def crs (a b c d x y : Int) : Int := (c - a) * (y - b) - (d - b) * (x - a)
theorem crs_bound {a b c d x y : Int} (h1 : 0 ≤ a ∧ a ≤ 63) (h2 : 0 ≤ b ∧ b ≤ 63) (h3 : 0 ≤ c ∧ c ≤ 63) (h4 : 0 ≤ d ∧ d ≤ 63) (hx : -30 ≤ x ∧ x ≤ 97) (hy : -30 ≤ y ∧ y ≤ 97) :
    -6300 ≤ (c - a) * (y - b) ∧ (c - a) * (y - b) ≤ 6300 ∧ -6300 ≤ (d - b) * (x - a) ∧ (d - b) * (x - a) ≤ 6300 := by
  have e1 := mul_abs_le (u := c - a) (v := y - b) (U := 63) (V := 100) (by omega) (by omega) (by omega) (by omega)
  have e2 := mul_abs_le (u := d - b) (v := x - a) (U := 63) (V := 100) (by omega) (by omega) (by omega) (by omega)
  omega
theorem tri_check {A B C D E F : Int} (hA : 0 ≤ A ∧ A ≤ 63) (hB : 0 ≤ B ∧ B ≤ 63) (hC : 0 ≤ C ∧ C ≤ 63) (hD : 0 ≤ D ∧ D ≤ 63) (hE : 0 ≤ E ∧ E ≤ 63) (hF : 0 ≤ F ∧ F ≤ 63) : checkF [tri A B C D E F] = 0 :=
  check_ok (c := 3) (by simp) (by simp) (by simp) (by
    intro l hl
    simp only [List.mem_singleton] at hl
    subst hl
    refine ⟨by simp [tri], by simp [tri], fun p hp => ?_⟩
    simp only [tri, List.mem_cons, List.not_mem_nil, or_false] at hp
    rcases hp with rfl | rfl | rfl <;> refine ⟨?_, ?_, ?_, ?_⟩ <;> dsimp only <;> omega)
theorem tri_area {A B C D E F : Int} (hA : 0 ≤ A ∧ A ≤ 63) (hB : 0 ≤ B ∧ B ≤ 63) (hC : 0 ≤ C ∧ C ≤ 63) (hD : 0 ≤ D ∧ D ≤ 63) (hE : 0 ≤ E ∧ E ≤ 63) (hF : 0 ≤ F ∧ F ≤ 63) (x y : Int) :
    area2F (tri A B C D E F) = crs A B C D x y + crs C D E F x y + crs E F A B x y := by
  unfold area2F
  rw [if_pos (tri_check hA hB hC hD hE hF)]
  show stepA _ (stepA _ (stepA _ 0 0) 1) 2 = _
  unfold stepA
  simp only [show (tri A B C D E F).length = 3 from rfl]
  show wrap64 (wrap64 (wrap64 (0 + wrap64 (wrap64 (A * D) - wrap64 (C * B))) + wrap64 (wrap64 (C * F) - wrap64 (E * D))) + wrap64 (wrap64 (E * B) - wrap64 (A * F))) = _
  have m1 := mul_abs_le (u := A) (v := D) (U := 63) (V := 63) (by omega) (by omega) (by omega) (by omega)
  have m2 := mul_abs_le (u := C) (v := B) (U := 63) (V := 63) (by omega) (by omega) (by omega) (by omega)
  have m3 := mul_abs_le (u := C) (v := F) (U := 63) (V := 63) (by omega) (by omega) (by omega) (by omega)
  have m4 := mul_abs_le (u := E) (v := D) (U := 63) (V := 63) (by omega) (by omega) (by omega) (by omega)
  have m5 := mul_abs_le (u := E) (v := B) (U := 63) (V := 63) (by omega) (by omega) (by omega) (by omega)
  have m6 := mul_abs_le (u := A) (v := F) (U := 63) (V := 63) (by omega) (by omega) (by omega) (by omega)
  have e : crs A B C D x y + crs C D E F x y + crs E F A B x y = A * D - C * B + (C * F - E * D) + (E * B - A * F) := by
    unfold crs; simp only [Int.mul_sub, Int.mul_comm]; omega
  rw [e]
  generalize A * D = n1 at *
  generalize C * B = n2 at *
  generalize C * F = n3 at *
  generalize E * D = n4 at *
  generalize E * B = n5 at *
  generalize A * F = n6 at *
  rw [IntWalk.wrap64_in n1 (by omega), IntWalk.wrap64_in n2 (by omega), IntWalk.wrap64_in n3 (by omega), IntWalk.wrap64_in n4 (by omega), IntWalk.wrap64_in n5 (by omega), IntWalk.wrap64_in n6 (by omega),
    IntWalk.wrap64_in (n1 - n2) (by omega), IntWalk.wrap64_in (n3 - n4) (by omega), IntWalk.wrap64_in (n5 - n6) (by omega), Int.zero_add, IntWalk.wrap64_in (n1 - n2) (by omega), IntWalk.wrap64_in (n1 - n2 + (n3 - n4)) (by omega), IntWalk.wrap64_in (n1 - n2 + (n3 - n4) + (n5 - n6)) (by omega)]
/-- What the law asks. -/
theorem tri_law {A B C D E F x y : Int} (hA : 0 ≤ A ∧ A ≤ 63) (hB : 0 ≤ B ∧ B ≤ 63) (hC : 0 ≤ C ∧ C ≤ 63) (hD : 0 ≤ D ∧ D ≤ 63) (hE : 0 ≤ E ∧ E ≤ 63) (hF : 0 ≤ F ∧ F ≤ 63)
    (hx : -30 ≤ x ∧ x ≤ 97) (hy : -30 ≤ y ∧ y ≤ 97) :
    (area2F (tri A B C D E F) = 0 → insideF [tri A B C D E F] x y = onF [tri A B C D E F] x y) ∧
    (area2F (tri A B C D E F) ≠ 0 → insideF [tri A B C D E F] x y = decide (Tri.One (crs A B C D x y) (crs C D E F x y) (crs E F A B x y))) := by
  rw [tri_area hA hB hC hD hE hF x y]
  obtain ⟨o1, k1⟩ := On_iff hA hB hC hD hx hy
  obtain ⟨o2, k2⟩ := On_iff hC hD hE hF hx hy
  obtain ⟨o3, k3⟩ := On_iff hE hF hA hB hx hy
  have hL := Tri.law (A - x) (B - y) (C - x) (D - y) (E - x) (F - y)
  unfold Tri.Law at hL
  rw [← o1, ← o2, ← o3, ← k1, ← k2, ← k3] at hL
  have e : ∀ a b c d : Int, Tri.cx (a - x) (b - y) (c - x) (d - y) = crs a b c d x y := fun a b c d => by
    unfold Tri.cx crs; simp only [Int.mul_sub, Int.mul_comm]; omega
  rw [e, e, e] at hL
  have hn := near_ok (tri_check hA hB hC hD hE hF) (x := x) (y := y) (by omega) (by omega)
  have hon : onTo [tri A B C D E F] x y 1 = (onE A B C D x y || onE C D E F x y || onE E F A B x y) := by
    rw [show (1 : Nat) = [tri A B C D E F].length from rfl, one_on]
    show ((((List.range 3).any (onEl (tri A B C D E F) x y)))) = _
    rw [show List.range 3 = [0, 1, 2] from rfl]
    simp only [List.any_cons, List.any_nil, Bool.or_false, onEl, show (tri A B C D E F).length = 3 from rfl]
    show (onE A B C D x y || (onE C D E F x y || onE E F A B x y)) = _
    rw [Bool.or_assoc]
  have hcr : crTo [tri A B C D E F] x y 1 = (crE A B C D x y != (crE C D E F x y != crE E F A B x y)) := by
    rw [show (1 : Nat) = [tri A B C D E F].length from rfl, one_cr]
    unfold crR
    rw [show (tri A B C D E F).length = 3 from rfl, show List.range 3 = [0, 1, 2] from rfl]
    simp only [List.foldl_cons, List.foldl_nil, crEl, show (tri A B C D E F).length = 3 from rfl]
    show (((false != crE A B C D x y) != crE C D E F x y) != crE E F A B x y) = _
    cases crE A B C D x y <;> cases crE C D E F x y <;> cases crE E F A B x y <;> rfl
  unfold insideF onF
  rw [hn, show [tri A B C D E F].length = 1 from rfl, hon, hcr]
  obtain ⟨h1, h2⟩ := hL
  clear hon hcr hn e o1 o2 o3 k1 k2 k3
  generalize crs A B C D x y = d1 at *
  generalize crs C D E F x y = d2 at *
  generalize crs E F A B x y = d3 at *
  generalize onE A B C D x y = p1 at *
  generalize onE C D E F x y = p2 at *
  generalize onE E F A B x y = p3 at *
  generalize crE A B C D x y = r1 at *
  generalize crE C D E F x y = r2 at *
  generalize crE E F A B x y = r3 at *
  refine ⟨fun g => ?_, fun g => ?_⟩
  · have := h2 g
    clear h1 h2
    revert this
    cases p1 <;> cases p2 <;> cases p3 <;> cases r1 <;> cases r2 <;> cases r3 <;> simp [Tri.Odd]
  · have := h1 g
    clear h1 h2
    by_cases ho : Tri.One d1 d2 d3
    · simp only [ho, iff_true] at this
      rw [decide_eq_true ho]
      revert this
      cases p1 <;> cases p2 <;> cases p3 <;> cases r1 <;> cases r2 <;> cases r3 <;> simp [Tri.Odd]
    · simp only [ho, iff_false] at this
      rw [decide_eq_false ho]
      revert this
      cases p1 <;> cases p2 <;> cases p3 <;> cases r1 <;> cases r2 <;> cases r3 <;> simp [Tri.Odd]
end Go.Proofs.YtpkoapmpknbgoaaGreat.Po
/- Plain laws: which points are inside of a box's four corners, and of its halves. -/
namespace Go.Proofs.YtpkoapmpknbgoaaGreat.Po
open Go.RowKit

def Wd1 (a : Int) : Prop := 0 ≤ a ∧ a < 1073741824
def Wd2 (a : Int) : Prop := -2147483648 ≤ a ∧ a ≤ 2147483648
theorem Wd1.two {a : Int} (h : Wd1 a) : Wd2 a := by unfold Wd1 at h; unfold Wd2; omega
theorem onE_of {a b c d x y : Int} (h1 : Wd1 a) (h2 : Wd1 b) (h3 : Wd1 c) (h4 : Wd1 d) (hx : Wd2 x) (hy : Wd2 y) : onE a b c d x y = true ↔ (min a c ≤ x ∧ x ≤ max a c) ∧ (min b d ≤ y ∧ y ≤ max b d) ∧ det a b c d x y = 0 := by
  unfold onE btw
  rw [side_plain h1 h2 h3 h4 hx hy]
  generalize det a b c d x y = D
  simp only [Bool.and_eq_true, decide_eq_true_eq, beq_iff_eq]
  constructor
  · rintro ⟨⟨p, q⟩, r⟩
    refine ⟨p, q, ?_⟩
    split at r
    · omega
    · split at r <;> omega
  · rintro ⟨p, q, r⟩
    refine ⟨⟨p, q⟩, ?_⟩
    rw [if_neg (by omega), if_neg (by omega)]
theorem on_flat {a b c x : Int} (h1 : Wd1 a) (h2 : Wd1 b) (h3 : Wd1 c) (hx : a ≤ x ∧ x ≤ c ∨ c ≤ x ∧ x ≤ a) : onE a b c b x b = true := by
  unfold Wd1 at *
  rw [onE_of h1 h2 h3 h2 (by unfold Wd2; omega) (by unfold Wd2; omega)]
  exact ⟨by omega, by omega, by unfold det; simp⟩
theorem on_steep {b c d y : Int} (h2 : Wd1 b) (h3 : Wd1 c) (h4 : Wd1 d) (hy : b ≤ y ∧ y ≤ d ∨ d ≤ y ∧ y ≤ b) : onE c b c d c y = true := by
  unfold Wd1 at *
  rw [onE_of h3 h2 h3 h4 (by unfold Wd2; omega) (by unfold Wd2; omega)]
  exact ⟨by omega, by omega, by unfold det; simp⟩
theorem cr_flat {a b c x y : Int} : crE a b c b x y = false := by unfold crE; rw [if_neg (by omega), if_neg (by omega)]
theorem cr_steep {b c d x y : Int} (h2 : Wd1 b) (h3 : Wd1 c) (h4 : Wd1 d) (hx : Wd2 x) (hy : Wd2 y) (hbd : b ≤ y ∧ y < d ∨ d ≤ y ∧ y < b) : crE c b c d x y = decide (x < c) := by
  have e : det c b c d x y = (c - x) * (d - b) := by unfold det; rw [Int.sub_self, Int.zero_mul, Int.zero_sub, ← Int.neg_mul]; congr 1; omega
  unfold crE
  rw [side_plain h3 h2 h3 h4 hx hy, e]
  rcases hbd with h | h
  · rw [if_pos h]
    by_cases hc : x < c
    · have := Int.mul_pos (show 0 < c - x by omega) (show 0 < d - b by omega)
      rw [if_pos this, decide_eq_true hc]; rfl
    · have := Int.mul_nonneg (show 0 ≤ x - c by omega) (show 0 ≤ d - b by omega)
      have e2 : (c - x) * (d - b) = -((x - c) * (d - b)) := by rw [← Int.neg_mul]; congr 1; omega
      rw [if_neg (by omega), decide_eq_false hc]
      split <;> rfl
  · rw [if_neg (by omega), if_pos h]
    by_cases hc : x < c
    · have := Int.mul_pos (show 0 < c - x by omega) (show 0 < b - d by omega)
      have e2 : (c - x) * (d - b) = -((c - x) * (b - d)) := by rw [← Int.mul_neg]; congr 1; omega
      rw [if_neg (by omega), if_pos (by omega), decide_eq_true hc]; rfl
    · have := Int.mul_nonneg (show 0 ≤ x - c by omega) (show 0 ≤ b - d by omega)
      have e2 : (c - x) * (d - b) = (x - c) * (b - d) := by rw [← Int.neg_mul_neg]; congr 1 <;> omega
      rw [decide_eq_false hc]
      split
      · rfl
      · rw [if_neg (by omega)]; rfl
theorem four_on (p q r s : Pt) (x y : Int) : onTo [[p, q, r, s]] x y 1 = (onE p.1 p.2 q.1 q.2 x y || (onE q.1 q.2 r.1 r.2 x y || (onE r.1 r.2 s.1 s.2 x y || onE s.1 s.2 p.1 p.2 x y))) := by
  rw [show (1 : Nat) = [[p, q, r, s]].length from rfl, one_on]
  show ((List.range 4).any (onEl [p, q, r, s] x y)) = _
  rw [show List.range 4 = [0, 1, 2, 3] from rfl]
  simp only [List.any_cons, List.any_nil, Bool.or_false, onEl, show ([p, q, r, s] : List Pt).length = 4 from rfl]
  rfl
theorem four_cr (p q r s : Pt) (x y : Int) : crTo [[p, q, r, s]] x y 1 = ((((false != crE p.1 p.2 q.1 q.2 x y) != crE q.1 q.2 r.1 r.2 x y) != crE r.1 r.2 s.1 s.2 x y) != crE s.1 s.2 p.1 p.2 x y) := by
  rw [show (1 : Nat) = [[p, q, r, s]].length from rfl, one_cr]
  unfold crR
  rw [show ([p, q, r, s] : List Pt).length = 4 from rfl, show List.range 4 = [0, 1, 2, 3] from rfl]
  simp only [List.foldl_cons, List.foldl_nil, crEl, show ([p, q, r, s] : List Pt).length = 4 from rfl]
  rfl
def qd (x y u v : Int) : List Pt := [(x, y), (u, y), (u, v), (x, v)]
def qr (x y u v : Int) : List Pt := [(x, v), (u, v), (u, y), (x, y)]
theorem ring_ok {l : List Pt} (h3 : 3 ≤ l.length) (h6 : l.length ≤ 12) (h : ∀ p ∈ l, Wd1 p.1 ∧ Wd1 p.2) : checkF [l] = 0 :=
  check_ok (c := 12) (by simp) (by simp) (by simp) fun m hm => by
    rw [List.mem_singleton.1 hm]
    exact ⟨h3, h6, fun p hp => by have := h p hp; unfold Wd1 at this; exact ⟨this.1.1, this.1.2, this.2.1, this.2.2⟩⟩
section
variable {x y u v : Int} (hx : Wd1 x) (hy : Wd1 y) (hu : Wd1 u) (hv : Wd1 v)
include hx hy hu hv
theorem qd_ok : checkF [qd x y u v] = 0 := ring_ok (by simp [qd]) (by simp [qd]) fun p hp => by
  simp only [qd, List.mem_cons, List.not_mem_nil, or_false] at hp
  rcases hp with rfl | rfl | rfl | rfl <;> exact ⟨by assumption, by assumption⟩
theorem qr_ok : checkF [qr x y u v] = 0 := ring_ok (by simp [qr]) (by simp [qr]) fun p hp => by
  simp only [qr, List.mem_cons, List.not_mem_nil, or_false] at hp
  rcases hp with rfl | rfl | rfl | rfl <;> exact ⟨by assumption, by assumption⟩
theorem quad_in {s t : Int} (h1 : x ≤ s ∧ s ≤ u) (h2 : y ≤ t ∧ t ≤ v) : insideF [qd x y u v] s t = true ∧ insideF [qr x y u v] s t = true := by
  have hs : Wd1 s := by unfold Wd1 at *; omega
  have ht : Wd1 t := by unfold Wd1 at *; omega
  have n1 := near_ok (qd_ok hx hy hu hv) hs.two ht.two
  have n2 := near_ok (qr_ok hx hy hu hv) hs.two ht.two
  unfold insideF
  rw [n1, n2, Bool.true_and, Bool.true_and]
  show (onTo [[_, _, _, _]] s t 1 || crTo [[_, _, _, _]] s t 1) = true ∧ (onTo [[_, _, _, _]] s t 1 || crTo [[_, _, _, _]] s t 1) = true
  rw [four_on, four_cr, four_on, four_cr]
  dsimp only
  by_cases e1 : t = y
  · subst e1
    rw [on_flat hx hy hu (.inl h1), on_flat hu hy hx (.inr h1)]
    simp
  · by_cases e2 : t = v
    · subst e2
      rw [on_flat hu hv hx (.inr h1), on_flat hx hv hu (.inl h1)]
      simp
    · by_cases e3 : s = x
      · subst e3
        rw [on_steep hv hx hy (.inr h2), on_steep hy hx hv (.inl h2)]
        simp
      · by_cases e4 : s = u
        · subst e4
          rw [on_steep hy hu hv (.inl h2), on_steep hv hu hy (.inr h2)]
          simp
        · rw [cr_flat, cr_flat, cr_flat, cr_flat, cr_steep hy hu hv hs.two ht.two (.inl (by omega)), cr_steep hv hx hy hs.two ht.two (.inr (by omega)), cr_steep hv hu hy hs.two ht.two (.inr (by omega)), cr_steep hy hx hv hs.two ht.two (.inl (by omega)),
            decide_eq_true (show s < u by omega), decide_eq_false (show ¬ s < x by omega)]
          simp
end
theorem three_on (p q r : Pt) (x y : Int) : onTo [[p, q, r]] x y 1 = (onE p.1 p.2 q.1 q.2 x y || (onE q.1 q.2 r.1 r.2 x y || onE r.1 r.2 p.1 p.2 x y)) := by
  rw [show (1 : Nat) = [[p, q, r]].length from rfl, one_on]
  show ((List.range 3).any (onEl [p, q, r] x y)) = _
  rw [show List.range 3 = [0, 1, 2] from rfl]
  simp only [List.any_cons, List.any_nil, Bool.or_false, onEl, show ([p, q, r] : List Pt).length = 3 from rfl]
  rfl
theorem three_cr (p q r : Pt) (x y : Int) : crTo [[p, q, r]] x y 1 = (((false != crE p.1 p.2 q.1 q.2 x y) != crE q.1 q.2 r.1 r.2 x y) != crE r.1 r.2 p.1 p.2 x y) := by
  rw [show (1 : Nat) = [[p, q, r]].length from rfl, one_cr]
  unfold crR
  rw [show ([p, q, r] : List Pt).length = 3 from rfl, show List.range 3 = [0, 1, 2] from rfl]
  simp only [List.foldl_cons, List.foldl_nil, crEl, show ([p, q, r] : List Pt).length = 3 from rfl]
  rfl
theorem edge_iff {a b c d x y : Int} (h1 : Wd1 a) (h2 : Wd1 b) (h3 : Wd1 c) (h4 : Wd1 d) (hx : Wd2 x) (hy : Wd2 y) :
    (onE a b c d x y = true ↔ Tri.On (a - x) (b - y) (c - x) (d - y)) ∧ (crE a b c d x y = true ↔ Tri.Cr (a - x) (b - y) (c - x) (d - y)) ∧ Tri.cx (a - x) (b - y) (c - x) (d - y) = det a b c d x y := by
  have e : Tri.cx (a - x) (b - y) (c - x) (d - y) = det a b c d x y := by
    unfold Tri.cx det; simp only [Int.mul_sub, Int.mul_comm]; omega
  refine ⟨?_, ?_, e⟩
  · rw [onE_of h1 h2 h3 h4 hx hy]
    unfold Tri.On
    rw [e]
    generalize det a b c d x y = D
    omega
  · unfold crE Tri.Cr
    rw [e, side_plain h1 h2 h3 h4 hx hy]
    generalize det a b c d x y = D
    split
    · simp only [decide_eq_true_eq]; split <;> try split
      all_goals omega
    · split
      · simp only [decide_eq_true_eq]; split <;> try split
        all_goals omega
      · simp; omega
/-- A triangle with an area: inside is who is on one side of all edges. -/
theorem tri_one {p q r : Pt} (hp : Wd1 p.1 ∧ Wd1 p.2) (hq : Wd1 q.1 ∧ Wd1 q.2) (hr : Wd1 r.1 ∧ Wd1 r.2) {x y : Int} (hx : Wd2 x) (hy : Wd2 y)
    (ha : det p.1 p.2 q.1 q.2 x y + det q.1 q.2 r.1 r.2 x y + det r.1 r.2 p.1 p.2 x y ≠ 0) : insideF [[p, q, r]] x y = true ↔ Tri.One (det p.1 p.2 q.1 q.2 x y) (det q.1 q.2 r.1 r.2 x y) (det r.1 r.2 p.1 p.2 x y) := by
  obtain ⟨a1, b1, c1⟩ := edge_iff hp.1 hp.2 hq.1 hq.2 hx hy
  obtain ⟨a2, b2, c2⟩ := edge_iff hq.1 hq.2 hr.1 hr.2 hx hy
  obtain ⟨a3, b3, c3⟩ := edge_iff hr.1 hr.2 hp.1 hp.2 hx hy
  have hL := (Tri.law (p.1 - x) (p.2 - y) (q.1 - x) (q.2 - y) (r.1 - x) (r.2 - y)).1
  rw [c1, c2, c3, ← a1, ← a2, ← a3, ← b1, ← b2, ← b3] at hL
  have hck : checkF [[p, q, r]] = 0 := ring_ok (by simp) (by simp) fun m hm => by
    simp only [List.mem_cons, List.not_mem_nil, or_false] at hm
    rcases hm with rfl | rfl | rfl <;> assumption
  rw [← hL ha]
  unfold insideF
  rw [near_ok hck hx hy, Bool.true_and]
  show (onTo [[_, _, _]] x y 1 || crTo [[_, _, _]] x y 1) = true ↔ _
  rw [three_on, three_cr]
  clear a1 a2 a3 b1 b2 b3 c1 c2 c3 hL
  generalize onE p.1 p.2 q.1 q.2 x y = p1
  generalize onE q.1 q.2 r.1 r.2 x y = p2
  generalize onE r.1 r.2 p.1 p.2 x y = p3
  generalize crE p.1 p.2 q.1 q.2 x y = r1
  generalize crE q.1 q.2 r.1 r.2 x y = r2
  generalize crE r.1 r.2 p.1 p.2 x y = r3
  cases p1 <;> cases p2 <;> cases p3 <;> cases r1 <;> cases r2 <;> cases r3 <;> simp [Tri.Odd]
def t1 (x y u v : Int) : List Pt := [(x, y), (u, y), (u, v)]
def t2 (x y u v : Int) : List Pt := [(x, y), (u, v), (x, v)]
/-- Below or above a box's diagonal. -/
def dg (x y u v s t : Int) : Int := (u - x) * (t - y) - (v - y) * (s - x)
theorem half_in {x y u v : Int} (hx : Wd1 x) (hy : Wd1 y) (hu : Wd1 u) (hv : Wd1 v) {s t : Int} (h1 : x ≤ s ∧ s ≤ u) (h2 : y ≤ t ∧ t ≤ v) :
    (insideF [t1 x y u v] s t = true ↔ dg x y u v s t ≤ 0) ∧ (insideF [t2 x y u v] s t = true ↔ 0 ≤ dg x y u v s t) := by
  have hs : Wd1 s := by unfold Wd1 at *; omega
  have ht : Wd1 t := by unfold Wd1 at *; omega
  have k1 : checkF [t1 x y u v] = 0 := ring_ok (by simp [t1]) (by simp [t1]) fun m hm => by
    simp only [t1, List.mem_cons, List.not_mem_nil, or_false] at hm
    rcases hm with rfl | rfl | rfl <;> exact ⟨by assumption, by assumption⟩
  have k2 : checkF [t2 x y u v] = 0 := ring_ok (by simp [t2]) (by simp [t2]) fun m hm => by
    simp only [t2, List.mem_cons, List.not_mem_nil, or_false] at hm
    rcases hm with rfl | rfl | rfl <;> exact ⟨by assumption, by assumption⟩
  by_cases hd : u = x ∨ v = y
  · have hz : dg x y u v s t = 0 := by
      unfold dg
      rcases hd with rfl | rfl
      · have : s = u := by omega
        subst this; simp
      · have : t = v := by omega
        subst this; simp
    rw [hz]
    unfold insideF
    rw [near_ok k1 hs.two ht.two, near_ok k2 hs.two ht.two, Bool.true_and, Bool.true_and]
    show ((onTo [[_, _, _]] s t 1 || crTo [[_, _, _]] s t 1) = true ↔ _) ∧ ((onTo [[_, _, _]] s t 1 || crTo [[_, _, _]] s t 1) = true ↔ _)
    rw [three_on, three_on]
    dsimp only
    rcases hd with rfl | rfl
    · have : s = u := by omega
      subst this
      rw [on_steep hy hx hv (.inl h2)]
      simp
    · have : t = v := by omega
      subst this
      rw [on_flat hx hy hu (.inl h1)]
      simp
  · have hA := Int.mul_pos (show 0 < u - x by omega) (show 0 < v - y by omega)
    have hP1 := Int.mul_nonneg (show 0 ≤ u - x by omega) (show 0 ≤ t - y by omega)
    have hP2 := Int.mul_nonneg (show 0 ≤ v - y by omega) (show 0 ≤ s - x by omega)
    have hP3 := Int.mul_nonneg (show 0 ≤ u - x by omega) (show 0 ≤ v - t by omega)
    have hP4 := Int.mul_nonneg (show 0 ≤ v - y by omega) (show 0 ≤ u - s by omega)
    have e3 : (u - x) * (v - t) = (u - x) * (v - y) - (u - x) * (t - y) := by rw [← Int.mul_sub]; congr 1; omega
    have e4 : (v - y) * (u - s) = (u - x) * (v - y) - (v - y) * (s - x) := by rw [Int.mul_comm (u - x), ← Int.mul_sub]; congr 1; omega
    rw [e3] at hP3
    rw [e4] at hP4
    have d1 : det x y u y s t = (u - x) * (t - y) := by unfold det; simp
    have d2 : det u y u v s t = (u - x) * (v - y) - (v - y) * (s - x) := by rw [← e4]; unfold det; rw [Int.sub_self, Int.zero_mul, Int.zero_sub, ← Int.neg_mul, Int.mul_comm]; congr 1; omega
    have d3 : det u v x y s t = (v - y) * (s - x) - (u - x) * (t - y) := by unfold det; simp only [Int.mul_sub, Int.mul_comm]; omega
    have d4 : det x y u v s t = (u - x) * (t - y) - (v - y) * (s - x) := by unfold det; rw [Int.mul_comm (s - x)]
    have d5 : det u v x v s t = (u - x) * (v - y) - (u - x) * (t - y) := by rw [← e3]; unfold det; rw [Int.sub_self, Int.mul_zero, Int.sub_zero, ← Int.neg_mul_neg]; congr 1 <;> omega
    have d6 : det x v x y s t = (v - y) * (s - x) := by unfold det; rw [Int.sub_self, Int.zero_mul, Int.zero_sub, ← Int.mul_neg, Int.mul_comm]; congr 1; omega
    have g1 := tri_one (p := (x, y)) (q := (u, y)) (r := (u, v)) ⟨hx, hy⟩ ⟨hu, hy⟩ ⟨hu, hv⟩ hs.two ht.two (by dsimp only; rw [d1, d2, d3]; omega)
    have g2 := tri_one (p := (x, y)) (q := (u, v)) (r := (x, v)) ⟨hx, hy⟩ ⟨hu, hv⟩ ⟨hx, hv⟩ hs.two ht.two (by dsimp only; rw [d4, d5, d6]; omega)
    dsimp only at g1 g2
    rw [d1, d2, d3] at g1
    rw [d4, d5, d6] at g2
    unfold t1 t2 dg
    rw [g1, g2]
    unfold Tri.One
    generalize (u - x) * (v - y) = A at *
    generalize (u - x) * (t - y) = P at *
    generalize (v - y) * (s - x) = Q at *
    omega
end Go.Proofs.YtpkoapmpknbgoaaGreat.Po
/- Plain laws: a cell that touches a box of the world may be; how many cells touch a box. -/
namespace Go.Proofs.YtpkoapmpknbgoaaGreat.Wd
open Go.Proofs.YtpkoapmpknbgoaaGreat.Cv

/-- How far a corner may lie from the centre, along an axis. -/
def ddN : Nat → Int
  | 0 => 90 | 1 => 234 | 2 => 624 | 3 => 1665 | 4 => 4290 | 5 => 11622 | 6 => 30735 | 7 => 79335 | 8 => 215982 | 9 => 566100 | 10 => 1484505 | 11 => 4004988 | _ => 10403595
theorem dd_of {m : Nat} (hm : m ≤ 12) : (-ddN m ≤ (d0E m).1 ∧ (d0E m).1 ≤ ddN m ∧ -ddN m ≤ (d0E m).2 ∧ (d0E m).2 ≤ ddN m) ∧ (-ddN m ≤ (d1E m).1 ∧ (d1E m).1 ≤ ddN m ∧ -ddN m ≤ (d1E m).2 ∧ (d1E m).2 ≤ ddN m) ∧
    (-ddN m ≤ (d1E m).1 - (d0E m).1 ∧ (d1E m).1 - (d0E m).1 ≤ ddN m ∧ -ddN m ≤ (d1E m).2 - (d0E m).2 ∧ (d1E m).2 - (d0E m).2 ≤ ddN m) := by
  rcases upto12 hm with rfl | rfl | rfl | rfl | rfl | rfl | rfl | rfl | rfl | rfl | rfl | rfl | rfl <;> decide
theorem vert_at {m : Nat} (hm : m ≤ 12) (z : E2) {k : Nat} (hk : k < 6) : ((cenE m z).1 - ddN m ≤ (hexC m z k).1 ∧ (hexC m z k).1 ≤ (cenE m z).1 + ddN m) ∧ (cenE m z).2 - ddN m ≤ (hexC m z k).2 ∧ (hexC m z k).2 ≤ (cenE m z).2 + ddN m := by
  obtain ⟨h0, h1, h2, h3, h4, h5⟩ := hexC_eq m z
  obtain ⟨e0, e1, e2⟩ := dd_of hm
  rcases (show k = 0 ∨ k = 1 ∨ k = 2 ∨ k = 3 ∨ k = 4 ∨ k = 5 by omega) with rfl | rfl | rfl | rfl | rfl | rfl <;> simp only [h0, h1, h2, h3, h4, h5, addE, subE] <;> omega
/-- What touches a box has its centre near it. -/
theorem touch_near {m : Nat} (hm : m ≤ 12) {z lo hi : E2} (h : TouchP (hexC m z) lo hi) : (lo.1 - ddN m ≤ (cenE m z).1 ∧ (cenE m z).1 ≤ hi.1 + ddN m) ∧ lo.2 - ddN m ≤ (cenE m z).2 ∧ (cenE m z).2 ≤ hi.2 + ddN m := by
  obtain ⟨⟨⟨a, a1, a2⟩, b, b1, b2⟩, ⟨⟨c, c1, c2⟩, d, d1, d2⟩, -⟩ := h
  have ha := vert_at hm z a1
  have hb := vert_at hm z b1
  have hc := vert_at hm z c1
  have hd := vert_at hm z d1
  omega
theorem cen_parts (m : Nat) (z : E2) : (cenE m z).1 = 3 * (52 * (mulE (bE m) z).1 + 26 * (mulE (bE m) z).2) ∧ (cenE m z).2 = 3 * (45 * (mulE (bE m) z).2) := by
  unfold cenE midE spotE mulE
  generalize bE m = b
  simp only
  constructor <;> grind
theorem err_cen {m : Nat} {z : E2} {x y T : Int} (h1 : -T ≤ (cenE m z).1 - 3 * x) (h2 : (cenE m z).1 - 3 * x ≤ T) (h3 : -T ≤ (cenE m z).2 - 3 * y) (h4 : (cenE m z).2 - 3 * y ≤ T) {H : Int} (hH : 71 * T ≤ 3 * H) : Hex H (errE m z (ptE x y)) := by
  obtain ⟨c1, c2⟩ := cen_parts m z
  rw [c1] at h1 h2
  rw [c2] at h3 h4
  unfold Hex errE ptE
  generalize mulE (bE m) z = q at *
  simp only
  omega
/-- A cell whose centre is near a point of the world may be. -/
theorem near_may {r : Nat} (hr : r ≤ 12) {z : E2} {x y : Int} (hx : 0 ≤ x ∧ x < 1073741824) (hy : 0 ≤ y ∧ y < 1073741824)
    (h1 : -(ddN (12 - r) + 3) ≤ (cenE (12 - r) z).1 - 3 * x ∧ (cenE (12 - r) z).1 - 3 * x ≤ ddN (12 - r) + 3) (h2 : -(ddN (12 - r) + 3) ≤ (cenE (12 - r) z).2 - 3 * y ∧ (cenE (12 - r) z).2 - 3 * y ≤ ddN (12 - r) + 3) : okB r z = true := by
  refine ok_of_base hr ?_
  have h0 : Hex (tN (12 - r) 0) (errE (12 - r) z (ptE x y)) := err_cen h1.1 h1.2 h2.1 h2.2 (by
    rcases upto12 hr with rfl | rfl | rfl | rfl | rfl | rfl | rfl | rfl | rfl | rfl | rfl | rfl | rfl <;> decide)
  have h3 := err_ups (m := 12 - r) h0 (k := r) (by omega)
  rw [show 12 - r + r = 12 by omega] at h3
  refine base_in hx hy (h3.mono ?_)
  rcases upto12 hr with rfl | rfl | rfl | rfl | rfl | rfl | rfl | rfl | rfl | rfl | rfl | rfl | rfl <;> decide
theorem clamp_ex {c l u D : Int} (hlu : l ≤ u) (h1 : 3 * l - D ≤ c) (h2 : c ≤ 3 * u + D) (hD : 0 ≤ D) : ∃ x, l ≤ x ∧ x ≤ u ∧ -(D + 3) ≤ c - 3 * x ∧ c - 3 * x ≤ D + 3 := by
  by_cases a : c < 3 * l
  · exact ⟨l, by omega⟩
  · by_cases b : 3 * u < c
    · exact ⟨u, by omega⟩
    · exact ⟨c / 3, by omega⟩
theorem dd_pos (m : Nat) : 0 ≤ ddN m := by unfold ddN; split <;> decide
/-- WHAT TOUCHES A BOX OF THE WORLD MAY BE. -/
theorem touch_ok {r : Nat} (hr : r ≤ 12) {z lo hi : E2} (hlo : worldB lo.1 lo.2 = true) (hhi : worldB hi.1 hi.2 = true) (hx : lo.1 ≤ hi.1) (hy : lo.2 ≤ hi.2) (h : TouchP (hexC (12 - r) z) (triE lo) (triE hi)) : okB r z = true := by
  obtain ⟨h1, h2⟩ := touch_near (by omega) h
  rw [worldB_iff] at hlo hhi
  simp only [triE] at h1 h2
  obtain ⟨x, x1, x2, x3⟩ := clamp_ex hx h1.1 h1.2 (dd_pos _)
  obtain ⟨y, y1, y2, y3⟩ := clamp_ex hy h2.1 h2.2 (dd_pos _)
  exact near_may hr (x := x) (y := y) (by omega) (by omega) x3 y3

/-- Numbers below n, each once: no more than n. -/
theorem nodup_below : ∀ (n : Nat) (l : List Nat), l.Nodup → (∀ x ∈ l, x < n) → l.length ≤ n
  | 0, l, _, h => by
    cases l with
    | nil => simp
    | cons a l => exact absurd (h a (by simp)) (by omega)
  | n + 1, l, hn, h => by
    by_cases hm : n ∈ l
    · have h1 := List.length_erase_of_mem hm
      have h2 := nodup_below n (l.erase n) (hn.erase n) fun x hx => by
        have hx' := (List.Nodup.mem_erase_iff hn).1 hx
        have := h x hx'.2
        omega
      omega
    · have := nodup_below n l hn fun x hx => by
        have := h x hx
        have : x ≠ n := fun e => hm (e ▸ hx)
        omega
      omega
theorem nodup_map {α β : Type} {f : α → β} : ∀ {l : List α}, l.Nodup → (∀ a ∈ l, ∀ b ∈ l, f a = f b → a = b) → (l.map f).Nodup
  | [], _, _ => List.nodup_nil
  | a :: l, hn, h => by
    rw [List.nodup_cons] at hn
    rw [List.map_cons, List.nodup_cons]
    refine ⟨fun hm => ?_, nodup_map hn.2 fun x hx y hy => h x (by simp [hx]) y (by simp [hy])⟩
    obtain ⟨b, hb, e⟩ := List.mem_map.1 hm
    exact hn.1 (h a (by simp) b (by simp [hb]) e.symm ▸ hb)
/-- Numbers of the lattice within K of one: no more than (2 K + 1)^2. -/
theorem within_count {D : List E2} (hn : D.Nodup) (K : Nat) (z0 : E2) (h : ∀ z ∈ D, -(K : Int) ≤ z.1 - z0.1 ∧ z.1 - z0.1 ≤ K ∧ -(K : Int) ≤ z.2 - z0.2 ∧ z.2 - z0.2 ≤ K) : D.length ≤ (2 * K + 1) * (2 * K + 1) := by
  have h1 := nodup_map (f := fun z : E2 => (z.1 - z0.1 + K).toNat * (2 * K + 1) + (z.2 - z0.2 + K).toNat) hn (by
    intro a ha b hb e
    have pa := h a ha
    have pb := h b hb
    obtain ⟨x, hx⟩ : ∃ x, (a.1 - z0.1 + K).toNat = x := ⟨_, rfl⟩
    obtain ⟨y, hy⟩ : ∃ y, (b.1 - z0.1 + K).toNat = y := ⟨_, rfl⟩
    obtain ⟨u, hu⟩ : ∃ u, (a.2 - z0.2 + K).toNat = u := ⟨_, rfl⟩
    obtain ⟨v, hv⟩ : ∃ v, (b.2 - z0.2 + K).toNat = v := ⟨_, rfl⟩
    rw [hx, hy, hu, hv] at e
    have hu2 : u < 2 * K + 1 := by omega
    have hv2 : v < 2 * K + 1 := by omega
    have e1 : u = v := by
      have := congrArg (· % (2 * K + 1)) e
      simpa [Nat.add_mod, Nat.mul_mod_left, Nat.mod_eq_of_lt hu2, Nat.mod_eq_of_lt hv2, Nat.mul_add_mod_self_right, Nat.mul_add_mod_self_left] using this
    have e2 : x = y := by
      subst e1
      exact Nat.eq_of_mul_eq_mul_right (by omega) (Nat.add_right_cancel e)
    ext <;> omega)
  have h2 := nodup_below ((2 * K + 1) * (2 * K + 1)) _ h1 (by
    intro x hx
    obtain ⟨z, hz, rfl⟩ := List.mem_map.1 hx
    have p := h z hz
    have a : (z.1 - z0.1 + K).toNat ≤ 2 * K := by omega
    have b : (z.2 - z0.2 + K).toNat < 2 * K + 1 := by omega
    have := Nat.mul_le_mul_right (2 * K + 1) a
    have e : (2 * K + 1) * (2 * K + 1) = 2 * K * (2 * K + 1) + (2 * K + 1) := by rw [Nat.add_mul, Nat.one_mul]
    omega)
  rwa [List.length_map] at h2
/-- As great as the law's boxes are reckoned by. -/
def sizeN : Nat → Int
  | 0 => 52
  | k + 1 => sizeN k * 8 / 3
theorem size_tab : sizeN 0 = 52 ∧ sizeN 1 = 138 ∧ sizeN 2 = 368 ∧ sizeN 3 = 981 ∧ sizeN 4 = 2616 ∧ sizeN 5 = 6976 ∧ sizeN 6 = 18602 ∧ sizeN 7 = 49605 ∧ sizeN 8 = 132280 ∧ sizeN 9 = 352746 ∧ sizeN 10 = 940656 ∧ sizeN 11 = 2508416 ∧ sizeN 12 = 6689109 := by decide
/-- What touches a box of at most 28 sizes is near what touches it. -/
theorem touch_within {m : Nat} (hm : m ≤ 12) {z z0 lo hi : E2} (h : TouchP (hexC m z) lo hi) (h0 : TouchP (hexC m z0) lo hi) (hw : hi.1 - lo.1 ≤ 84 * sizeN m) (hh : hi.2 - lo.2 ≤ 84 * sizeN m) :
    -52 ≤ z.1 - z0.1 ∧ z.1 - z0.1 ≤ 52 ∧ -52 ≤ z.2 - z0.2 ∧ z.2 - z0.2 ≤ 52 := by
  obtain ⟨q0, q1, q2, q3, q4, q5, q6, q7, q8, q9, q10, q11, q12⟩ := bE_tab
  obtain ⟨s0, s1, s2, s3, s4, s5, s6, s7, s8, s9, s10, s11, s12⟩ := size_tab
  obtain ⟨a1, a2⟩ := touch_near hm h
  obtain ⟨b1, b2⟩ := touch_near hm h0
  obtain ⟨c1, c2⟩ := cen_parts m z
  obtain ⟨d1, d2⟩ := cen_parts m z0
  rw [c1] at a1
  rw [c2] at a2
  rw [d1] at b1
  rw [d2] at b2
  clear c1 c2 d1 d2 h h0
  obtain ⟨z1, z2⟩ := z
  obtain ⟨y1, y2⟩ := z0
  obtain ⟨lx, ly⟩ := lo
  obtain ⟨hx, hy⟩ := hi
  simp only at *
  have key : ∀ u v : Int, u = z1 - y1 → v = z2 - y2 → -52 ≤ u ∧ u ≤ 52 ∧ -52 ≤ v ∧ v ≤ 52 := by
    intro u v hu hv
    obtain rfl : z1 = y1 + u := by omega
    obtain rfl : z2 = y2 + v := by omega
    rcases upto12 hm with rfl | rfl | rfl | rfl | rfl | rfl | rfl | rfl | rfl | rfl | rfl | rfl | rfl <;>
      (simp only [mulE, q0, q1, q2, q3, q4, q5, q6, q7, q8, q9, q10, q11, q12, s0, s1, s2, s3, s4, s5, s6, s7, s8, s9, s10, s11, s12, ddN] at a1 a2 b1 b2 hw hh) <;> (clear q0 q1 q2 q3 q4 q5 q6 q7 q8 q9 q10 q11 q12 s0 s1 s2 s3 s4 s5 s6 s7 s8 s9 s10 s11 s12 hu hv) <;> omega
  have := key _ _ rfl rfl
  omega
/-- HOW MANY: fewer than 20,000 touch a box of at most 28 sizes. -/
theorem touch_few {m : Nat} (hm : m ≤ 12) {D : List E2} {lo hi : E2} (hn : D.Nodup) (h : ∀ z ∈ D, TouchP (hexC m z) lo hi) (hw : hi.1 - lo.1 ≤ 84 * sizeN m) (hh : hi.2 - lo.2 ≤ 84 * sizeN m) : D.length ≤ 11025 := by
  cases D with
  | nil => simp
  | cons z0 D => exact within_count hn 52 z0 fun z hz => touch_within hm (h z hz) (h z0 (by simp)) hw hh
end Go.Proofs.YtpkoapmpknbgoaaGreat.Wd
/- What Box and Centres tell, as lists that rise; which cells touch a point, and parts of a box. -/
namespace Go.Proofs.YtpkoapmpknbgoaaGreat
open Go.RowKit Go.Lib Wd Cv

/-- A word of a cell that touches a box. -/
def TouchW (R : Nat) (lo hi : E2) (x : Int) : Prop := ∃ z, okB R z = true ∧ TouchP (hexC (12 - R) z) (triE lo) (triE hi) ∧ x = (wordN R z : Nat)
/-- A word of a cell whose centre lies in a box. -/
def CenW (R : Nat) (lo hi : E2) (x : Int) : Prop := ∃ z, okB R z = true ∧ inB lo hi (atE (12 - R) z) = true ∧ x = (wordN R z : Nat)
def IsBox (R : Nat) (lo hi : E2) (L : List Int) : Prop := Up L ∧ (∀ x, x ∈ L ↔ TouchW R lo hi x) ∧ L.length ≤ 20000
def IsCen (R : Nat) (lo hi : E2) (L : List Int) : Prop := Up L ∧ (∀ x, x ∈ L ↔ CenW R lo hi x) ∧ L.length ≤ 20000
theorem up_of_srt {l : List Int} (h : l.Nodup) : Up (srt l) := by
  have hp : (srt l).Perm l := List.mergeSort_perm l _
  have hn : (srt l).Nodup := hp.nodup_iff.2 h
  have hs := srt_sorted l
  rw [List.nodup_iff_pairwise_ne] at hn
  exact (hs.and hn).imp fun ⟨h1, h2⟩ => by omega
theorem wsL_nodup (R : Nat) {D : List E2} (h : D.Nodup) : (wsL R D).Nodup := by
  unfold wsL
  refine nodup_map (h.filter _) fun a ha b hb e => ?_
  have oa : okB R a = true := by simpa using (List.mem_filter.1 ha).2
  have ob : okB R b = true := by simpa using (List.mem_filter.1 hb).2
  have e2 : wordN R a = wordN R b := by omega
  exact (word_inj oa ob e2).2
theorem wsL_mem {R : Nat} {D : List E2} {x : Int} : x ∈ wsL R D ↔ ∃ z, z ∈ D ∧ okB R z = true ∧ x = (wordN R z : Nat) := by
  unfold wsL
  rw [List.mem_map]
  constructor
  · rintro ⟨z, hz, rfl⟩
    obtain ⟨h1, h2⟩ := List.mem_filter.1 hz
    exact ⟨z, h1, by simpa using h2, rfl⟩
  · rintro ⟨z, h1, h2, rfl⟩
    exact ⟨z, List.mem_filter.2 ⟨h1, by simpa using h2⟩, rfl⟩
theorem isBox_of {R : Nat} {lo hi : E2} {D : List E2} (h : AllOf (12 - R) (triE lo) (triE hi) D) (hl : D.length ≤ 20000) : IsBox R lo hi (srt (wsL R D)) := by
  refine ⟨up_of_srt (wsL_nodup R h.1), fun x => ?_, by rw [srt_length]; exact Nat.le_trans (wsL_le R D) hl⟩
  rw [srt_mem, wsL_mem]
  unfold TouchW
  constructor
  · rintro ⟨z, h1, h2, h3⟩; exact ⟨z, h2, (h.2 z).1 h1, h3⟩
  · rintro ⟨z, h1, h2, h3⟩; exact ⟨z, (h.2 z).2 h2, h1, h3⟩
theorem cen_at (m : Nat) (z : E2) : cenE m z = triE (atE m z) := by
  unfold cenE midE atE spotE triE mulE
  generalize bE m = b
  ext <;> simp only <;> grind
theorem form_self (m : Nat) (z : E2) : fA m z (cenE m z).1 (cenE m z).2 = 0 ∧ fB m z (cenE m z).1 (cenE m z).2 = 0 := by
  unfold fA fB; simp
theorem inZ_self (m : Nat) (z : E2) : InZ m z ((cenE m z).1 : Int) ((cenE m z).2 : Int) := by
  have hp := aN_pos m
  rw [inZ_int, (form_self m z).1, (form_self m z).2]
  omega
/-- A point in a box that a cell has: it touches. -/
theorem touch_at {m : Nat} (hm : m ≤ 12) {z lo hi : E2} {x y : Int} (h1 : lo.1 ≤ x ∧ x ≤ hi.1) (h2 : lo.2 ≤ y ∧ y ≤ hi.2) (h : InZ m z ((3 * x : Int) : Rat) ((3 * y : Int) : Rat)) : TouchP (hexC m z) (triE lo) (triE hi) := by
  rw [touch_iff hm z (triE lo) (triE hi) (by simp only [triE]; omega) (by simp only [triE]; omega)]
  refine ⟨((3 * x : Int) : Rat), ((3 * y : Int) : Rat), ?_, ?_, ?_, ?_, h⟩ <;> simp only [triE] <;> rw [Rat.intCast_le_intCast] <;> omega
theorem cen_touch {m : Nat} (hm : m ≤ 12) {z lo hi : E2} (h : inB lo hi (atE m z) = true) : TouchP (hexC m z) (triE lo) (triE hi) := by
  have h1 := (inB_iff lo hi _).1 h
  have h2 := inZ_self m z
  rw [cen_at m z] at h2
  exact touch_at hm ⟨h1.1, h1.2.1⟩ ⟨h1.2.2.1, h1.2.2.2⟩ h2
theorem isCen_of {R : Nat} {lo hi : E2} {D : List E2} (h : AllOf (12 - R) (triE lo) (triE hi) D) (hl : D.length ≤ 20000) : IsCen R lo hi ((srt (wsL R D)).filter (cenB R lo hi)) := by
  have hb := isBox_of h hl
  refine ⟨filter_up hb.1 _, fun x => ?_, Nat.le_trans (List.length_filter_le _ _) hb.2.2⟩
  rw [List.mem_filter, hb.2.1]
  unfold TouchW CenW cenB
  constructor
  · rintro ⟨⟨z, h1, h2, rfl⟩, h3⟩
    rw [Int.toNat_natCast, (word_cell h1).2.2] at h3
    exact ⟨z, h1, h3, rfl⟩
  · rintro ⟨z, h1, h2, rfl⟩
    exact ⟨⟨z, h1, cen_touch (by omega) h2, rfl⟩, by rw [Int.toNat_natCast, (word_cell h1).2.2]; exact h2⟩
/-- A slice with a list of its own. -/
def ToldB (w : World) (P : List Int → Prop) (e : Ending) (w' : World) : Prop :=
  ∃ L ao c n, P L ∧ e = .returned (.tuple #[.slice ao n c, .int .i64 0]) ∧ n = L.length ∧ w'.ownsRow w.heap.size 35 1 (.slice ao n c) n (uV L) ∧ Below w.heap.size w w'
theorem few_of {R : Nat} (hR : R ≤ 12) {lo hi : E2} (hw : hi.1 - lo.1 ≤ 28 * sizeN (12 - R)) (hh : hi.2 - lo.2 ≤ 28 * sizeN (12 - R)) {D : List E2} (hn : D.Nodup) (h : ∀ z ∈ D, TouchP (hexC (12 - R) z) (triE lo) (triE hi)) : D.length ≤ 11025 :=
  touch_few (by omega) hn h (by simp only [triE]; omega) (by simp only [triE]; omega)
/-- Box, of a box of the world that is few sizes wide. -/
theorem box_few (lo hi : E2) {R : Nat} (hc : chE lo hi R = 0) (hw : hi.1 - lo.1 ≤ 28 * sizeN (12 - R)) (hh : hi.2 - lo.2 ≤ 28 * sizeN (12 - R)) (w : World) : Calls Tryz.prog 32 #[vE lo, vE hi, .int .i64 R] w (ToldB w (IsBox R lo hi)) := by
  have hR : R ≤ 12 := by have := (ch_ok hc).1; omega
  refine (box_any lo hi R w).mono ?_
  rintro e w' ⟨hP, hb⟩
  unfold BoxP at hP
  rw [if_pos hc, Int.toNat_natCast] at hP
  rcases hP with ⟨D, ao, c, n, h1, h2, rfl, h3, h4⟩ | ⟨D, h1, h2, h3, _⟩
  · exact ⟨_, ao, c, n, isBox_of h1 h2, rfl, by rw [srt_length]; exact h3, h4, hb⟩
  · have := few_of hR hw hh h1 h3
    omega
theorem cen_few (lo hi : E2) {R : Nat} (hc : chE lo hi R = 0) (hw : hi.1 - lo.1 ≤ 28 * sizeN (12 - R)) (hh : hi.2 - lo.2 ≤ 28 * sizeN (12 - R)) (w : World) : Calls Tryz.prog 9 #[vE lo, vE hi, .int .i64 R] w (ToldB w (IsCen R lo hi)) := by
  have hR : R ≤ 12 := by have := (ch_ok hc).1; omega
  refine (centres_any lo hi R w).mono ?_
  rintro e w' ⟨hP, hb⟩
  unfold CenP at hP
  rw [if_pos hc, Int.toNat_natCast] at hP
  rcases hP with ⟨D, L, ao, c, n, h1, h2, rfl, rfl, h3, h4⟩ | ⟨D, h1, h2, h3, _⟩
  · exact ⟨_, ao, c, n, isCen_of h1 h2, rfl, h3, h4, hb⟩
  · have := few_of hR hw hh h1 h3
    omega
theorem box_err (lo hi : E2) {r : Int} (hc : chE lo hi r ≠ 0) (w : World) : Calls Tryz.prog 32 #[vE lo, vE hi, .int .i64 r] w fun e w' => e = .returned (.tuple #[.slice none 0 0, .int .i64 (chE lo hi r)]) ∧ Below w.heap.size w w' := by
  refine (box_any lo hi r w).mono ?_
  rintro e w' ⟨hP, hb⟩
  unfold BoxP at hP
  rw [if_neg hc] at hP
  exact ⟨hP, hb⟩
theorem cen_err (lo hi : E2) {r : Int} (hc : chE lo hi r ≠ 0) (w : World) : Calls Tryz.prog 9 #[vE lo, vE hi, .int .i64 r] w fun e w' => e = .returned (.tuple #[.slice none 0 0, .int .i64 (chE lo hi r)]) ∧ Below w.heap.size w w' := by
  refine (centres_any lo hi r w).mono ?_
  rintro e w' ⟨hP, hb⟩
  unfold CenP at hP
  rw [if_neg hc] at hP
  exact ⟨hP, hb⟩
/-- Only the cell itself has its centre. -/
theorem own_centre {m : Nat} (hm : m ≤ 12) {z z' : E2} (h : InZ m z' ((cenE m z).1 : Int) ((cenE m z).2 : Int)) : z' = z := by
  rcases tie_next hm (inZ_self m z) h with h1 | ⟨k, hk, rfl⟩
  · exact h1
  · exfalso
    have hp := aN_pos m
    obtain ⟨e1, e2⟩ := form_by hm z (unitE k) (cenE m z).1 (cenE m z).2
    rw [(form_self m z).1] at e1
    rw [(form_self m z).2] at e2
    rw [inZ_int, e1, e2] at h
    generalize aN m = A at *
    rcases (show k = 0 ∨ k = 1 ∨ k = 2 ∨ k = 3 ∨ k = 4 ∨ k = 5 by omega) with rfl | rfl | rfl | rfl | rfl | rfl <;> simp only [unitE] at h <;> omega
theorem at_inj {m : Nat} (hm : m ≤ 12) {z z' : E2} (h : atE m z' = atE m z) : z' = z := by
  refine own_centre hm ?_
  have := inZ_self m z'
  rwa [cen_at m z', h, ← cen_at m z] at this
/-- What touches a point box has the point. -/
theorem touch_point {m : Nat} (hm : m ≤ 12) {z p : E2} (h : TouchP (hexC m z) (triE p) (triE p)) : InZ m z ((3 * p.1 : Int) : Rat) ((3 * p.2 : Int) : Rat) := by
  rw [touch_iff hm z (triE p) (triE p) (Int.le_refl _) (Int.le_refl _)] at h
  obtain ⟨X, Y, h1, h2, h3, h4, h5⟩ := h
  have e1 := Rat.le_antisymm h2 h1
  have e2 := Rat.le_antisymm h4 h3
  rw [e1, e2] at h5
  exact h5
theorem bxOk_iff (lo hi : E2) : bxOk lo hi = true ↔ (-2147483648 ≤ lo.1 ∧ hi.1 ≤ 2147483648 ∧ lo.1 ≤ hi.1) ∧ -2147483648 ≤ lo.2 ∧ hi.2 ≤ 2147483648 ∧ lo.2 ≤ hi.2 := by
  unfold bxOk axOk axG; simp; omega
theorem ct_iff (R : Nat) (z lo hi : E2) : ctB R z lo hi = true ↔ bxOk lo hi = true ∧ okB R z = true ∧ TouchP (hexC (12 - R) z) (triE lo) (triE hi) := by
  unfold ctB
  rw [Bool.and_eq_true, Bool.and_eq_true, Int.toNat_natCast, ← tt_iff]
  rfl
/-- A point's cell touches whatever box has the point. -/
theorem ct_near {R : Nat} (hR : R ≤ 12) {u v : Int} (hu : 0 ≤ u ∧ u < 1073741824) (hv : 0 ≤ v ∧ v < 1073741824) {lo hi : E2} (h1 : lo.1 ≤ u ∧ u ≤ hi.1) (h2 : lo.2 ≤ v ∧ v ≤ hi.2) (hb : bxOk lo hi = true) : ctB R (nearE u v R) lo hi = true :=
  (ct_iff R _ lo hi).2 ⟨hb, near_ok0 hu hv hR, touch_at (by omega) h1 h2 (inZ_near hR)⟩
end Go.Proofs.YtpkoapmpknbgoaaGreat
/- Contracts of apiarylaw3.Point, apiarylaw4.Some and apiarylaw5.Word at even y: the word of a point's cell. -/
namespace Go.Proofs.YtpkoapmpknbgoaaGreat
open Go.RowKit Go.Lib Wd

theorem point_in (x y : Int) (w : World) : Calls Tryz.prog 41 #[.int .i64 x, .int .i64 y] w fun e w' => e = .returned (.tuple #[.int .i64 (x % 1073741824), .int .i64 (y % 1073741824)]) ∧ Below w.heap.size w w' := by
  have e1 : bits BinOp.and IntKind.i64 x 1073741823 = x % 1073741824 := i64_and_mask x 30 (by omega) 1073741823 rfl
  have e2 : bits BinOp.and IntKind.i64 y 1073741823 = y % 1073741824 := i64_and_mask y 30 (by omega) 1073741823 rfl
  generalize x % 1073741824 = a at *
  generalize y % 1073741824 = b at *
  go_enter Tryz.func41, Tryz.ntmps41
  go_wp2
  exact bodyPost_ret (v := .tuple #[.int .i64 a, .int .i64 b]) (by simp [results, Tryz.results41, go_sem]) rfl ⟨rfl, by first | exact Below.refl _ _ | exact below_drewN (Below.refl _ _) _⟩
theorem rem13 (r : Int) : (-13 < r.tmod 13 ∧ r.tmod 13 < 13) ∧ (r.tmod 13 + 13).tmod 13 = r % 13 := by
  have h : (-13 < r.tmod 13 ∧ r.tmod 13 < 13) ∧ (r.tmod 13 + 13) % 13 = r % 13 := by
    rcases Int.lt_or_le r 0 with h | h
    · have e : r.tmod 13 = -((-r) % 13) := by rw [← Int.tmod_eq_emod_of_nonneg (show 0 ≤ -r by omega), Int.neg_tmod, Int.neg_neg]
      omega
    · rw [Int.tmod_eq_emod_of_nonneg h]; omega
  refine ⟨h.1, ?_⟩
  rw [Int.tmod_eq_emod_of_nonneg (by omega)]
  exact h.2
end Go.Proofs.YtpkoapmpknbgoaaGreat
/- Contract of apiarylaw10.Box: a box of the world some cells wide. -/
namespace Go.Proofs.YtpkoapmpknbgoaaGreat
open Go.RowKit Go.Lib Wd Cv

/-- The box's greatest numbers, along one axis. -/
def farU (x wd s : Int) : Int := min (x + wd % 4294967296 % (8 * s)) 1073741823
def boxP (x y : Int) : E2 := (x % 1073741824, y % 1073741824)
def boxQ (x y wd h : Int) (R : Nat) : E2 := (farU (x % 1073741824) wd (sizeN (12 - R)), farU (y % 1073741824) h (sizeN (12 - R)))
theorem sizeN_pos {m : Nat} (hm : m ≤ 12) : 52 ≤ sizeN m ∧ sizeN m ≤ 6689109 := by
  rcases upto12 hm with rfl | rfl | rfl | rfl | rfl | rfl | rfl | rfl | rfl | rfl | rfl | rfl | rfl <;> decide
theorem farU_of {x wd s : Int} (hx : 0 ≤ x ∧ x < 1073741824) (hs : 52 ≤ s) : x ≤ farU x wd s ∧ farU x wd s < 1073741824 ∧ farU x wd s - x < 8 * s := by
  have h1 := Int.emod_nonneg (wd % 4294967296) (show 8 * s ≠ 0 by omega)
  have h2 := Int.emod_lt_of_pos (wd % 4294967296) (show 0 < 8 * s by omega)
  unfold farU
  omega
/-- What the laws know of such a box. -/
theorem lbox_of (x y wd h : Int) {R : Nat} (_hR : R ≤ 12) : worldB (boxP x y).1 (boxP x y).2 = true ∧ worldB (boxQ x y wd h R).1 (boxQ x y wd h R).2 = true ∧ (boxP x y).1 ≤ (boxQ x y wd h R).1 ∧ (boxP x y).2 ≤ (boxQ x y wd h R).2 ∧
    (boxQ x y wd h R).1 - (boxP x y).1 < 8 * sizeN (12 - R) ∧ (boxQ x y wd h R).2 - (boxP x y).2 < 8 * sizeN (12 - R) := by
  have s := (sizeN_pos (m := 12 - R) (by omega)).1
  have h1 := farU_of (x := x % 1073741824) (wd := wd) (by omega) s
  have h2 := farU_of (x := y % 1073741824) (wd := h) (by omega) s
  rw [worldB_iff, worldB_iff]
  unfold boxP boxQ
  simp only
  omega
end Go.Proofs.YtpkoapmpknbgoaaGreat
