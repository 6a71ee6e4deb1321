/- Contracts of poly.near, poly.On, poly.Inside. -/
import Derived.Test.YtnnfkdajbaicoaaPolyC
namespace Go.Proofs.Ytnnfkdajbaicoaa
open Go.RowKit

theorem edgeVs_length (l : List Pt) (n : Nat) : (edgeVs l n).length = n * 4 := by
  induction n with
  | zero => rfl
  | succ n ih => rw [edgeVs_succ, List.length_append, ih]; simp [edgeV]; omega
theorem edgeVs_get (l : List Pt) (n j t : Nat) (hj : j < n) (ht : t < 4) : (edgeVs l n)[j * 4 + t]? = (edgeV l j)[t]? := by
  induction n with
  | zero => omega
  | succ n ih =>
    rw [edgeVs_succ]
    by_cases h : j < n
    · rw [List.getElem?_append_left (by rw [edgeVs_length]; omega)]; exact ih h
    · obtain rfl : j = n := by omega
      rw [List.getElem?_append_right (by rw [edgeVs_length]; omega), edgeVs_length]
      congr 1; omega
/-- A slice's address leads to a ring's edges. -/
def EdgesAt (w : World) (B : Nat) (ao : Option Addr) (l : List Pt) : Prop :=
  0 < l.length → ∃ g, ao = some ⟨g, 0, none⟩ ∧ g < B ∧ ∀ j, j < l.length →
    w.cell? ⟨g, j * 4, none⟩ = some (.int .i64 (px l j)) ∧ w.cell? ⟨g, j * 4 + 1, none⟩ = some (.int .i64 (py l j)) ∧
    w.cell? ⟨g, j * 4 + 2, none⟩ = some (.int .i64 (px l ((j + 1) % l.length))) ∧ w.cell? ⟨g, j * 4 + 3, none⟩ = some (.int .i64 (py l ((j + 1) % l.length)))
theorem EdgesAt.below {w w' : World} {B : Nat} {ao : Option Addr} {l : List Pt} (h : EdgesAt w B ao l) {C : Nat} (hb : Below C w w') (hC : B ≤ C) : EdgesAt w' B ao l := by
  intro h0
  obtain ⟨g, e, hlt, hc⟩ := h h0
  refine ⟨g, e, hlt, fun j hj => ?_⟩
  rw [hb.cell (p := ⟨g, _, none⟩) (show g < C by omega), hb.cell (p := ⟨g, _, none⟩) (show g < C by omega), hb.cell (p := ⟨g, _, none⟩) (show g < C by omega), hb.cell (p := ⟨g, _, none⟩) (show g < C by omega)]
  exact hc j hj
theorem edges_at (ao : Option Addr) (c : Nat) (l : List Pt) (w : World) (B : Nat) (hB : B ≤ w.heap.size) (h : RingAt w B ao l) (hl : l.length ≤ 1000000000) :
    Calls Try.prog 23 #[.slice ao l.length c] w fun e w' => ∃ ao' c', e = .returned (.slice ao' l.length c') ∧ EdgesAt w' w'.heap.size ao' l ∧ Below w.heap.size w w' :=
  (edges_any ao c l w B hB h hl).mono fun e w' ⟨v, he, hown, hb⟩ => by
    obtain ⟨ao', c', rfl, _, hc⟩ := own_form hown
    refine ⟨ao', c', he, fun h0 => ?_, hb⟩
    obtain ⟨g, e1, _, hg, hc⟩ := hc h0
    refine ⟨g, e1, hg, fun j hj => ?_⟩
    have hx := fun t ht u hu => hc (j * 4 + t) u ((edgeVs_get l l.length j t hj ht).trans hu)
    exact ⟨hx 0 (by omega) _ rfl, hx 1 (by omega) _ rfl, hx 2 (by omega) _ rfl, hx 3 (by omega) _ rfl⟩

def nearF (ls : List (List Pt)) (x y : Int) : Bool := decide (-2147483648 ≤ x) && decide (x ≤ 2147483648) && decide (-2147483648 ≤ y) && decide (y ≤ 2147483648) && checkF ls == 0
theorem near_any (ao : Option Addr) (c : Nat) (ls : List (List Pt)) (x y : Int) (w : World) (B : Nat) (hB : B ≤ w.heap.size) (h : RingsAt w B ao ls) (hn : ls.length ≤ 1000000000) (ht : totTo ls ls.length ≤ 1000000000) :
    Calls Try.prog 22 #[.slice ao ls.length c, .int .i64 x, .int .i64 y] w fun e w' => e = .returned (.bool (nearF ls x y)) ∧ Below w.heap.size w w' := by
  have hc : ∀ w', Below w.heap.size w w' → RingsAt w' B ao ls := fun w' hb => h.below hb hB
  by_cases h1 : -2147483648 ≤ x ∧ x ≤ 2147483648 ∧ -2147483648 ≤ y ∧ y ≤ 2147483648
  · obtain ⟨h1, h2, h3, h4⟩ := h1
    have HF : Hid (nearF ls x y = (checkF ls == 0)) := by
      show _ = _
      unfold nearF
      simp [h1, h2, h3, h4]
    go_enter Try.func22, Try.ntmps22
    go_wp2_with (go_at_call 14; refine (check_any _ _ _ _ B hB h hn ht).mono ?_; rintro e w' ⟨rfl, hb⟩)
    go_ret
    exact ⟨ret_bool HF.out.symm, hb⟩
  · have HF : Hid (nearF ls x y = false) := by
      show _ = _
      unfold nearF
      simp
      omega
    rcases (show x < -2147483648 ∨ (-2147483648 ≤ x ∧ 2147483648 < x) ∨ (-2147483648 ≤ x ∧ x ≤ 2147483648 ∧ y < -2147483648) ∨ (-2147483648 ≤ x ∧ x ≤ 2147483648 ∧ -2147483648 ≤ y ∧ 2147483648 < y) by omega) with h2 | ⟨h2, h3⟩ | ⟨h2, h3, h4⟩ | ⟨h2, h3, h4, h5⟩
    all_goals
      clear h1
      go_enter Try.func22, Try.ntmps22
      go_wp2
      go_ret
      exact ⟨ret_bool HF.out.symm, Below.refl _ _⟩

def onEl (l : List Pt) (x y : Int) (j : Nat) : Bool := onE (px l j) (py l j) (px l ((j + 1) % l.length)) (py l ((j + 1) % l.length)) x y
def crEl (l : List Pt) (x y : Int) (j : Nat) : Bool := crE (px l j) (py l j) (px l ((j + 1) % l.length)) (py l ((j + 1) % l.length)) x y
/-- One of the first j edges has the point. -/
def onR (l : List Pt) (x y : Int) (j : Nat) : Bool := (List.range j).any (onEl l x y)
/-- The number of the first j edges that cross is odd. -/
def crR (l : List Pt) (x y : Int) (j : Nat) : Bool := (List.range j).foldl (fun o i => o != crEl l x y i) false
def onTo (ls : List (List Pt)) (x y : Int) (k : Nat) : Bool := (ls.take k).any fun l => onR l x y l.length
def crTo (ls : List (List Pt)) (x y : Int) (k : Nat) : Bool := (ls.take k).foldl (fun o l => o != crR l x y l.length) false
def onF (ls : List (List Pt)) (x y : Int) : Bool := nearF ls x y && onTo ls x y ls.length
def insideF (ls : List (List Pt)) (x y : Int) : Bool := nearF ls x y && (onTo ls x y ls.length || crTo ls x y ls.length)
theorem onR_succ (l : List Pt) (x y : Int) (j : Nat) : onR l x y (j + 1) = (onR l x y j || onEl l x y j) := by unfold onR; rw [List.range_succ]; simp
theorem crR_succ (l : List Pt) (x y : Int) (j : Nat) : crR l x y (j + 1) = (crR l x y j != crEl l x y j) := by unfold crR; rw [List.range_succ]; simp
theorem onTo_succ (ls : List (List Pt)) (x y : Int) (k : Nat) (h : k < ls.length) : onTo ls x y (k + 1) = (onTo ls x y k || onR (rg ls k) x y (rg ls k).length) := by
  unfold onTo rg; rw [take_succ' ls k [] h]; simp
theorem crTo_succ (ls : List (List Pt)) (x y : Int) (k : Nat) (h : k < ls.length) : crTo ls x y (k + 1) = (crTo ls x y k != crR (rg ls k) x y (rg ls k).length) := by
  unfold crTo rg; rw [take_succ' ls k [] h]; simp
theorem onR_true {l : List Pt} {x y : Int} {j n : Nat} (hj : j < n) (h : onEl l x y j = true) : onR l x y n = true := by
  unfold onR; rw [List.any_eq_true]; exact ⟨j, by simpa using hj, h⟩
theorem onTo_true {ls : List (List Pt)} {x y : Int} {k : Nat} (hk : k < ls.length) (h : onR (rg ls k) x y (rg ls k).length = true) : onTo ls x y ls.length = true := by
  unfold onTo; rw [List.any_eq_true]; exact ⟨rg ls k, by simp [rg, hk], h⟩

set_option maxHeartbeats 2000000 in
theorem inside_any (ao : Option Addr) (c : Nat) (ls : List (List Pt)) (x y : Int) (w : World) (B : Nat) (hB : B ≤ w.heap.size) (h : RingsAt w B ao ls) (hn : ls.length ≤ 1000000000) (ht : totTo ls ls.length ≤ 1000000000) :
    Calls Try.prog 12 #[.slice ao ls.length c, .int .i64 x, .int .i64 y] w fun e w' => e = .returned (.bool (insideF ls x y)) ∧ Below w.heap.size w w' := by
  have hnear := fun w (hB : B ≤ w.heap.size) (h : RingsAt w B ao ls) => near_any ao c ls x y w B hB h hn ht
  obtain ⟨n, hnn⟩ : ∃ n, ls.length = n := ⟨_, rfl⟩
  rw [hnn] at hn hnear ⊢
  have HNEAR := Lib.hid hnear
  have HT := Lib.hid ht
  have HN : Hid (ls.length = n) := hnn
  clear hnn hnear ht
  cases hnf : nearF ls x y
  · have HF : Hid (insideF ls x y = false) := by show _ = _; unfold insideF; rw [hnf]; rfl
    go_enter Try.func12, Try.ntmps12
    go_wp2_with (go_at_call 22; refine (HNEAR.out _ hB h).mono ?_; rintro e w' ⟨rfl, hb⟩)
    go_ret
    exact ⟨ret_bool HF.out.symm, hb⟩
  · have HF : Hid (insideF ls x y = (onTo ls x y n || crTo ls x y n)) := by show _ = _; unfold insideF; rw [hnf, HN.out]; rfl
    go_enter Try.func12, Try.ntmps12
    go_wp2_with (go_at_call 22; refine (HNEAR.out _ hB h).mono ?_; rintro e w' ⟨rfl, hb⟩)
    go_loopw [7, 19] (fun v7 i wr => ∃ (k : Nat) (o : Bool), k ≤ n ∧ i = .int .i64 k ∧ v7 = .bool o ∧ Hid (onTo ls x y k = false ∧ o = crTo ls x y k) ∧ Below w.heap.size w wr) (fun _ i _ => n - (intOf i).toNat)
    case atStart => exact ⟨0, false, Nat.zero_le _, rfl, rfl, ⟨rfl, rfl⟩, hb⟩
    case round =>
      obtain ⟨k, o, hk, rfl, rfl, HO, hnx⟩ := hrel
      have hsz := hnx.size
      by_cases hlt : k < n
      · have hkl : k < ls.length := by rw [HN.out]; exact hlt
        obtain ⟨b, off, rfl, hbB, hc⟩ := h (by omega)
        obtain ⟨ri, ci, c0w, hri⟩ := hc k hkl
        have c0 := (hnx.cell (p := ⟨b, off + k, none⟩) (show b < w.heap.size by omega)).trans c0w
        have hlen : (rg ls k).length ≤ 1000000000 := by
          have h1 := totTo_succ ls k hkl
          have h2 := totTo_le ls (k + 1) (by omega)
          have := HT.out
          omega
        have HE := Lib.hid (edges_at ri ci (rg ls k) wr B (by omega) (hri.below hnx hB) hlen)
        have HK := Lib.hid hkl
        obtain ⟨m, hm⟩ : ∃ m, (rg ls k).length = m := ⟨_, rfl⟩
        rw [hm] at c0 HE hlen
        have HML : Hid ((rg ls k).length = m) := hm
        clear hm c0w hc hri hkl
        obtain ⟨wo, hwo⟩ : ∃ wo : World, wo = wr := ⟨_, rfl⟩
        subst hwo
        go_wp2_with (go_at_call 23; refine HE.out.mono ?_; rintro e w2 ⟨ao2, c2, rfl, hea, hb2⟩)
        have hnx2 := below_later hnx hsz hb2
        go_loopw [7, 26] (fun v7 i wi => ∃ (j : Nat) (o2 : Bool), j ≤ m ∧ i = .int .i64 j ∧ v7 = .bool o2 ∧ Hid (onR (rg ls k) x y j = false ∧ o2 = (o != crR (rg ls k) x y j)) ∧ Below w2.heap.size w2 wi) (fun _ i _ => m - (intOf i).toNat)
        case atStart => exact ⟨0, o, Nat.zero_le _, rfl, rfl, ⟨rfl, by simp [crR]⟩, Below.refl _ _⟩
        case round =>
          obtain ⟨j, o2, hj, rfl, rfl, HO2, hni⟩ := hrel
          have hsi := hni.size
          by_cases hjl : j < m
          · obtain ⟨g, rfl, hg, hgc⟩ := hea.below hni (Nat.le_refl _) (by rw [HML.out]; omega)
            obtain ⟨d0, d1, d2, d3⟩ := hgc j (by rw [HML.out]; exact hjl)
            have HON : Hid (onE (px (rg ls k) j) (py (rg ls k) j) (px (rg ls k) ((j + 1) % (rg ls k).length)) (py (rg ls k) ((j + 1) % (rg ls k).length)) x y = onEl (rg ls k) x y j) := rfl
            have HCR : Hid (crE (px (rg ls k) j) (py (rg ls k) j) (px (rg ls k) ((j + 1) % (rg ls k).length)) (py (rg ls k) ((j + 1) % (rg ls k).length)) x y = crEl (rg ls k) x y j) := rfl
            generalize px (rg ls k) j = p0 at d0 HON HCR
            generalize py (rg ls k) j = p1 at d1 HON HCR
            generalize px (rg ls k) ((j + 1) % (rg ls k).length) = q0 at d2 HON HCR
            generalize py (rg ls k) ((j + 1) % (rg ls k).length) = q1 at d3 HON HCR
            clear hgc
            cases hon : onEl (rg ls k) x y j
            · rw [show onEl (rg ls k) x y j = false from hon] at HON
              have HONF := Lib.hid hon
              clear hon
              have hon2 : onE p0 p1 q0 q1 x y = false := HON
              go_wp2_with (first | (go_at_call 24; refine (on_any _ _ _ _ _ _ _).mono ?_; rintro e w3 ⟨rfl, hb3⟩; have e0 := cell_kept hb3 0 _ rfl; have e1 := cell_kept hb3 1 _ rfl; have e2 := cell_kept hb3 2 _ rfl; have e3 := cell_kept hb3 3 _ rfl) | (go_at_call 25; refine (cr_any _ _ _ _ _ _ _).mono ?_; rintro e w4 ⟨rfl, hb4⟩))
              go_roundw
              case rel => exact ⟨j + 1, _, by omega, by go_num, rfl, ⟨by rw [onR_succ, HO2.out.1, HONF.out]; rfl, by rw [crR_succ, HO2.out.2, ← HCR.out]; cases o <;> cases crR (rg ls k) x y j <;> cases crE p0 p1 q0 q1 x y <;> rfl⟩, (below_alloc' hni hb3).trans (hb4.mono (by have := hb3.size; simp at this; omega))⟩
              case measure => simp [intOf]; omega
            · rw [show onEl (rg ls k) x y j = true from hon] at HON
              have hon2 : onE p0 p1 q0 q1 x y = true := HON
              have HFT : Hid (insideF ls x y = true) := by
                show _ = _
                rw [HF.out, ← HN.out, onTo_true HK.out (onR_true (by rw [HML.out]; exact hjl) hon)]
                rfl
              clear hon
              go_wp2_with (first | (go_at_call 24; refine (on_any _ _ _ _ _ _ _).mono ?_; rintro e w3 ⟨rfl, hb3⟩; have e0 := cell_kept hb3 0 _ rfl; have e1 := cell_kept hb3 1 _ rfl; have e2 := cell_kept hb3 2 _ rfl; have e3 := cell_kept hb3 3 _ rfl))
              go_ret
              exact ⟨ret_bool HFT.out.symm, below_later hnx2 (by have := hnx2.size; omega) (below_alloc' hni hb3)⟩
          · obtain rfl : j = m := by omega
            go_wp2
            go_roundw
            case rel => exact ⟨k + 1, _, by omega, by go_num, rfl, ⟨by rw [onTo_succ ls x y k HK.out, HO.out.1, HML.out, HO2.out.1]; rfl, by rw [crTo_succ ls x y k HK.out, ← HO.out.2, HML.out]; exact HO2.out.2⟩, below_later hnx2 (by have := hnx2.size; omega) hni⟩
            case measure => simp [intOf]; omega
      · obtain rfl : k = n := by omega
        go_wp2
        go_ret
        exact ⟨ret_bool (by rw [HF.out, HO.out.1, ← HO.out.2]; rfl), hnx⟩
end Go.Proofs.Ytnnfkdajbaicoaa
