/- Contracts of poly.On, poly.Area2, poly.Box. -/
import Derived.Test.YtnnfkdajbaicoaaPolyD
namespace Go.Proofs.Ytnnfkdajbaicoaa
open Go.RowKit

set_option maxHeartbeats 2000000 in
theorem onall_any (ao : Option Addr) (c : Nat) (ls : List (List Pt)) (x y : Int) (w : World) (B : Nat) (hB : B ≤ w.heap.size) (h : RingsAt w B ao ls) (hn : ls.length ≤ 1000000000) (ht : totTo ls ls.length ≤ 1000000000) :
    Calls Try.prog 13 #[.slice ao ls.length c, .int .i64 x, .int .i64 y] w fun e w' => e = .returned (.bool (onF ls x y)) ∧ Below w.heap.size w w' := by
  have hnear := fun w (hB : B ≤ w.heap.size) (h : RingsAt w B ao ls) => near_any ao c ls x y w B hB h hn ht
  obtain ⟨n, hnn⟩ : ∃ n, ls.length = n := ⟨_, rfl⟩
  rw [hnn] at hn hnear ⊢
  have HNEAR := Lib.hid hnear
  have HT := Lib.hid ht
  have HN : Hid (ls.length = n) := hnn
  clear hnn hnear ht
  cases hnf : nearF ls x y
  · have HF : Hid (onF ls x y = false) := by show _ = _; unfold onF; rw [hnf]; rfl
    go_enter Try.func13, Try.ntmps13
    go_wp2_with (go_at_call 22; refine (HNEAR.out _ hB h).mono ?_; rintro e w' ⟨rfl, hb⟩)
    go_ret
    exact ⟨ret_bool HF.out.symm, hb⟩
  · have hmf : ∀ (fn : Fn) (first cap : Array Value) (w : World), (Instr.makeFunc fn first cap).run Try.prog w = .ok (.func fn first cap) w := fun _ _ _ _ => rfl
    have HF : Hid (onF ls x y = onTo ls x y n) := by show _ = _; unfold onF; rw [hnf, HN.out]; rfl
    go_enter Try.func13, Try.ntmps13
    go_wp2_with (go_at_call 22; refine (HNEAR.out _ hB h).mono ?_; rintro e w' ⟨rfl, hb⟩)
    go_loopw [19] (fun i wr => ∃ (k : Nat), k ≤ n ∧ i = .int .i64 k ∧ Hid (onTo ls x y k = false) ∧ Below w.heap.size w wr) (fun i _ => n - (intOf i).toNat)
    case atStart => exact ⟨0, Nat.zero_le _, rfl, rfl, hb⟩
    case round =>
      obtain ⟨k, hk, rfl, HO, hnx⟩ := hrel
      have hsz := hnx.size
      by_cases hlt : k < n
      · have hkl : k < ls.length := by rw [HN.out]; exact hlt
        obtain ⟨b, off, rfl, hbB, hc⟩ := h (by omega)
        obtain ⟨ri, ci, c0w, hri⟩ := hc k hkl
        have c0 := (hnx.cell (p := ⟨b, off + k, none⟩) (show b < w.heap.size by omega)).trans c0w
        have hlen : (rg ls k).length ≤ 1000000000 := by
          have h1 := totTo_succ ls k hkl
          have h2 := totTo_le ls (k + 1) (by omega)
          have := HT.out
          omega
        have HE := Lib.hid (edges_at ri ci (rg ls k) wr B (by omega) (hri.below hnx hB) hlen)
        have HK := Lib.hid hkl
        obtain ⟨m, hm⟩ : ∃ m, (rg ls k).length = m := ⟨_, rfl⟩
        rw [hm] at c0 HE hlen
        have HML : Hid ((rg ls k).length = m) := hm
        clear hm c0w hc hri hkl
        obtain ⟨wo, hwo⟩ : ∃ wo : World, wo = wr := ⟨_, rfl⟩
        subst hwo
        go_wp2_with (go_at_call 23; refine HE.out.mono ?_; rintro e w2 ⟨ao2, c2, rfl, hea, hb2⟩)
        have hnx2 := below_later hnx hsz hb2
        go_loopw [26] (fun i wi => ∃ (j : Nat), j ≤ m ∧ i = .int .i64 j ∧ Hid (onR (rg ls k) x y j = false) ∧ Below w2.heap.size w2 wi) (fun i _ => m - (intOf i).toNat)
        case atStart => exact ⟨0, Nat.zero_le _, rfl, rfl, Below.refl _ _⟩
        case round =>
          obtain ⟨j, hj, rfl, HO2, hni⟩ := hrel
          have hsi := hni.size
          by_cases hjl : j < m
          · obtain ⟨g, rfl, hg, hgc⟩ := hea.below hni (Nat.le_refl _) (by rw [HML.out]; omega)
            obtain ⟨d0, d1, d2, d3⟩ := hgc j (by rw [HML.out]; exact hjl)
            have HON : Hid (onE (px (rg ls k) j) (py (rg ls k) j) (px (rg ls k) ((j + 1) % (rg ls k).length)) (py (rg ls k) ((j + 1) % (rg ls k).length)) x y = onEl (rg ls k) x y j) := rfl
            generalize px (rg ls k) j = p0 at d0 HON
            generalize py (rg ls k) j = p1 at d1 HON
            generalize px (rg ls k) ((j + 1) % (rg ls k).length) = q0 at d2 HON
            generalize py (rg ls k) ((j + 1) % (rg ls k).length) = q1 at d3 HON
            clear hgc
            cases hon : onEl (rg ls k) x y j
            · rw [show onEl (rg ls k) x y j = false from hon] at HON
              have HONF := Lib.hid hon
              clear hon
              have hon2 : onE p0 p1 q0 q1 x y = false := HON
              go_wp2_with (first | (go_at_call 24; refine (on_any _ _ _ _ _ _ _).mono ?_; rintro e w3 ⟨rfl, hb3⟩; have e0 := cell_kept hb3 0 _ rfl; have e1 := cell_kept hb3 1 _ rfl; have e2 := cell_kept hb3 2 _ rfl; have e3 := cell_kept hb3 3 _ rfl))
              go_roundw
              case rel => exact ⟨j + 1, by omega, by go_num, by show _ = _; rw [onR_succ, HO2.out, HONF.out]; rfl, below_alloc' hni hb3⟩
              case measure => simp [intOf]; omega
            · rw [show onEl (rg ls k) x y j = true from hon] at HON
              have hon2 : onE p0 p1 q0 q1 x y = true := HON
              have HFT : Hid (onF ls x y = true) := by
                show _ = _
                rw [HF.out, ← HN.out, onTo_true HK.out (onR_true (by rw [HML.out]; exact hjl) hon)]
              clear hon
              go_wp2_with (first | (go_at_call 24; refine (on_any _ _ _ _ _ _ _).mono ?_; rintro e w3 ⟨rfl, hb3⟩; have e0 := cell_kept hb3 0 _ rfl; have e1 := cell_kept hb3 1 _ rfl; have e2 := cell_kept hb3 2 _ rfl; have e3 := cell_kept hb3 3 _ rfl))
              go_ret
              exact ⟨ret_bool HFT.out.symm, below_later hnx2 (by have := hnx2.size; omega) (below_alloc' hni hb3)⟩
          · obtain rfl : j = m := by omega
            go_wp2
            go_roundw
            case rel => exact ⟨k + 1, by omega, by go_num, by show _ = _; rw [onTo_succ ls x y k HK.out, HO.out, HML.out, HO2.out]; rfl, below_later hnx2 (by have := hnx2.size; omega) hni⟩
            case measure => simp [intOf]; omega
      · obtain rfl : k = n := by omega
        go_wp2
        go_ret
        exact ⟨ret_bool (by rw [HF.out, HO.out]), hnx⟩

def stepA (l : List Pt) (s : Int) (j : Nat) : Int :=
  wrap64 (s + wrap64 (wrap64 (px l j * py l ((j + 1) % l.length)) - wrap64 (px l ((j + 1) % l.length) * py l j)))
def areaTo (l : List Pt) (j : Nat) : Int := (List.range j).foldl (stepA l) 0
def area2F (l : List Pt) : Int := if checkF [l] = 0 then areaTo l l.length else 0
theorem areaTo_succ (l : List Pt) (j : Nat) : areaTo l (j + 1) = stepA l (areaTo l j) j := by unfold areaTo; rw [List.range_succ]; simp

/-- A ring in a new row of one. -/
theorem rings_one {w : World} {B : Nat} {ri : Option Addr} {l : List Pt} (ci : Nat) (t : TypeId) (h : RingAt w B ri l) (hB : B ≤ w.heap.size) :
    RingsAt (w.alloc (.cells #[.slice ri l.length ci] t)) (w.heap.size + 1) (some ⟨w.heap.size, 0, none⟩) [l] := by
  intro _
  refine ⟨w.heap.size, 0, rfl, by omega, fun i hi => ?_⟩
  obtain rfl : i = 0 := by simpa using hi
  refine ⟨ri, ci, ?_, ?_⟩
  · rw [cell_of_row _ w.heap.size _ _ t (0, 0) (heap_new w _ _ rfl)]; rfl
  · intro h0
    obtain ⟨b, off, e, hlt, hc⟩ := (h.below ((Below.refl _ _).alloc (Nat.le_refl _) (.cells #[.slice ri l.length ci] t)) hB) h0
    exact ⟨b, off, e, by omega, hc⟩

set_option maxHeartbeats 2000000 in
theorem area_any (ao : Option Addr) (c : Nat) (l : List Pt) (w : World) (B : Nat) (hB : B ≤ w.heap.size) (h : RingAt w B ao l) (hl : l.length ≤ 1000000000) :
    Calls Try.prog 15 #[.slice ao l.length c] w fun e w' => e = .returned (.int .i64 (area2F l)) ∧ Below w.heap.size w w' := by
  have HC := Lib.hid (check_any (some ⟨w.heap.size, 0, none⟩) 1 [l] (w.alloc (.cells #[.slice ao l.length c] 26)) (w.heap.size + 1) (by simp) (rings_one c 26 h hB) (by simp) (by simpa [totTo] using hl))
  have HE := Lib.hid (fun w1 (hb : Below w.heap.size w w1) => edges_at ao c l w1 B (by have := hb.size; omega) (h.below hb hB) hl)
  obtain ⟨m, hm⟩ : ∃ m, l.length = m := ⟨_, rfl⟩
  rw [hm] at HC HE hl ⊢
  have HML : Hid (l.length = m) := hm
  clear hm
  by_cases hz : checkF [l] = 0
  · have HF : Hid (area2F l = areaTo l m) := by show _ = _; unfold area2F; rw [if_pos hz, HML.out]
    rw [hz] at HC
    clear hz
    go_enter Try.func15, Try.ntmps15
    go_wp2_with (first | (go_at_call 14; refine HC.out.mono ?_; rintro e w1 ⟨rfl, hb1⟩; have hb1' := below_alloc hb1) | (go_at_call 23; refine (HE.out _ (by assumption)).mono ?_; rintro e w2 ⟨ao2, c2, rfl, hea, hb2⟩))
    have hnx2 := below_later hb1' hb1'.size hb2
    go_loopw [3, 13] (fun v i wi => ∃ (j : Nat) (s : Int), j ≤ m ∧ i = .int .i64 j ∧ v = .int .i64 s ∧ Hid (s = areaTo l j) ∧ Below w2.heap.size w2 wi) (fun _ i _ => m - (intOf i).toNat)
    case atStart => exact ⟨0, 0, Nat.zero_le _, rfl, rfl, rfl, Below.refl _ _⟩
    case round =>
      obtain ⟨j, s, hj, rfl, rfl, HS, hni⟩ := hrel
      have hsi := hni.size
      by_cases hjl : j < m
      · obtain ⟨g, rfl, hg, hgc⟩ := hea.below hni (Nat.le_refl _) (by rw [HML.out]; omega)
        obtain ⟨d0, d1, d2, d3⟩ := hgc j (by rw [HML.out]; exact hjl)
        have HST : Hid (stepA l s j = wrap64 (s + wrap64 (wrap64 (px l j * py l ((j + 1) % l.length)) - wrap64 (px l ((j + 1) % l.length) * py l j)))) := rfl
        generalize px l j = p0 at d0 HST
        generalize py l j = p1 at d1 HST
        generalize px l ((j + 1) % l.length) = q0 at d2 HST
        generalize py l ((j + 1) % l.length) = q1 at d3 HST
        clear hgc
        go_wp2
        go_roundw
        case rel => exact ⟨j + 1, _, by omega, by go_num, rfl, by show _ = _; rw [areaTo_succ, ← HS.out, HST.out], hni.alloc hsi _⟩
        case measure => simp [intOf]; omega
      · obtain rfl : j = m := by omega
        go_wp2
        go_ret
        exact ⟨ret_int (by rw [HF.out, HS.out]), below_later hnx2 (by have := hnx2.size; omega) hni⟩
  · have HF : Hid (area2F l = 0) := by show _ = _; unfold area2F; rw [if_neg hz]
    have hzb : (checkF [l] != 0) = true := by simpa using hz
    go_enter Try.func15, Try.ntmps15
    go_wp2_with (first | (go_at_call 14; refine HC.out.mono ?_; rintro e w1 ⟨rfl, hb1⟩; have hb1' := below_alloc hb1))
    go_ret
    exact ⟨ret_int (by rw [HF.out]), by assumption⟩
end Go.Proofs.Ytnnfkdajbaicoaa
