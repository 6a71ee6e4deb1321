/- Contracts of apiarylaw19.Near, apiarylaw20.awake. -/
import Derived.Test.YtcoffankmmjehaaHullS
import Derived.Deep.CutRange
import Derived.Deep.CutBlock
import Derived.Deep.RegionWith
namespace Go.Proofs.Ytcoffankmmjehaa
open Go.RowKit Go.Lib Hull

theorem tmod_near (z s : Int) (hs : 0 < s) : -s + 1 ≤ z.tmod s ∧ z.tmod s ≤ s - 1 := by
  have h1 := Int.tmod_lt_of_pos z hs
  have h2 := Int.lt_tmod_of_pos z hs
  omega
theorem pV_snoc (l : List Pt) (x : Pt) : pV (l ++ [x]) = pV l ++ [.int .i64 x.1, .int .i64 x.2] := by rw [pV_append]; rfl
/-- What Near tells. -/
def NearTold (w : World) (size : Int) (e : Ending) (w' : World) : Prop :=
  ∃ ao c l, e = .returned (.slice ao l.length c) ∧ l.length ≤ 12 ∧ Small (size - 1) l ∧ w'.ownsRow w.heap.size 26 2 (.slice ao l.length c) l.length (pV l) ∧ Below w.heap.size w w' ∧ (l.length = 0 → ao = none ∧ c = 0)
set_option maxHeartbeats 2000000 in
set_option maxRecDepth 100000 in
theorem near_any (ax : Option Addr) (n cx : Nat) (z : Nat → Int) (size : Int) (w : World) (hx : IntsAtK .i64 w w.heap.size ax n z) (hnx : n ≤ 1000000000000000) (hs0 : 0 < size) (hs1 : size ≤ 1000000) :
    Calls Try.prog 9 #[.slice ax n cx, .int .i64 size] w (NearTold w size) := by
  obtain ⟨i1, hj, hy0, hy1, hy2⟩ := info_parts info_pt
  have HXX := Lib.hid hx
  have hsz0 : size ≠ 0 := by omega
  clear hx
  go_enter Try.func9, Try.ntmps9
  go_wp2
  go_loopw [5, 6] (fun v i wr => ∃ (k : Nat) (ao : Option Addr) (c : Nat) (l : List Pt), i = .int .i64 ((2 * k : Nat) : Int) ∧ v = .slice ao k c ∧ k ≤ 12 ∧ 2 * k ≤ n ∧ Hid (l.length = k ∧ Small (size - 1) l ∧ (k = 0 → ao = none ∧ c = 0)) ∧ Hid (wr.ownsRow w.heap.size 26 2 (.slice ao k c) k (pV l) ∧ Below w.heap.size w wr)) (fun _ i _ => n + 1 - (intOf i).toNat)
  case atStart => exact ⟨0, none, 0, [], rfl, rfl, by omega, by omega, ⟨rfl, fun p hp => by simp at hp, fun _ => ⟨rfl, rfl⟩⟩, World.ownsRow_nil _ _ _ _, Below.refl _ _⟩
  case round =>
    obtain ⟨k, ao, c, l, rfl, rfl, hk, hkn, HL, HR⟩ := hrel
    by_cases hgo : 2 * k + 1 < n ∧ k < 12
    · obtain ⟨hg1, hg2⟩ := hgo
      obtain ⟨b, off, rfl, hbB, hc⟩ := HXX.out (by omega)
      have d0 := (HR.out.2.cell (p := ⟨b, off + 2 * k, none⟩) (show b < w.heap.size by omega)).trans (hc (2 * k) (by omega))
      have d1 := (HR.out.2.cell (p := ⟨b, off + (2 * k + 1), none⟩) (show b < w.heap.size by omega)).trans (hc (2 * k + 1) (by omega))
      generalize z (2 * k) = zx at d0
      generalize z (2 * k + 1) = zy at d1
      have q1 : decide (2 * (k : Int) + 1 < (n : Int)) = true := by simp; omega
      have q2 : decide ((k : Int) < 12) = true := by simp; omega
      have hsz : w.heap.size ≤ wr.heap.size := HR.out.2.size
      have hb2 : b < wr.heap.size := by omega
      have hown := HR.out.1
      have HBR := Lib.hid HR.out.2
      have HNE : Hid (∀ x ∈ l ++ [(zx.tmod size, zy.tmod size)], (-(size - 1) ≤ x.1 ∧ x.1 ≤ size - 1) ∧ (-(size - 1) ≤ x.2 ∧ x.2 ≤ size - 1)) := fun x hx => by
        rw [List.mem_append] at hx
        rcases hx with hx | hx
        · exact HL.out.2.1 x hx
        · have := tmod_near zx size hs0
          have := tmod_near zy size hs0
          rw [List.mem_singleton.1 hx]
          simp only
          omega
      clear HR hc
      go_wp2_with (first | (with_reducible refine wp_region_lex (by kernel_rfl) (by kernel_rfl) ?_) | (with_reducible refine OnlyG.intro (by kernel_rfl) ?_) | (at_builtin; refine wpList_append_own _ rfl (.tmp 19) (.tmp 34) 23 rfl w.heap.size 26 i1 (.agg #[.int .i64 0, .int .i64 0]) 2 16 Try.underlying23 hj hy0 hy1 hy2 rfl (by decide) _ _ _ rfl ((hown.alloc _).drew) ⟨wr.heap.size, 0, none⟩ 1 1 [.int .i64 (zx.tmod size), .int .i64 (zy.tmod size)] rfl rfl (cells_new_drew _ _ _ _ rfl) (by simp [Value.oneCell']) (by unfold maxLen; omega) (by omega) (by simp; omega) ?_; intro v' w1 hown1 hgrow _))
      have HB1 : Hid (Below w.heap.size w w1) := below_append ((HBR.out.alloc hsz _).drew) ((hown.alloc _).drew) (by simp; omega) hgrow
      obtain ⟨ao', c', rfl, _⟩ := own_form hown1
      rw [← pV_snoc l (zx.tmod size, zy.tmod size)] at hown1
      have HO1 := Lib.hid hown1
      clear hown1 hgrow hown
      go_roundw
      case rel => exact ⟨k + 1, ao', c', l ++ [(zx.tmod size, zy.tmod size)], by go_num, rfl, by omega, by omega, ⟨by rw [List.length_append, HL.out.1]; rfl, HNE.out, fun h => by omega⟩, HO1.out, HB1.out⟩
      case measure => simp [intOf] <;> omega
    · have HF : Hid (NearTold w size (.returned (.slice ao k c)) wr) := ⟨ao, c, l, by rw [HL.out.1], by rw [HL.out.1]; exact hk, HL.out.2.1, by rw [HL.out.1]; exact HR.out.1, HR.out.2, by rw [HL.out.1]; exact HL.out.2.2⟩
      clear HR
      by_cases hg1 : 2 * k + 1 < n
      · have q1 : decide (2 * (k : Int) + 1 < (n : Int)) = true := by simp; omega
        have q2 : decide ((k : Int) < 12) = false := by
          rw [decide_eq_false_iff_not]; intro h; exact hgo ⟨hg1, by omega⟩
        go_wp2
        go_ret
        exact HF.out
      · have q1 : decide (2 * (k : Int) + 1 < (n : Int)) = false := by
          rw [decide_eq_false_iff_not]; omega
        go_wp2
        go_ret
        exact HF.out
theorem pAt_new {w : World} {g : Nat} {cs : Array Value} {t : TypeId} {l : List Pt} (hg : w.heap[g]? = some (.cells cs t (0, 0))) (h : cs.toList = pV l) : PAt w (some ⟨g, 0, none⟩) l := fun _ => ⟨g, 0, rfl, (Array.getElem?_eq_some_iff.1 hg).1, fun k hk => by
  have h1 := pV_get l k hk
  rw [← h, Array.getElem?_toList, Array.getElem?_toList] at h1
  rw [Nat.zero_add]
  exact ⟨by simp [World.cell?, hg, h1.1], by simp [World.cell?, hg, h1.2]⟩⟩
def aw0 : List Pt := [(0, 0), (1, 1), (2, 0), (0, 2)]
def aw1 : List Pt := [(0, 0), (2, 0), (0, 2)]
theorem aw_hull : hullF aw0 = aw1 := by
  have hc : Asc 1 [(0, 0), (0, 2), (1, 1), (2, 0)] := fun i j hij hj => by
    have hj : j < 4 := hj
    rcases (show (i = 0 ∧ j = 1) ∨ (i = 0 ∧ j = 2) ∨ (i = 0 ∧ j = 3) ∨ (i = 1 ∧ j = 2) ∨ (i = 1 ∧ j = 3) ∨ (i = 2 ∧ j = 3) by omega) with ⟨rfl, rfl⟩ | ⟨rfl, rfl⟩ | ⟨rfl, rfl⟩ | ⟨rfl, rfl⟩ | ⟨rfl, rfl⟩ | ⟨rfl, rfl⟩ <;> (rw [← ltB_iff]; decide)
  have := hull_ring (l := aw0) (C := [(0, 0), (0, 2), (1, 1), (2, 0)]) (by decide) hc (fun p => by unfold aw0; simp only [List.mem_cons, List.not_mem_nil, or_false]; constructor <;> (rintro (h | h | h | h) <;> simp [h])) (by decide) aw1 (by decide)
  exact this.eq.symm
theorem aw_len : aw1.length = 3 := rfl
theorem aw_area : (if okB aw1 = true then wrap64 (area aw1) else 0) = 4 := by
  rw [if_pos (by decide), show area aw1 = 4 by decide]; unfold wrap64; omega
theorem aw_convex : convexF aw1 = true := by rw [← aw_hull]; exact convexF_hull (by rw [aw_hull]; decide)
theorem aw_holds : holdsF aw1 (1, 1) = true := by rw [← aw_hull]; exact hull_holds (by rw [aw_hull]; decide) (by unfold aw0; simp)
theorem aw_empty : convexF [] = false := by unfold convexF; simp
set_option maxHeartbeats 4000000 in
set_option maxRecDepth 100000 in
theorem awake_any (w : World) : Calls Try.prog 12 #[] w fun e w' => e = .returned (.bool true) ∧ Below w.heap.size w w' := by
  have hn0 : (w.alloc (.cells #[.int .i64 0, .int .i64 0, .int .i64 1, .int .i64 1, .int .i64 2, .int .i64 0, .int .i64 0, .int .i64 2] 26)).heap[w.heap.size]? = some (.cells #[.int .i64 0, .int .i64 0, .int .i64 1, .int .i64 1, .int .i64 2, .int .i64 0, .int .i64 0, .int .i64 2] 26 (0, 0)) := heap_new _ _ _ rfl
  have hba : Below w.heap.size w (w.alloc (.cells #[.int .i64 0, .int .i64 0, .int .i64 1, .int .i64 1, .int .i64 2, .int .i64 0, .int .i64 0, .int .i64 2] 26)) := (Below.refl _ _).alloc (Nat.le_refl _) _
  have hof := hof_any (some ⟨w.heap.size, 0, none⟩) 4 aw0 _ (pAt_new (l := aw0) hn0 rfl) (by decide)
  rw [show aw0.length = 4 from rfl] at hof
  have HOF := Lib.hid hof
  have HBA := Lib.hid hba
  clear hn0 hba hof
  go_enter Try.func12, Try.ntmps12
  go_wp2_with fail
  refine HOF.out.mono ?_
  rintro e w1 ⟨ao, c, rfl, hp, _, _, hb⟩
  rw [aw_hull] at hp ⊢
  rw [aw_len]
  have HB1 : Hid (Below w.heap.size w w1) := HBA.out.trans (hb.mono HBA.out.size)
  have hn1 : (w1.alloc (.cells #[.int .i64 0, .int .i64 0, .int .i64 2, .int .i64 0, .int .i64 0, .int .i64 2] 26)).heap[w1.heap.size]? = some (.cells #[.int .i64 0, .int .i64 0, .int .i64 2, .int .i64 0, .int .i64 0, .int .i64 2] 26 (0, 0)) := heap_new _ _ _ rfl
  have hb2 : Below w1.heap.size w1 (w1.alloc (.cells #[.int .i64 0, .int .i64 0, .int .i64 2, .int .i64 0, .int .i64 0, .int .i64 2] 26)) := (Below.refl _ _).alloc (Nat.le_refl _) _
  have HP := Lib.hid hp
  have HBA2 := Lib.hid hb2
  have hsm := same_any ao (some ⟨w1.heap.size, 0, none⟩) c 3 aw1 aw1 _ (hp.below hb2) (pAt_new (l := aw1) hn1 rfl) (by decide) (by decide)
  rw [aw_len, decide_eq_true (rfl : aw1 = aw1)] at hsm
  have HSM := Lib.hid hsm
  clear hn1 hp hb hb2 hsm HOF HBA
  go_wp2_with fail
  refine HSM.out.mono ?_
  rintro e w2 ⟨rfl, hb⟩
  have HBX : Hid (Below w1.heap.size w1 w2) := HBA2.out.trans (hb.mono HBA2.out.size)
  have har := area_any ao c aw1 w2 (HP.out.below HBX.out) (by decide)
  rw [aw_len, aw_area] at har
  have HAR := Lib.hid har
  clear hb har HSM HBA2
  go_wp2_with fail
  refine HAR.out.mono ?_
  rintro e w3 ⟨rfl, hb⟩
  have HBY : Hid (Below w1.heap.size w1 w3) := HBX.out.trans (hb.mono HBX.out.size)
  have hcx := convex_any ao c aw1 w3 (HP.out.below HBY.out) (by decide)
  rw [aw_len, aw_convex] at hcx
  have HCX := Lib.hid hcx
  clear hb hcx HAR HBX
  go_wp2_with fail
  refine HCX.out.mono ?_
  rintro e w4 ⟨rfl, hb⟩
  have HBX : Hid (Below w1.heap.size w1 w4) := HBY.out.trans (hb.mono HBY.out.size)
  have hcn := convex_any none 0 [] w4 (fun h => by simp at h) (by decide)
  rw [aw_empty, show ([] : List Pt).length = 0 from rfl] at hcn
  have HCN := Lib.hid hcn
  clear hb hcn HCX HBY
  go_wp2_with fail
  refine HCN.out.mono ?_
  rintro e w5 ⟨rfl, hb⟩
  have HBY : Hid (Below w1.heap.size w1 w5) := HBX.out.trans (hb.mono HBX.out.size)
  have hho := holds_any ao c aw1 (1, 1) w5 (HP.out.below HBY.out) (by decide)
  rw [aw_len, aw_holds] at hho
  have HHO := Lib.hid hho
  clear hb hho HCN HBX
  go_wp2_with fail
  refine HHO.out.mono ?_
  rintro e w6 ⟨rfl, hb⟩
  have HBX : Hid (Below w.heap.size w w6) := HB1.out.trans ((HBY.out.trans (hb.mono HBY.out.size)).mono HB1.out.size)
  clear hb HHO HBY HP HB1
  go_wp2
  go_ret
  exact ⟨rfl, HBX.out⟩
end Go.Proofs.Ytcoffankmmjehaa
