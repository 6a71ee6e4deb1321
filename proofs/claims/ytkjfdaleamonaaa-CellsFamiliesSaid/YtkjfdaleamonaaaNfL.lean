/- Lists of cells in memory; the contract of apiaryref1.Children. -/
import Derived.Test.YtkjfdaleamonaaaNfE
import Derived.Test.YtkjfdaleamonaaaNfD

import Derived.Deep.CutRange
namespace Go.Proofs.Ytkjfdaleamonaaa
open Go.RowKit Go.Lib Wd

abbrev Cl := Int × E2
def cV (l : List Cl) : List Value := l.flatMap fun c => [.int .i64 c.1, .int .i64 c.2.1, .int .i64 c.2.2]
def cg (l : List Cl) (k : Nat) : Cl := l.getD k (0, (0, 0))
theorem cV_length (l : List Cl) : (cV l).length = l.length * 3 := by
  induction l with
  | nil => rfl
  | cons p l ih => simp only [cV, List.flatMap_cons, List.length_append, List.length_cons, List.length_nil] at *; omega
theorem cV_append (a b : List Cl) : cV (a ++ b) = cV a ++ cV b := by simp [cV]
theorem cV_one (c : Cl) : cV [c] = [.int .i64 c.1, .int .i64 c.2.1, .int .i64 c.2.2] := rfl
theorem cV_get : ∀ (l : List Cl) (k : Nat), k < l.length → (cV l)[k * 3]? = some (.int .i64 (cg l k).1) ∧ (cV l)[k * 3 + 1]? = some (.int .i64 (cg l k).2.1) ∧ (cV l)[k * 3 + 2]? = some (.int .i64 (cg l k).2.2)
  | [], k, h => by simp at h
  | p :: l, 0, _ => by simp [cV, cg]
  | p :: l, k + 1, h => by
    have ih := cV_get l k (by simpa using h)
    have e : cV (p :: l) = [.int .i64 p.1, .int .i64 p.2.1, .int .i64 p.2.2] ++ cV l := rfl
    have g : cg (p :: l) (k + 1) = cg l k := rfl
    rw [e, g, List.getElem?_append_right (by simp; omega), List.getElem?_append_right (by simp; omega), List.getElem?_append_right (by simp; omega)]
    simp only [List.length_cons, List.length_nil]
    rw [show (k + 1) * 3 - (0 + 1 + 1 + 1) = k * 3 by omega, show (k + 1) * 3 + 1 - (0 + 1 + 1 + 1) = k * 3 + 1 by omega, show (k + 1) * 3 + 2 - (0 + 1 + 1 + 1) = k * 3 + 2 by omega]
    exact ih
theorem cV_cell (l : List Cl) : ∀ u ∈ cV l, u.oneCell' = true := fun u hu => by
  simp only [cV, List.mem_flatMap] at hu
  obtain ⟨p, _, hp⟩ := hu
  simp at hp
  rcases hp with rfl | rfl | rfl <;> rfl
/-- In w a slice's address leads to cells. -/
def CAt (w : World) (ao : Option Addr) (l : List Cl) : Prop :=
  0 < l.length → ∃ b off, ao = some ⟨b, off, none⟩ ∧ b < w.heap.size ∧ ∀ k, k < l.length →
    w.cell? ⟨b, off + k * 3, none⟩ = some (.int .i64 (cg l k).1) ∧ w.cell? ⟨b, off + k * 3 + 1, none⟩ = some (.int .i64 (cg l k).2.1) ∧ w.cell? ⟨b, off + k * 3 + 2, none⟩ = some (.int .i64 (cg l k).2.2)
theorem CAt.below {w w' : World} {ao : Option Addr} {l : List Cl} (h : CAt w ao l) (hb : Below w.heap.size w w') : CAt w' ao l := fun h0 => by
  obtain ⟨b, off, e, hlt, hc⟩ := h h0
  refine ⟨b, off, e, Nat.lt_of_lt_of_le hlt hb.size, fun k hk => ?_⟩
  rw [hb.cell (p := ⟨b, _, none⟩) hlt, hb.cell (p := ⟨b, _, none⟩) hlt, hb.cell (p := ⟨b, _, none⟩) hlt]
  exact hc k hk
theorem cAt_own {w : World} {base n c : Nat} {ao : Option Addr} {l : List Cl} (hn : n = l.length) (h : w.ownsRow base 29 3 (.slice ao n c) n (cV l)) : CAt w ao l := fun h0 => by
  subst hn
  obtain ⟨ao', c', e, _, hh⟩ := own_form h
  cases e
  obtain ⟨g, rfl, _, hlt, hc⟩ := hh h0
  exact ⟨g, 0, rfl, hlt, fun i hi => by
    have := cV_get l i hi
    rw [Nat.zero_add]
    exact ⟨hc _ _ this.1, hc _ _ this.2.1, hc _ _ this.2.2⟩⟩
/-- What is told: cells in memory, and an error. -/
def ToldC (w : World) (L : List Cl) (E : Int) (e : Ending) (w' : World) : Prop := ∃ ao c, e = .returned (.tuple #[.slice ao L.length c, .int .i64 E]) ∧ CAt w' ao L ∧ Below w.heap.size w w'
theorem ToldC.nil {w w' : World} {E : Int} (h : Below w.heap.size w w') : ToldC w [] E (.returned (.tuple #[.slice none 0 0, .int .i64 E])) w' := ⟨Option.none, 0, rfl, fun h => by simp at h, h⟩
/-- The same, in a new block. -/
def ToldN (w : World) (L : List Cl) (E : Int) (e : Ending) (w' : World) : Prop := ∃ ao c, e = .returned (.tuple #[.slice ao L.length c, .int .i64 E]) ∧ CAt w' ao L ∧ Below w.heap.size w w' ∧ ∀ b o s, ao = some ⟨b, o, s⟩ → w.heap.size ≤ b ∧ b < w'.heap.size
theorem ToldN.nil {w w' : World} {E : Int} (h : Below w.heap.size w w') : ToldN w [] E (.returned (.tuple #[.slice none 0 0, .int .i64 E])) w' := ⟨Option.none, 0, rfl, fun h => by simp at h, h, fun _ _ _ h => by cases h⟩
/-- A cell's children. -/
def kidsL (r : Int) (z : E2) : List Cl := (List.range 7).map fun d => (r + 1, downE z d)
def kdE (r : Int) (z : E2) : Int := if okB r z = true then (if r = 12 then 1 else 0) else 2
def kdL (r : Int) (z : E2) : List Cl := if kdE r z = 0 then kidsL r z else []
theorem kidsL_take (r : Int) (z : E2) {k : Nat} (h : k < 7) : (kidsL r z).take (k + 1) = (kidsL r z).take k ++ [(r + 1, downE z k)] := by
  rw [List.take_add_one]
  congr 1
  unfold kidsL
  rw [List.getElem?_map, List.getElem?_range h]
  rfl
theorem kidsL_get (r : Int) (z : E2) {k : Nat} (h : k < 7) : cg (kidsL r z) k = (r + 1, downE z k) := by
  unfold cg kidsL
  rw [List.getD_eq_getElem?_getD, List.getElem?_map, List.getElem?_range h]
  rfl
theorem info_c : (Try.prog.info? 29).map (fun i => (i.zero, i.size, i.bytes)) = some (some (.agg #[.int .i64 0, .int .i64 0, .int .i64 0]), 3, 24) := by kernel_rfl
theorem ok_parts {r : Int} {z : E2} (h : okB r z = true) : 0 ≤ r ∧ r ≤ 12 ∧ Sm 1073741824 z := by
  have h1 := (shapeB_iff _ _).1 ((okB_iff _ _).1 h).1
  exact ⟨h1.1, h1.2.1, h1.2.2.1, h1.2.2.2.1, h1.2.2.2.2.1, h1.2.2.2.2.2⟩
set_option maxRecDepth 100000 in
set_option maxHeartbeats 4000000 in
theorem rkids_new (r : Int) (z : E2) (w : World) : Calls Try.prog 6 #[vC r z] w (ToldN w (kdL r z) (kdE r z)) := by
  obtain ⟨i1, hj, hy0, hy1, hy2⟩ := info_parts info_c
  have HOK := Lib.hid (rok_any r z)
  have HAL : Hid (Below w.heap.size w (w.alloc (.cells #[.int .i64 r, .int .i64 z.1, .int .i64 z.2] 29))) := (Below.refl _ _).alloc (Nat.le_refl _) _
  have HTR : Hid (Tri (w.alloc (.cells #[.int .i64 r, .int .i64 z.1, .int .i64 z.2] 29)) w.heap.size r z) := heap_new _ _ _ rfl
  have kA : (w.alloc (.cells #[.int .i64 r, .int .i64 z.1, .int .i64 z.2] 29)).heap.size = w.heap.size + 1 := by simp
  by_cases h : okB r z = true
  · obtain ⟨r0, r12, hsm⟩ := ok_parts h
    rw [h] at HOK
    by_cases hr : r = 12
    · subst hr
      have hE : kdE 12 z = 1 := by unfold kdE; rw [if_pos h, if_pos rfl]
      have hL : kdL 12 z = [] := by unfold kdL; rw [hE]; rfl
      rw [hE, hL]
      clear hE hL h hsm r0 r12
      simp only [vC] at *
      go_enter Try.func6, Try.ntmps6
      go_wp2_with fail
      refine (HOK.out _).mono ?_
      rintro e w1 ⟨rfl, hb1⟩
      obtain ⟨c0, c1, c2, c3, c4, c5, c6⟩ := (HTR.out.later hb1).cells
      have HB := Lib.hid (HAL.out.trans (hb1.mono (by omega)))
      clear hb1
      go_wp2
      go_ret2
      exact ToldN.nil HB.out
    · have hE : kdE r z = 0 := by unfold kdE; rw [if_pos h, if_neg hr]
      have hL : kdL r z = kidsL r z := by unfold kdL; rw [if_pos hE]
      have q1 : (r == 12) = false := by simp [hr]
      have hm : Sm 4294967296 (mulE z (2, 1)) := by unfold Sm mulE at *; simp only; omega
      have HMU := Lib.hid (rmul_in z (2, 1) (hsm.mono (by decide)) (by unfold Sm; simp) (hm.mono (by decide)))
      have HDN : Hid (∀ k, downE z (k + 1) = ((mulE z (2, 1)).1 + (unitE k).1, (mulE z (2, 1)).2 + (unitE k).2)) := fun k => rfl
      have HD0 : Hid (downE z 0 = mulE z (2, 1)) := by
        show addE (mulE z (2, 1)) (0, 0) = _
        unfold addE; simp
      rw [hE, hL]
      have HTK := Lib.hid (fun k (h : k < 7) => kidsL_take r z h)
      have HLN : Hid ((kidsL r z).length = 7) := by show _ = _; unfold kidsL; simp
      have HT1 : Hid ((kidsL r z).take 1 = [(r + 1, downE z 0)]) := rfl
      generalize kidsL r z = L at *
      generalize mulE z (2, 1) = m at *
      unfold Sm at hm
      obtain ⟨m1, m2, m3, m4⟩ := hm
      clear hE hL h hsm hr
      simp only [vC, vE] at *
      go_enter Try.func6, Try.ntmps6
      go_wp2_with fail
      refine (HOK.out _).mono ?_
      rintro e w1 ⟨rfl, hb1⟩
      have HTR1 := Lib.hid (HTR.out.later hb1)
      obtain ⟨c0, c1, c2, c3, c4, c5, c6⟩ := HTR1.out.cells
      have HB1 := Lib.hid (HAL.out.trans (hb1.mono (by omega)))
      have hz1 := hb1.size
      clear hb1 HTR HAL
      go_wp2_with fail
      refine (HMU.out _).mono ?_
      rintro e w2 ⟨rfl, hb2⟩
      have HTR2 := Lib.hid (HTR1.out.later hb2)
      have HB2 := Lib.hid (HB1.out.trans (hb2.mono (by omega)))
      have hz2 := hb2.size
      clear hb2 HTR1 HB1 c0 c1 c2 c3 c4 c5 c6
      have hal : Below w2.heap.size w2 (w2.alloc (.cells #[.int .i64 m.1, .int .i64 m.2] 27)) := (Below.refl _ _).alloc (Nat.le_refl _) _
      have M0 : Hid (Two (w2.alloc (.cells #[.int .i64 m.1, .int .i64 m.2] 27)) w2.heap.size (.int .i64 m.1) (.int .i64 m.2)) := Two.of_row (t := 27) (f := _) (heap_new _ _ _ rfl)
      have HTR3 := Lib.hid (HTR2.out.later hal)
      have HB3 := Lib.hid (HB2.out.trans (hal.mono (by omega)))
      have hz3 : w2.heap.size < (w2.alloc (.cells #[.int .i64 m.1, .int .i64 m.2] 27)).heap.size := by simp
      clear hal HTR2 HB2
      go_upto_region 6 with (fail)
      generalize w2.alloc (.cells #[.int .i64 m.1, .int .i64 m.2] 27) = w3 at *
      obtain ⟨c0, c1, c2, c3, c4, c5, c6⟩ := HTR3.out.cells
      obtain ⟨d0, d1⟩ := M0.out
      have q3 : IntKind.i64.wrap (r + 1) = r + 1 := wrap_in (by omega) (by omega)
      go_upto_region 7 with (fail)
      have HO0 : Hid ((w3.alloc (.cells #[.int .i64 (r + 1), .int .i64 m.1, .int .i64 m.2] 29)).ownsRow w3.heap.size 29 3 (.slice (some ⟨w3.heap.size, 0, none⟩) 1 1) 1 (cV (L.take 1))) := by rw [HT1.out, HD0.out]; exact World.ownsRow_lit (size := 3) (e := 29) w3 #[.int .i64 (r + 1), .int .i64 m.1, .int .i64 m.2] 1 (Nat.le_refl _) (by decide) rfl
      have HB4 : Hid (Below w3.heap.size w3 (w3.alloc (.cells #[.int .i64 (r + 1), .int .i64 m.1, .int .i64 m.2] 29))) := (Below.refl _ _).alloc (Nat.le_refl _) _
      generalize w3.alloc (.cells #[.int .i64 (r + 1), .int .i64 m.1, .int .i64 m.2] 29) = w4 at *
      clear c0 c1 c2 c3 c4 c5 d0 d1
      have hb4 := HB4.out.size
      go_wp2
      go_loopw [6, 7] (fun sl i wr => ∃ (k : Nat) (ao : Option Addr) (c : Nat), k ≤ 6 ∧ i = .int .i64 k ∧ sl = .slice ao (k + 1) c ∧ Hid (wr.ownsRow w3.heap.size 29 3 (.slice ao (k + 1) c) (k + 1) (cV (L.take (k + 1))) ∧ Below w3.heap.size w3 wr)) (fun _ i _ => 6 - (intOf i).toNat)
      case atStart => exact ⟨0, _, _, by omega, rfl, rfl, HO0.out, HB4.out⟩
      case round =>
        obtain ⟨k, ao, c, hk, rfl, rfl, HI⟩ := hrel
        by_cases hlt : k < 6
        · have q2 : decide ((k : Int) < 6) = true := decide_eq_true (by omega)
          have HUN := Lib.hid (runit_in k hlt)
          have hu := left_sm (k + 1)
          rw [show leftE (k + 1) = unitE k from rfl] at hu
          unfold Sm at hu
          obtain ⟨u1, u2, u3, u4⟩ := hu
          have HTK2 := Lib.hid (HTK.out (k + 1) (by omega))
          rw [HDN.out k] at HTK2
          simp only [vE] at HUN
          generalize unitE k = u at *
          have hsr := HI.out.2.size
          have HTX := Lib.hid (HTR3.out.later HI.out.2)
          have HMX := Lib.hid (M0.out.later (by omega) HI.out.2)
          have HOW := Lib.hid HI.out.1
          have HBW := Lib.hid (HB3.out.trans (HI.out.2.mono (by omega)))
          have HBX := Lib.hid HI.out.2
          clear HI
          go_wp2_with fail
          refine (HUN.out _).mono ?_
          rintro e w5 ⟨rfl, hb5⟩
          have hz5 := hb5.size
          have HTY := Lib.hid (HTX.out.later hb5)
          have HMY := Lib.hid (HMX.out.later (by omega) hb5)
          have HOY := Lib.hid (own_later HOW.out hb5)
          have HBY := Lib.hid (HBX.out.trans (hb5.mono (by omega)))
          clear hb5 HTX HMX HOW HBX HBW
          have hal : Below w5.heap.size w5 (w5.alloc (.cells #[.int .i64 u.1, .int .i64 u.2] 27)) := (Below.refl _ _).alloc (Nat.le_refl _) _
          have U0 : Hid (Two (w5.alloc (.cells #[.int .i64 u.1, .int .i64 u.2] 27)) w5.heap.size (.int .i64 u.1) (.int .i64 u.2)) := Two.of_row (t := 27) (f := _) (heap_new _ _ _ rfl)
          have HTZ := Lib.hid (HTY.out.later hal)
          have HMZ := Lib.hid (HMY.out.later (by omega) hal)
          have HOZ := Lib.hid (own_later HOY.out hal)
          have HBZ := Lib.hid (HBY.out.trans (hal.mono (by omega)))
          have hz6 : w5.heap.size < (w5.alloc (.cells #[.int .i64 u.1, .int .i64 u.2] 27)).heap.size := by simp
          clear hal HTY HMY HOY HBY
          go_upto_region 11 with (fail)
          generalize w5.alloc (.cells #[.int .i64 u.1, .int .i64 u.2] 27) = w6 at *
          obtain ⟨c0, c1, c2, c3, c4, c5, c6⟩ := HTZ.out.cells
          obtain ⟨d0, d1⟩ := HMZ.out
          obtain ⟨e0, e1⟩ := U0.out
          clear HTZ HMZ U0 c1 c2 c3 c4 c5
          have hown := HOZ.out
          clear HOZ
          go_wp2_with (at_builtin; refine wpList_append_own _ rfl (.tmp 36) (.tmp 52) 32 rfl w3.heap.size 29 i1 (.agg #[.int .i64 0, .int .i64 0, .int .i64 0]) 3 24 Try.underlying32 hj hy0 hy1 hy2 rfl (by decide) _ _ _ rfl (hown.alloc _) ⟨w6.heap.size, 0, none⟩ 1 1 [.int .i64 (r + 1), .int .i64 (m.1 + u.1), .int .i64 (m.2 + u.2)] rfl rfl (cells_new _ _ _ _ rfl) (by simp [Value.oneCell']) (by unfold maxLen; omega) (by omega) (by simp; omega) ?_; intro v' w7 hown1 hgrow _)
          have HB7 : Hid (Below w3.heap.size w3 w7) := below_append (HBZ.out.alloc (by omega) (.cells #[.int .i64 (r + 1), .int .i64 (m.1 + u.1), .int .i64 (m.2 + u.2)] 29)) (hown.alloc (.cells #[.int .i64 (r + 1), .int .i64 (m.1 + u.1), .int .i64 (m.2 + u.2)] 29)) (by simp; omega) hgrow
          obtain ⟨ao', c', rfl, _⟩ := own_form hown1
          have HO7 : Hid (w7.ownsRow w3.heap.size 29 3 (.slice ao' (k + 1 + 1) c') (k + 1 + 1) (cV (L.take (k + 1 + 1)))) := by rw [HTK2.out, cV_append]; exact hown1
          clear hown1 hgrow hown
          go_wp2
          go_roundw
          case rel => exact ⟨k + 1, ao', c', by omega, by go_num, rfl, HO7.out, HB7.out⟩
          case measure => simp [intOf]; omega
        · obtain rfl : k = 6 := by omega
          have HF : Hid (ToldN w L 0 (.returned (.tuple #[.slice ao 7 c, .int .i64 0])) wr) := by
            have h1 := HI.out.1
            rw [show L.take (6 + 1) = L from List.take_of_length_le (by rw [HLN.out]; exact Nat.le_refl _)] at h1
            exact ⟨ao, c, by rw [HLN.out], cAt_own (by rw [HLN.out]) h1, HB3.out.trans (HI.out.2.mono (by omega)), fun b o s e => ⟨by have := (own_lt h1 b o s e).1; omega, (own_lt h1 b o s e).2⟩⟩
          clear HI
          go_wp2
          go_ret2
          exact HF.out
  · have hE : kdE r z = 2 := by unfold kdE; rw [if_neg h]
    have hL : kdL r z = [] := by unfold kdL; rw [hE]; rfl
    rw [hE, hL]
    rw [Bool.eq_false_iff.2 h] at HOK
    clear hE hL h
    simp only [vC] at *
    go_enter Try.func6, Try.ntmps6
    go_wp2_with fail
    refine (HOK.out _).mono ?_
    rintro e w1 ⟨rfl, hb1⟩
    have HB := Lib.hid (HAL.out.trans (hb1.mono (by omega)))
    clear hb1
    go_wp2
    go_ret2
    exact ToldN.nil HB.out
theorem rkids_any (r : Int) (z : E2) (w : World) : Calls Try.prog 6 #[vC r z] w (ToldC w (kdL r z) (kdE r z)) :=
  (rkids_new r z w).mono fun _ _ ⟨ao, c, h1, h2, h3, _⟩ => ⟨ao, c, h1, h2, h3⟩
end Go.Proofs.Ytkjfdaleamonaaa
