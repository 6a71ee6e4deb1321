/- Contracts of the library's Grow (of nil) and Concat (of two) at []uint64. -/
import Derived.Test.YtkjfdaleamonaaaSlC
import Derived.Lib.AppendZeros
import Derived.OwnWalk
namespace Go.Proofs.Ytkjfdaleamonaaa
open Go.RowKit Go.Lib Go.Sort

def Grew (w : World) (n : Nat) (e : Ending) (w' : World) : Prop :=
  ∃ g cap, e = .returned (.slice (some ⟨g, 0, none⟩) 0 cap) ∧ n ≤ cap ∧ w'.ownsRow w.heap.size 24 1 (.slice (some ⟨g, 0, none⟩) 0 cap) 0 [] ∧ Below w.heap.size w w'
set_option maxRecDepth 100000 in
set_option maxHeartbeats 1000000 in
theorem ugrow_any (n : Nat) (h0 : 0 < n) (hn : n ≤ 1000000000) (w : World) : Calls Try.prog 70 #[.slice none 0 0, .int .i64 n] w (Grew w n) := by
  obtain ⟨i0, hi, hz0, hz1, hz2⟩ := info_parts info_u
  go_enter Try.func70, Try.ntmps70
  go_wp2_with (at_builtin; refine Lib.wpList_append_run _ rfl _ _ _ _ rfl _ _ rfl rfl _ _ (Lib.run_append_nil_zeros _ 23 3 _ 24 i0 (.int .u64 0) .i64 .i64 Try.underlying23 Try.underlying3 hi hz0 n h0 (by omega) (by omega) (by rw [hz2]; omega)) ?_)
  go_ret
  have hge := grownCap_ge w n 0 24
  refine ⟨w.heap.size, _, rfl, hge, ⟨rfl, .inr ⟨w.heap.size, _, _, rfl, Nat.le_refl _, heap_new _ _ _ rfl, Nat.zero_le _, grownCap_le_maxLen w n 0 24 (by unfold maxLen; omega), ?_, by simp⟩⟩, ((Below.refl _ _).alloc (Nat.le_refl _) _).drew⟩
  simp [Builtin.zeroCells]
  omega

/-- Two lists, one behind the other. -/
def Joined (w : World) (l : List Int) (e : Ending) (w' : World) : Prop :=
  ∃ ao c, e = .returned (.slice ao l.length c) ∧ WordsAt w' w'.heap.size ao l ∧ Below w.heap.size w w' ∧ (ao = none → c = 0)
theorem words_news {w : World} {B : Nat} {ao : Option Addr} {l : List Int} (h : WordsAt w B ao l) : ∀ ad, ao = some ad → ∀ j u, (uV l)[j]? = some u → w.cell? (ad.add j) = some u := fun ad e j u hj => by
  have hjl : j < l.length := by have := (List.getElem?_eq_some_iff.1 hj).1; rwa [uV_len] at this
  obtain ⟨b, off, e2, _, hc⟩ := h (by omega)
  rw [e2] at e
  cases e
  rw [uV_get l j hjl] at hj
  cases hj
  have hadd : (⟨b, off, none⟩ : Addr).add j = ⟨b, off + j, none⟩ := by unfold Addr.add; split <;> simp_all
  rw [hadd]
  exact hc j hjl
set_option maxRecDepth 100000 in
set_option maxHeartbeats 2000000 in
theorem uconcat_any (g0 : Nat) (ao bo : Option Addr) (c d : Nat) (a b : List Int) (w : World) (hg0 : g0 < w.heap.size) (h0 : w.cell? ⟨g0, 0, none⟩ = some (.slice ao a.length c)) (h1 : w.cell? ⟨g0, 1, none⟩ = some (.slice bo b.length d))
    (ha : WordsAt w w.heap.size ao a) (hb : WordsAt w w.heap.size bo b) (za : ao = none → a.length = 0 ∧ c = 0) (zb : bo = none → b.length = 0 ∧ d = 0) (hna : a.length ≤ 100000000) (hnb : b.length ≤ 100000000) (hpos : 0 < a.length + b.length) :
    Calls Try.prog 41 #[.slice (some ⟨g0, 0, none⟩) 2 2] w (Joined w (a ++ b)) := by
  obtain ⟨i0, hi, hz0, hz1, hz2⟩ := info_parts info_u
  obtain ⟨na, ea⟩ : ∃ n, a.length = n := ⟨_, rfl⟩
  obtain ⟨nb, eb⟩ : ∃ n, b.length = n := ⟨_, rfl⟩
  have HNA := Lib.hid ea
  have HNB := Lib.hid eb
  rw [ea] at hna hpos h0 za
  rw [eb] at hnb hpos h1 zb
  have ZA := Lib.hid za
  have ZB := Lib.hid zb
  have HA := Lib.hid ha
  have HB := Lib.hid hb
  have H0 := Lib.hid h0
  have H1 := Lib.hid h1
  clear ea eb ha hb za zb
  go_enter Try.func41, Try.ntmps41
  go_wp2
  go_loop [3, 11] (fun s i => ∃ k : Nat, k ≤ 2 ∧ i = .int .i64 k ∧ s = .int .i64 ((if k = 0 then 0 else if k = 1 then na else na + nb : Nat) : Int)) (fun _ i => 2 - (intOf i).toNat)
  case atStart => exact ⟨0, by omega, rfl, rfl⟩
  case round =>
    obtain ⟨k, hk, rfl, rfl⟩ := hrel
    rcases (show k = 0 ∨ k = 1 ∨ k = 2 by omega) with rfl | rfl | rfl
    · simp only [if_true]
      go_wp2
      go_round
      case rel => exact ⟨1, by omega, by go_num, by simp⟩
      case measure => simp [intOf]
    · simp only [Nat.one_ne_zero, if_false, if_true]
      go_wp2
      go_round
      case rel => exact ⟨2, by omega, by go_num, by simp⟩
      case measure => simp [intOf]
    · have e2 : (if 2 = 0 then 0 else if 2 = 1 then na else na + nb : Nat) = na + nb := by simp
      rw [e2]
      clear e2
      have HG : Hid (Calls Try.prog 70 #[.slice none 0 0, .int .i64 ((na : Int) + (nb : Int))] w (Grew w (na + nb))) := by
        have := ugrow_any (na + nb) hpos (by omega) w
        rw [Int.natCast_add] at this
        exact this
      clear h0 h1
      go_wp2_with fail
      refine HG.out.mono ?_
      rintro e w1 ⟨g, cap, rfl, hcap, hown, hb1⟩
      have HO := Lib.hid hown
      have HB1 := Lib.hid hb1
      have hg1 : g0 < w1.heap.size := by have := hb1.size; omega
      have HAL : Hid (∀ wx, Below w.heap.size w wx → (wx.cell? ⟨g0, 0, none⟩ = some (.slice ao na c) ∧ wx.cell? ⟨g0, 1, none⟩ = some (.slice bo nb d) ∧ g0 < wx.heap.size) ∧ WordsAt wx w.heap.size ao a ∧ WordsAt wx w.heap.size bo b) := fun wx hx =>
        ⟨⟨(hx.cell (p := ⟨g0, 0, none⟩) hg0).trans H0.out, (hx.cell (p := ⟨g0, 1, none⟩) hg0).trans H1.out, by have := hx.size; omega⟩, HA.out.below hx (Nat.le_refl _), HB.out.below hx (Nat.le_refl _)⟩
      clear hown hb1
      go_wp2
      go_loopw [6, 27] (fun v i wr => ∃ k m : Nat, k ≤ 2 ∧ i = .int .i64 k ∧ v = .slice (some ⟨g, 0, none⟩) m cap ∧ Hid (m = ([[], a, a ++ b].getD k []).length) ∧ wr.ownsRow w.heap.size 24 1 (.slice (some ⟨g, 0, none⟩) m cap) m (uV ([[], a, a ++ b].getD k [])) ∧ Below w.heap.size w wr) (fun _ i _ => 2 - (intOf i).toNat)
      case atStart => exact ⟨0, 0, by omega, rfl, rfl, rfl, HO.out, HB1.out⟩
      case round =>
        obtain ⟨k, m, hk, rfl, rfl, HM, hown, hnx⟩ := hrel
        obtain ⟨⟨r0, r1, hgw⟩, hwa, hwb⟩ := HAL.out wr hnx
        have hsz := hnx.size
        have hgo : w.heap.size ≤ g := (hown.lt g rfl).1
        rcases (show k = 0 ∨ k = 1 ∨ k = 2 by omega) with rfl | rfl | rfl
        · have hm0 : m = 0 := HM.out
          subst hm0
          have hN := Lib.hid (words_news hwa)
          have hown' : wr.ownsRow w.heap.size 24 1 (.slice (some ⟨g, 0, none⟩) 0 cap) 0 [] := hown
          clear hwa hwb hown
          go_wp2_with (at_builtin; refine wpList_append_fits_any _ rfl (.tmp 31) (.tmp 32) 23 rfl w.heap.size 24 i0 1 Try.underlying23 hi hz1 g 0 cap [] rfl hown' ao na c (uV a) rfl (by rw [uV_len, HNA.out, Nat.mul_one]) ZA.out hN.out (uV_cell a) (by omega) ?_; intro w2 hown1 hgrow)
          simp only [Nat.zero_add, List.nil_append] at hown1
          go_roundw
          case rel => exact ⟨1, na, by omega, by go_num, by simp, by show na = a.length; rw [HNA.out], hown1, hnx.grown hgrow hsz (fun k hk => by cases hk; exact hgo)⟩
          case measure => simp [intOf]
        · have hm0 : m = na := by rw [HM.out]; exact HNA.out
          subst hm0
          have hN := Lib.hid (words_news hwb)
          have hown' : wr.ownsRow w.heap.size 24 1 (.slice (some ⟨g, 0, none⟩) m cap) m (uV a) := hown
          clear hwa hwb hown
          go_wp2_with (at_builtin; refine wpList_append_fits_any _ rfl (.tmp 31) (.tmp 32) 23 rfl w.heap.size 24 i0 1 Try.underlying23 hi hz1 g m cap (uV a) rfl hown' bo nb d (uV b) rfl (by rw [uV_len, HNB.out, Nat.mul_one]) ZB.out hN.out (uV_cell b) (by omega) ?_; intro w2 hown1 hgrow)
          have hab : uV a ++ uV b = uV (a ++ b) := by simp [uV]
          rw [hab] at hown1
          go_roundw
          case rel => exact ⟨2, m + nb, by omega, by go_num, by simp, by show m + nb = (a ++ b).length; rw [List.length_append, HNA.out, HNB.out], hown1, hnx.grown hgrow hsz (fun k hk => by cases hk; exact hgo)⟩
          case measure => simp [intOf]
        · have hm : m = (a ++ b).length := HM.out
          have hJ : Hid (Joined w (a ++ b) (.returned (.slice (some ⟨g, 0, none⟩) m cap)) wr) := by
            have hw := words_own hm hown
            rw [hm]
            exact ⟨_, _, rfl, hw, hnx, fun h => (by cases h)⟩
          clear hm hown hwa hwb
          go_wp2
          go_ret
          exact hJ.out
end Go.Proofs.Ytkjfdaleamonaaa
