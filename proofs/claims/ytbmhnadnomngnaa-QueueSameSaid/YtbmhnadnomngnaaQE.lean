/- Contracts of container/heap's Fix, Remove at a row. -/
import Derived.Test.YtbmhnadnomngnaaQD
namespace Go.Proofs.Ytbmhnadnomngnaa
open Go.RowKit Go.Lib

def Fixed (w : World) (r b : Nat) (vo : Option Addr) (c : Nat) (L : List Wt) (e : Ending) (w' : World) : Prop :=
  e = .returned (.tuple #[]) ∧ ∃ L', HeapAt w' r b vo c L' ∧ L'.Perm L ∧ Turn (Foot r b vo) w w'
set_option maxHeartbeats 1000000 in
theorem hfix_any {w : World} {r b c i : Nat} {vo : Option Addr} {L : List Wt} (h : RowAt w r b vo c L) (ho : Off L.length L i) (hi : i < L.length) :
    Calls Try.prog 23 #[ifc r, .int .i64 i] w (Fixed w r b vo c L) := by
  have HLN := Lib.hid (rlen_any h)
  have HD := Lib.hid (down_any h (i0 := i) (n := L.length) hi (Nat.le_refl _))
  obtain ⟨g1, g2⟩ := off_down (Nat.le_refl _) ho
  have hdp := down_perm (n := L.length) (L.length - i) i L (Nat.le_refl _) (Nat.le_refl _)
  have G1 := Lib.hid g1
  have G2 := Lib.hid g2
  have HDP := Lib.hid hdp.1
  have HI := Lib.hid hi
  unfold ifc at HD
  clear h ho g1 g2 hdp hi
  obtain ⟨o, hob⟩ : ∃ o, decide (i < (downF L i L.length).2) = o := ⟨_, rfl⟩
  rw [hob] at HD
  have HO := Lib.hid hob
  clear hob
  unfold ifc
  go_enter Try.func23, Try.ntmps23
  go_wp2_with fail
  refine HLN.out.mono ?_
  rintro e w1 ⟨rfl, rfl⟩
  go_wp2_with fail
  refine HD.out.mono ?_
  rintro e w2 ⟨rfl, hr2, ht2⟩
  cases o with
  | true =>
    have HF : Hid (Fixed w r b vo c L (.returned (.tuple #[])) w2) :=
      ⟨rfl, _, ⟨hr2, by rw [HDP.out.length_eq]; exact G1.out (of_decide_eq_true HO.out)⟩, HDP.out, ht2⟩
    clear hr2 ht2
    go_wp2
    go_end0
    exact HF.out
  | false =>
    obtain ⟨e1, e2⟩ := G2.out (of_decide_eq_false HO.out)
    rw [e1] at hr2
    have HU := Lib.hid (up_any hr2 (j0 := i) HI.out)
    unfold ifc at HU
    have HT2 := Lib.hid ht2
    have HE2 := Lib.hid e2
    clear hr2 ht2 e1 e2
    go_wp2_with fail
    refine HU.out.mono ?_
    rintro e w3 ⟨rfl, hr3, ht3⟩
    have HF : Hid (Fixed w r b vo c L (.returned (.tuple #[])) w3) :=
      ⟨rfl, _, ⟨hr3, by rw [(up_perm i L HI.out).length_eq]; exact up_heap i L HI.out (Nat.le_refl _) HE2.out⟩, up_perm i L HI.out, HT2.out.trans ht3 fun _ _ h => h⟩
    clear hr3 ht3
    go_wp2
    go_end0
    exact HF.out
set_option maxHeartbeats 1000000 in
theorem hremove_any {w : World} {r b c i m : Nat} {vo : Option Addr} {L : List Wt} (h : HeapAt w r b vo c L) (hL : L.length = m + 1) (hi : i ≤ m) :
    Calls Try.prog 24 #[ifc r, .int .i64 i] w (Popped w r b vo c L (wg L i)) := by
  have HLN := Lib.hid (rlen_any h.1)
  rw [hL] at HLN
  have hm : m < 1000000 := by have := h.1.2.2.2.2.2.2.2; omega
  by_cases him : i = m
  · subst him
    have hh : Heap i L := fun j h1 h2 => h.2 j h1 (by omega)
    have hr := h.1
    rw [split_last hL] at hr
    have HP := Lib.hid (rpop_any hr)
    have HF := Lib.hid (fun w4 => popped (w := w) (w1 := w) (w2 := w4) (c := c) (x := wg L i) (r := r) (b := b) (vo := vo) hL (List.Perm.refl L) hh rfl (Turn.refl _ _))
    clear h hL hr hh
    generalize wg L i = x at *
    unfold ifc
    go_enter Try.func24, Try.ntmps24
    go_wp2_with fail
    refine HLN.out.mono ?_
    rintro e w1 ⟨rfl, rfl⟩
    go_wp2_with fail
    refine HP.out.mono ?_
    rintro e w4 ⟨rfl, hr5, ht5⟩
    have HFF := Lib.hid (HF.out w4 hr5 ht5)
    clear hr5 ht5 HF
    go_wp2
    go_ret
    exact HFF.out
  · have hilt : i < m := by omega
    have qim : ((m : Int) != (i : Int)) = true := by simp; omega
    have HS := Lib.hid (rswap_any h.1 (i := i) (k := m) (by omega) (by omega))
    have hsl : (swapL L i m).length = m + 1 := by rw [swapL_length, hL]
    have hoff : Off m (swapL L i m) i := by
      refine ⟨fun j h1 h2 h3 h4 => ?_, fun j h1 h2 h3 h4 => ?_⟩
      · have hp : par j < j := by unfold par; omega
        rw [wg_swap (by omega) (by omega), wg_swap (by omega) (by omega), if_neg (by omega), if_neg h3, if_neg (by omega), if_neg h4]
        exact h.2 j h1 (by omega)
      · have hp : par i < i := by unfold par; omega
        have hij : i < j := by unfold par at h3; omega
        rw [wg_swap (by omega) (by omega), wg_swap (by omega) (by omega), if_neg (by omega), if_neg (by omega), if_neg (by omega), if_neg (by omega)]
        have a1 := h.2 j h1 (by omega)
        rw [h3] at a1
        exact less_ntrans a1 (h.2 i h4 (by omega))
    have hx : wg (swapL L i m) m = wg L i := by rw [wg_swap (by omega) (by omega), if_pos rfl]
    have hpm : (swapL L i m).Perm L := set_perm (by omega) (by omega)
    have G := off_down (n := m) (by omega) hoff
    have hdp := down_perm (n := m) (m - i) i (swapL L i m) (Nat.le_refl _) (by omega)
    have HSL := Lib.hid hsl
    clear hoff h hL
    generalize wg L i = x at *
    generalize swapL L i m = M at *
    obtain ⟨o, hob⟩ : ∃ o, decide (i < (downF M i m).2) = o := ⟨_, rfl⟩
    have HO := Lib.hid hob
    have HG := Lib.hid G
    have HX := Lib.hid hx
    have HPM := Lib.hid hpm
    have HDP := Lib.hid hdp
    clear G hdp hob hx hpm hsl
    unfold ifc
    go_enter Try.func24, Try.ntmps24
    go_wp2_with fail
    refine HLN.out.mono ?_
    rintro e w1 ⟨rfl, rfl⟩
    go_wp2_with fail
    refine HS.out.mono ?_
    rintro e w2 ⟨rfl, hr2, ht2⟩
    have HT2 := Lib.hid ht2
    have HR2 := Lib.hid hr2
    have HD := Lib.hid (down_any hr2 (i0 := i) (n := m) (by rw [HSL.out]; omega) (by rw [HSL.out]; omega))
    rw [HO.out] at HD
    unfold ifc at HD
    clear hr2 ht2 HS
    go_wp2_with fail
    refine HD.out.mono ?_
    rintro e w3 ⟨rfl, hr3, ht3⟩
    cases o with
    | true =>
      have hdl : (downF M i m).1.length = m + 1 := by rw [HDP.out.1.length_eq, HSL.out]
      have hh : Heap m (downF M i m).1 := HG.out.1 (of_decide_eq_true HO.out)
      have hx : wg (downF M i m).1 m = x := by rw [HDP.out.2 m (Nat.le_refl _)]; exact HX.out
      have hr4 := hr3
      rw [split_last hdl, hx] at hr4
      have HP := Lib.hid (rpop_any hr4)
      have HT3 := Lib.hid (HT2.out.trans ht3 fun _ _ h => h)
      have HF := Lib.hid (fun w4 => popped (w := w) (w1 := w3) (w2 := w4) (c := c) hdl (HDP.out.1.trans HPM.out) hh hx HT3.out)
      clear hr3 ht3 hdl hh hx hr4 HD HT2
      go_wp2_with fail
      refine HP.out.mono ?_
      rintro e w4 ⟨rfl, hr5, ht5⟩
      have HFF := Lib.hid (HF.out w4 hr5 ht5)
      clear hr5 ht5 HF
      go_wp2
      go_ret
      exact HFF.out
    | false =>
      obtain ⟨e1, e2⟩ := HG.out.2 (of_decide_eq_false HO.out)
      rw [e1] at hr3
      have HU := Lib.hid (up_any hr3 (j0 := i) (by rw [HSL.out]; omega))
      unfold ifc at HU
      have HT3 := Lib.hid (HT2.out.trans ht3 fun _ _ h => h)
      have HE2 := Lib.hid e2
      clear hr3 ht3 e1 e2 HD HT2
      go_wp2_with fail
      refine HU.out.mono ?_
      rintro e w4 ⟨rfl, hr4, ht4⟩
      have hul : (upF M i).length = m + 1 := by rw [(up_perm i M (by rw [HSL.out]; omega)).length_eq, HSL.out]
      have hh : Heap m (upF M i) := up_heap i M hilt (by rw [HSL.out]; omega) HE2.out
      have hx : wg (upF M i) m = x := by rw [up_keeps i M (by rw [HSL.out]; omega) m hilt]; exact HX.out
      have hr5 := hr4
      rw [split_last hul, hx] at hr5
      have HP := Lib.hid (rpop_any hr5)
      have HT4 := Lib.hid (HT3.out.trans ht4 fun _ _ h => h)
      have HF := Lib.hid (fun w5 => popped (w := w) (w1 := w4) (w2 := w5) (c := c) hul ((up_perm i M (by rw [HSL.out]; omega)).trans HPM.out) hh hx HT4.out)
      clear hr4 ht4 hul hh hx hr5 HU HT3
      go_wp2_with fail
      refine HP.out.mono ?_
      rintro e w6 ⟨rfl, hr6, ht6⟩
      have HFF := Lib.hid (HF.out w6 hr6 ht6)
      clear hr6 ht6 HF
      go_wp2
      go_ret
      exact HFF.out
end Go.Proofs.Ytbmhnadnomngnaa
