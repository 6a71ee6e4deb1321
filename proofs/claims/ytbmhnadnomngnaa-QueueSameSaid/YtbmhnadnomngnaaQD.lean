/- Contracts of container/heap's Push, Pop, Fix, Remove at a row. -/
import Derived.Test.YtbmhnadnomngnaaQP
namespace Go.Proofs.Ytbmhnadnomngnaa
open Go.RowKit Go.Lib

/-- A row that is a heap. -/
def HeapAt (w : World) (r b : Nat) (vo : Option Addr) (c : Nat) (L : List Wt) : Prop := RowAt w r b vo c L ∧ Heap L.length L
def Grows (w : World) (r b : Nat) (vo vo' : Option Addr) : Prop := ∀ g o s, vo' = some ⟨g, o, s⟩ → g < w.heap.size → Foot r b vo g
theorem wg_append {L : List Wt} {x : Wt} {j : Nat} (h : j < L.length) : wg (L ++ [x]) j = wg L j := by
  unfold wg; rw [List.getD_eq_getElem?_getD, List.getElem?_append_left h, List.getD_eq_getElem?_getD]
theorem wg_last {L : List Wt} {x : Wt} : wg (L ++ [x]) L.length = x := by
  unfold wg; rw [List.getD_eq_getElem?_getD, List.getElem?_append_right (Nat.le_refl _)]; simp
theorem foot_trans {w : World} {r b : Nat} {vo vo' : Option Addr} (h : Grows w r b vo vo') : ∀ k, k < w.heap.size → Foot r b vo' k → Foot r b vo k := fun k hk hf => by
  rcases hf with h1 | h1 | ⟨o, s, h1⟩
  · exact .inl h1
  · exact .inr (.inl h1)
  · exact h k o s h1 hk
def Pushed (w : World) (r b : Nat) (vo : Option Addr) (L : List Wt) (x : Wt) (e : Ending) (w' : World) : Prop :=
  e = .returned (.tuple #[]) ∧ ∃ vo' c' L', HeapAt w' r b vo' c' L' ∧ L'.Perm (x :: L) ∧ Grows w r b vo vo' ∧ Turn (Foot r b vo) w w'
set_option maxHeartbeats 1000000 in
theorem hpush_any {w : World} {r b c : Nat} {vo : Option Addr} {L : List Wt} (h : HeapAt w r b vo c L) (x : Wt) (hwx : WfW x) (hnew : ∀ p ∈ L, p.1 ≠ x.1) (hlen : L.length < 1000000) :
    Calls Try.prog 21 #[ifc r, .iface 28 (aggW x)] w (Pushed w r b vo L x) := by
  have HP := Lib.hid (rpush_any h.1 x hwx hnew hlen)
  have HH := Lib.hid h.2
  clear h hwx hnew
  unfold ifc
  go_enter Try.func21, Try.ntmps21
  go_wp2_with fail
  refine HP.out.mono ?_
  rintro e w1 ⟨rfl, ⟨vo', c', hr1, hg1⟩, ht1⟩
  have HR1 := Lib.hid hr1
  have HG1 := Lib.hid hg1
  have HT1 := Lib.hid ht1
  have HLN := Lib.hid (rlen_any hr1)
  clear hr1 hg1 ht1
  have hl : (L ++ [x]).length = L.length + 1 := by simp
  rw [hl] at HLN
  go_wp2_with fail
  refine HLN.out.mono ?_
  rintro e w2 ⟨rfl, rfl⟩
  have HU := Lib.hid (up_any HR1.out (j0 := L.length) (by omega))
  unfold ifc at HU
  have HF : Hid (∀ w3, RowAt w3 r b vo' c' (upF (L ++ [x]) L.length) → Turn (Foot r b vo') w1 w3 → Pushed w r b vo L x (.returned (.tuple #[])) w3) := fun w3 hr3 ht3 => by
    refine ⟨rfl, vo', c', _, ⟨hr3, ?_⟩, ?_, HG1.out, HT1.out.trans ht3 fun k hk hf => foot_trans HG1.out k hk hf⟩
    · have hll : (upF (L ++ [x]) L.length).length = L.length + 1 := ((up_perm L.length (L ++ [x]) (by omega)).length_eq).trans hl
      rw [hll]
      refine up_heap L.length (L ++ [x]) (by omega) (by omega) ⟨fun j h1 h2 h3 => ?_, fun j h1 h2 h3 h4 => ?_⟩
      · have hp : par j < j := by unfold par; omega
        rw [wg_append (by omega), wg_append (by omega)]
        exact HH.out j h1 (by omega)
      · unfold par at h3; omega
    · exact (up_perm L.length (L ++ [x]) (by omega)).trans List.perm_append_comm
  go_wp2_with fail
  refine HU.out.mono ?_
  rintro e w3 ⟨rfl, hr3, ht3⟩
  have HFF := Lib.hid (HF.out w3 hr3 ht3)
  clear hr3 ht3 HF
  go_wp2
  go_end0
  exact HFF.out
theorem split_last {L : List Wt} {m : Nat} (h : L.length = m + 1) : L = L.take m ++ [wg L m] := by
  have e : wg L m = L[m]'(by omega) := by unfold wg; rw [List.getD_eq_getElem?_getD, List.getElem?_eq_getElem (by omega), Option.getD_some]
  rw [e, ← List.take_succ_eq_append_getElem (by omega), ← h, List.take_length]
theorem wg_take {L : List Wt} {m j : Nat} (hj : j < m) : wg (L.take m) j = wg L j := by
  unfold wg; rw [List.getD_eq_getElem?_getD, List.getElem?_take_of_lt hj, List.getD_eq_getElem?_getD]
theorem heap_take {L : List Wt} {m : Nat} (h : Heap m L) : Heap m (L.take m) := fun j h1 h2 => by
  have hp : par j < j := by unfold par; omega
  rw [wg_take h2, wg_take (by omega)]
  exact h j h1 h2
theorem up_keeps : ∀ (k : Nat) (L : List Wt), k < L.length → ∀ j, k < j → wg (upF L k) j = wg L j := by
  intro k
  induction k using Nat.strongRecOn with
  | _ k ih =>
    intro L hk j hj
    by_cases e : k = 0
    · subst e; rw [upF_zero]
    · cases hl : lessW (wg L k) (wg L ((k - 1) / 2)) with
      | false => rw [upF_stop rfl hl]
      | true =>
        rw [upF_step (by omega) rfl hl, ih _ (by omega) _ (by rw [swapL_length]; omega) j (by omega), wg_swap (by omega) hk, if_neg (by omega), if_neg (by omega)]
/-- Behind what leaves a heap of m and one behind it, that one is taken. -/
def Popped (w : World) (r b : Nat) (vo : Option Addr) (c : Nat) (L : List Wt) (x : Wt) (e : Ending) (w' : World) : Prop :=
  e = .returned (.iface 28 (aggW x)) ∧ ∃ L', HeapAt w' r b vo c L' ∧ (x :: L').Perm L ∧ Turn (Foot r b vo) w w'
theorem popped {w w1 w2 : World} {r b c m : Nat} {vo : Option Addr} {L M : List Wt} {x : Wt} (hM : M.length = m + 1) (hp : M.Perm L) (hh : Heap m M) (hx : wg M m = x) (ht1 : Turn (Foot r b vo) w w1)
    (hr2 : RowAt w2 r b vo c (M.take m)) (ht2 : Turn (Foot r b vo) w1 w2) : Popped w r b vo c L x (.returned (.iface 28 (aggW x))) w2 := by
  refine ⟨rfl, M.take m, ⟨hr2, ?_⟩, ?_, ht1.trans ht2 fun _ _ h => h⟩
  · rw [List.length_take, hM, Nat.min_eq_left (by omega)]
    exact heap_take hh
  · have e := split_last hM
    rw [hx] at e
    have h2 : (x :: M.take m).Perm (M.take m ++ [x]) := List.perm_append_comm (l₁ := [x])
    rw [← e] at h2
    exact h2.trans hp
set_option maxHeartbeats 1000000 in
theorem hpop_any {w : World} {r b c m : Nat} {vo : Option Addr} {L : List Wt} (h : HeapAt w r b vo c L) (hL : L.length = m + 1) :
    Calls Try.prog 22 #[ifc r] w (Popped w r b vo c L (wg L 0)) := by
  have HLN := Lib.hid (rlen_any h.1)
  have HS := Lib.hid (rswap_any h.1 (i := 0) (k := m) (by omega) (by omega))
  have HH := Lib.hid h
  have hm : m < 1000000 := by have := h.1.2.2.2.2.2.2.2; omega
  have HL := Lib.hid hL
  rw [hL] at HLN
  clear h hL
  unfold ifc
  go_enter Try.func22, Try.ntmps22
  go_wp2_with fail
  refine HLN.out.mono ?_
  rintro e w1 ⟨rfl, rfl⟩
  go_wp2_with fail
  refine HS.out.mono ?_
  rintro e w2 ⟨rfl, hr2, ht2⟩
  have HT2 := Lib.hid ht2
  have HD := Lib.hid (down_any hr2 (i0 := 0) (n := m) (by rw [swapL_length, HL.out]; omega) (by rw [swapL_length, HL.out]; omega))
  unfold ifc at HD
  clear hr2 ht2
  go_wp2_with fail
  refine HD.out.mono ?_
  rintro e w3 ⟨rfl, hr3, ht3⟩
  have hdp := down_perm m 0 (swapL L 0 m) (by omega) (n := m) (by rw [swapL_length, HL.out]; omega)
  have hdl : (downF (swapL L 0 m) 0 m).1.length = m + 1 := by rw [hdp.1.length_eq, swapL_length, HL.out]
  have hdh : Heap m (downF (swapL L 0 m) 0 m).1 := by
    refine down_heap m 0 _ (by omega) (by rw [swapL_length, HL.out]; omega) (fun j h1 h2 h3 => ?_) (fun _ _ _ _ h => absurd h (Nat.lt_irrefl _))
    have hp : par j < j := by unfold par; omega
    rw [wg_swap (by rw [HL.out]; omega) (by rw [HL.out]; omega), wg_swap (by rw [HL.out]; omega) (by rw [HL.out]; omega), if_neg (by omega), if_neg (by omega), if_neg (by omega), if_neg (by omega)]
    exact HH.out.2 j h1 (by rw [HL.out]; omega)
  have hdx : wg (downF (swapL L 0 m) 0 m).1 m = wg L 0 := by
    rw [hdp.2 m (Nat.le_refl _), wg_swap (by rw [HL.out]; omega) (by rw [HL.out]; omega), if_pos rfl]
  have hpm : (downF (swapL L 0 m) 0 m).1.Perm L := hdp.1.trans (set_perm (by rw [HL.out]; omega) (by rw [HL.out]; omega))
  have hr4 := hr3
  rw [split_last hdl, hdx] at hr4
  have HP := Lib.hid (rpop_any hr4)
  have HT3 := Lib.hid (HT2.out.trans ht3 fun _ _ h => h)
  have HF := Lib.hid (fun w4 => popped (w := w) (w1 := w3) (w2 := w4) (c := c) hdl hpm hdh hdx HT3.out)
  clear hr3 ht3 hdp hdl hdh hdx hpm hr4 HD HT2
  generalize wg L 0 = x at *
  go_wp2_with fail
  refine HP.out.mono ?_
  rintro e w4 ⟨rfl, hr5, ht5⟩
  have HFF := Lib.hid (HF.out w4 hr5 ht5)
  clear hr5 ht5 HF
  go_wp2
  go_ret
  exact HFF.out
end Go.Proofs.Ytbmhnadnomngnaa
