/- Joined: HpD, HpF, SlD, SlE, SlF, SlG, SlH, SlI, PcB, PdG, PcC, PlA: contracts and plain laws, each with its own heading below. -/
import Derived.Test.YtkjfdaleamonaaaGreatPackAH
import Derived.Test.YtkjfdaleamonaaaGreatPackAG
import Derived.Maps.AppendAt
import Derived.Laws.OwnMore
import Derived.Lib.AppendZeros
import Derived.OwnWalk
import Derived.Laws.CopyOwn
import Derived.Deep.RegionLaw
/- Contracts of container/heap's Init, Push, Pop at a row of words. -/
namespace Go.Proofs.YtkjfdaleamonaaaGreat
open Go.RowKit Go.Lib

/-- A row that is a heap. -/
def HeapAt (w : World) (r : Nat) (vo : Option Addr) (c : Nat) (L : List Int) : Prop := RowAt w r vo c L ∧ Heap L.length L
theorem gw_append {L : List Int} {x : Int} {j : Nat} (h : j < L.length) : gw (L ++ [x]) j = gw L j := by
  unfold gw; rw [List.getD_eq_getElem?_getD, List.getElem?_append_left h, List.getD_eq_getElem?_getD]
theorem foot_trans {w : World} {r : Nat} {vo vo' : Option Addr} (h : Grows w r vo vo') : ∀ k, k < w.heap.size → Foot r vo' k → Foot r vo k := fun k hk hf => by
  rcases hf with h1 | ⟨o, s, h1⟩
  · exact .inl h1
  · exact h k o s h1 hk
def Pushed (w : World) (r : Nat) (vo : Option Addr) (L : List Int) (x : Int) (e : Ending) (w' : World) : Prop :=
  e = .returned (.tuple #[]) ∧ ∃ vo' c' L', HeapAt w' r vo' c' L' ∧ L'.Perm (x :: L) ∧ Grows w r vo vo' ∧ Turn (Foot r vo) w w'
set_option maxRecDepth 100000 in
set_option maxHeartbeats 1000000 in
theorem hpush_any {w : World} {r c : Nat} {vo : Option Addr} {L : List Int} (h : HeapAt w r vo c L) (x : Int) (hx : 0 ≤ x ∧ x < 18446744073709551616) (hlen : L.length < 1000000) :
    Calls Tryz.prog 59 #[ifc r, .iface 25 (.int .u64 x)] w (Pushed w r vo L x) := by
  have HP := Lib.hid (rpush_any h.1 x hx hlen)
  have HH := Lib.hid h.2
  clear h hx
  obtain ⟨n, hn⟩ : ∃ n, L.length = n := ⟨_, rfl⟩
  have HN := Lib.hid hn
  rw [hn] at hlen
  clear hn
  unfold ifc
  go_enter Tryz.func59, Tryz.ntmps59
  go_wp2_with fail
  refine HP.out.mono ?_
  rintro e w1 ⟨rfl, ⟨vo', c', hr1, hg1⟩, ht1⟩
  have HR1 := Lib.hid hr1
  have HG1 := Lib.hid hg1
  have HT1 := Lib.hid ht1
  have HLL : Hid ((L ++ [x]).length = n + 1) := by show _ = _; rw [List.length_append, HN.out]; rfl
  have mth := meth_len (hr1.head HLL.out)
  have HLN := Lib.hid (plen_any vo' (n + 1) c' w1)
  have q1 : IntKind.i64.wrap (((n + 1 : Nat) : Int) - 1) = n := by rw [show ((n + 1 : Nat) : Int) - 1 = n by omega]; exact wrap_in (by omega) (by omega)
  clear hr1 hg1 ht1
  go_wp2_with fail
  refine HLN.out.mono ?_
  rintro e w2 ⟨rfl, rfl⟩
  have HU := Lib.hid (up_any HR1.out (j0 := n) (by rw [HLL.out]; omega))
  unfold ifc at HU
  have HF : Hid (∀ w3, RowAt w3 r vo' c' (upF (L ++ [x]) n) → Turn (Foot r vo') w1 w3 → Pushed w r vo L x (.returned (.tuple #[])) w3) := fun w3 hr3 ht3 => by
    have hN := HN.out
    subst hN
    refine ⟨rfl, vo', c', _, ⟨hr3, ?_⟩, ?_, HG1.out, HT1.out.trans ht3 fun k hk hf => foot_trans HG1.out k hk hf⟩
    · have hl : (L ++ [x]).length = L.length + 1 := by simp
      have hll : (upF (L ++ [x]) L.length).length = L.length + 1 := ((up_perm L.length (L ++ [x]) (by omega)).length_eq).trans hl
      rw [hll]
      refine up_heap L.length (L ++ [x]) (by omega) (by omega) ⟨fun j h1 h2 h3 => ?_, fun j h1 h2 h3 h4 => ?_⟩
      · have hp : par j < j := by unfold par; omega
        rw [gw_append (by omega), gw_append (by omega)]
        exact HH.out j h1 (by omega)
      · unfold par at h3; omega
    · exact (up_perm L.length (L ++ [x]) (by simp)).trans List.perm_append_comm
  go_wp2_with fail
  refine HU.out.mono ?_
  rintro e w3 ⟨rfl, hr3, ht3⟩
  have HFF := Lib.hid (HF.out w3 hr3 ht3)
  clear hr3 ht3 HF
  go_wp2
  go_end0
  exact HFF.out
theorem split_last {L : List Int} {m : Nat} (h : L.length = m + 1) : L = L.take m ++ [gw L m] := by
  have e : gw L m = L[m]'(by omega) := by unfold gw; rw [List.getD_eq_getElem?_getD, List.getElem?_eq_getElem (by omega), Option.getD_some]
  rw [e, ← List.take_succ_eq_append_getElem (by omega), ← h, List.take_length]
theorem gw_take {L : List Int} {m j : Nat} (hj : j < m) : gw (L.take m) j = gw L j := by
  unfold gw; rw [List.getD_eq_getElem?_getD, List.getElem?_take_of_lt hj, List.getD_eq_getElem?_getD]
theorem heap_take {L : List Int} {m : Nat} (h : Heap m L) : Heap m (L.take m) := fun j h1 h2 => by
  have hp : par j < j := by unfold par; omega
  rw [gw_take h2, gw_take (by omega)]
  exact h j h1 h2
/-- Behind what leaves a heap of m and one behind it, that one is taken. -/
def Popped (w : World) (r : Nat) (vo : Option Addr) (c : Nat) (L : List Int) (x : Int) (e : Ending) (w' : World) : Prop :=
  e = .returned (.iface 25 (.int .u64 x)) ∧ ∃ L', HeapAt w' r vo c L' ∧ (x :: L').Perm L ∧ Turn (Foot r vo) w w'
theorem popped {w w1 w2 : World} {r c m : Nat} {vo : Option Addr} {L M : List Int} {x : Int} (hM : M.length = m + 1) (hp : M.Perm L) (hh : Heap m M) (hx : gw M m = x) (ht1 : Turn (Foot r vo) w w1)
    (hr2 : RowAt w2 r vo c (M.take m)) (ht2 : Turn (Foot r vo) w1 w2) : Popped w r vo c L x (.returned (.iface 25 (.int .u64 x))) w2 := by
  refine ⟨rfl, M.take m, ⟨hr2, ?_⟩, ?_, ht1.trans ht2 fun _ _ h => h⟩
  · rw [List.length_take, hM, Nat.min_eq_left (by omega)]
    exact heap_take hh
  · have e := split_last hM
    rw [hx] at e
    have h2 : (x :: M.take m).Perm (M.take m ++ [x]) := List.perm_append_comm (l₁ := [x])
    rw [← e] at h2
    exact h2.trans hp
set_option maxRecDepth 100000 in
set_option maxHeartbeats 1000000 in
theorem hpop_any {w : World} {r c m : Nat} {vo : Option Addr} {L : List Int} (h : HeapAt w r vo c L) (hL : L.length = m + 1) :
    Calls Tryz.prog 57 #[ifc r] w (Popped w r vo c L (gw L 0)) := by
  have mth1 := meth_len (h.1.head hL)
  have mth2 := meth_swap (h.1.head hL)
  have HLN := Lib.hid (plen_any vo (m + 1) c w)
  have HS := Lib.hid (rswap_any h.1 hL (i := 0) (k := m) (by omega) (by omega))
  have HH := Lib.hid h
  have hm : m < 1000000 := by have := h.1.2.2.2.2.2.2; omega
  have HL := Lib.hid hL
  have q1 : IntKind.i64.wrap (((m + 1 : Nat) : Int) - 1) = m := by rw [show ((m + 1 : Nat) : Int) - 1 = m by omega]; exact wrap_in (by omega) (by omega)
  clear h hL
  unfold ifc
  go_enter Tryz.func57, Tryz.ntmps57
  go_wp2_with fail
  refine HLN.out.mono ?_
  rintro e w1 ⟨rfl, rfl⟩
  go_wp2_with fail
  refine HS.out.mono ?_
  rintro e w2 ⟨rfl, hr2, ht2⟩
  have HT2 := Lib.hid ht2
  have HD := Lib.hid (down_any hr2 (i0 := 0) (n := m) (by rw [swapL_length, HL.out]; omega) (by rw [swapL_length, HL.out]; omega))
  unfold ifc at HD
  clear hr2 ht2 mth1 mth2
  go_wp2_with fail
  refine HD.out.mono ?_
  rintro e w3 ⟨rfl, hr3, ht3⟩
  have hdp := down_perm m 0 (swapL L 0 m) (by omega) (n := m) (by rw [swapL_length, HL.out]; omega)
  have hdl : (downF (swapL L 0 m) 0 m).1.length = m + 1 := by rw [hdp.1.length_eq, swapL_length, HL.out]
  have hdh : Heap m (downF (swapL L 0 m) 0 m).1 := by
    refine down_heap m 0 _ (by omega) (by rw [swapL_length, HL.out]; omega) (fun j h1 h2 h3 => ?_) (fun _ _ _ _ h => absurd h (Nat.lt_irrefl _))
    have hp : par j < j := by unfold par; omega
    rw [gw_swap (by rw [HL.out]; omega) (by rw [HL.out]; omega), gw_swap (by rw [HL.out]; omega) (by rw [HL.out]; omega), if_neg (by omega), if_neg (by omega), if_neg (by omega), if_neg (by omega)]
    exact HH.out.2 j h1 (by rw [HL.out]; omega)
  have hdx : gw (downF (swapL L 0 m) 0 m).1 m = gw L 0 := by
    rw [hdp.2 m (Nat.le_refl _), gw_swap (by rw [HL.out]; omega) (by rw [HL.out]; omega), if_pos rfl]
  have hpm : (downF (swapL L 0 m) 0 m).1.Perm L := hdp.1.trans (set_perm (by rw [HL.out]; omega) (by rw [HL.out]; omega))
  have hr4 := hr3
  rw [split_last hdl, hdx] at hr4
  have HP := Lib.hid (rpop_any hr4)
  have HT3 := Lib.hid (HT2.out.trans ht3 fun _ _ h => h)
  have HF := Lib.hid (fun w4 => popped (w := w) (w1 := w3) (w2 := w4) (c := c) hdl hpm hdh hdx HT3.out)
  clear hr3 ht3 hdp hdl hdh hdx hpm hr4 HD HT2
  generalize gw L 0 = x at *
  go_wp2_with fail
  refine HP.out.mono ?_
  rintro e w4 ⟨rfl, hr5, ht5⟩
  have HFF := Lib.hid (HF.out w4 hr5 ht5)
  clear hr5 ht5 HF
  go_wp2
  go_ret
  exact HFF.out
/-- What is a heap stays as it is. -/
theorem down_still {n i : Nat} {L : List Int} (h : Heap n L) : downF L i n = (L, i) := by
  by_cases he : n ≤ 2 * i + 1
  · exact downF_end he
  · refine downF_stop rfl ?_
    have h1 := h (childF L i n) child_pos (childF_lt (by omega))
    rwa [child_par] at h1
set_option maxRecDepth 100000 in
set_option maxHeartbeats 1000000 in
theorem hinit_any {w : World} {r c : Nat} {vo : Option Addr} {L : List Int} (h : HeapAt w r vo c L) :
    Calls Tryz.prog 55 #[ifc r] w fun e w' => e = .returned (.tuple #[]) ∧ HeapAt w' r vo c L ∧ Turn (Foot r vo) w w' := by
  obtain ⟨n, hn⟩ : ∃ n, L.length = n := ⟨_, rfl⟩
  have mth1 := meth_len (h.1.head hn)
  have HLN := Lib.hid (plen_any vo n c w)
  have hlen := h.1.2.2.2.2.2.2
  rw [hn] at hlen
  have HN := Lib.hid hn
  have HH := Lib.hid h
  clear h hn
  unfold ifc
  go_enter Tryz.func55, Tryz.ntmps55
  go_wp2_with fail
  refine HLN.out.mono ?_
  rintro e w1 ⟨rfl, rfl⟩
  clear mth1
  go_wp2
  go_loopw [3] (fun iv wr => ∃ i : Int, -1 ≤ i ∧ 2 * i + 2 ≤ n ∧ iv = .int .i64 i ∧ Hid (HeapAt wr r vo c L ∧ Turn (Foot r vo) w wr)) (fun iv _ => (intOf iv + 1).toNat)
  case atStart => exact ⟨(n : Int) / 2 - 1, by omega, by omega, by go_num, HH.out, Turn.refl _ _⟩
  case round =>
    obtain ⟨i, hi1, hi2, rfl, HM⟩ := hrel
    by_cases h0 : 0 ≤ i
    · obtain ⟨k, rfl⟩ : ∃ k : Nat, i = k := ⟨i.toNat, by omega⟩
      have HD := Lib.hid (down_any HM.out.1.1 (i0 := k) (n := n) (by rw [HN.out]; omega) (by rw [HN.out]; omega))
      have hst : downF L k n = (L, k) := down_still (by have := HM.out.1.2; rwa [HN.out] at this)
      rw [hst] at HD
      unfold ifc at HD
      clear hst
      go_wp2_with fail
      refine HD.out.mono ?_
      rintro e w2 ⟨rfl, hr2, ht2⟩
      have HM2 : Hid (HeapAt w2 r vo c L ∧ Turn (Foot r vo) w w2) := ⟨⟨hr2, HM.out.1.2⟩, HM.out.2.trans ht2 fun _ _ h => h⟩
      clear hr2 ht2 HM HD
      go_wp2
      go_roundw
      case rel => exact ⟨(k : Int) - 1, by omega, by omega, by go_num, HM2.out⟩
      case measure => simp [intOf]
    · go_wp2
      go_end0
      exact ⟨rfl, HM.out⟩
end Go.Proofs.YtkjfdaleamonaaaGreat
/- slices.Reverse at a row of words; cells.Set as a row; the sort at a row of the call's own. -/
namespace Go.Proofs.YtkjfdaleamonaaaGreat
open Go.RowKit Go.Lib Go.Sort

theorem rowU_swap {w : World} {g c i k : Nat} {L : List Int} (h : RowU w g c L) (hi : i < L.length) (hk : k < L.length) :
    RowU ((w.setCell ⟨g, i, none⟩ (.int .u64 (gw L k))).setCell ⟨g, k, none⟩ (.int .u64 (gw L i))) g c (swapL L i k) := by
  have hT : Turn (fun x => x = g) w ((w.setCell ⟨g, i, none⟩ (.int .u64 (gw L k))).setCell ⟨g, k, none⟩ (.int .u64 (gw L i))) := Turn.setCell (S := fun x => x = g) (a := ⟨g, k, none⟩) (Turn.setCell (S := fun x => x = g) (a := ⟨g, i, none⟩) (Turn.refl _ w) rfl _) rfl _
  refine ⟨Nat.lt_of_lt_of_le h.1 hT.2.2.2.1, fun j hj => ?_, fun j hj => ?_⟩
  · rw [swapL_length] at hj
    rw [cell_put (cell_put (h.2.1 j hj)), gw_swap hi hk]
    split
    · rfl
    · split <;> rfl
  · obtain ⟨s1, s2⟩ := h.2.2 j hj
    obtain ⟨x, hx⟩ := Option.isSome_iff_exists.1 s1
    rw [cell_put (cell_put hx), World.frozen?_setCell, World.frozen?_setCell]
    exact ⟨rfl, s2⟩
/-- k have changed places at either end. -/
def RevTo (L M : List Int) (k : Nat) : Prop := M.length = L.length ∧ ∀ t, t < L.length → gw M t = if t < k ∨ L.length - k ≤ t then gw L (L.length - 1 - t) else gw L t
theorem revTo_zero (L : List Int) : RevTo L L 0 := ⟨rfl, fun t ht => by rw [if_neg (by omega)]⟩
theorem revTo_succ {L M : List Int} {k : Nat} (h : RevTo L M k) (hk : 2 * k + 1 < L.length) : RevTo L (swapL M k (L.length - 1 - k)) (k + 1) := by
  refine ⟨by rw [swapL_length]; exact h.1, fun t ht => ?_⟩
  have hl := h.1
  rw [gw_swap (by omega) (by omega)]
  by_cases e1 : t = L.length - 1 - k
  · rw [if_pos e1, if_pos (by omega), h.2 k (by omega), if_neg (by omega), e1]; congr 1; omega
  · rw [if_neg e1]
    by_cases e2 : t = k
    · rw [if_pos e2, if_pos (by omega), h.2 (L.length - 1 - k) (by omega), if_neg (by omega), e2]
    · rw [if_neg e2, h.2 t ht]
      by_cases e3 : t < k ∨ L.length - k ≤ t
      · rw [if_pos e3, if_pos (by omega)]
      · rw [if_neg e3, if_neg (by omega)]
theorem gw_rev (L : List Int) (t : Nat) (h : t < L.length) : gw L.reverse t = gw L (L.length - 1 - t) := by
  unfold gw; rw [List.getD_eq_getElem?_getD, List.getElem?_reverse h, List.getD_eq_getElem?_getD]
theorem gw_ext {L M : List Int} (hl : L.length = M.length) (h : ∀ t, t < L.length → gw L t = gw M t) : L = M := by
  refine List.ext_getElem hl fun t h1 h2 => ?_
  have := h t h1
  unfold gw at this
  rwa [List.getD_eq_getElem?_getD, List.getElem?_eq_getElem h1, List.getD_eq_getElem?_getD, List.getElem?_eq_getElem h2, Option.getD_some, Option.getD_some] at this
theorem revTo_end {L M : List Int} {k : Nat} (h : RevTo L M k) (hk : L.length ≤ 2 * k + 1) : M = L.reverse := by
  refine gw_ext (by rw [h.1, List.length_reverse]) fun t ht => ?_
  rw [h.1] at ht
  rw [h.2 t ht, gw_rev L t ht]
  by_cases e : t < k ∨ L.length - k ≤ t
  · rw [if_pos e]
  · rw [if_neg e]; congr 1; omega
set_option maxRecDepth 100000 in
set_option maxHeartbeats 1000000 in
theorem rev_nil (vo : Option Addr) (c : Nat) (w : World) : Calls Tryz.prog 54 #[.slice vo 0 c] w fun e w' => e = .returned (.tuple #[]) ∧ w = w' := by
  go_enter Tryz.func54, Tryz.ntmps54
  go_wp2
  go_loopg [2, 3] 0 (fun q s2 s3 wr => s2 = .int .i64 0 ∧ s3 = .int .i64 (-1) ∧ Hid (w = wr ∧ True))
  case atStart => exact ⟨rfl, rfl, rfl, trivial⟩
  case round =>
    obtain ⟨rfl, rfl, HW⟩ := hrel
    go_wp2
    go_end0
    exact ⟨rfl, HW.out.1⟩
set_option maxRecDepth 100000 in
set_option maxHeartbeats 4000000 in
theorem rev_any {w : World} {g c n : Nat} {L : List Int} (h : RowU w g c L) (hn : L.length = n) (hnc : n ≤ c) (hbig : n ≤ 1000000) :
    Calls Tryz.prog 54 #[.slice (some ⟨g, 0, none⟩) n c] w fun e w' => e = .returned (.tuple #[]) ∧ RowU w' g c L.reverse ∧ Turn (fun k => k = g) w w' := by
  have HU := Lib.hid h
  have HN := Lib.hid hn
  clear h hn
  go_enter Tryz.func54, Tryz.ntmps54
  go_wp2
  go_loopg [2, 3] n (fun q s2 s3 wr => ∃ (k : Nat) (jv : Int) (M : List Int), 2 * k ≤ n + 1 ∧ jv = (n : Int) - 1 - k ∧ n - k ≤ q ∧ s2 = .int .i64 k ∧ s3 = .int .i64 jv ∧ Hid (RevTo L M k ∧ RowU wr g c M ∧ Turn (fun k => k = g) w wr))
  case atStart => exact ⟨0, _, L, by omega, rfl, by omega, by go_num, by go_num, revTo_zero L, HU.out, Turn.refl _ _⟩
  case round =>
    obtain ⟨k, jv, M, hk, hjv, hg, rfl, rfl, HR⟩ := hrel
    have HML : Hid (M.length = n) := by show _ = _; rw [HR.out.1.1, HN.out]
    by_cases hlt : 2 * k + 1 < n
    · obtain ⟨m, rfl⟩ : ∃ m : Nat, jv = m := ⟨jv.toNat, by omega⟩
      have hm : m = n - 1 - k := by omega
      have HM := Lib.hid hm
      have hmn : m < n := by omega
      have hkm : k < m := by omega
      have hgl := HR.out.2.1.1
      have c0 := HR.out.2.1.2.1 k (by rw [HML.out]; omega)
      have d0 := HR.out.2.1.2.1 m (by rw [HML.out]; omega)
      have f0 := (HR.out.2.1.2.2 k (by omega)).2
      have f1 := (HR.out.2.1.2.2 m (by omega)).2
      obtain ⟨x, hx⟩ : ∃ x, (wr.setCell ⟨g, k, none⟩ (.int .u64 (gw M m))).cell? ⟨g, m, none⟩ = some x := ⟨_, cell_put d0⟩
      have HF : Hid (RevTo L (swapL M k m) (k + 1) ∧ RowU ((wr.setCell ⟨g, k, none⟩ (.int .u64 (gw M m))).setCell ⟨g, m, none⟩ (.int .u64 (gw M k))).drew g c (swapL M k m) ∧ Turn (fun k => k = g) w ((wr.setCell ⟨g, k, none⟩ (.int .u64 (gw M m))).setCell ⟨g, m, none⟩ (.int .u64 (gw M k))).drew) := by
        have h1 := revTo_succ HR.out.1 (by rw [HN.out]; omega)
        rw [HN.out, ← HM.out] at h1
        exact ⟨h1, rowU_swap HR.out.2.1 (by rw [HML.out]; omega) (by rw [HML.out]; omega), (Turn.setCell (S := fun x => x = g) (a := ⟨g, m, none⟩) (Turn.setCell (S := fun x => x = g) (a := ⟨g, k, none⟩) HR.out.2.2 rfl _) rfl _).drew⟩
      have qk : ((k : Int) < (m : Int)) = True := eq_true (by omega)
      generalize gw M k = x0 at *
      generalize gw M m = y0 at *
      have HJ := Lib.hid hjv
      clear hm hjv
      go_wp2_with fail
      go_region
      all_goals
        go_wp2
        go_roundg (n - (k + 1))
        case measure => omega
        case rel => exact ⟨k + 1, (m : Int) - 1, swapL M k m, by omega, by have := HJ.out; omega, by omega, by go_num, by go_num, HF.out⟩
    · have HF : Hid (RowU wr g c L.reverse ∧ Turn (fun k => k = g) w wr) := by
        refine ⟨?_, HR.out.2.2⟩
        rw [← revTo_end HR.out.1 (by rw [HN.out]; omega)]
        exact HR.out.2.1
      clear HR
      have qk : ¬ (k : Int) < jv := by omega
      go_wp2
      go_end0
      exact ⟨rfl, HF.out⟩
/-- What cells.Set tells, as a row: its address, its room. -/
def SetRow (w : World) (L : List Int) (e : Ending) (w' : World) : Prop :=
  ∃ ao, e = .returned (.slice ao L.length L.length) ∧ (∀ g o s, ao = some ⟨g, o, s⟩ → w.heap.size ≤ g ∧ g < w'.heap.size) ∧ (0 < L.length → ∃ g, ao = some ⟨g, 0, none⟩ ∧ RowU w' g L.length L) ∧ (ao = none → L.length = 0) ∧ Below w.heap.size w w'
set_option maxRecDepth 100000 in
set_option maxHeartbeats 1000000 in
theorem uclone_none' (ao : Option Addr) (c : Nat) (w : World) :
    Calls Tryz.prog 70 #[.slice ao 0 c] w fun e w' => ∃ ao' c', e = .returned (.slice ao' 0 c') ∧ (∀ g o s, ao' = some ⟨g, o, s⟩ → w.heap.size ≤ g ∧ g < w'.heap.size) ∧ Below w.heap.size w w' := by
  have q22 : ∀ (w : World) (a : Option Addr) (n c n' c' : Nat), (binOp .eql 22 (.slice a n c) (.slice none n' c')).run Tryz.prog w = .ok (.bool a.isNone) w := fun w a n c n' c' => Lib.run_eql_slice_nil w _ _ a n c n' c' Tryz.underlying22
  cases ao with
  | none =>
    go_enter Tryz.func70, Tryz.ntmps70
    go_wp2
    go_ret
    exact ⟨none, _, rfl, fun g o s h => (by cases h), Below.refl _ _⟩
  | some a =>
    go_enter Tryz.func70, Tryz.ntmps70
    go_wp2
    go_ret
    exact ⟨_, _, rfl, fun g o s h => by cases h; exact ⟨Nat.le_refl _, by simp⟩, (Below.refl _ _).alloc (Nat.le_refl _) _⟩
set_option maxRecDepth 100000 in
set_option maxHeartbeats 1000000 in
theorem uset_row (ao : Option Addr) (c : Nat) (l : List Int) (w : World) (B : Nat) (h : WordsAt w B ao l) (hn : l.length ≤ 1000000000) :
    Calls Tryz.prog 39 #[.slice ao l.length c] w (SetRow w (setF l)) := by
  by_cases h0 : l.length = 0
  · obtain rfl : l = [] := List.eq_nil_of_length_eq_zero h0
    rw [setF_nil]
    simp only [List.length_nil]
    go_enter Tryz.func39, Tryz.ntmps39
    go_wp2_with fail
    refine (uclone_none' ao c _).mono ?_
    rintro e w1 ⟨a1, c1, rfl, hg, hb⟩
    have HG := Lib.hid hg
    clear hg
    go_wp2_with fail
    refine (u64_Sort_int_nil a1 c1 _).mono ?_
    rintro e w2 ⟨rfl, hw⟩
    rw [hw]
    clear hw
    go_wp2_with fail
    refine (ucompact_none a1 c1 _).mono ?_
    rintro e w2 ⟨rfl, rfl⟩
    go_wp2_with fail
    refine (uclip_any a1 0 c1 _ (Nat.zero_le _)).mono ?_
    rintro e w2 ⟨rfl, rfl⟩
    go_wp2
    go_ret
    exact ⟨a1, rfl, HG.out, fun h => by simp at h, fun _ => rfl, hb⟩
  · obtain ⟨b, off, rfl, hlt, hc⟩ := h (by omega)
    have HC := Lib.hid hc
    obtain ⟨n, hnn⟩ : ∃ n, l.length = n := ⟨_, rfl⟩
    have HCL := Lib.hid (uclone_any b off c l w hn hc)
    have HN := Lib.hid hnn
    rw [hnn] at hn h0 HCL ⊢
    clear hc hnn h
    go_enter Tryz.func39, Tryz.ntmps39
    go_wp2_with fail
    refine HCL.out.mono ?_
    rintro e w1 ⟨v, rfl, hown, hb1⟩
    obtain ⟨a1, c1, rfl, hnc, _⟩ := own_form hown
    obtain ⟨g, rfl, hg0, hg, _, hH⟩ := holds_own (by omega) hown
    have HO := Lib.hid hH
    have HS := Lib.hid (u64_slices_Sort_int g 0 c1 l w1 hH hg (by rw [HN.out]; omega))
    have HB1 := Lib.hid hb1
    rw [HN.out] at HS
    clear hown hb1 hH
    go_wp2_with fail
    refine HS.out.mono ?_
    rintro e w2 ⟨rfl, q, os, hw2⟩
    have hH2 : Holds encU w2 g 0 (srt l).toArray := by
      rw [hw2]
      refine holds_grow _ _ _ _ _ _ (by simpa [putRow, mapBlock, Sort.ahead] using hg) ?_
      exact holds_putRow _ _ _ _ l.toArray _ (holds_ahead _ _ _ _ _ _ HO.out) (by simp)
    have hb2 : Below w.heap.size w w2 := by
      rw [hw2]
      refine below_growU (below_putRow HB1.out hg0) ?_
      have := HB1.out.size
      simpa [putRow, mapBlock, Sort.ahead] using this
    have hg2 : g < w2.heap.size := by
      rw [hw2]
      have : g < (putRow (Value.int .u64) (Sort.ahead w1 q) g 0 (l.mergeSort fun x y => decide (x ≤ y)).toArray).heap.size := by simpa [putRow, mapBlock, Sort.ahead] using hg
      simp only [grow, Array.size_append]
      omega
    have hsl : (srt l).toArray.size = n := by simp [srt_length, HN.out]
    have HCO := Lib.hid (ucompact_any g 0 c1 (srt l).toArray w2 hH2 (by rw [hsl]; omega) (by rw [hsl]; omega))
    have HB2 := Lib.hid hb2
    have HO2 := Lib.hid hH2
    have HW := Lib.hid hg2
    rw [hsl] at HCO
    have HL : Hid (compactUpTo (srt l).toArray n = setF l) := by show _ = _; unfold setF; rw [srt_length, HN.out]
    rw [HL.out] at HCO
    clear hw2 hH2 hb2 hg2 HS
    go_wp2_with fail
    refine HCO.out.mono ?_
    rintro e w3 ⟨rfl, q3, hw3⟩
    have hle : (setF l).length ≤ n := by rw [← HL.out]; exact cut_length _ _
    have hH3 : Holds encU w3 g 0 (setF l ++ List.replicate (n - (setF l).length) 0).toArray := by
      rw [hw3]
      exact holds_putRow _ _ _ _ (srt l).toArray _ (holds_ahead _ _ _ _ _ _ HO2.out) (by rw [hsl]; simp; omega)
    have hb3 : Below w.heap.size w w3 := by rw [hw3]; exact below_putRow HB2.out hg0
    have hg3 : g < w3.heap.size := by rw [hw3]; simpa [putRow, mapBlock, Sort.ahead] using HW.out
    have HR : Hid (RowU w3 g (setF l).length (setF l)) := by
      refine ⟨hg3, fun i hi => ?_, fun j hj => ?_⟩
      · have h1 := (hH3 i (by simp; omega)).1
        rw [Nat.zero_add] at h1
        rw [h1]
        show some (Value.int .u64 _) = _
        congr 2
        unfold gw
        rw [getElem!_pos _ _ (by simp; omega), List.getElem_toArray, List.getElem_append_left hi, List.getD_eq_getElem?_getD, List.getElem?_eq_getElem hi]; rfl
      · obtain ⟨h1, h2⟩ := hH3 j (by simp; omega)
        rw [Nat.zero_add] at h1 h2
        rw [h1]
        exact ⟨rfl, h2⟩
    have HB3 := Lib.hid hb3
    have HG3 := Lib.hid hg3
    have HG0 := Lib.hid hg0
    have HCP := Lib.hid (uclip_any (some ⟨g, 0, none⟩) (setF l).length c1 w3 (by omega))
    clear hw3 hH3 hb3 hg3 hg0
    go_wp2_with fail
    refine HCP.out.mono ?_
    rintro e w4 ⟨rfl, rfl⟩
    go_wp2
    go_ret
    exact ⟨_, rfl, fun g' o s h => by cases h; exact ⟨HG0.out, HG3.out⟩, fun _ => ⟨g, rfl, HR.out⟩, fun h => (by cases h), HB3.out⟩
end Go.Proofs.YtkjfdaleamonaaaGreat
/- Contracts of the library's Grow (of nil) and Concat (of two) at []uint64. -/
namespace Go.Proofs.YtkjfdaleamonaaaGreat
open Go.RowKit Go.Lib Go.Sort

def Grew (w : World) (n : Nat) (e : Ending) (w' : World) : Prop :=
  ∃ g cap, e = .returned (.slice (some ⟨g, 0, none⟩) 0 cap) ∧ n ≤ cap ∧ w'.ownsRow w.heap.size 25 1 (.slice (some ⟨g, 0, none⟩) 0 cap) 0 [] ∧ Below w.heap.size w w'
set_option maxRecDepth 100000 in
set_option maxHeartbeats 1000000 in
theorem ugrow_any (n : Nat) (h0 : 0 < n) (hn : n ≤ 1000000000) (w : World) : Calls Tryz.prog 103 #[.slice none 0 0, .int .i64 n] w (Grew w n) := by
  obtain ⟨i0, hi, hz0, hz1, hz2⟩ := info_parts info_u
  go_enter Tryz.func103, Tryz.ntmps103
  go_wp2_with (at_builtin; refine Lib.wpList_append_run _ rfl _ _ _ _ rfl _ _ rfl rfl _ _ (Lib.run_append_nil_zeros _ 22 3 _ 25 i0 (.int .u64 0) .i64 .i64 Tryz.underlying22 Tryz.underlying3 hi hz0 n h0 (by omega) (by omega) (by rw [hz2]; omega)) ?_)
  go_ret
  have hge := grownCap_ge w n 0 25
  refine ⟨w.heap.size, _, rfl, hge, ⟨rfl, .inr ⟨w.heap.size, _, _, rfl, Nat.le_refl _, heap_new _ _ _ rfl, Nat.zero_le _, grownCap_le_maxLen w n 0 25 (by unfold maxLen; omega), ?_, by simp⟩⟩, ((Below.refl _ _).alloc (Nat.le_refl _) _).drew⟩
  simp [Builtin.zeroCells]
  omega

/-- Two lists, one behind the other. -/
def Joined (w : World) (l : List Int) (e : Ending) (w' : World) : Prop :=
  ∃ ao c, e = .returned (.slice ao l.length c) ∧ WordsAt w' w'.heap.size ao l ∧ Below w.heap.size w w' ∧ (ao = none → c = 0)
theorem words_news {w : World} {B : Nat} {ao : Option Addr} {l : List Int} (h : WordsAt w B ao l) : ∀ ad, ao = some ad → ∀ j u, (uV l)[j]? = some u → w.cell? (ad.add j) = some u := fun ad e j u hj => by
  have hjl : j < l.length := by have := (List.getElem?_eq_some_iff.1 hj).1; rwa [uV_len] at this
  obtain ⟨b, off, e2, _, hc⟩ := h (by omega)
  rw [e2] at e
  cases e
  rw [uV_get l j hjl] at hj
  cases hj
  have hadd : (⟨b, off, none⟩ : Addr).add j = ⟨b, off + j, none⟩ := by unfold Addr.add; split <;> simp_all
  rw [hadd]
  exact hc j hjl
set_option maxRecDepth 100000 in
set_option maxHeartbeats 2000000 in
theorem uconcat_any (g0 : Nat) (ao bo : Option Addr) (c d : Nat) (a b : List Int) (w : World) (hg0 : g0 < w.heap.size) (h0 : w.cell? ⟨g0, 0, none⟩ = some (.slice ao a.length c)) (h1 : w.cell? ⟨g0, 1, none⟩ = some (.slice bo b.length d))
    (ha : WordsAt w w.heap.size ao a) (hb : WordsAt w w.heap.size bo b) (za : ao = none → a.length = 0 ∧ c = 0) (zb : bo = none → b.length = 0 ∧ d = 0) (hna : a.length ≤ 100000000) (hnb : b.length ≤ 100000000) (hpos : 0 < a.length + b.length) :
    Calls Tryz.prog 74 #[.slice (some ⟨g0, 0, none⟩) 2 2] w (Joined w (a ++ b)) := by
  obtain ⟨i0, hi, hz0, hz1, hz2⟩ := info_parts info_u
  obtain ⟨na, ea⟩ : ∃ n, a.length = n := ⟨_, rfl⟩
  obtain ⟨nb, eb⟩ : ∃ n, b.length = n := ⟨_, rfl⟩
  have HNA := Lib.hid ea
  have HNB := Lib.hid eb
  rw [ea] at hna hpos h0 za
  rw [eb] at hnb hpos h1 zb
  have ZA := Lib.hid za
  have ZB := Lib.hid zb
  have HA := Lib.hid ha
  have HB := Lib.hid hb
  have H0 := Lib.hid h0
  have H1 := Lib.hid h1
  clear ea eb ha hb za zb
  go_enter Tryz.func74, Tryz.ntmps74
  go_wp2
  go_loop [3, 11] (fun s i => ∃ k : Nat, k ≤ 2 ∧ i = .int .i64 k ∧ s = .int .i64 ((if k = 0 then 0 else if k = 1 then na else na + nb : Nat) : Int)) (fun _ i => 2 - (intOf i).toNat)
  case atStart => exact ⟨0, by omega, rfl, rfl⟩
  case round =>
    obtain ⟨k, hk, rfl, rfl⟩ := hrel
    rcases (show k = 0 ∨ k = 1 ∨ k = 2 by omega) with rfl | rfl | rfl
    · simp only [if_true]
      go_wp2
      go_round
      case rel => exact ⟨1, by omega, by go_num, by simp⟩
      case measure => simp [intOf]
    · simp only [Nat.one_ne_zero, if_false, if_true]
      go_wp2
      go_round
      case rel => exact ⟨2, by omega, by go_num, by simp⟩
      case measure => simp [intOf]
    · have e2 : (if 2 = 0 then 0 else if 2 = 1 then na else na + nb : Nat) = na + nb := by simp
      rw [e2]
      clear e2
      have HG : Hid (Calls Tryz.prog 103 #[.slice none 0 0, .int .i64 ((na : Int) + (nb : Int))] w (Grew w (na + nb))) := by
        have := ugrow_any (na + nb) hpos (by omega) w
        rw [Int.natCast_add] at this
        exact this
      clear h0 h1
      go_wp2_with fail
      refine HG.out.mono ?_
      rintro e w1 ⟨g, cap, rfl, hcap, hown, hb1⟩
      have HO := Lib.hid hown
      have HB1 := Lib.hid hb1
      have hg1 : g0 < w1.heap.size := by have := hb1.size; omega
      have HAL : Hid (∀ wx, Below w.heap.size w wx → (wx.cell? ⟨g0, 0, none⟩ = some (.slice ao na c) ∧ wx.cell? ⟨g0, 1, none⟩ = some (.slice bo nb d) ∧ g0 < wx.heap.size) ∧ WordsAt wx w.heap.size ao a ∧ WordsAt wx w.heap.size bo b) := fun wx hx =>
        ⟨⟨(hx.cell (p := ⟨g0, 0, none⟩) hg0).trans H0.out, (hx.cell (p := ⟨g0, 1, none⟩) hg0).trans H1.out, by have := hx.size; omega⟩, HA.out.below hx (Nat.le_refl _), HB.out.below hx (Nat.le_refl _)⟩
      clear hown hb1
      go_wp2
      go_loopw [6, 27] (fun v i wr => ∃ k m : Nat, k ≤ 2 ∧ i = .int .i64 k ∧ v = .slice (some ⟨g, 0, none⟩) m cap ∧ Hid (m = ([[], a, a ++ b].getD k []).length) ∧ wr.ownsRow w.heap.size 25 1 (.slice (some ⟨g, 0, none⟩) m cap) m (uV ([[], a, a ++ b].getD k [])) ∧ Below w.heap.size w wr) (fun _ i _ => 2 - (intOf i).toNat)
      case atStart => exact ⟨0, 0, by omega, rfl, rfl, rfl, HO.out, HB1.out⟩
      case round =>
        obtain ⟨k, m, hk, rfl, rfl, HM, hown, hnx⟩ := hrel
        obtain ⟨⟨r0, r1, hgw⟩, hwa, hwb⟩ := HAL.out wr hnx
        have hsz := hnx.size
        have hgo : w.heap.size ≤ g := (hown.lt g rfl).1
        rcases (show k = 0 ∨ k = 1 ∨ k = 2 by omega) with rfl | rfl | rfl
        · have hm0 : m = 0 := HM.out
          subst hm0
          have hN := Lib.hid (words_news hwa)
          have hown' : wr.ownsRow w.heap.size 25 1 (.slice (some ⟨g, 0, none⟩) 0 cap) 0 [] := hown
          clear hwa hwb hown
          go_wp2_with (at_builtin; refine wpList_append_fits_any _ rfl (.tmp 31) (.tmp 32) 22 rfl w.heap.size 25 i0 1 Tryz.underlying22 hi hz1 g 0 cap [] rfl hown' ao na c (uV a) rfl (by rw [uV_len, HNA.out, Nat.mul_one]) ZA.out hN.out (uV_cell a) (by omega) ?_; intro w2 hown1 hgrow)
          simp only [Nat.zero_add, List.nil_append] at hown1
          go_roundw
          case rel => exact ⟨1, na, by omega, by go_num, by simp, by show na = a.length; rw [HNA.out], hown1, hnx.grown hgrow hsz (fun k hk => by cases hk; exact hgo)⟩
          case measure => simp [intOf]
        · have hm0 : m = na := by rw [HM.out]; exact HNA.out
          subst hm0
          have hN := Lib.hid (words_news hwb)
          have hown' : wr.ownsRow w.heap.size 25 1 (.slice (some ⟨g, 0, none⟩) m cap) m (uV a) := hown
          clear hwa hwb hown
          go_wp2_with (at_builtin; refine wpList_append_fits_any _ rfl (.tmp 31) (.tmp 32) 22 rfl w.heap.size 25 i0 1 Tryz.underlying22 hi hz1 g m cap (uV a) rfl hown' bo nb d (uV b) rfl (by rw [uV_len, HNB.out, Nat.mul_one]) ZB.out hN.out (uV_cell b) (by omega) ?_; intro w2 hown1 hgrow)
          have hab : uV a ++ uV b = uV (a ++ b) := by simp [uV]
          rw [hab] at hown1
          go_roundw
          case rel => exact ⟨2, m + nb, by omega, by go_num, by simp, by show m + nb = (a ++ b).length; rw [List.length_append, HNA.out, HNB.out], hown1, hnx.grown hgrow hsz (fun k hk => by cases hk; exact hgo)⟩
          case measure => simp [intOf]
        · have hm : m = (a ++ b).length := HM.out
          have hJ : Hid (Joined w (a ++ b) (.returned (.slice (some ⟨g, 0, none⟩) m cap)) wr) := by
            have hw := words_own hm hown
            rw [hm]
            exact ⟨_, _, rfl, hw, hnx, fun h => (by cases h)⟩
          clear hm hown hwa hwb
          go_wp2
          go_ret
          exact hJ.out
end Go.Proofs.YtkjfdaleamonaaaGreat
/- Contracts of cells.Union, apiaryref1.Same, apiarylaw7.awake. -/
namespace Go.Proofs.YtkjfdaleamonaaaGreat
open Go.RowKit Go.Lib Go.Sort

set_option maxRecDepth 100000 in
theorem ugrow_zero (w : World) : Calls Tryz.prog 103 #[.slice none 0 0, .int .i64 0] w fun e w' => e = .returned (.slice none 0 0) ∧ w = w' := by
  go_enter Tryz.func103, Tryz.ntmps103
  go_wp2
  go_ret
  exact ⟨rfl, rfl⟩
set_option maxRecDepth 100000 in
set_option maxHeartbeats 1000000 in
theorem uconcat_zero (g0 : Nat) (ao bo : Option Addr) (c d : Nat) (w : World) (h0 : w.cell? ⟨g0, 0, none⟩ = some (.slice ao 0 c)) (h1 : w.cell? ⟨g0, 1, none⟩ = some (.slice bo 0 d)) (za : ao = none → c = 0) (zb : bo = none → d = 0) :
    Calls Tryz.prog 74 #[.slice (some ⟨g0, 0, none⟩) 2 2] w (Joined w []) := by
  have hJ : Hid (Joined w [] (.returned (.slice none 0 0)) w) := ⟨none, 0, rfl, fun h => by simp at h, Below.refl _ _, fun _ => rfl⟩
  go_enter Tryz.func74, Tryz.ntmps74
  go_wp2
  go_loop [3, 11] (fun s i => ∃ k : Nat, k ≤ 2 ∧ i = .int .i64 k ∧ s = .int .i64 0) (fun _ i => 2 - (intOf i).toNat)
  case atStart => exact ⟨0, by omega, rfl, rfl⟩
  case round =>
    obtain ⟨k, hk, rfl, rfl⟩ := hrel
    rcases (show k = 0 ∨ k = 1 ∨ k = 2 by omega) with rfl | rfl | rfl
    · go_wp2
      go_round
      case rel => exact ⟨1, by omega, by go_num, rfl⟩
      case measure => simp [intOf]
    · go_wp2
      go_round
      case rel => exact ⟨2, by omega, by go_num, rfl⟩
      case measure => simp [intOf]
    · go_wp2_with fail
      refine (ugrow_zero _).mono ?_
      rintro e w1 ⟨rfl, rfl⟩
      go_wp2
      go_loop [6, 27] (fun v i => ∃ k : Nat, k ≤ 2 ∧ i = .int .i64 k ∧ v = .slice none 0 0) (fun _ i => 2 - (intOf i).toNat)
      case atStart => exact ⟨0, by omega, rfl, rfl⟩
      case round =>
        obtain ⟨k, hk, rfl, rfl⟩ := hrel
        rcases (show k = 0 ∨ k = 1 ∨ k = 2 by omega) with rfl | rfl | rfl
        · cases ao with
          | none =>
            obtain rfl := za rfl
            go_wp2
            go_round
            case rel => exact ⟨1, by omega, by go_num, rfl⟩
            case measure => simp [intOf]
          | some ad =>
            go_wp2
            go_round
            case rel => exact ⟨1, by omega, by go_num, rfl⟩
            case measure => simp [intOf]
        · cases bo with
          | none =>
            obtain rfl := zb rfl
            go_wp2
            go_round
            case rel => exact ⟨2, by omega, by go_num, rfl⟩
            case measure => simp [intOf]
          | some ad =>
            go_wp2
            go_round
            case rel => exact ⟨2, by omega, by go_num, rfl⟩
            case measure => simp [intOf]
        · go_wp2
          go_ret
          exact hJ.out

/-- What two lists have together. -/
def unionL (a b : List Int) : List Int := if 20000 < a.length ∨ 20000 < b.length then [] else toldF (setF (a ++ b))
def unionE (a b : List Int) : Int := if 20000 < a.length ∨ 20000 < b.length then 7 else toldE (setF (a ++ b))
def Union (w : World) (a b : List Int) (e : Ending) (w' : World) : Prop :=
  ∃ ao c, e = .returned (.tuple #[.slice ao (unionL a b).length c, .int .i64 (unionE a b)]) ∧ WordsAt w' w'.heap.size ao (unionL a b) ∧ Below w.heap.size w w' ∧ (ao = none → c = 0)
set_option maxRecDepth 100000 in
set_option maxHeartbeats 2000000 in
theorem same_any (ao bo : Option Addr) (c d : Nat) (a b : List Int) (w : World) (B C : Nat) (ha : WordsAt w B ao a) (hb : WordsAt w C bo b) (hna : a.length ≤ 1000000000) :
    Calls Tryz.prog 24 #[.slice ao a.length c, .slice bo b.length d] w fun e w' => e = .returned (.bool (decide (a = b))) ∧ Below w.heap.size w w' := by
  obtain ⟨r, hr⟩ : ∃ r : Bool, decide (a = b) = r := ⟨_, rfl⟩
  rw [hr]
  by_cases hl : a.length = b.length
  · obtain ⟨n, hn⟩ : ∃ n, a.length = n := ⟨_, rfl⟩
    rw [← hl, hn]
    rw [hn] at hna
    have HA := Lib.hid ha
    have HB := Lib.hid hb
    have HN := Lib.hid hn
    have HL : Hid (b.length = n) := by show _ = _; rw [← hl, hn]
    have HR := Lib.hid hr
    have q0 : ((n : Int) != (n : Int)) = false := by simp
    clear ha hb hl hn hr
    go_enter Tryz.func24, Tryz.ntmps24
    go_wp2
    go_loopw [5] (fun i wr => ∃ k : Nat, k ≤ n ∧ i = .int .i64 k ∧ Hid (∀ j, j < k → a.getD j 0 = b.getD j 0) ∧ Below w.heap.size w wr ∧ Hid (∀ x, wr.cell? x = w.cell? x)) (fun i _ => n - (intOf i).toNat)
    case atStart => exact ⟨0, Nat.zero_le _, rfl, fun j hj => by omega, Below.refl _ _, fun x => rfl⟩
    case round =>
      obtain ⟨k, hk, rfl, HE, hnx, HCA⟩ := hrel
      by_cases hlt : k < n
      · obtain ⟨g, off, rfl, hg, hc⟩ := HA.out (by rw [HN.out]; omega)
        obtain ⟨g2, off2, rfl, hg2, hc2⟩ := HB.out (by rw [HL.out]; omega)
        have c0 := (HCA.out _).trans (hc k (by rw [HN.out]; exact hlt))
        have c1 := (HCA.out _).trans (hc2 k (by rw [HL.out]; exact hlt))
        have hg' := World.block_lt_of_cell? wr _ c0
        have hg2' := World.block_lt_of_cell? wr _ c1
        have HNO : Hid (a.getD k 0 ≠ b.getD k 0 → r = false) := fun h => by rw [← HR.out]; simp; intro e; exact h (by rw [e])
        have HYES : Hid (a.getD k 0 = b.getD k 0 → ∀ j, j < k + 1 → a.getD j 0 = b.getD j 0) := fun h j hj => by
          by_cases e : j = k
          · rw [e]; exact h
          · exact HE.out j (by omega)
        generalize a.getD k 0 = x at c0 HNO HYES
        generalize b.getD k 0 = y at c1 HNO HYES
        clear hc hc2
        dsimp only at hg' hg2'
        by_cases hxy : x = y
        · have hq : (x != y) = false := by simpa using hxy
          have HY := Lib.hid (HYES.out hxy)
          clear hxy HNO HYES
          go_wp2
          go_quiet (fail)
          go_wp2
          go_roundw
          case rel => exact ⟨k + 1, by omega, by go_num, HY.out, below_drewN hnx _, fun x => HCA.out x⟩
          case measure => simp [intOf]; omega
        · have hq : (x != y) = true := by simpa using hxy
          have HY := Lib.hid (HNO.out hxy)
          clear hxy HNO HYES
          go_wp2
          go_quiet (fail)
          go_wp2
          go_ret
          exact ⟨ret_bool HY.out.symm, below_drewN hnx _⟩
      · obtain rfl : k = n := by omega
        have HT : Hid (r = true) := by
          show _ = _
          rw [← HR.out]
          simp only [decide_eq_true_eq]
          refine List.ext_getElem (by rw [HN.out, HL.out]) fun i h1 h2 => ?_
          have := HE.out i (by rw [HN.out] at h1; exact h1)
          rwa [List.getD_eq_getElem?_getD, List.getD_eq_getElem?_getD, List.getElem?_eq_getElem h1, List.getElem?_eq_getElem h2, Option.getD_some, Option.getD_some] at this
        go_wp2
        go_ret
        exact ⟨ret_bool HT.out.symm, hnx⟩
  · have HF : Hid (r = false) := by show _ = _; rw [← hr]; simp; intro e; exact hl (by rw [e])
    have q0 : ((a.length : Int) != (b.length : Int)) = true := by simp; omega
    clear hr ha hb
    go_enter Tryz.func24, Tryz.ntmps24
    go_wp2
    go_ret
    exact ⟨ret_bool HF.out.symm, Below.refl _ _⟩

theorem Told.of {w : World} {l : List Int} {e : Ending} {w' : World} (h : Told w l e w') : ∃ ao c, e = .returned (.tuple #[.slice ao (toldF l).length c, .int .i64 (toldE l)]) ∧ WordsAt w' w'.heap.size ao (toldF l) ∧ Below w.heap.size w w' ∧ (ao = none → c = 0) := h
set_option maxRecDepth 100000 in
set_option maxHeartbeats 2000000 in
theorem union_any (ao bo : Option Addr) (c d : Nat) (a b : List Int) (w : World) (ha : WordsAt w w.heap.size ao a) (hb : WordsAt w w.heap.size bo b) (za : ao = none → a.length = 0 ∧ c = 0) (zb : bo = none → b.length = 0 ∧ d = 0) (hna : a.length ≤ 1000000000) (hnb : b.length ≤ 1000000000) :
    Calls Tryz.prog 40 #[.slice ao a.length c, .slice bo b.length d] w (Union w a b) := by
  by_cases hbig : 20000 < a.length ∨ 20000 < b.length
  · have HT : Hid (Union w a b (.returned (.tuple #[.slice none 0 0, .int .i64 7])) w) :=
      ⟨none, 0, by unfold unionL unionE; rw [if_pos hbig, if_pos hbig]; rfl, by unfold unionL; rw [if_pos hbig]; exact fun h => by simp at h, Below.refl _ _, fun _ => rfl⟩
    by_cases h1 : 20000 < a.length
    · have q1 : decide (20000 < (a.length : Int)) = true := by simp; omega
      clear hbig
      go_enter Tryz.func40, Tryz.ntmps40
      go_wp2_with fail
      go_ret2
      exact HT.out
    · have q1 : decide (20000 < (a.length : Int)) = false := by simp; omega
      have q2 : decide (20000 < (b.length : Int)) = true := by simp; omega
      clear hbig
      go_enter Tryz.func40, Tryz.ntmps40
      go_wp2_with fail
      go_ret2
      exact HT.out
  · have q1 : decide (20000 < (a.length : Int)) = false := by simp; omega
    have q2 : decide (20000 < (b.length : Int)) = false := by simp; omega
    have HL : Hid (unionL a b = toldF (setF (a ++ b)) ∧ unionE a b = toldE (setF (a ++ b))) := ⟨by unfold unionL; rw [if_neg hbig], by unfold unionE; rw [if_neg hbig]⟩
    have HCON : Hid (Calls Tryz.prog 74 #[.slice (some ⟨w.heap.size, 0, none⟩) 2 2] (w.alloc (.cells #[.slice ao a.length c, .slice bo b.length d] 22)) (Joined (w.alloc (.cells #[.slice ao a.length c, .slice bo b.length d] 22)) (a ++ b))) := by
      have hb0 : Below w.heap.size w (w.alloc (.cells #[.slice ao a.length c, .slice bo b.length d] 22)) := (Below.refl _ _).alloc (Nat.le_refl _) _
      have h0 : (w.alloc (.cells #[.slice ao a.length c, .slice bo b.length d] 22)).cell? ⟨w.heap.size, 0, none⟩ = some (.slice ao a.length c) := by rw [cell_of_row _ _ _ _ _ _ (heap_new _ _ _ rfl)]; rfl
      have h1 : (w.alloc (.cells #[.slice ao a.length c, .slice bo b.length d] 22)).cell? ⟨w.heap.size, 1, none⟩ = some (.slice bo b.length d) := by rw [cell_of_row _ _ _ _ _ _ (heap_new _ _ _ rfl)]; rfl
      by_cases hp : 0 < a.length + b.length
      · exact uconcat_any w.heap.size ao bo c d a b _ (by simp) h0 h1 ((ha.below hb0 (Nat.le_refl _)).wider hb0.size) ((hb.below hb0 (Nat.le_refl _)).wider hb0.size) za zb (by omega) (by omega) hp
      · obtain rfl : a = [] := List.eq_nil_of_length_eq_zero (by omega)
        obtain rfl : b = [] := List.eq_nil_of_length_eq_zero (by omega)
        exact uconcat_zero w.heap.size ao bo c d _ h0 h1 (fun e => (za e).2) (fun e => (zb e).2)
    have hlab : (a ++ b).length ≤ 40000 := by rw [List.length_append]; omega
    clear hbig ha hb za zb hna hnb
    obtain ⟨l, hl⟩ : ∃ l, a ++ b = l := ⟨_, rfl⟩
    rw [hl] at HCON HL hlab
    obtain ⟨na, hna⟩ : ∃ n, a.length = n := ⟨_, rfl⟩
    obtain ⟨nb, hnb⟩ : ∃ n, b.length = n := ⟨_, rfl⟩
    rw [hna] at HCON q1 ⊢
    rw [hnb] at HCON q2 ⊢
    clear hna hnb hl
    go_enter Tryz.func40, Tryz.ntmps40
    go_wp2_with fail
    refine HCON.out.mono ?_
    rintro e w1 ⟨lo, lc, rfl, hwl, hb1, -⟩
    have HB1 : Hid (Below w.heap.size w w1) := below_alloc hb1
    have HS := Lib.hid (uset_any lo lc l w1 _ hwl (by omega))
    clear hb1 hwl
    go_wp2_with fail
    refine HS.out.mono ?_
    rintro e w2 ⟨so, sc, rfl, hzs, hws, hb2⟩
    have HB2 := Lib.hid (below_later HB1.out HB1.out.size hb2)
    have HTD := Lib.hid (told_any so sc (setF l) w2 hws (by have := setF_length l; omega) hzs)
    clear hb2 hws hzs
    go_wp2_with fail
    refine HTD.out.mono ?_
    rintro e w3 ht
    obtain ⟨ro, rc, rfl, hwr, hb3, hz3⟩ := ht.of
    have HP : Hid (Union w a b (.returned (.tuple #[.slice ro (toldF (setF l)).length rc, .int .i64 (toldE (setF l))])) w3) := ⟨ro, rc, by rw [HL.out.1, HL.out.2], by rw [HL.out.1]; exact hwr, below_later HB2.out HB2.out.size hb3, hz3⟩
    clear ht hwr hb3 hz3
    go_wp2
    go_ret2
    exact HP.out
end Go.Proofs.YtkjfdaleamonaaaGreat
/- Contract of apiarylaw7.awake. -/
namespace Go.Proofs.YtkjfdaleamonaaaGreat
open Go.RowKit Go.Lib Go.Sort

theorem words_new (w : World) (l : List Int) (t : TypeId) : WordsAt (w.alloc (.cells (uV l).toArray t)) (w.heap.size + 1) (some ⟨w.heap.size, 0, none⟩) l := fun _ =>
  ⟨w.heap.size, 0, rfl, by omega, fun i hi => by
    rw [cell_of_row _ _ _ _ _ _ (heap_new _ _ _ rfl)]
    rw [Nat.zero_add, List.getElem?_toArray]
    exact uV_get l i hi⟩
theorem aw1 : setF [3, 1, 3] = [1, 3] := (setF_up _).ext (by simp [Up]) fun x => by rw [setF_mem]; simp; omega
theorem aw2 : unionL [2] [1] = [1, 2] := by
  have h : setF ([2] ++ [1]) = [1, 2] := (setF_up _).ext (by simp [Up]) fun x => by rw [setF_mem]; simp; omega
  unfold unionL toldF; rw [h]; rfl
theorem aw3 : unionE [2] [1] = 0 := by
  have h : setF ([2] ++ [1]) = [1, 2] := (setF_up _).ext (by simp [Up]) fun x => by rw [setF_mem]; simp; omega
  unfold unionE toldE; rw [h]; rfl
def Aw1 (w : World) (e : Ending) (w' : World) : Prop := ∃ ao c, e = .returned (.slice ao 2 c) ∧ WordsAt w' w'.heap.size ao [1, 3] ∧ Below w.heap.size w w'
def Aw2 (w : World) (e : Ending) (w' : World) : Prop := ∃ ao c, e = .returned (.tuple #[.slice ao 2 c, .int .i64 0]) ∧ WordsAt w' w'.heap.size ao [1, 2] ∧ Below w.heap.size w w'
set_option maxRecDepth 100000 in
set_option maxHeartbeats 4000000 in
theorem awake7_any (w : World) : Calls Tryz.prog 13 #[] w fun e w' => e = .returned (.bool true) ∧ Below w.heap.size w w' := by
  have H1 : Hid (Calls Tryz.prog 39 #[.slice (some ⟨w.heap.size, 0, none⟩) 3 3] (w.alloc (.cells #[.int .u64 3, .int .u64 1, .int .u64 3] 25)) (Aw1 w)) := by
    refine (uset_any (some ⟨w.heap.size, 0, none⟩) 3 [3, 1, 3] _ _ (words_new w [3, 1, 3] 25) (by decide)).mono ?_
    rintro e w' ⟨ao, c, rfl, _, h, hb⟩
    rw [aw1] at h ⊢
    exact ⟨ao, c, rfl, h, below_alloc hb⟩
  have H2 : Hid (∀ w1 : World, Calls Tryz.prog 40 #[.slice (some ⟨w1.heap.size, 0, none⟩) 1 1, .slice (some ⟨w1.heap.size + 1, 0, none⟩) 1 1] ((w1.alloc (.cells #[.int .u64 2] 25)).alloc (.cells #[.int .u64 1] 25)) (Aw2 w1)) := fun w1 => by
    have hb0 : Below (w1.heap.size + 1) (w1.alloc (.cells #[.int .u64 2] 25)) ((w1.alloc (.cells #[.int .u64 2] 25)).alloc (.cells #[.int .u64 1] 25)) := (Below.refl _ _).alloc (by simp) _
    refine (union_any (some ⟨w1.heap.size, 0, none⟩) (some ⟨w1.heap.size + 1, 0, none⟩) 1 1 [2] [1] _ (((words_new w1 [2] 25).below hb0 (Nat.le_refl _)).wider (by simp)) ((by have h := words_new (w1.alloc (.cells #[.int .u64 2] 25)) [1] 25; rw [World.size_alloc] at h; exact h.wider (by simp))) (by simp) (by simp) (by decide) (by decide)).mono ?_
    rintro e w' ⟨ao, c, rfl, h, hb, -⟩
    rw [aw2] at h ⊢
    rw [aw3]
    exact ⟨ao, c, rfl, h, below_alloc (below_alloc hb)⟩
  have H3 : Hid (∀ (ao : Option Addr) (c : Nat) (w1 : World), WordsAt w1 w1.heap.size ao [1, 2] → Calls Tryz.prog 24 #[.slice ao 2 c, .slice (some ⟨w1.heap.size, 0, none⟩) 2 2] (w1.alloc (.cells #[.int .u64 1, .int .u64 2] 25)) fun e w' => e = .returned (.bool true) ∧ Below w1.heap.size w1 w') := fun ao c w1 h => by
    have hb0 : Below w1.heap.size w1 (w1.alloc (.cells #[.int .u64 1, .int .u64 2] 25)) := (Below.refl _ _).alloc (Nat.le_refl _) _
    refine (same_any ao (some ⟨w1.heap.size, 0, none⟩) c 2 [1, 2] [1, 2] _ _ _ (h.below hb0 (Nat.le_refl _)) (words_new w1 [1, 2] 25) (by decide)).mono ?_
    rintro e w' ⟨rfl, hb⟩
    exact ⟨rfl, below_alloc hb⟩
  have H4 : Hid (∀ w1 : World, Calls Tryz.prog 41 #[.slice (some ⟨w1.heap.size, 0, none⟩) 2 2, .int .u64 1] (w1.alloc (.cells #[.int .u64 3, .int .u64 1] 25)) fun e w' => e = .returned (.bool true) ∧ Below w1.heap.size w1 w') := fun w1 => by
    refine (uhas_any (some ⟨w1.heap.size, 0, none⟩) 2 [3, 1] 1 _ _ (words_new w1 [3, 1] 25) (by decide)).mono ?_
    rintro e w' ⟨rfl, rfl⟩
    exact ⟨rfl, (Below.refl _ _).alloc (Nat.le_refl _) _⟩
  go_enter Tryz.func13, Tryz.ntmps13
  go_wp2_with fail
  refine H1.out.mono ?_
  rintro e w1 ⟨lo, lc, rfl, hl, hb1⟩
  have HL := Lib.hid hl
  clear hl
  go_wp2_with fail
  refine (H2.out _).mono ?_
  rintro e w2 ⟨uo, uc, rfl, hu, hb2⟩
  have HU := Lib.hid hu
  have HL2 := Lib.hid (HL.out.below hb2 (Nat.le_refl _))
  have hb3 := below_later hb1 hb1.size hb2
  clear hu hb1 hb2 HL
  obtain ⟨g, off, rfl, hg, hc⟩ := HL2.out (by decide)
  have c0 : w2.cell? ⟨g, off, none⟩ = some (.int .u64 1) := hc 0 (by decide)
  have c1 : w2.cell? ⟨g, off + 1, none⟩ = some (.int .u64 3) := hc 1 (by decide)
  have hg' := World.block_lt_of_cell? w2 _ c0
  dsimp only at hg'
  clear hc HL2
  go_wp2_with fail
  refine (H3.out _ _ _ HU.out).mono ?_
  rintro e w3 ⟨rfl, hb4⟩
  have hb5 := below_later hb3 hb3.size hb4
  clear hb3 hb4 HU c0 c1 hg'
  go_wp2_with fail
  refine (H4.out _).mono ?_
  rintro e w4 ⟨rfl, hb6⟩
  have hb7 := below_later hb5 hb5.size hb6
  clear hb5 hb6
  go_wp2
  go_ret
  exact ⟨rfl, hb7⟩
end Go.Proofs.YtkjfdaleamonaaaGreat
/- Lists of words that are handed on from call to call: contracts of package cells at entries of one world. -/
namespace Go.Proofs.YtkjfdaleamonaaaGreat
open Go.RowKit Go.Lib Go.Sort

theorem words_of_ints {w : World} {B n : Nat} {ao : Option Addr} {z : Nat → Int} (h : IntsAtK .u64 w B ao n z) : WordsAt w B ao ((List.range n).map z) := fun h0 => by
  obtain ⟨b, off, e, hlt, hc⟩ := h (by simpa using h0)
  refine ⟨b, off, e, hlt, fun i hi => ?_⟩
  have hi' : i < n := by simpa using hi
  rw [hc i hi', List.getD_eq_getElem?_getD, List.getElem?_map, List.getElem?_range hi']
  rfl

/-- A slice (address, length, room), a bound of its length and what it holds. -/
abbrev Ent := Option Addr × Nat × Nat × Nat × List Int
def EntOk (w : World) (ao : Option Addr) (n c z : Nat) (l : List Int) : Prop :=
  WordsAt w w.heap.size ao l ∧ l.length = n ∧ n ≤ z ∧ (ao = none → n = 0 ∧ c = 0)
/-- What all these slices hold in w. -/
def Env (w : World) (L : List Ent) : Prop := ∀ t ∈ L, EntOk w t.1 t.2.1 t.2.2.1 t.2.2.2.1 t.2.2.2.2
theorem Env.get {w : World} {L : List Ent} (h : Env w L) {ao : Option Addr} {n c z : Nat} {l : List Int} (hm : (ao, n, c, z, l) ∈ L) : EntOk w ao n c z l := h _ hm
theorem EntOk.later {w w' : World} {ao : Option Addr} {n c z : Nat} {l : List Int} (h : EntOk w ao n c z l) (hb : Below w.heap.size w w') : EntOk w' ao n c z l :=
  ⟨(h.1.below hb (Nat.le_refl _)).wider hb.size, h.2⟩
theorem Env.later {w w' : World} {L : List Ent} (h : Env w L) (hb : Below w.heap.size w w') : Env w' L := fun t ht => (h t ht).later hb
theorem Env.cons {w : World} {L : List Ent} (h : Env w L) {ao : Option Addr} {n c z : Nat} {l : List Int} (he : EntOk w ao n c z l) : Env w ((ao, n, c, z, l) :: L) := fun t ht => by
  rcases List.mem_cons.1 ht with rfl | ht
  · exact he
  · exact h t ht
theorem Env.nil (w : World) : Env w [] := fun t ht => by cases ht

def New (w : World) (L : List Ent) (z : Nat) (l : List Int) (e : Ending) (w' : World) : Prop :=
  ∃ ao n c err, e = .returned (.tuple #[.slice ao n c, .int .i64 err]) ∧ n = l.length ∧ Env w' ((ao, n, c, z, l) :: L) ∧ Below w.heap.size w w'
def New1 (w : World) (L : List Ent) (z : Nat) (l : List Int) (e : Ending) (w' : World) : Prop :=
  ∃ ao n c, e = .returned (.slice ao n c) ∧ n = l.length ∧ Env w' ((ao, n, c, z, l) :: L) ∧ Below w.heap.size w w'
theorem nil_both {w : World} {B : Nat} {ao : Option Addr} {c : Nat} {l : List Int} (h : WordsAt w B ao l) (hz : ao = none → c = 0) : ao = none → l.length = 0 ∧ c = 0 := fun e => by
  refine ⟨?_, hz e⟩
  rcases Nat.eq_zero_or_pos l.length with h0 | h0
  · exact h0
  · obtain ⟨b, off, e2, _⟩ := h h0
    rw [e] at e2; cases e2

theorem unionL_small {a b : List Int} (h : a.length + b.length ≤ 20000) : unionL a b = setF (a ++ b) := by
  have := setF_length (a ++ b)
  rw [List.length_append] at this
  unfold unionL toldF
  rw [if_neg (by omega), if_neg (by omega)]
theorem sideL_small {p : Int → Bool} {a b : List Int} (ha : a.length ≤ 20000) (hb : b.length ≤ 20000) : sideL p a b = (setF a).filter p := by
  unfold sideL
  rw [if_neg (by omega)]
theorem unionL_length {a b : List Int} : (unionL a b).length ≤ a.length + b.length := by
  have := setF_length (a ++ b)
  rw [List.length_append] at this
  unfold unionL toldF
  split
  · simp
  · split
    · simp
    · omega
theorem sideL_length (p : Int → Bool) (a b : List Int) : (sideL p a b).length ≤ a.length := by
  have h1 := List.length_filter_le p (setF a)
  have h2 := setF_length a
  unfold sideL
  split
  · simp
  · omega

theorem union_env {w : World} {L : List Ent} (H : Env w L) {ao bo : Option Addr} {n c m d y z : Nat} {a b : List Int} (ha : (ao, n, c, y, a) ∈ L) (hb : (bo, m, d, z, b) ∈ L) (hy : y + z ≤ 20000) :
    Calls Tryz.prog 40 #[.slice ao n c, .slice bo m d] w (New w L (y + z) (unionL a b)) := by
  obtain ⟨h1, rfl, h3, h4⟩ := H.get ha
  obtain ⟨k1, rfl, k3, k4⟩ := H.get hb
  refine (union_any ao bo c d a b w h1 k1 h4 k4 (by omega) (by omega)).mono ?_
  rintro e w' ⟨ro, rc, rfl, hw, hbl, hz⟩
  exact ⟨ro, _, rc, _, rfl, rfl, (H.later hbl).cons ⟨hw, rfl, by have := unionL_length (a := a) (b := b); omega, nil_both hw hz⟩, hbl⟩
theorem set_env {w : World} {L : List Ent} (H : Env w L) {ao : Option Addr} {n c y : Nat} {a : List Int} (ha : (ao, n, c, y, a) ∈ L) (hy : y ≤ 1000000) :
    Calls Tryz.prog 39 #[.slice ao n c] w (New1 w L y (setF a)) := by
  obtain ⟨h1, rfl, h3, h4⟩ := H.get ha
  refine (uset_any ao c a w _ h1 (by omega)).mono ?_
  rintro e w' ⟨ro, rc, rfl, hz, hw, hbl⟩
  exact ⟨ro, _, rc, rfl, rfl, (H.later hbl).cons ⟨hw, rfl, by have := setF_length a; omega, nil_both hw hz⟩, hbl⟩
theorem same_env {w : World} {L : List Ent} (H : Env w L) {ao bo : Option Addr} {n c m d y z : Nat} {a b : List Int} (ha : (ao, n, c, y, a) ∈ L) (hb : (bo, m, d, z, b) ∈ L) (hy : y ≤ 1000000) :
    Calls Tryz.prog 24 #[.slice ao n c, .slice bo m d] w fun e w' => e = .returned (.bool (decide (a = b))) ∧ Env w' L ∧ Below w.heap.size w w' := by
  obtain ⟨h1, rfl, h3, h4⟩ := H.get ha
  obtain ⟨k1, rfl, k3, k4⟩ := H.get hb
  refine (same_any ao bo c d a b w _ _ h1 k1 (by omega)).mono ?_
  rintro e w' ⟨rfl, hbl⟩
  exact ⟨rfl, H.later hbl, hbl⟩
end Go.Proofs.YtkjfdaleamonaaaGreat
/- Contract of apiaryref1.Set: each word is put where it belongs (binary search, append, copy); what comes out is setF. -/
namespace Go.Proofs.YtkjfdaleamonaaaGreat
open Go.RowKit Go.Lib Go.Sort

theorem take_one {l : List Int} {k : Nat} (h : k < l.length) : l.take (k + 1) = l.take k ++ [l.getD k 0] := by
  rw [List.take_succ_eq_append_getElem h, List.getD_eq_getElem?_getD, List.getElem?_eq_getElem h, Option.getD_some]
theorem setF_old {l : List Int} {k : Nat} (h : k < l.length) (hm : l.getD k 0 ∈ setF (l.take k)) : setF (l.take (k + 1)) = setF (l.take k) := by
  refine (setF_up _).ext (setF_up _) fun x => ?_
  rw [setF_mem, setF_mem, take_one h, List.mem_append, List.mem_singleton]
  rw [setF_mem] at hm
  constructor
  · rintro (h1 | rfl)
    · exact h1
    · exact hm
  · exact Or.inl
theorem setF_put {l s : List Int} {k lo : Nat} (h : k < l.length) (hs : setF (l.take k) = s) (h1 : ∀ j, j < lo → s.getD j 0 < l.getD k 0) (h2 : ∀ j, lo ≤ j → j < s.length → l.getD k 0 < s.getD j 0) :
    setF (l.take (k + 1)) = s.take lo ++ l.getD k 0 :: s.drop lo := by
  have hu : Up s := by rw [← hs]; exact setF_up _
  refine (setF_up _).ext ?_ fun x => ?_
  · refine List.pairwise_append.2 ⟨hu.take, List.pairwise_cons.2 ⟨fun y hy => ?_, hu.drop⟩, fun y hy z hz => ?_⟩
    · obtain ⟨j, hj, rfl⟩ := List.getElem_of_mem hy
      have hj' : lo + j < s.length := by simp at hj; omega
      have := h2 (lo + j) (by omega) hj'
      rw [List.getElem_drop]
      rwa [List.getD_eq_getElem?_getD (l := s), List.getElem?_eq_getElem hj', Option.getD_some] at this
    · have hy2 : y < l.getD k 0 := by
        obtain ⟨j, hj, rfl⟩ := List.getElem_of_mem hy
        have hj' : j < lo ∧ j < s.length := by simp at hj; omega
        have := h1 j hj'.1
        rw [List.getElem_take]
        rwa [List.getD_eq_getElem?_getD (l := s), List.getElem?_eq_getElem hj'.2, Option.getD_some] at this
      rcases List.mem_cons.1 hz with rfl | hz
      · exact hy2
      · obtain ⟨j, hj, rfl⟩ := List.getElem_of_mem hz
        have hj' : lo + j < s.length := by simp at hj; omega
        have := h2 (lo + j) (by omega) hj'
        rw [List.getElem_drop]
        rw [List.getD_eq_getElem?_getD (l := s), List.getElem?_eq_getElem hj', Option.getD_some] at this
        omega
  · rw [setF_mem, take_one h, List.mem_append, List.mem_singleton, List.mem_append, List.mem_cons, ← setF_mem (l.take k), hs]
    conv => lhs; rw [← List.take_append_drop lo s]
    rw [List.mem_append]
    constructor
    · rintro ((h | h) | h)
      · exact .inl h
      · exact .inr (.inr h)
      · exact .inr (.inl h)
    · rintro (h | h | h)
      · exact .inl (.inl h)
      · exact .inr h
      · exact .inl (.inr h)

/-- A row of a call's own, behind the cells from lo on moved by one and one put there. -/
theorem own_put {w : World} {base g cap m lo : Nat} {s : List Int} {x : Int} {cur : List Value} (hb : base ≤ g) (hl : s.length = m) (hlo : lo ≤ m) (hm : m + 1 ≤ cap) (hc : cap ≤ maxLen) (hcur : cur.length = cap) (htk : cur.take (m + 1) = uV s ++ [.int .u64 0])
    (h : w.heap[g]? = some (.cells (splice cur (lo + 1) (uV (s.drop lo))).toArray 25 (0, 0))) :
    (w.setCell ⟨g, lo, none⟩ (.int .u64 x)).ownsRow base 25 1 (.slice (some ⟨g, 0, none⟩) (m + 1) cap) (m + 1) (uV (s.take lo ++ x :: s.drop lo)) := by
  have hsz : (splice cur (lo + 1) (uV (s.drop lo))).length = cap := by rw [length_splice _ _ _ (by rw [uV_len, List.length_drop]; omega)]; exact hcur
  have hh : (w.setCell ⟨g, lo, none⟩ (.int .u64 x)).heap[g]? = some (.cells ((splice cur (lo + 1) (uV (s.drop lo))).toArray.setIfInBounds lo (.int .u64 x)) 25 (0, 0)) := by
    rw [setCell_eq]
    simp [mapBlock, Array.getElem?_modify, h, onCells]
  refine ⟨by rw [uV_len, List.length_append, List.length_cons, List.length_take, List.length_drop]; omega, .inr ⟨g, cap, _, rfl, hb, hh, hm, hc, by simpa using hsz, ?_⟩⟩
  have hs0 : cur.take lo = uV (s.take lo) := by
    have : (cur.take (m + 1)).take lo = (uV s ++ [Value.int .u64 0]).take lo := by rw [htk]
    rw [List.take_take, Nat.min_eq_left (by omega), List.take_append_of_le_length (by rw [uV_len]; omega)] at this
    rw [this]; simp [uV, List.map_take]
  apply List.ext_getElem?
  intro j
  rw [Nat.mul_one]
  by_cases hj : j < m + 1
  · rw [List.getElem?_take_of_lt hj, Array.getElem?_toList, Array.getElem?_setIfInBounds]
    by_cases e : lo = j
    · subst e
      rw [if_pos rfl, if_pos (by rw [List.size_toArray, hsz]; omega)]
      simp [uV, hl, hlo]
    · rw [if_neg e, List.getElem?_toArray]
      unfold splice
      have huv : uV (s.take lo ++ x :: s.drop lo) = uV (s.take lo) ++ .int .u64 x :: uV (s.drop lo) := by simp [uV]
      rw [huv]
      have h2 : (uV (s.take lo)).length = lo := by rw [uV_len, List.length_take]; omega
      rcases Nat.lt_or_gt_of_ne e with h3 | h3
      · have hA : (cur.take (lo + 1)).length = lo + 1 := by rw [List.length_take]; omega
        rw [List.getElem?_append_right (l₁ := cur.take (lo + 1)) (by rw [hA]; omega), hA, List.getElem?_append_right (l₁ := uV (s.take lo)) (by rw [h2]; omega), h2, List.getElem?_append_left (by rw [uV_len, List.length_drop]; omega)]
        obtain ⟨i, hi⟩ : ∃ i, j - lo = i + 1 := ⟨j - lo - 1, by omega⟩
        rw [hi, List.getElem?_cons_succ]
        congr 1
        omega
      · rw [List.getElem?_append_left (by rw [List.length_take]; omega), List.getElem?_append_left (by omega), List.getElem?_take_of_lt (by omega), ← hs0, List.getElem?_take_of_lt h3]
  · rw [List.getElem?_take_eq_none (by omega), List.getElem?_eq_none (by rw [uV_len, List.length_append, List.length_cons, List.length_take, List.length_drop]; omega)]

theorem cell_heap {X w : World} (h : X.heap = w.heap) (a : Addr) : X.cell? a = w.cell? a := World.cell?_of_block (by rw [h])
theorem words_heap {X w : World} (h : X.heap = w.heap) {B : Nat} {ao : Option Addr} {l : List Int} (hw : WordsAt w B ao l) : WordsAt X B ao l := fun h0 => by
  obtain ⟨b, off, e, hlt, hc⟩ := hw h0
  exact ⟨b, off, e, hlt, fun i hi => by rw [cell_heap h]; exact hc i hi⟩
theorem own_heap {X w : World} (h : X.heap = w.heap) {base n size : Nat} {e : TypeId} {v : Value} {xs : List Value} (ho : w.ownsRow base e size v n xs) : X.ownsRow base e size v n xs := by
  unfold World.ownsRow; rw [h]; exact ho

set_option maxRecDepth 100000 in
set_option maxHeartbeats 4000000 in
theorem rset_any (ao : Option Addr) (c : Nat) (l : List Int) (w : World) (h : WordsAt w w.heap.size ao l) (hn : l.length ≤ 1000000000) :
    Calls Tryz.prog 21 #[.slice ao l.length c] w (Joined w (setF l)) := by
  obtain ⟨i0, hi, hz0, hz1, hz2⟩ := info_parts info_u
  have hsz1 : (Tryz.prog.info? 25).map (·.size) = some 1 := by kernel_rfl
  obtain ⟨n, hnn⟩ : ∃ n, l.length = n := ⟨_, rfl⟩
  have HN := Lib.hid hnn
  have HW := Lib.hid h
  rw [hnn] at hn ⊢
  clear hnn h
  go_enter Tryz.func21, Tryz.ntmps21
  go_wp2
  go_loopw [3, 4] (fun v i wr => ∃ (k m : Nat), k ≤ n ∧ m ≤ k ∧ i = .int .i64 k ∧ Hid ((setF (l.take k)).length = m) ∧ wr.ownsRow w.heap.size 25 1 v m (uV (setF (l.take k))) ∧ Below w.heap.size w wr) (fun _ i _ => n - (intOf i).toNat)
  case atStart => exact ⟨0, 0, Nat.zero_le _, Nat.le_refl _, rfl, by show _ = _; rw [List.take_zero, setF_nil]; rfl, by rw [List.take_zero, setF_nil]; exact World.ownsRow_nil _ _ _ _, Below.refl _ _⟩
  case round =>
    obtain ⟨k, m, hk, hm, rfl, HM0, hown, hnx⟩ := hrel
    have hsz := hnx.size
    obtain ⟨s, hs⟩ : ∃ s, setF (l.take k) = s := ⟨_, rfl⟩
    have HM : Hid (s.length = m) := by show _ = _; rw [← hs]; exact HM0.out
    rw [hs] at hown
    have HUP : Hid (Rising s) := by show Rising s; rw [← hs]; exact (setF_up _).rising
    have HS := Lib.hid hs
    clear hs HM0
    obtain ⟨vo, vc, rfl, _, _⟩ := own_form hown
    have HWD := Lib.hid (words_own HM.out.symm hown)
    have HOWN := Lib.hid hown
    have HNX := Lib.hid hnx
    by_cases hlt : k < n
    · obtain ⟨b, off, rfl, hb, hc⟩ := (HW.out.below hnx (Nat.le_refl _)) (by rw [HN.out]; omega)
      have c0 := hc k (by rw [HN.out]; exact hlt)
      obtain ⟨x, hx⟩ : ∃ x, l.getD k 0 = x := ⟨_, rfl⟩
      rw [hx] at c0
      have HX := Lib.hid hx
      have hbw : b < wr.heap.size := by omega
      have KEEP : Hid (∀ X : World, X.heap = wr.heap → X.cell? ⟨b, off + k, none⟩ = some (.int .u64 x) ∧ b < X.heap.size ∧ WordsAt X X.heap.size vo s ∧ X.ownsRow w.heap.size 25 1 (.slice vo m vc) m (uV s)) := fun X hX => by
        refine ⟨?_, by rw [hX]; exact hbw, ?_, own_heap hX HOWN.out⟩
        · rw [cell_heap hX]; exact c0
        · have := words_heap hX HWD.out
          rwa [← hX] at this
      clear hc hx hown hnx c0 hbw HWD hsz
      obtain ⟨wo, hwo⟩ : ∃ wo : World, wo = wr := ⟨_, rfl⟩
      subst hwo
      go_wp2
      go_loopw [5, 6] (fun i j wr => ∃ lo hi : Nat, lo ≤ hi ∧ hi ≤ m ∧ i = .int .i64 lo ∧ j = .int .i64 hi ∧ Hid ((∀ k, k < lo → s.getD k 0 < x) ∧ ∀ k, hi ≤ k → k < m → x ≤ s.getD k 0) ∧ Hid (wr.heap = wo.heap) ∧ Below w.heap.size w wr) (fun i j _ => (intOf j).toNat - (intOf i).toNat)
      case atStart => exact ⟨0, m, Nat.zero_le _, Nat.le_refl _, rfl, rfl, ⟨fun k hk => by omega, fun k h1 h2 => by omega⟩, rfl, HNX.out⟩
      case round =>
        obtain ⟨lo, hi', h1, h2, rfl, rfl, HA, HH, hbx⟩ := hrel
        obtain ⟨c0, hbw, hwd, hown⟩ := KEEP.out wr HH.out
        have HWD := Lib.hid hwd
        have HOWN := Lib.hid hown
        have HBX := Lib.hid hbx
        have hsz := hbx.size
        clear hwd hown hbx
        by_cases hlt2 : lo < hi'
        · obtain ⟨g1, off1, rfl, hg1, hc1⟩ := HWD.out (by rw [HM.out]; omega)
          obtain ⟨t, ht⟩ : ∃ t, (lo + hi') / 2 = t := ⟨_, rfl⟩
          have hm1 : lo ≤ t := by omega
          have hm2 : t < hi' := by omega
          have hmI : ((lo : Int) + (hi' : Int)) / 2 = (t : Int) := by omega
          have c1 := hc1 t (by rw [HM.out]; omega)
          have HL1 : Hid (s.getD t 0 < x → ∀ k, k < t + 1 → s.getD k 0 < x) := fun e k hk => by
            have := HUP.out k t (by omega) (by rw [HM.out]; omega)
            omega
          have HL2 : Hid (¬ s.getD t 0 < x → ∀ k, t ≤ k → k < m → x ≤ s.getD k 0) := fun e k h3 h4 => by
            have := HUP.out t k h3 (by rw [HM.out]; exact h4)
            omega
          generalize s.getD t 0 = y at c1 HL1 HL2
          clear hc1 ht
          by_cases hyx : y < x
          · have HLL := Lib.hid (HL1.out hyx)
            clear HL1 HL2
            go_wp2_with (first | (with_reducible refine wp_region_lex (by kernel_rfl) (by kernel_rfl) ?_) | (with_reducible refine OnlyG.intro (by kernel_rfl) ?_))
            go_roundw
            case rel => exact ⟨t + 1, hi', by omega, h2, by go_num, rfl, ⟨HLL.out, HA.out.2⟩, HH.out, HBX.out.drew⟩
            case measure => simp [intOf]; omega
          · have HLL := Lib.hid (HL2.out hyx)
            clear HL1 HL2
            go_wp2_with (first | (with_reducible refine wp_region_lex (by kernel_rfl) (by kernel_rfl) ?_) | (with_reducible refine OnlyG.intro (by kernel_rfl) ?_))
            go_roundw
            case rel => exact ⟨lo, t, by omega, by omega, rfl, by go_num, ⟨HA.out.1, HLL.out⟩, HH.out, HBX.out.drew⟩
            case measure => simp [intOf]; omega
        · obtain rfl : lo = hi' := by omega
          by_cases hin : lo < m ∧ s.getD lo 0 = x
          · obtain ⟨g1, off1, rfl, hg1, hc1⟩ := HWD.out (by rw [HM.out]; omega)
            have c1 := hc1 lo (by rw [HM.out]; exact hin.1)
            obtain ⟨y, hy⟩ : ∃ y, s.getD lo 0 = y := ⟨_, rfl⟩
            have q1 : (y == x) = true := by rw [← hy]; simpa using hin.2
            rw [hy] at c1
            have HOLD : Hid (setF (l.take (k + 1)) = s) := by
              show _ = _
              rw [setF_old (by rw [HN.out]; exact hlt) (by rw [HS.out, HX.out, ← hin.2]; exact getD_mem (by rw [HM.out]; exact hin.1)), HS.out]
            have q0 : decide (lo < m) = true := by simpa using hin.1
            have hlm := hin.1
            clear hc1 hin hy
            go_wp2_with (first | (with_reducible refine wp_region_lex (by kernel_rfl) (by kernel_rfl) ?_) | (with_reducible refine OnlyG.intro (by kernel_rfl) ?_))
            go_roundw
            case rel => exact ⟨k + 1, m, by omega, by omega, by go_num, by show _ = _; rw [HOLD.out]; exact HM.out, by rw [HOLD.out]; exact HOWN.out, HBX.out.drew⟩
            case measure => simp [intOf]; omega
          · have HPUT : Hid (setF (l.take (k + 1)) = s.take lo ++ x :: s.drop lo) := by
              show _ = _
              rw [setF_put (by rw [HN.out]; exact hlt) HS.out (lo := lo) (by rw [HX.out]; exact HA.out.1) (by
                rw [HX.out]
                intro j h3 h4
                rw [HM.out] at h4
                have e1 := HA.out.2 j h3 h4
                have e2 := HUP.out lo j h3 (by rw [HM.out]; exact h4)
                have e3 := HA.out.2 lo (Nat.le_refl _) (by omega)
                by_cases e4 : s.getD lo 0 = x
                · exact absurd ⟨by omega, e4⟩ hin
                · omega), HX.out]
            have key : decide (lo < m) = false ∨ (lo < m ∧ decide (lo < m) = true ∧ ∃ g1 off1 y, vo = some ⟨g1, off1, none⟩ ∧ g1 < wr.heap.size ∧ wr.cell? ⟨g1, off1 + lo, none⟩ = some (.int .u64 y) ∧ (y == x) = false) := by
              by_cases e : lo < m
              · refine .inr ⟨e, by simpa using e, ?_⟩
                obtain ⟨g1, off1, rfl, hg1, hc1⟩ := HWD.out (by rw [HM.out]; omega)
                exact ⟨g1, off1, _, rfl, hg1, hc1 lo (by rw [HM.out]; exact e), by simpa using fun h => hin ⟨e, h⟩⟩
              · exact .inl (by simpa using e)
            clear hin hlt2
            rcases key with q0 | ⟨hlm, q0, g1, off1, y, rfl, hg1, c1, q1⟩
            all_goals
              have hown := HOWN.out
              go_upto_region 13 with (first | (with_reducible refine wp_region_lex (by kernel_rfl) (by kernel_rfl) ?_) | (with_reducible refine OnlyG.intro (by kernel_rfl) ?_) | (at_builtin; refine wpList_append_own _ rfl (.tmp 50) (.tmp 51) 22 rfl w.heap.size 25 i0 (.int .u64 0) 1 8 Tryz.underlying22 hi hz0 hz1 hz2 rfl (by decide) _ _ _ rfl (hown.alloc _) ⟨wr.heap.size, 0, none⟩ 1 1 [.int .u64 0] rfl rfl (cells_new _ _ _ _ rfl) (by simp [Value.oneCell']) (by unfold maxLen; omega) (by omega) (by simp; omega) ?_; intro v' w3 hown1 hgrow _))
              have hbel : Below w.heap.size w w3 := below_append (HBX.out.drew.alloc hsz _) (hown.alloc _) (by simp; omega) hgrow
              rcases hown1.2 with ⟨_, h0⟩ | ⟨g, cap, ⟨cur⟩, rfl, hbg, hheap, hcap, hmax, hcsz, htake⟩
              · omega
              obtain ⟨e, he⟩ : ∃ e, s.drop lo = e := ⟨_, rfl⟩
              have hdl : (uV e).length = m - lo := by rw [uV_len, ← he, List.length_drop, HM.out]
              have hmin : (uV e).length = Nat.min (m + 1 - lo) (m - lo) := by rw [hdl]; show _ = min _ _; omega
              have hfit : lo + 1 + (uV e).length ≤ cur.length := by rw [hdl]; have : cur.length = cap := by simpa using hcsz
                                                                    omega
              have HPOS : Hid (0 < (uV e).length → (if cap = lo + 1 then some (⟨g, 0, none⟩ : Addr) else some ⟨g, lo + 1, none⟩) = some ⟨g, lo + 1, none⟩ ∧ ∃ ad, some (⟨g, lo, none⟩ : Addr) = some ad ∧ ∀ j v, (uV e)[j]? = some v → w3.drew.cell? (ad.add j) = some v) := fun h0 => by
                refine ⟨by rw [if_neg (by omega)], _, rfl, fun j v hj => ?_⟩
                have hj' : j < (uV e).length := (List.getElem?_eq_some_iff.1 hj).1
                have hadd : (⟨g, lo, none⟩ : Addr).add j = ⟨g, lo + j, none⟩ := by unfold Addr.add; split <;> simp_all
                rw [hadd, cell_heap (X := w3.drew) (w := w3) rfl, hown1.cellAt (lo + j) (by omega), List.getElem?_append_left (by rw [uV_len, HM.out]; omega), ← hj, ← he]
                simp [uV]
              have HTK : Hid (cur.take (m + 1) = uV s ++ [.int .u64 0]) := by show _ = _; rw [← htake, Nat.mul_one]
              have HCL : Hid (cur.length = cap) := by show _ = _; simpa using hcsz
              have HDE := Lib.hid he
              have hheap' : w3.drew.heap[g]? = some (.cells cur.toArray 25 (0, 0)) := hheap
              have hbel' := hbel.drew
              have hw1 : IntKind.i64.wrap ((lo : Int) + 1) = (lo : Int) + 1 := IntWalk.i64_in _ (by omega)
              have hb1 : (lo : Int) + 1 ≤ (m : Int) + 1 := by omega
              have hb2 : (lo : Int) ≤ (m : Int) + 1 := by omega
              have hb0 : (0 : Int) ≤ (lo : Int) + 1 := by omega
              have hne : ¬ cap = lo := by omega
              clear htake hcsz hown1 hgrow hown he hdl
              go_region_law (refine step_copy_splice rfl (.tmp 56) (.tmp 59) 22 22 rfl 25 Tryz.underlying22 hsz1 (if cap = lo + 1 then some (⟨g, 0, none⟩ : Addr) else some ⟨g, lo + 1, none⟩) (some ⟨g, lo, none⟩) (m - lo) (cap - (lo + 1)) (m + 1 - lo) (cap - lo) (by simp [Act.eval, Act.put]) (by simp [Act.eval, Act.put]) g (lo + 1) cur 25 hheap' (uV e) hmin HPOS.out hfit (uV_cell _) w.heap.size w hbel' hbg ?_; intro w4 HG4 hb4)
              have hput := HG4.out
              have c4 : w4.cell? ⟨b, off + k, none⟩ = some (.int .u64 x) := (hb4.cell (p := ⟨b, off + k, none⟩) hb).trans ((HBX.out.cell (p := ⟨b, off + k, none⟩) hb).symm.trans c0)
              have hbw4 : b < w4.heap.size := by have := hb4.size; omega
              have hg4 : g < w4.heap.size := (Array.getElem?_eq_some_iff.1 hput).1
              have hsl : lo < (splice cur (lo + 1) (uV e)).length := by rw [length_splice _ _ _ hfit, HCL.out]; omega
              have c5 : w4.cell? ⟨g, lo, none⟩ = some (splice cur (lo + 1) (uV e))[lo] := by
                rw [cell_of_row _ _ _ _ _ _ hput, List.getElem?_toArray, List.getElem?_eq_getElem hsl]
              have hf5 : w4.frozen? ⟨g, lo, none⟩ = false := by simp [World.frozen?, hput]
              have HG5 := Lib.hid (hput)
              generalize (splice cur (lo + 1) (uV e))[lo] = y5 at c5
              have HB5 : Hid (Below w.heap.size w (w4.setCell ⟨g, lo, none⟩ (.int .u64 x))) := hb4.setCell hbg _
              have HOWN5 : Hid ((w4.setCell ⟨g, lo, none⟩ (.int .u64 x)).ownsRow w.heap.size 25 1 (.slice (some ⟨g, 0, none⟩) (m + 1) cap) (m + 1) (uV (setF (l.take (k + 1))))) := by
                have hh : w4.heap[g]? = some (.cells (splice cur (lo + 1) (uV (s.drop lo))).toArray 25 (0, 0)) := by rw [HDE.out]; exact hput
                have := own_put (x := x) hbg HM.out h2 hcap hmax HCL.out HTK.out hh
                rw [← HPUT.out] at this
                exact this
              have HLEN : Hid ((setF (l.take (k + 1))).length = m + 1) := by
                show _ = _
                rw [HPUT.out, List.length_append, List.length_cons, List.length_take, List.length_drop, HM.out]
                omega
              clear hput hb4 hsl hheap hheap' hbel hbel' hfit hmin
              go_wp2_with (first | (with_reducible refine wp_region_lex (by kernel_rfl) (by kernel_rfl) ?_) | (with_reducible refine OnlyG.intro (by kernel_rfl) ?_))
              go_roundw
              case rel => exact ⟨k + 1, m + 1, by omega, by omega, by go_num, HLEN.out, HOWN5.out, HB5.out⟩
              case measure => simp [intOf]; omega
    · obtain rfl : k = n := by omega
      have HT : Hid (s = setF l) := by show _ = _; rw [← HS.out, ← HN.out, List.take_length]
      have hwd := words_own HM.out.symm hown
      have hJ : Hid (Joined w (setF l) (.returned (.slice vo m vc)) wr) := ⟨vo, vc, by rw [← HT.out, HM.out], by rw [← HT.out]; exact hwd, hnx, own_nil hown⟩
      clear hwd hown hnx
      go_wp2
      go_ret
      exact hJ.out
end Go.Proofs.YtkjfdaleamonaaaGreat
/- More calls at entries of one world: with the error told; apiaryref1.Set and Has; append of words; two rows apart. -/
namespace Go.Proofs.YtkjfdaleamonaaaGreat
open Go.RowKit Go.Lib Go.Sort

def NewE (w : World) (L : List Ent) (z : Nat) (l : List Int) (err : Int) (e : Ending) (w' : World) : Prop :=
  ∃ ao n c, e = .returned (.tuple #[.slice ao n c, .int .i64 err]) ∧ Env w' ((ao, n, c, z, l) :: L) ∧ Below w.heap.size w w'
theorem union_err {w : World} {L : List Ent} (H : Env w L) {ao bo : Option Addr} {n c m d y z : Nat} {a b : List Int} (ha : (ao, n, c, y, a) ∈ L) (hb : (bo, m, d, z, b) ∈ L) (hy : y + z ≤ 1000000) :
    Calls Tryz.prog 40 #[.slice ao n c, .slice bo m d] w (NewE w L (y + z) (unionL a b) (unionE a b)) := by
  obtain ⟨h1, rfl, h3, h4⟩ := H.get ha
  obtain ⟨k1, rfl, k3, k4⟩ := H.get hb
  refine (union_any ao bo c d a b w h1 k1 h4 k4 (by omega) (by omega)).mono ?_
  rintro e w' ⟨ro, rc, rfl, hw, hbl, hz⟩
  exact ⟨ro, _, rc, rfl, (H.later hbl).cons ⟨hw, rfl, by have := unionL_length (a := a) (b := b); omega, nil_both hw hz⟩, hbl⟩
def NewS (w : World) (L : List Ent) (z : Nat) (l : List Int) (e : Ending) (w' : World) : Prop :=
  ∃ ao n c, e = .returned (.slice ao n c) ∧ Env w' ((ao, n, c, z, l) :: L) ∧ Below w.heap.size w w'
theorem rset_env {w : World} {L : List Ent} (H : Env w L) {ao : Option Addr} {n c y : Nat} {a : List Int} (ha : (ao, n, c, y, a) ∈ L) (hy : y ≤ 1000000) :
    Calls Tryz.prog 21 #[.slice ao n c] w (NewS w L y (setF a)) := by
  obtain ⟨h1, rfl, h3, h4⟩ := H.get ha
  refine (rset_any ao c a w h1 (by omega)).mono ?_
  rintro e w' ⟨ro, rc, rfl, hw, hbl, hz⟩
  exact ⟨ro, _, rc, rfl, (H.later hbl).cons ⟨hw, rfl, by have := setF_length a; omega, nil_both hw hz⟩, hbl⟩
theorem has_env {w : World} {L : List Ent} (H : Env w L) {ao : Option Addr} {n c y : Nat} {a : List Int} (x : Int) (ha : (ao, n, c, y, a) ∈ L) (hy : y ≤ 1000000) :
    Calls Tryz.prog 41 #[.slice ao n c, .int .u64 x] w fun e w' => e = .returned (.bool (hasF a x)) ∧ w = w' := by
  obtain ⟨h1, rfl, h3, h4⟩ := H.get ha
  exact uhas_any ao c a x w _ h1 (by omega)
theorem rhas_env {w : World} {L : List Ent} (H : Env w L) {ao : Option Addr} {n c y : Nat} {a : List Int} (x : Int) (ha : (ao, n, c, y, a) ∈ L) (hy : y ≤ 1000000) (hr : Rising a) :
    Calls Tryz.prog 33 #[.slice ao n c, .int .u64 x] w fun e w' => e = .returned (.bool (hasF a x)) ∧ w = w' := by
  obtain ⟨h1, rfl, h3, h4⟩ := H.get ha
  exact rhas_any ao c a x w _ h1 (by omega) hr
theorem same_true {w : World} {L : List Ent} (H : Env w L) {ao bo : Option Addr} {n c m d y z : Nat} {a b : List Int} (ha : (ao, n, c, y, a) ∈ L) (hb : (bo, m, d, z, b) ∈ L) (hy : y ≤ 1000000) (e : a = b) :
    Calls Tryz.prog 24 #[.slice ao n c, .slice bo m d] w fun e w' => e = .returned (.bool true) ∧ Env w' L ∧ Below w.heap.size w w' := by
  have h := same_env H ha hb hy
  rw [decide_eq_true e] at h
  exact h
/-- A row of a call's own as an entry. -/
theorem own_ent {w : World} {base n c z : Nat} {ao : Option Addr} {l : List Int} (hn : n = l.length) (hz : n ≤ z) (h : w.ownsRow base 25 1 (.slice ao n c) n (uV l)) : EntOk w ao n c z l :=
  ⟨words_own hn h, hn.symm, hz, by have := nil_both (words_own hn h) (own_nil h); rwa [← hn] at this⟩
/-- append of words that lie anywhere to a row of the call's own. -/
theorem append_words {w : World} {base n m c : Nat} {v : Value} {xs l : List Int} {ao : Option Addr} (hown : w.ownsRow base 25 1 v n (uV xs)) (hw : WordsAt w w.heap.size ao l) (hl : l.length = m) (hz : ao = none → m = 0 ∧ c = 0) (hb : base ≤ w.heap.size) (hn : n + m ≤ 1000000) :
    ∃ v' w', (Builtin.append_ #[22, 22] 22 #[v, .slice ao m c]).run Tryz.prog w = .ok v' w' ∧ w'.ownsRow base 25 1 v' (n + m) (uV (xs ++ l)) ∧ w.grownBy w' v.ownBlock := by
  obtain ⟨i0, hi, hz0, hz1, hz2⟩ := info_parts info_u
  have hu : uV (xs ++ l) = uV xs ++ uV l := by simp [uV]
  cases ao with
  | none =>
    obtain ⟨rfl, rfl⟩ := hz rfl
    obtain rfl : l = [] := List.eq_nil_of_length_eq_zero hl
    refine ⟨v, w, run_append_owned_none w base 22 22 25 i0 1 Tryz.underlying22 hi v n (uV xs) hown, by simpa using hown, ⟨rfl, rfl, rfl, Nat.le_refl _, fun _ _ _ => rfl⟩⟩
  | some ad =>
    obtain ⟨v', w', hr, h2, h3, _⟩ := run_append_own w base 22 22 25 i0 (.int .u64 0) 1 8 Tryz.underlying22 hi hz0 hz1 hz2 rfl (by decide) v n (uV xs) hown ad m c (uV l) (by rw [uV_len, hl, Nat.mul_one]) (words_news hw ad rfl) (uV_cell l) (by unfold maxLen; omega) (by omega) hb
    exact ⟨v', w', hr, by rw [hu]; exact h2, h3⟩
/-- append under a guard that is wanted, its run known. -/
theorem wpList_append_want {P : Program} (w : World) {ops : Array Oper} {rest : List Oper} {o : Oper} {a : Act} {Q : Exit → Act → World → Prop} (hgd : Region.wanted o (yielded ops a.tmps) = true) (s x : Operand) (t tn : TypeId)
    (ho : o.op = .call { callee := .builtin .append, args := #[s, x], argTypes := #[t, tn] }) (vs vx : Value) (hs : a.eval s = vs) (hx : a.eval x = vx)
    (v' : Value) (w' : World) (hr : (Builtin.append_ #[t, tn] o.type #[vs, vx]).run P w = .ok v' w') (h : wpList P ops Q rest (a.put o.dst v') w') : wpList P ops Q (o :: rest) a w := by
  unfold wpList
  rw [if_pos hgd]
  exact .inl (wp_append_run w s x t tn ho vs vx hs hx v' w' hr h)
/-- Two rows lie in blocks of their own. -/
def Apart (v u : Value) : Prop := ∀ k, v.ownBlock = some k → u.ownBlock ≠ some k
theorem Apart.symm {v u : Value} (h : Apart v u) : Apart u v := fun k h1 h2 => h k h2 h1
theorem Apart.ne {v u : Value} (h : Apart v u) : v.ownBlock = none ∨ v.ownBlock ≠ u.ownBlock := by
  cases e : v.ownBlock with
  | none => exact .inl rfl
  | some k => exact .inr fun e2 => h k e e2.symm
theorem _root_.Go.World.ownsRow.lt_size {w : World} {base : Nat} {e : TypeId} {size : Nat} {v : Value} {n : Nat} {xs : List Value} (h : w.ownsRow base e size v n xs) : ∀ k, v.ownBlock = some k → k < w.heap.size := fun k hk => (h.lt k hk).2
theorem Apart.step {v v' u : Value} {g : Nat} (h : Apart v u) (hv : v'.ownBlock = v.ownBlock ∨ v'.ownBlock = some g) (hu : ∀ k, u.ownBlock = some k → k < g) : Apart v' u := fun k h1 h2 => by
  rcases hv with e | e
  · exact h k (e.symm.trans h1) h2
  · have := hu k h2
    rw [e] at h1
    cases h1
    omega
end Go.Proofs.YtkjfdaleamonaaaGreat
/- What lies in memory while words are packed: the heap's row, what is out, the group; the sort at a row of the call's own. -/
namespace Go.Proofs.YtkjfdaleamonaaaGreat
open Go.RowKit Go.Lib Go.Sort

theorem sort_row {w : World} {base n c : Nat} {ao : Option Addr} {l : List Int} (h : w.ownsRow base 25 1 (.slice ao n c) n (uV l)) (hl : l.length = n) (_hb : base ≤ w.heap.size) (hn : n ≤ 1000000) :
    Calls Tryz.prog 60 #[.slice ao n c] w fun e w' => e = .returned (.tuple #[]) ∧ w'.ownsRow base 25 1 (.slice ao n c) n (uV (srt l)) ∧ Below base w w' := by
  by_cases h0 : n = 0
  · subst h0
    obtain rfl : l = [] := List.eq_nil_of_length_eq_zero hl
    refine (u64_Sort_int_nil ao c w).mono ?_
    rintro e w' ⟨rfl, rfl⟩
    exact ⟨rfl, by rw [show srt [] = [] by simp [srt]]; exact h, Below.refl _ _⟩
  · obtain ⟨g, rfl, hg0, hg, hnc, hH⟩ := holds_own (by omega) h
    subst hl
    refine (u64_slices_Sort_int g 0 c l w hH hg (by omega)).mono ?_
    rintro e w' ⟨rfl, q, os, rfl⟩
    have h1 := ownsRow_putRow (q := q) (k := l.length) (ys := srt l) h (by rw [srt_length]) (Nat.le_refl _)
    rw [show (srt l).take l.length = srt l from List.take_of_length_le (by rw [srt_length]; exact Nat.le_refl _)] at h1
    have hsz : (putRow encU (Sort.ahead w q) g 0 (srt l).toArray).heap.size = w.heap.size := by simp [putRow, mapBlock, Sort.ahead]
    refine ⟨rfl, own_later h1 (below_growU (Below.refl _ _) (Nat.le_refl _)), ?_⟩
    exact below_growU (below_putRow (Below.refl _ _) hg0) (by show base ≤ (putRow encU (Sort.ahead w q) g 0 (srt l).toArray).heap.size; omega)
/-- append of words that lie anywhere to a row of the call's own; where it lies. -/
theorem append_words_at {w : World} {base n m c : Nat} {v : Value} {xs l : List Int} {ao : Option Addr} (hown : w.ownsRow base 25 1 v n (uV xs)) (hw : WordsAt w w.heap.size ao l) (hl : l.length = m) (hz : ao = none → m = 0 ∧ c = 0) (hb : base ≤ w.heap.size) (hn : n + m ≤ 100000000) :
    ∃ v' w', (Builtin.append_ #[22, 22] 22 #[v, .slice ao m c]).run Tryz.prog w = .ok v' w' ∧ w'.ownsRow base 25 1 v' (n + m) (uV (xs ++ l)) ∧ w.grownBy w' v.ownBlock ∧ (v'.ownBlock = v.ownBlock ∨ v'.ownBlock = some w.heap.size) := by
  obtain ⟨i0, hi, hz0, hz1, hz2⟩ := info_parts info_u
  have hu : uV (xs ++ l) = uV xs ++ uV l := by simp [uV]
  cases ao with
  | none =>
    obtain ⟨rfl, rfl⟩ := hz rfl
    obtain rfl : l = [] := List.eq_nil_of_length_eq_zero hl
    refine ⟨v, w, run_append_owned_none w base 22 22 25 i0 1 Tryz.underlying22 hi v n (uV xs) hown, by simpa using hown, ⟨rfl, rfl, rfl, Nat.le_refl _, fun _ _ _ => rfl⟩, .inl rfl⟩
  | some ad =>
    have hnews : ∀ j u, (uV l)[j]? = some u → w.cell? (ad.add j) = some u := fun j u hj => by
      have hjl : j < l.length := by have := (List.getElem?_eq_some_iff.1 hj).1; rwa [uV_len] at this
      rw [uV_get l j hjl] at hj
      cases hj
      obtain ⟨b, off, e, _, hc⟩ := hw (by omega)
      cases e
      have hadd : (⟨b, off, none⟩ : Addr).add j = ⟨b, off + j, none⟩ := by unfold Addr.add; split <;> simp_all
      rw [hadd]; exact hc j hjl
    obtain ⟨v', w', hr, h2, h3, _, h5⟩ := run_append_own_at (P := Tryz.prog) w base 22 22 25 i0 (.int .u64 0) 1 8 Tryz.underlying22 hi hz0 hz1 hz2 rfl (by decide) v n (uV xs) hown ad m c (uV l) (by rw [uV_len, hl, Nat.mul_one]) hnews (uV_cell l) (by unfold maxLen; omega) (by omega) hb
    exact ⟨v', w', hr, by rw [hu]; exact h2, h3, h5⟩
theorem own_turn' {S : Nat → Prop} {w w' : World} {base n size : Nat} {e : TypeId} {v : Value} {xs : List Value} (h : w.ownsRow base e size v n xs) (ht : Turn S w w') (hs : ∀ k, v.ownBlock = some k → ¬ S k) : w'.ownsRow base e size v n xs := by
  refine ⟨h.1, ?_⟩
  rcases h.2 with h1 | ⟨g, cap, cur, hv, hbg, hh, hx⟩
  · exact .inl h1
  · exact .inr ⟨g, cap, cur, hv, hbg, (ht.2.2.2.2 g (Array.getElem?_eq_some_iff.1 hh).1 (hs g (by rw [hv]; rfl))).trans hh, hx⟩
theorem turn_grown {w w' : World} {row : Option Nat} (h : w.grownBy w' row) : Turn (fun k => some k = row) w w' := ⟨h.os, h.tape, h.output, h.size, fun k hk hs => h.block k hk hs⟩
/-- The row of the heap, what is out, the group: their blocks lie apart. -/
def PkSt (B r : Nat) (w : World) (ov gv : Value) (o g M : List Int) : Prop :=
  (∃ ro rc, HeapAt w r ro rc M ∧ ∀ k, Foot r ro k → B ≤ k ∧ k < w.heap.size ∧ ov.ownBlock ≠ some k ∧ gv.ownBlock ≠ some k) ∧ w.ownsRow B 25 1 ov o.length (uV o) ∧ w.ownsRow B 25 1 gv g.length (uV g) ∧ (ov.ownBlock = none ∨ ov.ownBlock ≠ gv.ownBlock)
theorem HeapAt.below {w w' : World} {r c : Nat} {vo : Option Addr} {L : List Int} (h : HeapAt w r vo c L) (hb : Below w.heap.size w w') : HeapAt w' r vo c L := ⟨h.1.below hb, h.2⟩
theorem PkSt.later {B r : Nat} {w w' : World} {ov gv : Value} {o g M : List Int} (h : PkSt B r w ov gv o g M) (hb : Below w.heap.size w w') : PkSt B r w' ov gv o g M := by
  obtain ⟨⟨ro, rc, h1, h2⟩, h3, h4, h5⟩ := h
  exact ⟨⟨ro, rc, h1.below hb, fun k hk => ⟨(h2 k hk).1, Nat.lt_of_lt_of_le (h2 k hk).2.1 hb.size, (h2 k hk).2.2⟩⟩, own_later h3 hb, own_later h4 hb, h5⟩
/-- Behind a call that turns the heap's row alone. -/
theorem PkSt.turned {B r : Nat} {w w' : World} {ov gv : Value} {o g M M' : List Int} (h : PkSt B r w ov gv o g M) (hs : ∀ ro rc, HeapAt w r ro rc M → ∃ ro' rc', HeapAt w' r ro' rc' M' ∧ Grows w r ro ro' ∧ Turn (Foot r ro) w w' ∧ (∀ g o s, ro' = some ⟨g, o, s⟩ → g < w'.heap.size)) :
    PkSt B r w' ov gv o g M' ∧ Below B w w' := by
  obtain ⟨⟨ro, rc, h1, h2⟩, h3, h4, h5⟩ := h
  obtain ⟨ro', rc', g1, g2, g3, g4⟩ := hs ro rc h1
  have k1 : ∀ k, ov.ownBlock = some k → ¬ Foot r ro k := fun k hk hf => (h2 k hf).2.2.1 hk
  have k2 : ∀ k, gv.ownBlock = some k → ¬ Foot r ro k := fun k hk hf => (h2 k hf).2.2.2 hk
  have hBw : B ≤ w.heap.size := by have := h2 r (.inl rfl); omega
  have hfoot : ∀ k, Foot r ro' k → k < w'.heap.size ∧ (k < w.heap.size → Foot r ro k) := fun k hk => by
    rcases hk with rfl | ⟨oo, s, e⟩
    · exact ⟨g1.1.lt, fun _ => .inl rfl⟩
    · exact ⟨g4 k oo s e, fun hlt => g2 k oo s e hlt⟩
  refine ⟨⟨⟨ro', rc', g1, fun k hk => ?_⟩, own_turn' h3 g3 k1, own_turn' h4 g3 k2, h5⟩, g3.below hBw fun k hk hf => by have := (h2 k hf).1; omega⟩
  obtain ⟨f1, f2⟩ := hfoot k hk
  rcases Nat.lt_or_ge k w.heap.size with hlt | hge
  · exact ⟨(h2 k (f2 hlt)).1, f1, (h2 k (f2 hlt)).2.2⟩
  · refine ⟨by omega, f1, fun e => ?_, fun e => ?_⟩
    · have := (h3.lt k e).2; omega
    · have := (h4.lt k e).2; omega
theorem row_block {w : World} {r c : Nat} {vo : Option Addr} {L : List Int} (h : RowAt w r vo c L) (hc : 0 < c) : ∀ g o s, vo = some ⟨g, o, s⟩ → g < w.heap.size := fun g o s e => by
  obtain ⟨g', e2, -, h1, -⟩ := h.2.2.2.2.1 hc
  rw [e2] at e
  cases e
  exact h1
theorem heap_same {w : World} {r rc rc2 : Nat} {ro ro2 : Option Addr} {M : List Int} (h : HeapAt w r ro rc M) (h2 : HeapAt w r ro2 rc2 M) : ro2 = ro ∧ rc2 = rc := by
  have a := h.1.1
  have b := h2.1.1
  rw [b] at a
  cases a
  exact ⟨rfl, rfl⟩
theorem PkSt.popped {B r ml : Nat} {w w' : World} {ov gv : Value} {o g M : List Int} {x : Int} {e : Ending} {ro : Option Addr} {rc : Nat} (h : PkSt B r w ov gv o g M) (hh : HeapAt w r ro rc M) (hm : M.length = ml + 1) (hp : Popped w r ro rc M x e w') :
    e = .returned (.iface 25 (.int .u64 x)) ∧ ∃ M', (x :: M').Perm M ∧ PkSt B r w' ov gv o g M' ∧ Below B w w' := by
  obtain ⟨he, M', p1, p2, p3⟩ := hp
  refine ⟨he, M', p2, h.turned (M' := M') fun ro2 rc2 h2 => ?_⟩
  obtain ⟨rfl, rfl⟩ := heap_same hh h2
  exact ⟨ro2, rc2, p1, fun g o s e hlt => .inr ⟨o, s, e⟩, p3, fun g o s e => Nat.lt_of_lt_of_le (row_block h2.1 (by have := h2.1.2.2.1; omega) g o s e) p3.2.2.2.1⟩
theorem PkSt.pushed {B r : Nat} {w w' : World} {ov gv : Value} {o g M : List Int} {x : Int} {e : Ending} {ro : Option Addr} {rc : Nat} (h : PkSt B r w ov gv o g M) (hh : HeapAt w r ro rc M) (hp : Pushed w r ro M x e w') :
    e = .returned (.tuple #[]) ∧ ∃ M', M'.Perm (x :: M) ∧ PkSt B r w' ov gv o g M' ∧ Below B w w' := by
  obtain ⟨he, ro', rc', M', p1, p2, p3, p4⟩ := hp
  refine ⟨he, M', p2, h.turned (M' := M') fun ro2 rc2 h2 => ?_⟩
  obtain ⟨rfl, rfl⟩ := heap_same hh h2
  exact ⟨ro', rc', p1, p3, p4, row_block p1.1 (by have := p1.1.2.2.1; rw [p2.length_eq] at this; simp at this; omega)⟩
/-- More is out. -/
theorem PkSt.out {B r : Nat} {w w' : World} {ov ov' gv : Value} {o o' g M : List Int} (h : PkSt B r w ov gv o g M) (hown : w'.ownsRow B 25 1 ov' o'.length (uV o')) (hg : w.grownBy w' ov.ownBlock) (hat : ov'.ownBlock = ov.ownBlock ∨ ov'.ownBlock = some w.heap.size) : PkSt B r w' ov' gv o' g M := by
  obtain ⟨⟨ro, rc, h1, h2⟩, h3, h4, h5⟩ := h
  have hT := turn_grown hg
  refine ⟨⟨ro, rc, ⟨h1.1.kept hT fun k hk e => (h2 k hk).2.2.1 e.symm, h1.2⟩, fun k hk => ⟨(h2 k hk).1, Nat.lt_of_lt_of_le (h2 k hk).2.1 hg.size, ?_, (h2 k hk).2.2.2⟩⟩, hown, own_turn' h4 hT fun k hk e => ?_, ?_⟩
  · rcases hat with e | e
    · rw [e]; exact (h2 k hk).2.2.1
    · rw [e]; intro e2; cases e2; have := (h2 _ hk).2.1; omega
  · rcases h5 with h5 | h5
    · rw [h5] at e; cases e
    · exact h5 (e.symm.trans hk.symm)
  · rcases hat with e | e
    · rw [e]; exact h5
    · right; rw [e]; intro e2; have := (h4.lt _ e2.symm).2; omega
/-- The group has grown. -/
theorem PkSt.grp {B r : Nat} {w w' : World} {ov gv gv' : Value} {o g g' M : List Int} (h : PkSt B r w ov gv o g M) (hown : w'.ownsRow B 25 1 gv' g'.length (uV g')) (hg : w.grownBy w' gv.ownBlock) (hat : gv'.ownBlock = gv.ownBlock ∨ gv'.ownBlock = some w.heap.size) : PkSt B r w' ov gv' o g' M := by
  obtain ⟨⟨ro, rc, h1, h2⟩, h3, h4, h5⟩ := h
  have hT := turn_grown hg
  refine ⟨⟨ro, rc, ⟨h1.1.kept hT fun k hk e => (h2 k hk).2.2.2 e.symm, h1.2⟩, fun k hk => ⟨(h2 k hk).1, Nat.lt_of_lt_of_le (h2 k hk).2.1 hg.size, (h2 k hk).2.2.1, ?_⟩⟩, own_turn' h3 hT fun k hk e => ?_, hown, ?_⟩
  · rcases hat with e | e
    · rw [e]; exact (h2 k hk).2.2.2
    · rw [e]; intro e2; cases e2; have := (h2 _ hk).2.1; omega
  · rcases h5 with h5 | h5
    · rw [h5] at hk; cases hk
    · exact h5 (hk.trans e)
  · rcases h5 with h5 | h5
    · exact .inl h5
    · right
      rcases hat with e | e
      · rw [e]; exact h5
      · rw [e]; intro e2; have := (h3.lt _ e2).2; omega
/-- The group is nothing again. -/
theorem PkSt.none {B r : Nat} {w : World} {ov gv : Value} {o g M : List Int} (h : PkSt B r w ov gv o g M) : PkSt B r w ov (.slice none 0 0) o [] M := by
  obtain ⟨⟨ro, rc, h1, h2⟩, h3, h4, h5⟩ := h
  refine ⟨⟨ro, rc, h1, fun k hk => ⟨(h2 k hk).1, (h2 k hk).2.1, (h2 k hk).2.2.1, fun e => by cases e⟩⟩, h3, World.ownsRow_nil _ _ _ _, ?_⟩
  by_cases e : ov.ownBlock = Option.none
  · exact .inl e
  · exact .inr e
theorem heap_dn {L : List Int} (h : Dn L) : Heap L.length L := fun j h1 h2 => by
  have hp : par j < j := by unfold par; omega
  rw [less_not]
  unfold gw
  rw [List.getD_eq_getElem?_getD, List.getElem?_eq_getElem h2, List.getD_eq_getElem?_getD, List.getElem?_eq_getElem (by omega), Option.getD_some, Option.getD_some]
  have := List.pairwise_iff_getElem.1 h (par j) j (by omega) h2 hp
  omega
theorem heap_max {L : List Int} (h : Heap L.length L) : ∀ x ∈ L, x ≤ gw L 0 := fun x hx => by
  obtain ⟨i, hi, rfl⟩ := mem_gw hx
  have := heap_min h i hi
  rwa [less_not] at this
end Go.Proofs.YtkjfdaleamonaaaGreat
/- The contract of pack.Spread. -/
namespace Go.Proofs.YtkjfdaleamonaaaGreat
open Go.RowKit Go.Lib Wd

/-- The words of a size within a cell. -/
def dsN : Nat → Nat → E2 → List Int
  | 0, k, z => [(wordN k z : Int)]
  | d + 1, k, z => (List.range 7).flatMap fun i => dsN d (k + 1) (downE z i)
def dsV (R : Nat) (v : Int) : List Int := dsN (R - rW v.toNat) (rW v.toNat) (zW v.toNat)
def sprE (l : List Int) (r : Int) : Int := if szE l r = 0 then (if 20000 < sumS r.toNat l then 7 else 0) else szE l r
def sprL (l : List Int) (r : Int) : List Int := if sprE l r = 0 then setF (l.flatMap (dsV r.toNat)) else []
def dsC (R : Nat) (c : Cl) : List Int := dsN (R - c.1.toNat) c.1.toNat c.2
def totC (R : Nat) : List Cl → Nat
  | [] => 0
  | c :: l => 7 ^ (R - c.1.toNat) + totC R l
def cst : Nat → Nat
  | 0 => 1
  | d + 1 => 1 + 7 * cst d
def cstC (R : Nat) : List Cl → Nat
  | [] => 0
  | c :: l => cst (R - c.1.toNat) + cstC R l
theorem totC_append (R : Nat) : ∀ (l m : List Cl), totC R (l ++ m) = totC R l + totC R m
  | [], m => by simp [totC]
  | v :: l, m => by simp only [List.cons_append, totC, totC_append R l m]; omega
theorem cstC_append (R : Nat) : ∀ (l m : List Cl), cstC R (l ++ m) = cstC R l + cstC R m
  | [], m => by simp [cstC]
  | v :: l, m => by simp only [List.cons_append, cstC, cstC_append R l m]; omega
theorem totC_len (R : Nat) : ∀ (l : List Cl), l.length ≤ totC R l
  | [] => Nat.le_refl _
  | c :: l => by
    have h := totC_len R l
    have h7 : 0 < 7 ^ (R - c.1.toNat) := Nat.pow_pos (by decide)
    simp only [List.length_cons, totC]; omega
def OkC (R : Nat) (c : Cl) : Prop := ∃ (k : Nat) (z : E2), c = ((k : Int), z) ∧ okB k z = true ∧ k ≤ R
theorem kids_tot {R k : Nat} (hk : k < R) (z : E2) : totC R (kidsL k z) = 7 ^ (R - k) ∧ cstC R (kidsL k z) + 1 = cst (R - k) := by
  obtain ⟨d, hd⟩ : ∃ d, R - k = d + 1 := ⟨R - k - 1, by omega⟩
  have e : R - ((k : Int) + 1).toNat = d := by omega
  have hl : kidsL k z = [((k : Int) + 1, downE z 0), ((k : Int) + 1, downE z 1), ((k : Int) + 1, downE z 2), ((k : Int) + 1, downE z 3), ((k : Int) + 1, downE z 4), ((k : Int) + 1, downE z 5), ((k : Int) + 1, downE z 6)] := rfl
  rw [hl, hd]
  simp only [totC, cstC, e, cst, Nat.pow_succ]
  omega
theorem kids_mem {R k : Nat} (hk : k < R) (z : E2) (x : Int) : (∃ c ∈ kidsL k z, x ∈ dsC R c) ↔ x ∈ dsC R ((k : Int), z) := by
  obtain ⟨d, hd⟩ : ∃ d, R - k = d + 1 := ⟨R - k - 1, by omega⟩
  unfold dsC
  rw [Int.toNat_natCast, hd]
  show _ ↔ x ∈ (List.range 7).flatMap fun i => dsN d (k + 1) (downE z i)
  rw [List.mem_flatMap]
  unfold kidsL
  constructor
  · rintro ⟨c, hc, hx⟩
    obtain ⟨i, hi, rfl⟩ := List.mem_map.1 hc
    refine ⟨i, hi, ?_⟩
    simp only at hx
    rwa [show ((k : Int) + 1).toNat = k + 1 by omega, show R - (k + 1) = d by omega] at hx
  · rintro ⟨i, hi, hx⟩
    refine ⟨_, List.mem_map.2 ⟨i, hi, rfl⟩, ?_⟩
    simp only
    rwa [show ((k : Int) + 1).toNat = k + 1 by omega, show R - (k + 1) = d by omega]
theorem kids_okC {R k : Nat} (hk : k < R) (hR : R ≤ 12) {z : E2} (hz : okB k z = true) : ∀ c ∈ kidsL k z, OkC R c := fun c hc => by
  unfold kidsL at hc
  obtain ⟨i, hi, rfl⟩ := List.mem_map.1 hc
  exact ⟨k + 1, downE z i, by rw [show ((k + 1 : Nat) : Int) = (k : Int) + 1 by omega], kid_ok hz (by omega) (List.mem_range.1 hi), by omega⟩
theorem cell_news {w : World} {ao : Option Addr} {l : List Cl} (h : CAt w ao l) {ad : Addr} (e : ao = some ad) : ∀ j u, (cV l)[j]? = some u → w.cell? (ad.add j) = some u := fun j u hj => by
  have hjl : j < l.length * 3 := by have := (List.getElem?_eq_some_iff.1 hj).1; rwa [cV_length] at this
  obtain ⟨b, off, e2, -, hc⟩ := h (by omega)
  rw [e] at e2
  cases e2
  have hadd : (⟨b, off, none⟩ : Addr).add j = ⟨b, off + j, none⟩ := by unfold Addr.add; split <;> simp_all
  rw [hadd]
  obtain ⟨k, i, hi, rfl⟩ : ∃ k i, i < 3 ∧ j = k * 3 + i := ⟨j / 3, j % 3, by omega, by omega⟩
  have hk : k < l.length := by omega
  obtain ⟨g0, g1, g2⟩ := cV_get l k hk
  obtain ⟨c0, c1, c2⟩ := hc k hk
  rcases (show i = 0 ∨ i = 1 ∨ i = 2 by omega) with rfl | rfl | rfl
  · rw [Nat.add_zero] at hj ⊢
    rw [g0] at hj; cases hj
    rw [c0]
  · rw [g1] at hj; cases hj
    rw [← Nat.add_assoc, c1]
  · rw [g2] at hj; cases hj
    rw [← Nat.add_assoc, c2]
theorem cV_take (l : List Cl) (k : Nat) (hk : k ≤ l.length) : (cV l).take (k * 3) = cV (l.take k) := by
  have h := cV_append (l.take k) (l.drop k)
  rw [List.take_append_drop] at h
  rw [h, List.take_append_of_le_length (by rw [cV_length, List.length_take]; omega)]
  exact List.take_of_length_le (by rw [cV_length, List.length_take]; omega)
theorem own_apart2 {w : World} {b1 b2 : Nat} {e1 e2 : TypeId} {s1 s2 : Nat} {v1 v2 : Value} {n1 n2 : Nat} {x1 x2 : List Value} (h1 : w.ownsRow b1 e1 s1 v1 n1 x1) (h2 : w.ownsRow b2 e2 s2 v2 n2 x2) (hne : e1 ≠ e2) : v1.ownBlock = none ∨ v1.ownBlock ≠ v2.ownBlock := by
  rcases h1.2 with ⟨rfl, _⟩ | ⟨g, cap, cur, rfl, _, hg, _⟩
  · exact .inl rfl
  · right
    rcases h2.2 with ⟨rfl, _⟩ | ⟨g', cap', cur', rfl, _, hg', _⟩
    · simp [Value.ownBlock]
    · simp only [Value.ownBlock, ne_eq, Option.some.injEq]
      rintro rfl
      rw [hg] at hg'
      simp at hg'
      exact hne hg'.2
/-- What is told of words that are fit to be spread. -/
theorem szE_zero {l : List Int} {r : Int} (h : szE l r = 0) : ∃ R : Nat, r = R ∧ R ≤ 12 ∧ allW l = true ∧ (∀ v ∈ l, rW v.toNat ≤ R) ∧ szN l r = sumS R l := by
  have hN : szN l r = sumS r.toNat l := by unfold szN; rw [if_pos h]
  unfold szE at h
  split at h
  · cases h
  · next h1 =>
    split at h
    · cases h
    · next h2 =>
      split at h
      · cases h
      · next h3 =>
        refine ⟨r.toNat, by omega, by omega, by simpa using h1, fun v hv => ?_, hN⟩
        have := List.any_eq_false.1 (Bool.eq_false_iff.2 h2) v hv
        simp at this
        omega
theorem cel_ok {l : List Int} {R : Nat} (ha : allW l = true) (hr : ∀ v ∈ l, rW v.toNat ≤ R) : (∀ c ∈ l.map celW, OkC R c) ∧ totC R (l.map celW) = sumS R l ∧ ∀ x, (∃ c ∈ l.map celW, x ∈ dsC R c) ↔ x ∈ l.flatMap (dsV R) := by
  have e : ∀ v ∈ l, celW v = ((rW v.toNat : Int), zW v.toNat) := fun v hv => by
    have hw := List.all_eq_true.1 ha v hv
    unfold celW cvR cvZ
    rw [if_pos hw, if_pos hw]
  refine ⟨fun c hc => ?_, ?_, fun x => ?_⟩
  · obtain ⟨v, hv, rfl⟩ := List.mem_map.1 hc
    exact ⟨_, _, e v hv, (cell_word (List.all_eq_true.1 ha v hv)).1, hr v hv⟩
  · clear hr ha
    induction l with
    | nil => rfl
    | cons v l ih =>
      simp only [List.map_cons, totC, sumS]
      rw [ih fun u hu => e u (List.mem_cons_of_mem _ hu), e v List.mem_cons_self]
      simp
  · rw [List.mem_flatMap]
    constructor
    · rintro ⟨c, hc, hx⟩
      obtain ⟨v, hv, rfl⟩ := List.mem_map.1 hc
      refine ⟨v, hv, ?_⟩
      rw [e v hv] at hx
      unfold dsC at hx
      rwa [Int.toNat_natCast] at hx
    · rintro ⟨v, hv, hx⟩
      refine ⟨_, List.mem_map.2 ⟨v, hv, rfl⟩, ?_⟩
      rw [e v hv]
      unfold dsC
      rwa [Int.toNat_natCast]
theorem of_word {k : Nat} {z : E2} (h : okB k z = true) : ofW k z = wordN k z := (ofW_ok h).1
def ToldS (w : World) (L : List Int) (err : Int) (e : Ending) (w' : World) : Prop :=
  ∃ ao c, e = .returned (.tuple #[.slice ao L.length c, .int .i64 err]) ∧ (ao = none → c = 0) ∧ WordsAt w' w'.heap.size ao L ∧ Below w.heap.size w w'
end Go.Proofs.YtkjfdaleamonaaaGreat
/- The contract of pack.Compact. -/
namespace Go.Proofs.YtkjfdaleamonaaaGreat
open Go.RowKit Go.Lib Go.Sort Wd

/-- What Compact tells: the error, the words. -/
def cmpE (l : List Int) : Int := if 20000 < l.length then 7 else if l = [] then 0 else alkE l
def cmpL (l : List Int) : List Int := if cmpE l = 0 then packF (rW (l.getD 0 0).toNat) l else []
def ToldP (w : World) (L : List Int) (err : Int) (e : Ending) (w' : World) : Prop :=
  ∃ ao c, e = .returned (.tuple #[.slice ao L.length c, .int .i64 err]) ∧ w'.ownsRow w.heap.size 25 1 (.slice ao L.length c) L.length (uV L) ∧ Below w.heap.size w w'
theorem chk_sized {r : Int} : ∀ {l : List Int}, chkF r l = 0 → ∀ v ∈ l, isW v.toNat = true ∧ (rW v.toNat : Int) = r
  | [], _, v, hv => by cases hv
  | x :: l, h, v, hv => by
    unfold chkF at h
    split at h
    · next h1 =>
      split at h
      · next h2 =>
        rcases List.mem_cons.1 hv with rfl | hv
        · exact ⟨h1, h2⟩
        · exact chk_sized h v hv
      · cases h
    · cases h
theorem alk_sized {l : List Int} (h64 : In64 l) (h : alkE l = 0) (h0 : l ≠ []) : rW (l.getD 0 0).toNat ≤ 12 ∧ Sized (rW (l.getD 0 0).toNat) l := by
  unfold alkE at h
  split at h
  · next ha =>
    have hw0 : isW (l.getD 0 0).toNat = true := List.all_eq_true.1 ha _ (getD_mem (List.length_pos_iff.2 h0))
    have e : resW (l.getD 0 0).toNat = (rW (l.getD 0 0).toNat : Int) := by unfold resW; rw [if_pos hw0]
    rw [e] at h
    have hc := chk_sized h
    refine ⟨((isW_iff _).1 hw0).2.1, fun v hv => ?_⟩
    obtain ⟨c1, c2⟩ := hc v hv
    obtain ⟨d1, d2⟩ := cell_word c1
    have e2 : rW v.toNat = rW (l.getD 0 0).toNat := by omega
    have := h64 v hv
    refine ⟨zW v.toNat, by rw [← e2]; exact d1, ?_⟩
    rw [← e2, d2]; omega
  · cases h
theorem rev_row {w : World} {r c n : Nat} {vo : Option Addr} {L : List Int} (h : RowAt w r vo c L) (hn : L.length = n) (hbig : n ≤ 1000000) :
    Calls Tryz.prog 54 #[.slice vo n c] w fun e w' => e = .returned (.tuple #[]) ∧ RowAt w' r vo c L.reverse ∧ Turn (Foot r vo) w w' := by
  by_cases h0 : n = 0
  · subst h0
    obtain rfl : L = [] := List.eq_nil_of_length_eq_zero hn
    refine (rev_nil vo c w).mono ?_
    rintro e w' ⟨rfl, rfl⟩
    exact ⟨rfl, h, Turn.refl _ _⟩
  · have hnc : n ≤ c := by have := h.2.2.1; omega
    obtain ⟨g, rfl, hgr, hU⟩ := h.2.2.2.2.1 (by omega)
    refine (rev_any hU hn hnc hbig).mono ?_
    rintro e w' ⟨rfl, hU2, hT⟩
    obtain ⟨k0, k1, k2, k3, k4, k5, k6⟩ := h
    have er : w'.heap[r]? = w.heap[r]? := hT.2.2.2.2 r (World.block_lt_of_cell? w _ k0) (fun e => hgr e.symm)
    refine ⟨rfl, ⟨by rw [List.length_reverse]; exact (World.cell?_of_block (a := ⟨r, 0, none⟩) er).trans k0, fun j => (World.frozen?_of_block (a := ⟨r, j, none⟩) er).trans (k1 j), by rw [List.length_reverse]; exact k2, k3, fun _ => ⟨g, rfl, hgr, hU2⟩, fun v hv => k5 v (List.mem_reverse.1 hv), by rw [List.length_reverse]; exact k6⟩, ?_⟩
    exact hT.trans (T := fun _ => False) (Turn.refl _ _) (fun _ _ h => h.elim) |>.trans (T := fun _ => False) (Turn.refl _ _) (fun _ _ h => h.elim) |> fun h => ⟨h.1, h.2.1, h.2.2.1, h.2.2.2.1, fun k hk hs => h.2.2.2.2 k hk fun e => hs (by subst e; exact .inr ⟨0, none, rfl⟩)⟩
theorem word_lt {k : Nat} {w : Int} (h : ∃ z, okB k z = true ∧ w = (wordN k z : Int)) : ∃ u : Nat, w = u ∧ u < 18446744073709551616 := by
  obtain ⟨z, hz, rfl⟩ := h
  exact ⟨_, rfl, by have := (wordN_lt hz).1; omega⟩
theorem row_new {w : World} {so : Option Addr} {m : Nat} {L : List Int} (hL : L.length = m) (h1 : 0 < m → ∃ g, so = some ⟨g, 0, none⟩ ∧ RowU w g m L) (h2 : so = none → m = 0) (h64 : In64 L) (hm : m ≤ 1000000) : RowAt (w.alloc (.cells #[.slice so m m] 87)) w.heap.size so m L := by
  have hnew := heap_new w (.cells #[.slice so m m] 87) _ rfl
  refine ⟨by rw [hL]; exact cell_of_row _ _ 0 _ _ _ hnew, fun j => by unfold World.frozen?; rw [hnew]; simp, by omega, h2, fun h0 => ?_, h64, by omega⟩
  obtain ⟨g, e, hU⟩ := h1 h0
  exact ⟨g, e, by have := hU.1; omega, hU.kept (S := fun _ => False) (Turn.of_below ((Below.refl _ _).alloc (Nat.le_refl _) _)) fun h => h⟩
theorem own_val {w : World} {B n : Nat} {ao : Option Addr} {c : Nat} {l : List Int} (h : w.ownsRow B 25 1 (.slice ao n c) n (uV l)) (hz : 0 < n) (hl : l.length = n) : ∃ g, ao = some ⟨g, 0, none⟩ ∧ g < w.heap.size ∧ w.cell? ⟨g, 0, none⟩ = some (.int .u64 (l.getD 0 0)) := by
  obtain ⟨ao', c', e, -, h2⟩ := own_form h
  cases e
  obtain ⟨g, rfl, -, h3, h4⟩ := h2 hz
  exact ⟨g, rfl, h3, h4 0 _ (uV_get l 0 (by omega))⟩
theorem own_none {w : World} {B n c : Nat} {ao : Option Addr} {xs : List Value} (h : w.ownsRow B 25 1 (.slice ao n c) n xs) : ao = none → n = 0 ∧ c = 0 := fun e => by
  subst e
  rcases h.2 with ⟨h1, -⟩ | ⟨g, cap, cur, hv, -⟩
  · cases h1; exact ⟨rfl, rfl⟩
  · cases hv
theorem flush_none (o : List Int) (x : Int) : mFlush ⟨o, [], []⟩ x = ⟨o, [], []⟩ := by unfold mFlush; rw [if_neg (by simp)]
theorem flush_no {o g : List Int} {x : Int} (h : broB (g.getD 0 0) x = true) : mFlush ⟨o, g, []⟩ x = ⟨o, g, []⟩ := by unfold mFlush; rw [if_neg (fun h2 => by have h3 := h2.2; rw [h] at h3; cases h3)]
theorem flush_yes {o g : List Int} {x : Int} (h0 : g ≠ []) (h : broB (g.getD 0 0) x = false) : mFlush ⟨o, g, []⟩ x = ⟨o ++ g, [], []⟩ := by unfold mFlush; rw [if_pos ⟨h0, h⟩]
set_option maxRecDepth 100000 in
set_option maxHeartbeats 16000000 in
theorem compact_any (ao : Option Addr) (c : Nat) (l : List Int) (w : World) (B : Nat) (h : WordsAt w B ao l) (hB : B ≤ w.heap.size) (hn : l.length ≤ 1000000) (h64 : In64 l) :
    Calls Tryz.prog 26 #[.slice ao l.length c] w (ToldP w (cmpL l) (cmpE l)) := by
  obtain ⟨i0, hi, hz0, hz1, hz2⟩ := info_parts info_u
  have HNIL : Hid (∀ err w', Below w.heap.size w w' → cmpE l = err → err ≠ 0 → ToldP w (cmpL l) (cmpE l) (.returned (.tuple #[.slice none 0 0, .int .i64 err])) w') := fun err w' hb he h0 => by
    have : cmpL l = [] := by unfold cmpL; rw [if_neg (by rw [he]; exact h0)]
    rw [this, he]
    exact ⟨none, 0, rfl, World.ownsRow_nil _ _ _ _, hb⟩
  obtain ⟨n, hnn⟩ : ∃ n, l.length = n := ⟨_, rfl⟩
  have HN := Lib.hid hnn
  have HW := Lib.hid h
  have H64 := Lib.hid h64
  have hcase : 20000 < n ∨ (n ≤ 20000 ∧ 0 < n ∧ alkE l ≠ 0) ∨ (n ≤ 20000 ∧ n = 0) ∨ (n ≤ 20000 ∧ 0 < n ∧ alkE l = 0) := by
    by_cases h1 : 20000 < n
    · exact .inl h1
    · by_cases h2 : n = 0
      · exact .inr (.inr (.inl ⟨by omega, h2⟩))
      · by_cases h3 : alkE l = 0
        · exact .inr (.inr (.inr ⟨by omega, by omega, h3⟩))
        · exact .inr (.inl ⟨by omega, by omega, h3⟩)
  have HAL : Hid (0 < n → ∀ w, B ≤ w.heap.size → WordsAt w B ao l → Calls Tryz.prog 53 #[.slice ao n c] w fun e w' => e = .returned (.int .i64 (alkE l)) ∧ Below w.heap.size w w') := fun h0 wx hb hwx => by
    have := alike_any ao c l wx B hwx hb (by omega) (by omega) h64
    rwa [hnn] at this
  rw [hnn] at hn ⊢
  clear h h64 hnn
  rcases hcase with hbig | ⟨hs, h0, hE⟩ | hcase
  · have q1 : decide (20000 < (n : Int)) = true := decide_eq_true (by omega)
    have q1n : decide (20000 < n) = true := decide_eq_true (by omega)
    have HF := Lib.hid (HNIL.out 7 w (Below.refl _ _) (by unfold cmpE; rw [if_pos (by rw [HN.out]; exact hbig)]) (by decide))
    clear hbig
    go_enter Tryz.func26, Tryz.ntmps26
    go_wp2
    go_ret2
    exact HF.out
  · have q1 : decide (20000 < (n : Int)) = false := decide_eq_false (by omega)
    have q1n : decide (20000 < n) = false := decide_eq_false (by omega)
    have q2 : decide (0 < (n : Int)) = true := decide_eq_true (by omega)
    have q2n : decide (0 < n) = true := decide_eq_true (by omega)
    have hA := HAL.out h0 w hB HW.out
    have hF := fun w' hb => HNIL.out (alkE l) w' hb (by unfold cmpE; rw [if_neg (by rw [HN.out]; omega), if_neg (fun e => by have := HN.out; rw [e] at this; simp at this; omega)]) hE
    generalize alkE l = E at *
    have q3 : (E != 0) = true := by simp [hE]
    have HA := Lib.hid hA
    have HF := Lib.hid hF
    clear hs h0 hE hA hF
    go_enter Tryz.func26, Tryz.ntmps26
    go_wp2_with fail
    refine HA.out.mono ?_
    rintro e w1 ⟨rfl, hb1⟩
    have HFF := Lib.hid (HF.out w1 hb1)
    clear hb1
    go_wp2
    go_ret2
    exact HFF.out
  · -- words of one size
    obtain ⟨r, hr, hsz, hEr, hLr⟩ : ∃ r, r ≤ 12 ∧ Sized r l ∧ cmpE l = 0 ∧ cmpL l = packF r l := by
      rcases hcase with ⟨h1, h2⟩ | ⟨h1, h2, h3⟩
      · obtain rfl : l = [] := List.eq_nil_of_length_eq_zero (by rw [HN.out]; exact h2)
        refine ⟨rW (([] : List Int).getD 0 0).toNat, by decide, fun v hv => (by cases hv), by unfold cmpE; simp, ?_⟩
        unfold cmpL
        rw [if_pos (by unfold cmpE; simp)]
      · have hne : l ≠ [] := fun e => by have := HN.out; rw [e] at this; simp at this; omega
        have hE : cmpE l = 0 := by unfold cmpE; rw [if_neg (by rw [HN.out]; omega), if_neg hne]; exact h3
        obtain ⟨a1, a2⟩ := alk_sized H64.out h3 hne
        exact ⟨_, a1, a2, hE, by unfold cmpL; rw [if_pos hE]⟩
    have HEND : Hid (∀ (R : List Int) (w' : World) (ao : Option Addr) (c : Nat), resM r (setF l).reverse ⟨[], [], []⟩ = R → w'.ownsRow w.heap.size 25 1 (.slice ao (srt R).length c) (srt R).length (uV (srt R)) → Below w.heap.size w w' → ToldP w (cmpL l) (cmpE l) (.returned (.tuple #[.slice ao (srt R).length c, .int .i64 0])) w') := fun R w' ao c hR ho hb => by
      have e := pack_end hr hsz hR
      rw [hLr, hEr, ← e]
      exact ⟨ao, c, rfl, ho, hb⟩
    have hsl : (setF l).length ≤ n := by have := setF_length l; rw [HN.out] at this; exact this
    have HST : Hid (∀ M, M.Perm (setF l).reverse → Run (resM r (setF l).reverse ⟨[], [], []⟩) [] [] M) := fun M hM => run_start hr hsz hM
    have HUP : Hid (Dn (setF l).reverse) := (setF_up l).rev
    have HSET : Hid (∀ wx, Below w.heap.size w wx → Calls Tryz.prog 39 #[.slice ao n c] wx (SetRow wx (setF l))) := fun wx hb => by
      have := uset_row ao c l wx B (HW.out.below hb hB) (by rw [HN.out]; omega)
      rwa [HN.out] at this
    have HS64 : Hid (In64 (setF l)) := fun v hv => H64.out v ((setF_mem l v).1 hv)
    obtain ⟨R0, hR0⟩ : ∃ R0, resM r (setF l).reverse ⟨[], [], []⟩ = R0 := ⟨_, rfl⟩
    rw [hR0] at HST
    have HR0 := Lib.hid hR0
    generalize setF l = S at *
    clear hR0 hsz hEr hLr
    rcases hcase with ⟨h1, h2⟩ | ⟨h1, h2, h3⟩
    case inl =>
      subst h2
      go_enter Tryz.func26, Tryz.ntmps26
      go_upto_region 7 with (fail)
      have HBA : Hid (Below w.heap.size w w) := Below.refl _ _
      go_wp2_with fail
      refine (HSET.out _ HBA.out).mono ?_
      rintro e wS ⟨so, rfl, hs1, hs2, hs3, hbS⟩
      have HBS := Lib.hid (HBA.out.trans (hbS.mono HBA.out.size))
      have HS1 : Hid (∀ g o s, so = some ⟨g, o, s⟩ → w.heap.size ≤ g ∧ g < wS.heap.size) := fun g o s e => ⟨Nat.le_trans HBA.out.size (hs1 g o s e).1, (hs1 g o s e).2⟩
      have HS2 := Lib.hid hs2
      have HS3 := Lib.hid hs3
      clear hs1 hs2 hs3 hbS HBA HSET
      obtain ⟨m, hm⟩ : ∃ m, S.length = m := ⟨_, rfl⟩
      have HM := Lib.hid hm
      rw [hm] at hsl ⊢
      clear hm
      go_upto_region 8 with (fail)
      have hrw : RowAt (wS.alloc (.cells #[.slice so m m] 87)) wS.heap.size so m S := row_new HM.out (fun h0 => by
        obtain ⟨g, e, hU⟩ := HS2.out (by rw [HM.out]; exact h0)
        rw [HM.out] at hU
        exact ⟨g, e, hU⟩) (fun e => by rw [← HM.out]; exact HS3.out e) HS64.out (by omega)
      have HRW := Lib.hid hrw
      have HB2 : Hid (Below w.heap.size w (wS.alloc (.cells #[.slice so m m] 87))) := HBS.out.alloc HBS.out.size _
      have HR0L : Hid (w.heap.size ≤ wS.heap.size) := HBS.out.size
      clear hrw HS2 HS3 HBS
      generalize wS.alloc (.cells #[.slice so m m] 87) = w2 at *
      generalize wS.heap.size = r0 at *
      have c0 := HRW.out.head HM.out
      have HREV := Lib.hid (rev_row HRW.out HM.out (by omega))
      go_wp2_with fail
      refine HREV.out.mono ?_
      rintro e w3 ⟨rfl, hr3, ht3⟩
      have hh3 : HeapAt w3 r0 so m S.reverse := ⟨hr3, heap_dn HUP.out⟩
      have HNF : Hid (∀ k, k < w.heap.size → ¬ Foot r0 so k) := fun k hk hf => by
        rcases hf with rfl | ⟨o, s, e⟩
        · have := HR0L.out; omega
        · have := (HS1.out k o s e).1; omega
      have HB3 := Lib.hid (HB2.out.trans (ht3.below HB2.out.size HNF.out))
      have HINI := Lib.hid (hinit_any hh3)
      unfold ifc at HINI
      clear hr3 ht3 hh3 HREV c0 HRW HB2
      go_wp2_with fail
      refine HINI.out.mono ?_
      rintro e w4 ⟨rfl, hh4, ht4⟩
      have HB4 := Lib.hid (HB3.out.trans (ht4.below HB3.out.size HNF.out))
      have HP4 : Hid (PkSt w.heap.size r0 w4 (.slice none 0 0) (.slice none 0 0) [] [] S.reverse) := by
        refine ⟨⟨so, m, hh4, fun k hk => ⟨?_, ?_, by simp [Value.ownBlock], by simp [Value.ownBlock]⟩⟩, World.ownsRow_nil _ _ _ _, World.ownsRow_nil _ _ _ _, .inl rfl⟩
        · rcases Nat.lt_or_ge k w.heap.size with h | h
          · exact absurd hk (HNF.out k h)
          · exact h
        · rcases hk with rfl | ⟨o, s, e⟩
          · exact hh4.1.lt
          · have h5 := (HS1.out k o s e).2
            have h6 := hh4.1.lt
            omega
      have HRUN := Lib.hid (HST.out _ (List.Perm.refl _))
      have HLN : Hid (S.reverse.length = m) := by show _ = _; rw [List.length_reverse, HM.out]
      have HR64 : Hid (In64 S.reverse) := fun v hv => HS64.out v (by simpa using hv)
      have hm2 : m ≤ 20000 := by omega
      have hta : ∀ (x : Int) (w : World), (Instr.typeAssert (.iface 25 (.int .u64 x)) 20 25 true).run Tryz.prog w = .ok (.tuple #[.int .u64 x, .bool true]) w := fun _ _ => by kernel_rfl
      generalize S.reverse = F at *
      clear hh4 ht4 HINI HB3 HST HUP HS64 HNF HS1
      go_wp2
      go_loopg [6, 7] (8 * m) (fun q ov gv wr => ∃ (o g M : List Int) (on gn ml : Nat) (oo gg : Option Addr) (oc gc : Nat), ov = .slice oo on oc ∧ gv = .slice gg gn gc ∧ on + gn + ml ≤ m ∧ gn < 7 ∧ 8 * ml + gn ≤ q ∧ Hid (o.length = on ∧ g.length = gn ∧ M.length = ml ∧ Run R0 o g M ∧ In64 g ∧ In64 M ∧ PkSt w.heap.size r0 wr (.slice oo on oc) (.slice gg gn gc) o g M ∧ Below w.heap.size w wr))
      case atStart => exact ⟨[], [], F, 0, 0, m, none, none, 0, 0, rfl, rfl, by omega, by omega, by omega, rfl, rfl, HLN.out, HRUN.out, fun v hv => (by cases hv), HR64.out, HP4.out, HB4.out⟩
      case round =>
        obtain ⟨o, g, M, on, gn, ml, oo, gg, oc, gc, rfl, rfl, hsum, hg7, hq, HI⟩ := hrel
        have hk := HI.out.2.2.2.2.2.2.1
        obtain ⟨⟨ro, rc, hh, hf⟩, -⟩ := hk
        have c0 := hh.1.head HI.out.2.2.1
        have hr0 := hh.1.lt
        have HH := Lib.hid hh
        have HLEN := Lib.hid (plen_any ro ml rc wr)
        clear hh hf
        by_cases hml : ml = 0
        · subst hml
          have hM0 : M = [] := List.eq_nil_of_length_eq_zero HI.out.2.2.1
          have hre : R0 = o ++ g := run_end (by have := HI.out.2.2.2.1; rwa [hM0] at this)
          have HRE := Lib.hid hre
          have hown := HI.out.2.2.2.2.2.2.1.2.1
          have hgw := HI.out.2.2.2.2.2.2.1.2.2.1
          rw [HI.out.1] at hown
          rw [HI.out.2.1] at hgw
          have hbr := HI.out.2.2.2.2.2.2.2
          obtain ⟨v3, w7, hrun, hown7, hg7', hat7⟩ := append_words_at hown (words_own HI.out.2.1.symm hgw) HI.out.2.1 (own_none hgw) hbr.size (by omega)
          have HRUN7 := Lib.hid hrun
          obtain ⟨oo1, oc1, rfl, -⟩ := own_form hown7
          have hl7 : (o ++ g).length = on + gn := by rw [List.length_append, HI.out.1, HI.out.2.1]
          have hb7 := below_append hbr hown hbr.size hg7'
          have HB7 := Lib.hid hb7
          obtain ⟨nn, hnn2⟩ : ∃ nn, on + gn = nn := ⟨_, rfl⟩
          rw [hnn2] at hown7 hl7 HRUN7
          have HSORT := Lib.hid (sort_row hown7 hl7 hb7.size (by omega))
          have HL7 := Lib.hid hl7
          clear hM0 hre hown hgw hbr hrun hown7 hg7' hat7 hl7 hb7 hnn2 HH HI hsum hg7 hq
          go_wp2_with fail
          refine HLEN.out.mono ?_
          rintro e w5 ⟨rfl, rfl⟩
          go_wp2_with (at_builtin; refine wpList_append_want _ (by kernel_rfl) (.tmp 68) (.tmp 69) 22 22 rfl _ _ rfl rfl _ _ HRUN7.out ?_)
          refine HSORT.out.mono ?_
          rintro e w8 ⟨rfl, ho8, hb8⟩
          have HF : Hid (ToldP w (cmpL l) (cmpE l) (.returned (.tuple #[.slice oo1 nn oc1, .int .i64 0])) w8) := by
            have hs8 : (srt R0).length = nn := by rw [srt_length, HRE.out, HL7.out]
            have := HEND.out R0 w8 oo1 oc1 HR0.out (by rw [hs8, HRE.out]; exact ho8) (HB7.out.trans (hb8.mono (Nat.le_refl _)))
            rwa [hs8] at this
          clear ho8 hb8
          go_wp2
          go_ret2
          exact HF.out
        · exfalso
          omega
    case inr =>
      have q1 : decide (20000 < (n : Int)) = false := decide_eq_false (by omega)
      have q1n : decide (20000 < n) = false := decide_eq_false (by omega)
      have q2 : decide (0 < (n : Int)) = true := decide_eq_true (by omega)
      have q2n : decide (0 < n) = true := decide_eq_true (by omega)
      have hA := HAL.out h2 w hB HW.out
      rw [h3] at hA
      have HA := Lib.hid hA
      clear hA h3
      go_enter Tryz.func26, Tryz.ntmps26
      go_wp2_with fail
      refine HA.out.mono ?_
      rintro e wA ⟨rfl, hbA⟩
      have HBA := Lib.hid hbA
      clear hbA HA
      go_upto_region 7 with (fail)
      go_wp2_with fail
      refine (HSET.out _ HBA.out).mono ?_
      rintro e wS ⟨so, rfl, hs1, hs2, hs3, hbS⟩
      have HBS := Lib.hid (HBA.out.trans (hbS.mono HBA.out.size))
      have HS1 : Hid (∀ g o s, so = some ⟨g, o, s⟩ → w.heap.size ≤ g ∧ g < wS.heap.size) := fun g o s e => ⟨Nat.le_trans HBA.out.size (hs1 g o s e).1, (hs1 g o s e).2⟩
      have HS2 := Lib.hid hs2
      have HS3 := Lib.hid hs3
      clear hs1 hs2 hs3 hbS HBA HSET
      obtain ⟨m, hm⟩ : ∃ m, S.length = m := ⟨_, rfl⟩
      have HM := Lib.hid hm
      rw [hm] at hsl ⊢
      clear hm
      go_upto_region 8 with (fail)
      have hrw : RowAt (wS.alloc (.cells #[.slice so m m] 87)) wS.heap.size so m S := row_new HM.out (fun h0 => by
        obtain ⟨g, e, hU⟩ := HS2.out (by rw [HM.out]; exact h0)
        rw [HM.out] at hU
        exact ⟨g, e, hU⟩) (fun e => by rw [← HM.out]; exact HS3.out e) HS64.out (by omega)
      have HRW := Lib.hid hrw
      have HB2 : Hid (Below w.heap.size w (wS.alloc (.cells #[.slice so m m] 87))) := HBS.out.alloc HBS.out.size _
      have HR0L : Hid (w.heap.size ≤ wS.heap.size) := HBS.out.size
      clear hrw HS2 HS3 HBS
      generalize wS.alloc (.cells #[.slice so m m] 87) = w2 at *
      generalize wS.heap.size = r0 at *
      have c0 := HRW.out.head HM.out
      have HREV := Lib.hid (rev_row HRW.out HM.out (by omega))
      go_wp2_with fail
      refine HREV.out.mono ?_
      rintro e w3 ⟨rfl, hr3, ht3⟩
      have hh3 : HeapAt w3 r0 so m S.reverse := ⟨hr3, heap_dn HUP.out⟩
      have HNF : Hid (∀ k, k < w.heap.size → ¬ Foot r0 so k) := fun k hk hf => by
        rcases hf with rfl | ⟨o, s, e⟩
        · have := HR0L.out; omega
        · have := (HS1.out k o s e).1; omega
      have HB3 := Lib.hid (HB2.out.trans (ht3.below HB2.out.size HNF.out))
      have HINI := Lib.hid (hinit_any hh3)
      unfold ifc at HINI
      clear hr3 ht3 hh3 HREV c0 HRW HB2
      go_wp2_with fail
      refine HINI.out.mono ?_
      rintro e w4 ⟨rfl, hh4, ht4⟩
      have HB4 := Lib.hid (HB3.out.trans (ht4.below HB3.out.size HNF.out))
      have HP4 : Hid (PkSt w.heap.size r0 w4 (.slice none 0 0) (.slice none 0 0) [] [] S.reverse) := by
        refine ⟨⟨so, m, hh4, fun k hk => ⟨?_, ?_, by simp [Value.ownBlock], by simp [Value.ownBlock]⟩⟩, World.ownsRow_nil _ _ _ _, World.ownsRow_nil _ _ _ _, .inl rfl⟩
        · rcases Nat.lt_or_ge k w.heap.size with h | h
          · exact absurd hk (HNF.out k h)
          · exact h
        · rcases hk with rfl | ⟨o, s, e⟩
          · exact hh4.1.lt
          · have h5 := (HS1.out k o s e).2
            have h6 := hh4.1.lt
            omega
      have HRUN := Lib.hid (HST.out _ (List.Perm.refl _))
      have HLN : Hid (S.reverse.length = m) := by show _ = _; rw [List.length_reverse, HM.out]
      have HR64 : Hid (In64 S.reverse) := fun v hv => HS64.out v (by simpa using hv)
      have hm2 : m ≤ 20000 := by omega
      have hta : ∀ (x : Int) (w : World), (Instr.typeAssert (.iface 25 (.int .u64 x)) 20 25 true).run Tryz.prog w = .ok (.tuple #[.int .u64 x, .bool true]) w := fun _ _ => by kernel_rfl
      generalize S.reverse = F at *
      clear hh4 ht4 HINI HB3 HST HUP HS64 HNF HS1
      go_wp2
      go_loopg [6, 7] (8 * m) (fun q ov gv wr => ∃ (o g M : List Int) (on gn ml : Nat) (oo gg : Option Addr) (oc gc : Nat), ov = .slice oo on oc ∧ gv = .slice gg gn gc ∧ on + gn + ml ≤ m ∧ gn < 7 ∧ 8 * ml + gn ≤ q ∧ Hid (o.length = on ∧ g.length = gn ∧ M.length = ml ∧ Run R0 o g M ∧ In64 g ∧ In64 M ∧ PkSt w.heap.size r0 wr (.slice oo on oc) (.slice gg gn gc) o g M ∧ Below w.heap.size w wr))
      case atStart => exact ⟨[], [], F, 0, 0, m, none, none, 0, 0, rfl, rfl, by omega, by omega, by omega, rfl, rfl, HLN.out, HRUN.out, fun v hv => (by cases hv), HR64.out, HP4.out, HB4.out⟩
      case round =>
        obtain ⟨o, g, M, on, gn, ml, oo, gg, oc, gc, rfl, rfl, hsum, hg7, hq, HI⟩ := hrel
        have hk := HI.out.2.2.2.2.2.2.1
        obtain ⟨⟨ro, rc, hh, hf⟩, -⟩ := hk
        have c0 := hh.1.head HI.out.2.2.1
        have hr0 := hh.1.lt
        have HH := Lib.hid hh
        have HLEN := Lib.hid (plen_any ro ml rc wr)
        clear hh hf
        by_cases hml : ml = 0
        · subst hml
          have hM0 : M = [] := List.eq_nil_of_length_eq_zero HI.out.2.2.1
          have hre : R0 = o ++ g := run_end (by have := HI.out.2.2.2.1; rwa [hM0] at this)
          have HRE := Lib.hid hre
          have hown := HI.out.2.2.2.2.2.2.1.2.1
          have hgw := HI.out.2.2.2.2.2.2.1.2.2.1
          rw [HI.out.1] at hown
          rw [HI.out.2.1] at hgw
          have hbr := HI.out.2.2.2.2.2.2.2
          obtain ⟨v3, w7, hrun, hown7, hg7', hat7⟩ := append_words_at hown (words_own HI.out.2.1.symm hgw) HI.out.2.1 (own_none hgw) hbr.size (by omega)
          have HRUN7 := Lib.hid hrun
          obtain ⟨oo1, oc1, rfl, -⟩ := own_form hown7
          have hl7 : (o ++ g).length = on + gn := by rw [List.length_append, HI.out.1, HI.out.2.1]
          have hb7 := below_append hbr hown hbr.size hg7'
          have HB7 := Lib.hid hb7
          obtain ⟨nn, hnn2⟩ : ∃ nn, on + gn = nn := ⟨_, rfl⟩
          rw [hnn2] at hown7 hl7 HRUN7
          have HSORT := Lib.hid (sort_row hown7 hl7 hb7.size (by omega))
          have HL7 := Lib.hid hl7
          clear hM0 hre hown hgw hbr hrun hown7 hg7' hat7 hl7 hb7 hnn2 HH HI hsum hg7 hq
          go_wp2_with fail
          refine HLEN.out.mono ?_
          rintro e w5 ⟨rfl, rfl⟩
          go_wp2_with (at_builtin; refine wpList_append_want _ (by kernel_rfl) (.tmp 68) (.tmp 69) 22 22 rfl _ _ rfl rfl _ _ HRUN7.out ?_)
          refine HSORT.out.mono ?_
          rintro e w8 ⟨rfl, ho8, hb8⟩
          have HF : Hid (ToldP w (cmpL l) (cmpE l) (.returned (.tuple #[.slice oo1 nn oc1, .int .i64 0])) w8) := by
            have hs8 : (srt R0).length = nn := by rw [srt_length, HRE.out, HL7.out]
            have := HEND.out R0 w8 oo1 oc1 HR0.out (by rw [hs8, HRE.out]; exact ho8) (HB7.out.trans (hb8.mono (Nat.le_refl _)))
            rwa [hs8] at this
          clear ho8 hb8
          go_wp2
          go_ret2
          exact HF.out
        · obtain ⟨k, rfl⟩ : ∃ k, ml = k + 1 := ⟨ml - 1, by omega⟩
          have q4 : decide (0 < ((k + 1 : Nat) : Int)) = true := decide_eq_true (by omega)
          have q4n : decide (0 < k + 1) = true := decide_eq_true (by omega)
          have HPOP := Lib.hid (hpop_any HH.out HI.out.2.2.1)
          unfold ifc at HPOP
          have HMX := Lib.hid (heap_max HH.out.2)
          go_wp2_with fail
          refine HLEN.out.mono ?_
          rintro e w5 ⟨rfl, rfl⟩
          go_wp2_with fail
          refine HPOP.out.mono ?_
          intro e w5 hp
          obtain ⟨rfl, M', hperm, hpk, hbp⟩ := HI.out.2.2.2.2.2.2.1.popped HH.out HI.out.2.2.1 hp
          obtain ⟨hwd, -, hst7, hst1⟩ := run_step HI.out.2.2.2.1 hperm.symm HMX.out
          obtain ⟨kk, hk12, hwd⟩ := hwd
          obtain ⟨u, hu, hu64⟩ := word_lt hwd
          rw [hu] at hperm hst7 hst1 ⊢
          have HS7 := Lib.hid hst7
          have HS1 := Lib.hid hst1
          have HM' : Hid (M'.length = k ∧ In64 M') := ⟨by have := hperm.length_eq; rw [HI.out.2.2.1] at this; simpa using this, fun v hv => HI.out.2.2.2.2.2.1 v (hperm.subset (List.mem_cons_of_mem _ hv))⟩
          have HP5 := Lib.hid hpk
          have HB5 := Lib.hid (HI.out.2.2.2.2.2.2.2.trans hbp)
          have HG := Lib.hid HI.out.2.2.2.2.1
          have HOL : Hid (o.length = on ∧ g.length = gn) := ⟨HI.out.1, HI.out.2.1⟩
          clear hp hperm hpk hbp hwd hst7 hst1 hu HPOP HMX HLEN HH HI c0 hr0
          have hcase : (gn = 0 ∨ (0 < gn ∧ broB (g.getD 0 0) u = false)) ∨ (0 < gn ∧ broB (g.getD 0 0) u = true) := by
            by_cases h : gn = 0
            · exact .inl (.inl h)
            · cases hb : broB (g.getD 0 0) u with
              | false => exact .inl (.inr ⟨by omega, rfl⟩)
              | true => exact .inr ⟨by omega, rfl⟩
          rcases hcase with hcase | ⟨hg0, hb⟩
          · -- the group begins anew
            rcases hcase with hg0 | ⟨hg0, hb⟩
            case' inl =>
              subst hg0
              obtain rfl : g = [] := List.eq_nil_of_length_eq_zero HOL.out.2
              have q6 : decide (0 < (0 : Int)) = false := rfl
              have q6n : decide (0 < 0) = false := rfl
              rw [flush_none] at HS1
              have HPX := HP5
              have HBX := HB5
              have HXL : Hid (o.length = on) := HOL.out.1
              have HXR : Hid (Run R0 o ([] ++ [(u : Int)]) M') := HS1.out (by simp)
              have hsumX : on + 0 + (k + 1) ≤ m := hsum
              have hqX := Nat.le_trans (show 8 * (k + 1) ≤ _ from Nat.le_add_right _ _) hq
              go_upto_region 16 with (fail)
              obtain ⟨wX, rfl⟩ : ∃ wX, wX = w5 := ⟨_, rfl⟩
              clear HP5 HB5 HS1 HS7 HOL HG hsum hq
            case' inr =>
              have hne : g ≠ [] := fun e => by have := HOL.out.2; rw [e] at this; simp at this; omega
              have hown := HP5.out.2.2.1
              rw [HOL.out.2] at hown
              obtain ⟨gb, rfl, hgb, cg⟩ := own_val hown hg0 HOL.out.2
              obtain ⟨v, hv, hv64⟩ : ∃ v : Nat, g.getD 0 0 = v ∧ v < 18446744073709551616 := by
                have := HG.out _ (getD0_mem hne)
                exact ⟨(g.getD 0 0).toNat, by omega, by omega⟩
              have hbro := bro_any v u hv64 hu64
              rw [flush_yes hne hb] at HS1
              rw [hv] at cg hb
              rw [hb] at hbro
              have HBRO := Lib.hid hbro
              have q6 : decide (0 < (gn : Int)) = true := decide_eq_true (by omega)
              have q6n : decide (0 < gn) = true := decide_eq_true (by omega)
              clear hbro hb hv hown hne
              go_wp2_with fail
              refine (HBRO.out _).mono ?_
              rintro e w6 ⟨rfl, hb6⟩
              have HP6 := Lib.hid (HP5.out.later hb6)
              have HB6 := Lib.hid (HB5.out.trans (hb6.mono HB5.out.size))
              clear hb6 cg HBRO HP5 HB5
              have hown := HP6.out.2.1
              have hgw := HP6.out.2.2.1
              rw [HOL.out.1] at hown
              rw [HOL.out.2] at hgw
              obtain ⟨v3, w7, hrun, hown7, hg7', hat7⟩ := append_words_at hown (words_own HOL.out.2.symm hgw) HOL.out.2 (own_none hgw) HB6.out.size (by omega)
              have HRUN7 := Lib.hid hrun
              obtain ⟨oo1, oc1, rfl, -⟩ := own_form hown7
              have hl7 : (o ++ g).length = on + gn := by rw [List.length_append, HOL.out.1, HOL.out.2]
              have hown7' : w7.ownsRow w.heap.size 25 1 (.slice oo1 (on + gn) oc1) (o ++ g).length (uV (o ++ g)) := by rw [hl7]; exact hown7
              have HPX := Lib.hid (HP6.out.out hown7' hg7' hat7).none
              have HBX := Lib.hid (below_append HB6.out hown HB6.out.size hg7')
              have HXL := Lib.hid hl7
              have HXR : Hid (Run R0 (o ++ g) ([] ++ [(u : Int)]) M') := HS1.out (by simp)
              have hsumX : on + gn + 0 + (k + 1) ≤ m := by omega
              have hqX := Nat.le_trans (show 8 * (k + 1) ≤ _ from Nat.le_add_right _ _) hq
              clear hown hgw hrun hown7 hown7' hg7' hat7 hl7 HP6 HB6
              go_upto_region 14 with (fail)
              go_upto_region 16 with (at_builtin; refine wpList_append_want _ (by kernel_rfl) (.tmp 49) (.tmp 50) 22 22 rfl _ _ rfl rfl _ _ HRUN7.out ?_)
              obtain ⟨wX, rfl⟩ : ∃ wX, wX = w7 := ⟨_, rfl⟩
              clear HRUN7 HS1 HS7 HOL HG hsum hq
            all_goals
              have hown := HPX.out.2.2.1
              have hal : Below wX.heap.size wX (wX.alloc (.cells #[.int .u64 u] 25)) := (Below.refl _ _).alloc (Nat.le_refl _) _
              have HPA := Lib.hid (HPX.out.later hal)
              have HBA := Lib.hid (HBX.out.alloc HBX.out.size (.cells #[.int .u64 (u : Int)] 25))
              have hbs : w.heap.size ≤ (wX.alloc (.cells #[.int .u64 (u : Int)] 25)).heap.size := HBA.out.size
              have q7 : ((((0 + 1 : Nat)) : Int) == 7) = false := by decide
              clear hal
              go_wp2_with (at_builtin; refine wpList_append_own_at _ rfl (.tmp 52) (.tmp 54) 22 rfl w.heap.size 25 i0 (.int .u64 0) 1 8 Tryz.underlying22 hi hz0 hz1 hz2 rfl (by decide) _ 0 [] rfl (hown.alloc _) ⟨wX.heap.size, 0, none⟩ 1 1 [.int .u64 u] rfl rfl (cells_new _ _ _ _ rfl) (by simp [Value.oneCell']) (by unfold maxLen; omega) (by omega) hbs ?_; intro v8 w8 hown8 hg8 _ hat8; have HX8 := Lib.hid (And.intro hown8 (And.intro hg8 hat8)); obtain ⟨gg3, gc3, hv8, -⟩ := own_form hown8; clear hown8 hg8 hat8; subst hv8)
              obtain ⟨hown8, hg8, hat8⟩ := HX8.out
              have HP8 := Lib.hid (HPA.out.grp (g' := [(u : Int)]) hown8 hg8 hat8)
              have HB8 := Lib.hid (below_append HBA.out HPA.out.2.2.1 hbs hg8)
              have HGL : Hid (In64 [(u : Int)]) := fun v hv => by rw [List.mem_singleton.1 hv]; omega
              clear hown hown8 hg8 hat8 hbs HPA HBA HPX HBX hta HX8
              go_roundg (8 * k + 1)
              case measure => omega
              case rel => exact ⟨_, [(u : Int)], M', _, 1, k, _, gg3, _, gc3, rfl, rfl, by omega, by omega, by omega, HXL.out, rfl, HM'.out.1, HXR.out, HGL.out, HM'.out.2, HP8.out, HB8.out⟩
          · -- a brother more
            have hne : g ≠ [] := fun e => by have := HOL.out.2; rw [e] at this; simp at this; omega
            have hown := HP5.out.2.2.1
            rw [HOL.out.2] at hown
            obtain ⟨gb, rfl, hgb, cg⟩ := own_val hown hg0 HOL.out.2
            obtain ⟨v, hv, hv64⟩ : ∃ v : Nat, g.getD 0 0 = v ∧ v < 18446744073709551616 := by
              have := HG.out _ (getD0_mem hne)
              exact ⟨(g.getD 0 0).toNat, by omega, by omega⟩
            have hbro := bro_any v u hv64 hu64
            rw [flush_no hb, HOL.out.2] at HS1 HS7
            rw [hv] at cg hb
            rw [hb] at hbro
            have HBRO := Lib.hid hbro
            have q6 : decide (0 < (gn : Int)) = true := decide_eq_true (by omega)
            have q6n : decide (0 < gn) = true := decide_eq_true (by omega)
            clear hbro hb hv hown hne
            go_wp2_with fail
            refine (HBRO.out _).mono ?_
            rintro e w6 ⟨rfl, hb6⟩
            have HP6 := Lib.hid (HP5.out.later hb6)
            have HB6 := Lib.hid (HB5.out.trans (hb6.mono HB5.out.size))
            clear hb6 cg HBRO HP5 HB5
            have hown := HP6.out.2.2.1
            rw [HOL.out.2] at hown
            have hal : Below w6.heap.size w6 (w6.alloc (.cells #[.int .u64 u] 25)) := (Below.refl _ _).alloc (Nat.le_refl _) _
            have HPA := Lib.hid (HP6.out.later hal)
            have HBA := Lib.hid (HB6.out.alloc HB6.out.size (.cells #[.int .u64 (u : Int)] 25))
            have hbs : w.heap.size ≤ (w6.alloc (.cells #[.int .u64 (u : Int)] 25)).heap.size := HBA.out.size
            have hownA := hown.alloc (.cells #[.int .u64 (u : Int)] 25)
            clear hal
            by_cases h7 : gn + 1 = 7
            · have q7 : (((gn + 1 : Nat) : Int) == 7) = true := by rw [h7]; rfl
              have q7' : ((gn : Int) + 1 == 7) = true := by rw [beq_iff_eq]; omega
              go_wp2_with (at_builtin; refine wpList_append_own_at _ rfl (.tmp 52) (.tmp 54) 22 rfl w.heap.size 25 i0 (.int .u64 0) 1 8 Tryz.underlying22 hi hz0 hz1 hz2 rfl (by decide) _ gn (uV g) rfl hownA ⟨w6.heap.size, 0, none⟩ 1 1 [.int .u64 u] rfl rfl (cells_new _ _ _ _ rfl) (by simp [Value.oneCell']) (by unfold maxLen; omega) (by omega) hbs ?_; intro v8 w8 hown8 hg8 _ hat8; have HX8 := Lib.hid (And.intro hown8 (And.intro hg8 hat8)); obtain ⟨gg3, gc3, hv8, -⟩ := own_form hown8; clear hown8 hg8 hat8; subst hv8)
              obtain ⟨hown8, hg8, hat8⟩ := HX8.out
              have hl8 : (g ++ [(u : Int)]).length = gn + 1 := by rw [List.length_append, HOL.out.2]; rfl
              have hown8' : w8.ownsRow w.heap.size 25 1 (.slice gg3 (gn + 1) gc3) (g ++ [(u : Int)]).length (uV (g ++ [(u : Int)])) := by rw [hl8, uV_snoc]; exact hown8
              have HP8 := Lib.hid (HPA.out.grp (g' := g ++ [(u : Int)]) hown8' hg8 hat8)
              have HB8 := Lib.hid (below_append HBA.out hownA hbs hg8)
              have HL8 := Lib.hid hl8
              have HGL : Hid (In64 (g ++ [(u : Int)])) := fun v hv => by
                rcases List.mem_append.1 hv with h | h
                · exact HG.out v h
                · rw [List.mem_singleton.1 h]; omega
              clear hown hown8 hown8' hg8 hat8 hbs HPA HBA HP6 HB6 hta hl8 hownA
              have HXR : Hid (Run R0 o [] (parI u :: M')) := HS7.out h7
              have hipar := ipar_any u hu64
              have hpi : parI (u : Int) = (parW u : Int) := by unfold parI; rw [Int.toNat_natCast]
              rw [hpi] at HXR
              have hpw := parW_lt u
              obtain ⟨pw, hpw2⟩ : ∃ pw, parW u = pw := ⟨_, rfl⟩
              obtain ⟨pe, hpe⟩ : ∃ pe, parE u = pe := ⟨_, rfl⟩
              rw [hpw2] at hipar HXR hpw
              rw [hpe] at hipar
              have HIP := Lib.hid hipar
              clear hipar hpi hpw2 hpe HS1 HS7 h7
              refine (HIP.out _).mono ?_
              rintro e w9 ⟨rfl, hb9⟩
              have HP9 := Lib.hid (HP8.out.later hb9)
              have HB9 := Lib.hid (HB8.out.trans (hb9.mono HB8.out.size))
              clear hb9 HIP HP8 HB8
              obtain ⟨⟨ro2, rc2, hh2, -⟩, -⟩ := HP9.out
              have HH2 := Lib.hid hh2
              have HPU := Lib.hid (hpush_any hh2 (pw : Int) ⟨by omega, by omega⟩ (by rw [HM'.out.1]; omega))
              unfold ifc at HPU
              clear hh2
              go_wp2_with fail
              refine HPU.out.mono ?_
              intro e w10 hp
              obtain ⟨rfl, M2, hperm2, hpk2, hbp2⟩ := HP9.out.pushed HH2.out hp
              have HM2 : Hid (M2.length = k + 1 ∧ In64 M2) := ⟨by have := hperm2.length_eq; rw [List.length_cons, HM'.out.1] at this; exact this, fun v hv => by
                rcases List.mem_cons.1 (hperm2.subset hv) with h | h
                · rw [h]; omega
                · exact HM'.out.2 v h⟩
              have HX2 : Hid (Run R0 o [] M2) := by
                obtain ⟨r', s0, P, A, u', k1, k2, k3, k4, k5, k6, k7, k8, k9⟩ := HXR.out
                exact ⟨r', s0, P, A, u', k1, k2, k3, k4, k5, k6, k7, hperm2.trans k8, k9⟩
              have HP10 := Lib.hid hpk2.none
              have HB10 := Lib.hid (HB9.out.trans hbp2)
              have hq8 := Nat.lt_of_lt_of_le (show 8 * (k + 1) < 8 * (k + 1) + gn by omega) hq
              clear hp hperm2 hpk2 hbp2 HPU HH2 HP9 HB9 HXR hq
              go_wp2
              go_roundg (8 * (k + 1))
              case measure => omega
              case rel => exact ⟨o, [], M2, on, 0, k + 1, oo, none, oc, 0, rfl, rfl, by omega, by omega, by omega, HOL.out.1, rfl, HM2.out.1, HX2.out, fun v hv => (by cases hv), HM2.out.2, HP10.out, HB10.out⟩
            · have q7 : (((gn + 1 : Nat) : Int) == 7) = false := by rw [beq_eq_false_iff_ne]; omega
              have q7' : ((gn : Int) + 1 == 7) = false := by rw [beq_eq_false_iff_ne]; omega
              go_wp2_with (at_builtin; refine wpList_append_own_at _ rfl (.tmp 52) (.tmp 54) 22 rfl w.heap.size 25 i0 (.int .u64 0) 1 8 Tryz.underlying22 hi hz0 hz1 hz2 rfl (by decide) _ gn (uV g) rfl hownA ⟨w6.heap.size, 0, none⟩ 1 1 [.int .u64 u] rfl rfl (cells_new _ _ _ _ rfl) (by simp [Value.oneCell']) (by unfold maxLen; omega) (by omega) hbs ?_; intro v8 w8 hown8 hg8 _ hat8; have HX8 := Lib.hid (And.intro hown8 (And.intro hg8 hat8)); obtain ⟨gg3, gc3, hv8, -⟩ := own_form hown8; clear hown8 hg8 hat8; subst hv8)
              obtain ⟨hown8, hg8, hat8⟩ := HX8.out
              have hl8 : (g ++ [(u : Int)]).length = gn + 1 := by rw [List.length_append, HOL.out.2]; rfl
              have hown8' : w8.ownsRow w.heap.size 25 1 (.slice gg3 (gn + 1) gc3) (g ++ [(u : Int)]).length (uV (g ++ [(u : Int)])) := by rw [hl8, uV_snoc]; exact hown8
              have HP8 := Lib.hid (HPA.out.grp (g' := g ++ [(u : Int)]) hown8' hg8 hat8)
              have HB8 := Lib.hid (below_append HBA.out hownA hbs hg8)
              have HL8 := Lib.hid hl8
              have HGL : Hid (In64 (g ++ [(u : Int)])) := fun v hv => by
                rcases List.mem_append.1 hv with h | h
                · exact HG.out v h
                · rw [List.mem_singleton.1 h]; omega
              clear hown hown8 hown8' hg8 hat8 hbs HPA HBA HP6 HB6 hta hl8 hownA
              have HXR : Hid (Run R0 o (g ++ [(u : Int)]) M') := HS1.out h7
              clear HS1 HS7
              have h7' : gn + 1 < 7 := by omega
              clear h7
              go_roundg (8 * k + (gn + 1))
              case measure => omega
              case rel => exact ⟨o, _, M', on, gn + 1, k, oo, gg3, oc, gc3, rfl, rfl, by omega, by omega, by omega, HOL.out.1, HL8.out, HM'.out.1, HXR.out, HGL.out, HM'.out.2, HP8.out, HB8.out⟩
end Go.Proofs.YtkjfdaleamonaaaGreat
/- Plain laws of packing: cells within a cell, level by level; what is told of words of one size. -/
namespace Go.Proofs.YtkjfdaleamonaaaGreat
open Go.RowKit Go.Lib Wd

theorem sized_word {r : Nat} {v : Int} (h : ∃ z, okB r z = true ∧ v = (wordN r z : Int)) : isW v.toNat = true ∧ rW v.toNat = r ∧ v = (wordN r (zW v.toNat) : Int) ∧ okB r (zW v.toNat) = true := by
  obtain ⟨z, hz, rfl⟩ := h
  obtain ⟨a, b, c⟩ := word_cell hz
  rw [Int.toNat_natCast]
  exact ⟨a, b, by rw [c], by rw [c]; exact hz⟩
theorem sized_all {r : Nat} {l : List Int} (h : Sized r l) : allW l = true := List.all_eq_true.2 fun v hv => (sized_word (h v hv)).1
theorem sized_64 {r : Nat} {l : List Int} (h : Sized r l) : In64 l := fun v hv => by
  obtain ⟨z, hz, rfl⟩ := h v hv
  have := (wordN_lt hz).1
  omega
theorem sized_chk {r : Nat} : ∀ {l : List Int}, Sized r l → chkF r l = 0
  | [], _ => rfl
  | v :: l, h => by
    obtain ⟨a, b, -⟩ := sized_word (h v List.mem_cons_self)
    unfold chkF
    rw [if_pos a, if_pos (by omega)]
    exact sized_chk fun u hu => h u (List.mem_cons_of_mem _ hu)
theorem sized_le {r : Nat} {l : List Int} (h : Sized r l) (h0 : l ≠ []) : r ≤ 12 := by
  obtain ⟨z, hz, -⟩ := h _ (getD_mem (List.length_pos_iff.2 h0))
  exact (okB_parts hz).1
theorem sized_cmp {r : Nat} {l : List Int} (h : Sized r l) (hl : l.length ≤ 20000) : cmpE l = 0 ∧ (l ≠ [] → cmpL l = packF r l) ∧ (l = [] → cmpL l = []) := by
  have hE : cmpE l = 0 := by
    unfold cmpE
    rw [if_neg (by omega)]
    by_cases h0 : l = []
    · rw [if_pos h0]
    · rw [if_neg h0]
      obtain ⟨a, b, -⟩ := sized_word (h _ (getD_mem (List.length_pos_iff.2 h0)))
      unfold alkE
      rw [if_pos (sized_all h), show resW (l.getD 0 0).toNat = (r : Int) by unfold resW; rw [if_pos a, b]]
      exact sized_chk h
  refine ⟨hE, fun h0 => ?_, fun h0 => ?_⟩
  · unfold cmpL
    rw [if_pos hE, (sized_word (h _ (getD_mem (List.length_pos_iff.2 h0)))).2.1]
  · subst h0
    unfold cmpL packF
    rw [if_pos hE]
    have e : ∀ r, packN r (setF []) = [] := fun r => by
      have es : setF ([] : List Int) = [] := List.eq_nil_iff_forall_not_mem.2 fun x hx => by have := (setF_mem [] x).1 hx; cases this
      rw [es]
      induction r with
      | zero => rfl
      | succ r ih => show doneL [] ++ packN r (nextL []) = []; rw [next_nil, ih]; rfl
    rw [e]
    exact List.eq_nil_iff_forall_not_mem.2 fun x hx => by have := (setF_mem [] x).1 hx; cases this
/-- The words of a size within a cell, by their ancestors. -/
theorem ds_mem : ∀ (d k : Nat) (z : E2), k + d ≤ 12 → okB k z = true → ∀ x : Int, x ∈ dsN d k z ↔ ∃ y, okB (k + d : Nat) y = true ∧ upN d y = z ∧ x = (wordN (k + d) y : Int)
  | 0, k, z, _, hz, x => by
    constructor
    · intro hx
      have hx : x = (wordN k z : Int) := List.mem_singleton.1 hx
      exact ⟨z, hz, rfl, hx⟩
    · rintro ⟨y, hy, e, rfl⟩
      have e : y = z := e
      subst e
      exact List.mem_singleton.2 rfl
  | d + 1, k, z, hk, hz, x => by
    show x ∈ (List.range 7).flatMap (fun i => dsN d (k + 1) (downE z i)) ↔ _
    rw [List.mem_flatMap]
    constructor
    · rintro ⟨i, hi, hx⟩
      have hi7 := List.mem_range.1 hi
      obtain ⟨y, hy, e, rfl⟩ := (ds_mem d (k + 1) (downE z i) (by omega) (kid_ok hz (by omega) hi7) x).1 hx
      refine ⟨y, by rw [show k + (d + 1) = k + 1 + d by omega]; exact hy, ?_, by rw [show k + (d + 1) = k + 1 + d by omega]⟩
      rw [upN_up, e, upE_down z hi7]
    · rintro ⟨y, hy, e, rfl⟩
      rw [upN_up] at e
      refine ⟨digE (upN d y), List.mem_range.2 (digE_lt _), ?_⟩
      have hdn : downE z (digE (upN d y)) = upN d y := by rw [← e]; exact down_up _
      have hy' : okB (k + 1 + d : Nat) y = true := by rw [show k + 1 + d = k + (d + 1) by omega]; exact hy
      rw [hdn]
      exact (ds_mem d (k + 1) (upN d y) (by omega) (upN_ok d hy') _).2 ⟨y, hy', rfl, by rw [show k + (d + 1) = k + 1 + d by omega]⟩
theorem ds_len : ∀ (d k : Nat) (z : E2), (dsN d k z).length = 7 ^ d
  | 0, _, _ => rfl
  | d + 1, k, z => by
    show ((List.range 7).flatMap (fun i => dsN d (k + 1) (downE z i))).length = _
    rw [List.length_flatMap, show List.range 7 = [0, 1, 2, 3, 4, 5, 6] from rfl]
    simp only [List.map_cons, List.map_nil, List.sum_cons, List.sum_nil, ds_len d]
    rw [Nat.pow_succ]
    omega
theorem ds_sized {d k : Nat} {z : E2} (hk : k + d ≤ 12) (hz : okB k z = true) : Sized (k + d) (dsN d k z) := fun x hx => by
  obtain ⟨y, hy, -, rfl⟩ := (ds_mem d k z hk hz x).1 hx
  exact ⟨y, hy, rfl⟩
/-- Words of children lie apart as the cells' words do; whatever lies within. -/
theorem ds_apart (d : Nat) : ∀ (k : Nat) {y z : E2}, k + d ≤ 12 → okB k y = true → okB k z = true → wordN k y < wordN k z → ∀ a ∈ dsN d k y, ∀ b ∈ dsN d k z, a < b := by
  induction d with
  | zero =>
    intro k y z _ _ _ h a ha b hb
    have ha : a = (wordN k y : Int) := List.mem_singleton.1 ha
    have hb : b = (wordN k z : Int) := List.mem_singleton.1 hb
    rw [ha, hb]
    exact Int.ofNat_lt.2 h
  | succ d ih =>
    intro k y z hk hy hz h a ha b hb
    obtain ⟨i, hi, ha⟩ := List.mem_flatMap.1 (show a ∈ (List.range 7).flatMap (fun i => dsN d (k + 1) (downE y i)) from ha)
    obtain ⟨j, hj, hb⟩ := List.mem_flatMap.1 (show b ∈ (List.range 7).flatMap (fun i => dsN d (k + 1) (downE z i)) from hb)
    have hi := List.mem_range.1 hi
    have hj := List.mem_range.1 hj
    exact ih (k + 1) (by omega) (kid_ok hy (by omega) hi) (kid_ok hz (by omega) hj) (kids_apart (by omega) h hi hj) a ha b hb
theorem kid_less {k : Nat} (hk : k + 1 ≤ 12) (z : E2) {i j : Nat} (hij : i < j) (hj : j < 7) : wordN (k + 1) (downE z i) < wordN (k + 1) (downE z j) := by
  have h1 := word_kid (z := z) hk (show i < 7 by omega)
  have h2 := word_kid (z := z) hk hj
  have hu : 0 < (8 : Nat) ^ (11 - k) := Nat.pow_pos (by decide)
  have h3 : (7 - j) * 8 ^ (11 - k) + 8 ^ (11 - k) ≤ (7 - i) * 8 ^ (11 - k) := by rw [← Nat.succ_mul]; exact Nat.mul_le_mul_right _ (by omega)
  omega
theorem ds_up : ∀ (d k : Nat) (z : E2), k + d ≤ 12 → okB k z = true → Up (dsN d k z)
  | 0, _, _, _, _ => List.pairwise_singleton _ _
  | d + 1, k, z, hk, hz => by
    show Up ((List.range 7).flatMap (fun i => dsN d (k + 1) (downE z i)))
    refine List.pairwise_flatMap.2 ⟨fun i hi => ds_up d (k + 1) _ (by omega) (kid_ok hz (by omega) (List.mem_range.1 hi)), ?_⟩
    refine (List.pairwise_lt_range (n := 7)).imp_of_mem fun {i j} hi hj hij => ?_
    have hi := List.mem_range.1 hi
    have hj := List.mem_range.1 hj
    exact ds_apart d (k + 1) (by omega) (kid_ok hz (by omega) hi) (kid_ok hz (by omega) hj) (kid_less (by omega) z hij hj)
/-- One word, spread. -/
theorem one_size {k : Nat} {z : E2} (hz : okB k z = true) {R : Nat} (hR : R ≤ 12) (hk : k ≤ R) : szE [(wordN k z : Int)] R = 0 ∧ sumS R [(wordN k z : Int)] = 7 ^ (R - k) := by
  obtain ⟨a, b, c⟩ := word_cell hz
  have hs : sumS R [(wordN k z : Int)] = 7 ^ (R - k) := by simp only [sumS, Int.toNat_natCast, b]; omega
  refine ⟨?_, hs⟩
  have h7 := seven_le (k := R - k) (by omega)
  unfold szE
  rw [Int.toNat_natCast, hs, if_neg (by unfold allW; simp [a]), if_neg (by simp [b]; omega), if_neg (by omega), if_neg (by omega)]
theorem one_spread {k : Nat} {z : E2} (hz : okB k z = true) {R : Nat} (hR : R ≤ 12) (hk : k ≤ R) (h5 : R - k ≤ 5) : sprE [(wordN k z : Int)] R = 0 ∧ sprL [(wordN k z : Int)] R = dsN (R - k) k z := by
  obtain ⟨h1, h2⟩ := one_size hz hR hk
  obtain ⟨a, b, c⟩ := word_cell hz
  have h7 : 7 ^ (R - k) ≤ 7 ^ 5 := Nat.pow_le_pow_right (by decide) h5
  have hE : sprE [(wordN k z : Int)] R = 0 := by unfold sprE; rw [if_pos h1, Int.toNat_natCast, h2, if_neg (by omega)]
  refine ⟨hE, ?_⟩
  unfold sprL
  rw [if_pos hE, Int.toNat_natCast]
  simp only [List.flatMap_cons, List.flatMap_nil, List.append_nil, dsV, Int.toNat_natCast, b, c]
  exact setF_up_eq (ds_up _ _ _ (by omega) hz)
end Go.Proofs.YtkjfdaleamonaaaGreat
