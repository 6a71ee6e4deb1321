/- The contract of cells.Set: words, rising, each once. -/
import Derived.Test.YtkjfdaleamonaaaSlA
import Derived.Test.YtkjfdaleamonaaaSortD
import Derived.Lib.OwnBridge
namespace Go.Proofs.Ytkjfdaleamonaaa
open Go.RowKit Go.Lib Go.Sort

def srt (l : List Int) : List Int := l.mergeSort fun x y => decide (x ≤ y)
def setF (l : List Int) : List Int := compactUpTo (srt l).toArray (srt l).length
theorem srt_length (l : List Int) : (srt l).length = l.length := List.length_mergeSort l
theorem cut_length (d : Array Int) (m : Nat) : (compactUpTo d m).length ≤ m := by
  induction m with
  | zero => simp [compactUpTo]
  | succ m ih => rw [compactUpTo_succ, List.length_append]; split <;> simp <;> omega
theorem setF_nil : setF [] = [] := by simp [setF, srt, compactUpTo]

theorem below_growU {B : Nat} {w0 w : World} {os : Array Obj} (h : Below B w0 w) (hB : B ≤ w.heap.size) : Below B w0 (grow w os) :=
  ⟨h.os, h.tape, h.output, by have := h.size; simp [grow]; omega, fun k hk => by rw [← h.block k hk]; exact heap_grow_old w os (show k < w.heap.size by omega)⟩
theorem holds_own {w : World} {base n c : Nat} {ao : Option Addr} {l : List Int} (hn : 0 < n) (h : w.ownsRow base 24 1 (.slice ao n c) n (uV l)) :
    ∃ g, ao = some ⟨g, 0, none⟩ ∧ base ≤ g ∧ g < w.heap.size ∧ n ≤ c ∧ Holds encU w g 0 l.toArray := by
  obtain ⟨ao', c', e, hnc, hh⟩ := own_form h
  cases e
  obtain ⟨g, rfl, hb, hg, hc⟩ := hh hn
  refine ⟨g, rfl, hb, hg, hnc, fun j hj => ?_⟩
  have hj' : j < l.length := by simpa using hj
  refine ⟨?_, h.frozenAt _⟩
  rw [hc (0 + j) _ (by rw [Nat.zero_add]; exact uV_get l j hj')]
  congr 2
  simp [List.getD_eq_getElem?_getD, hj', getElem!_pos]
theorem words_of_holds {w : World} {g : Nat} {l : List Int} (hg : g < w.heap.size) (h : Holds encU w g 0 l.toArray) (k : Nat) (hk : k ≤ l.length) : WordsAt w w.heap.size (some ⟨g, 0, none⟩) (l.take k) := fun _ => by
  refine ⟨g, 0, rfl, hg, fun i hi => ?_⟩
  have hi' : i < k ∧ i < l.length := by simp at hi; omega
  rw [(h i (by simpa using hi'.2)).1]
  congr 2
  simp [List.getD_eq_getElem?_getD, hi'.1, hi'.2, getElem!_pos]

set_option maxRecDepth 100000 in
set_option maxHeartbeats 1000000 in
theorem uclip_any (ao : Option Addr) (n c : Nat) (w : World) (h : n ≤ c) : Calls Try.prog 20 #[.slice ao n c] w fun e w' => e = .returned (.slice ao n n) ∧ w = w' := by
  go_enter Try.func20, Try.ntmps20
  go_wp2
  go_ret
  exact ⟨rfl, rfl⟩

set_option maxRecDepth 100000 in
set_option maxHeartbeats 1000000 in
theorem uclone_none (ao : Option Addr) (c : Nat) (w : World) :
    Calls Try.prog 18 #[.slice ao 0 c] w fun e w' => ∃ ao' c', e = .returned (.slice ao' 0 c') ∧ Below w.heap.size w w' := by
  have q22 : ∀ (w : World) (a : Option Addr) (n c n' c' : Nat), (binOp .eql 23 (.slice a n c) (.slice none n' c')).run Try.prog w = .ok (.bool a.isNone) w := fun w a n c n' c' => Lib.run_eql_slice_nil w _ _ a n c n' c' Try.underlying23
  cases ao with
  | none =>
    go_enter Try.func18, Try.ntmps18
    go_wp2
    go_ret
    exact ⟨_, _, rfl, Below.refl _ _⟩
  | some a =>
    go_enter Try.func18, Try.ntmps18
    go_wp2
    go_ret
    exact ⟨_, _, rfl, (Below.refl _ _).alloc (Nat.le_refl _) _⟩
set_option maxRecDepth 100000 in
set_option maxHeartbeats 1000000 in
theorem ucompact_none (ao : Option Addr) (c : Nat) (w : World) : Calls Try.prog 21 #[.slice ao 0 c] w fun e w' => e = .returned (.slice ao 0 c) ∧ w = w' := by
  go_enter Try.func21, Try.ntmps21
  go_wp2
  go_ret
  exact ⟨rfl, rfl⟩

set_option maxRecDepth 100000 in
set_option maxHeartbeats 1000000 in
theorem uset_any (ao : Option Addr) (c : Nat) (l : List Int) (w : World) (B : Nat) (h : WordsAt w B ao l) (hn : l.length ≤ 1000000000) :
    Calls Try.prog 8 #[.slice ao l.length c] w fun e w' => ∃ ao' c', e = .returned (.slice ao' (setF l).length c') ∧ (ao' = none → c' = 0) ∧ WordsAt w' w'.heap.size ao' (setF l) ∧ Below w.heap.size w w' := by
  by_cases h0 : l.length = 0
  · obtain rfl : l = [] := List.eq_nil_of_length_eq_zero h0
    rw [setF_nil]
    simp only [List.length_nil]
    go_enter Try.func8, Try.ntmps8
    go_wp2_with fail
    refine (uclone_none ao c _).mono ?_
    rintro e w1 ⟨a1, c1, rfl, hb⟩
    go_wp2_with fail
    refine (u64_Sort_int_nil a1 c1 _).mono ?_
    rintro e w2 ⟨rfl, hw⟩
    rw [hw]
    clear hw
    go_wp2_with fail
    refine (ucompact_none a1 c1 _).mono ?_
    rintro e w2 ⟨rfl, rfl⟩
    go_wp2_with fail
    refine (uclip_any a1 0 c1 _ (Nat.zero_le _)).mono ?_
    rintro e w2 ⟨rfl, rfl⟩
    go_wp2
    go_ret
    exact ⟨_, _, rfl, fun _ => rfl, fun h => by simp at h, hb⟩
  · obtain ⟨b, off, rfl, hlt, hc⟩ := h (by omega)
    have HC := Lib.hid hc
    obtain ⟨n, hnn⟩ : ∃ n, l.length = n := ⟨_, rfl⟩
    have HCL := Lib.hid (uclone_any b off c l w hn hc)
    have HN := Lib.hid hnn
    rw [hnn] at hn h0 HCL ⊢
    clear hc hnn h
    go_enter Try.func8, Try.ntmps8
    go_wp2_with fail
    refine HCL.out.mono ?_
    rintro e w1 ⟨v, rfl, hown, hb1⟩
    obtain ⟨a1, c1, rfl, hnc, _⟩ := own_form hown
    obtain ⟨g, rfl, hg0, hg, _, hH⟩ := holds_own (by omega) hown
    have HO := Lib.hid hH
    have HS := Lib.hid (u64_slices_Sort_int g 0 c1 l w1 hH hg (by rw [HN.out]; omega))
    have HB1 := Lib.hid hb1
    rw [HN.out] at HS
    clear hown hb1 hH
    go_wp2_with fail
    refine HS.out.mono ?_
    rintro e w2 ⟨rfl, q, os, hw2⟩
    have hH2 : Holds encU w2 g 0 (srt l).toArray := by
      rw [hw2]
      refine holds_grow _ _ _ _ _ _ (by simpa [putRow, mapBlock, Sort.ahead] using hg) ?_
      exact holds_putRow _ _ _ _ l.toArray _ (holds_ahead _ _ _ _ _ _ HO.out) (by simp)
    have hb2 : Below w.heap.size w w2 := by
      rw [hw2]
      refine below_growU (below_putRow HB1.out hg0) ?_
      have := HB1.out.size
      simpa [putRow, mapBlock, Sort.ahead] using this
    have hg2 : g < w2.heap.size := by
      rw [hw2]
      have : g < (putRow (Value.int .u64) (Sort.ahead w1 q) g 0 (l.mergeSort fun x y => decide (x ≤ y)).toArray).heap.size := by simpa [putRow, mapBlock, Sort.ahead] using hg
      simp only [grow, Array.size_append]
      omega
    have hsl : (srt l).toArray.size = n := by simp [srt_length, HN.out]
    have HCO := Lib.hid (ucompact_any g 0 c1 (srt l).toArray w2 hH2 (by rw [hsl]; omega) (by rw [hsl]; omega))
    have HB2 := Lib.hid hb2
    have HO2 := Lib.hid hH2
    have HW := Lib.hid hg2
    rw [hsl] at HCO
    have HL : Hid (compactUpTo (srt l).toArray n = setF l) := by show _ = _; unfold setF; rw [srt_length, HN.out]
    rw [HL.out] at HCO
    clear hw2 hH2 hb2 hg2 HS
    go_wp2_with fail
    refine HCO.out.mono ?_
    rintro e w3 ⟨rfl, q3, hw3⟩
    have hle : (setF l).length ≤ n := by rw [← HL.out]; exact cut_length _ _
    have hH3 : Holds encU w3 g 0 (setF l ++ List.replicate (n - (setF l).length) 0).toArray := by
      rw [hw3]
      exact holds_putRow _ _ _ _ (srt l).toArray _ (holds_ahead _ _ _ _ _ _ HO2.out) (by rw [hsl]; simp; omega)
    have hb3 : Below w.heap.size w w3 := by rw [hw3]; exact below_putRow HB2.out hg0
    have hg3 : g < w3.heap.size := by rw [hw3]; simpa [putRow, mapBlock, Sort.ahead] using HW.out
    have HR : Hid (WordsAt w3 w3.heap.size (some ⟨g, 0, none⟩) (setF l)) := by
      have := words_of_holds hg3 hH3 (setF l).length (by simp)
      rwa [List.take_left] at this
    have HB3 := Lib.hid hb3
    have HCP := Lib.hid (uclip_any (some ⟨g, 0, none⟩) (setF l).length c1 w3 (by omega))
    clear hw3 hH3 hb3 hg3
    go_wp2_with fail
    refine HCP.out.mono ?_
    rintro e w4 ⟨rfl, rfl⟩
    go_wp2
    go_ret
    exact ⟨_, _, rfl, fun h => (by cases h), HR.out, HB3.out⟩
end Go.Proofs.Ytkjfdaleamonaaa
