/- Contracts of package hull: slices.SortFunc at points; chain. -/
import Derived.Test.YtcoffankmmjehaaHullQ
import Derived.Test.YtcoffankmmjehaaLex5
import Derived.Test.YtcoffankmmjehaaSlfH
import Derived.Shelf.SlSortCmp.NoneTotal
import Derived.Laws.EntriesVeiled
namespace Go.Proofs.Ytcoffankmmjehaa
open Go.RowKit Go.Lib Hull

def encP (x : Pt) : List Value := [.int .i64 x.1, .int .i64 x.2]
theorem lt_cfP (x y : Pt) : ltOf cfP x y = ltB x y := by
  unfold ltOf cfP nC ltB
  rw [Bool.eq_iff_iff]
  simp
  split <;> split <;> (try split) <;> omega
theorem swoP : Go.Sort.SWO (ltOf cfP) where
  irrefl x := by rw [lt_cfP]; unfold ltB; simp
  trans x y z h1 h2 := by rw [lt_cfP] at *; unfold ltB at *; simp at *; omega
  ntrans x y z h1 h2 := by rw [lt_cfP] at *; unfold ltB at *; simp at *; omega
theorem cmpLays_p (blk off size : Nat) (w : World) : CmpLays Try.prog 23 #[] encP 2 cfP blk off size w := fun _ _ _ _ x y => against_any x y _
theorem flatP {d : Array Pt} {t : Nat} (h : t < d.size * 2) : (pV d.toList)[t]? = some (Go.Sort.flatK encP 2 d)[t]! := by
  rw [Go.Sort.get_flatK _ _ _ _ h]
  have hd : t / 2 < d.size := by omega
  have e : pg d.toList (t / 2) = d[t / 2]! := pg_arr d _
  have h2 := pV_get d.toList (t / 2) (by simpa using hd)
  rw [e] at h2
  rcases (show t % 2 = 0 ∨ t % 2 = 1 by omega) with q | q
  · rw [show t / 2 * 2 = t by omega] at h2
    rw [h2.1, q]; rfl
  · rw [show t / 2 * 2 + 1 = t by omega] at h2
    rw [h2.2, q]; rfl
theorem holds_own {w : World} {base g n cap : Nat} {l : List Pt} (hn : n = l.length) (h : w.ownsRow base 41 2 (.slice (some ⟨g, 0, none⟩) n cap) n (pV l)) : Go.Sort.HoldsK encP 2 w g 0 l.toArray := by
  obtain ⟨cur, hh, _, hnc, _, hcs, htake⟩ := own_block h
  intro t ht
  have ht' : t < l.toArray.size * 2 := by simpa using ht
  have h1 := flatP ht'
  have hsz : l.toArray.size = l.length := by simp
  have h2 : cur[t]? = (pV l)[t]? := by rw [← htake, List.getElem?_take_of_lt (by omega), Array.getElem?_toList]
  refine ⟨?_, by simp [World.frozen?, hh]⟩
  rw [Nat.zero_add]
  have h3 : w.cell? ⟨g, t, none⟩ = cur[t]? := by simp [World.cell?, hh]
  rw [h3, h2, h1]
  rfl
theorem own_sorted {w : World} {base g n cap : Nat} {l : List Pt} (hn : n = l.length) (h : w.ownsRow base 41 2 (.slice (some ⟨g, 0, none⟩) n cap) n (pV l)) (d' : Array Pt) (hd : d'.size = n) (q : Nat) (os : Array Obj) :
    (sortWorldK encP 2 w g 0 q d' os).ownsRow base 41 2 (.slice (some ⟨g, 0, none⟩) n cap) n (pV d'.toList) ∧ Turn (fun k => k = g) w (sortWorldK encP 2 w g 0 q d' os) := by
  obtain ⟨cur, hh, hbg, hnc, hcm, hcs, htake⟩ := own_block h
  have hg : g < w.heap.size := (Array.getElem?_eq_some_iff.1 hh).1
  have hs : (Go.Sort.putRowK encP 2 (Go.Sort.ahead w q) g 0 d').heap.size = w.heap.size := Go.Sort.size_putRow _ _ _ _ _
  have hold : ∀ k, k < w.heap.size → (sortWorldK encP 2 w g 0 q d' os).heap[k]? = (Go.Sort.mapBlock w g (Go.Sort.putCells id 0 (Go.Sort.flatK encP 2 d'))).heap[k]? := fun k hk => by
    unfold sortWorldK
    rw [Go.Sort.heap_grow_old _ _ (by rw [hs]; exact hk)]
    rfl
  have hnew : (sortWorldK encP 2 w g 0 q d' os).heap[g]? = some (.cells (Go.Sort.putCells id 0 (Go.Sort.flatK encP 2 d') cur) 41 (0, 0)) := by
    rw [hold g hg]
    simp [Go.Sort.mapBlock, Array.getElem?_modify, hh, Go.Sort.onCells]
  refine ⟨⟨by rw [pV_length]; simp [hd], .inr ⟨g, cap, _, rfl, hbg, hnew, hnc, hcm, by simp [Go.Sort.putCells, hcs], ?_⟩⟩, rfl, rfl, rfl, ?_, fun k hk hs => ?_⟩
  · apply List.ext_getElem?
    intro t
    by_cases ht : t < n * 2
    · rw [List.getElem?_take_of_lt ht, Array.getElem?_toList, flatP (by rw [hd]; exact ht)]
      have hb : t < cur.size := by omega
      simp only [Go.Sort.putCells, Array.getElem?_mapIdx, Array.getElem?_eq_getElem hb, Option.map_some]
      rw [if_pos (by simp [hd]; omega)]
      rfl
    · rw [List.getElem?_take_eq_none (by omega), List.getElem?_eq_none (by rw [pV_length]; simp [hd]; omega)]
  · unfold sortWorldK
    rw [Go.Sort.size_grow, hs]; omega
  · rw [hold k hk]
    simp [Go.Sort.mapBlock, Array.getElem?_modify, Ne.symm hs]
def SortedTo (w : World) (base g n cap : Nat) (l : List Pt) (e : Ending) (w' : World) : Prop :=
  e = .returned (.tuple #[]) ∧ ∃ R, R.Perm l ∧ (∀ i j, i < j → j < R.length → ltB (pg R j) (pg R i) = false) ∧ w'.ownsRow base 41 2 (.slice (some ⟨g, 0, none⟩) n cap) n (pV R) ∧ Turn (fun k => k = g) w w'
/-- slices.SortFunc at a row of the call's own. -/
theorem sortf_own {w : World} {base n cap g : Nat} {l : List Pt} (h : w.ownsRow base 41 2 (.slice (some ⟨g, 0, none⟩) n cap) n (pV l)) (hbig : n < 4611686018427387904) :
    Calls Try.prog 22 #[.slice (some ⟨g, 0, none⟩) n cap, .func (.func 23) #[] #[]] w (SortedTo w base g n cap l) := by
  have hn : n = l.length := (own_len h).symm
  have eg : ∀ args w, (callFunc 23 args).run Try.prog w = .ok (.enter 23 args) w := enters_of Try.func23 (by kernel_rfl) rfl
  have hsz : l.toArray.size = n := by simp [hn]
  have hcon := AnyQ.slices_SortFunc laySortW 2 (by exact Try.isAgg41) (by exact Try.sizeOf41) encP (fun _ => rfl) (fun x v hv => by simp [encP] at hv; rcases hv with rfl | rfl <;> rfl) cfP swoP 23 #[] g 0 cap l.toArray w eg (cmpLays_p g 0 _ w) (holds_own hn h) (Array.getElem?_eq_some_iff.1 (own_block h).choose_spec.1).1 (by rw [hsz]; exact hbig)
  rw [hsz] at hcon
  refine hcon.mono ?_
  rintro e w' ⟨rfl, d', q, os, hp, hs, rfl⟩
  have hd : d'.size = n := by rw [hp.1, hsz]
  obtain ⟨h1, h2⟩ := own_sorted hn h d' hd q os
  refine ⟨rfl, d'.toList, ?_, fun i j hij hj => ?_, h1, h2⟩
  · have := hp.2.2
    rw [← hsz] at hd
    rw [show n = l.toArray.size from hsz.symm] at this
    rw [show d'.extract 0 l.toArray.size = d' by rw [← hd]; simp, show l.toArray.extract 0 l.toArray.size = l.toArray by simp] at this
    simpa using this
  · have hj' : j < d'.size := by simpa using hj
    rw [pg_arr, pg_arr, ← lt_cfP]
    exact hs i j (Nat.zero_le _) hij (by omega)
theorem near_of {l : List Pt} (h : ∀ p ∈ l, Near p) {i : Nat} (hi : i < l.length) : Near (pg l i) := h _ (pg_mem hi)
def Chained (w : World) (l : List Pt) (e : Ending) (w' : World) : Prop :=
  ∃ g c, e = .returned (.slice (some ⟨g, 0, none⟩) ((chainF l).length - 1) c) ∧ w'.ownsRow w.heap.size 26 2 (.slice (some ⟨g, 0, none⟩) ((chainF l).length - 1) c) ((chainF l).length - 1) (pV (chainF l).dropLast) ∧ Below w.heap.size w w'
end Go.Proofs.Ytcoffankmmjehaa
