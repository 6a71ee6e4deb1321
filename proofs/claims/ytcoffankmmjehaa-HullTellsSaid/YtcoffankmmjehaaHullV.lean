/- Plain laws: a hull wound round from its least point on. -/
import Derived.Test.YtcoffankmmjehaaHullU
namespace Go.Proofs.Ytcoffankmmjehaa.Hull
open Go.Lib Go.RowKit
/-- What is wound round some points: all corners, those of a line too, or the only point. -/
structure Wound (l H : List Pt) : Prop where
  pos : 0 < H.length
  mem : ∀ i, i < H.length → pg H i ∈ l
  first : ∀ p ∈ l, p = pg H 0 ∨ Lt 1 (pg H 0) p
  goes : (H.length = 1 ∧ ∀ p ∈ l, p = pg H 0) ∨ (2 ≤ H.length ∧ Round (fun p => p ∈ l) H)
  le : H.length ≤ l.length
  hull : okB l = true → hullF l = if 3 ≤ H.length then H else []
theorem wound_of {l : List Pt} (hl : 0 < l.length) : ∃ H, Wound l H := by
  obtain ⟨L, U, hb⟩ := both_of hl
  have hlen := ring_length L U
  have hle := hb.lens
  have p1 := hb.lo.pos
  have p2 := hb.hi.pos
  by_cases h1 : L.length = 1
  · have h2 := hle.1 h1
    have hall : ∀ p ∈ l, p = pg L 0 := fun p hp => by
      rcases hb.lo.first p hp with h | h
      · exact h
      · rcases hb.lo.last p hp with h3 | h3
        · rw [h1] at h3; exact h3
        · rw [h1] at h3; exact (lt_asymm' sg1 h h3).elim
    refine ⟨[pg L 0], ⟨by simp, fun i hi => ?_, fun p hp => .inl (hall p hp), .inl ⟨rfl, hall⟩, by simp; omega, fun hok => ?_⟩⟩
    · simp at hi; subst hi; exact hb.lo.mem 0 p1
    · rw [hullF_of hok hb, if_neg (by omega), if_neg (by simp)]
  · have hr := ring_round hb (by omega)
    have h2 : U.length ≠ 1 := fun e => h1 (hle.2 e)
    refine ⟨ring L U, ⟨by omega, fun i hi => ring_mem hb hi, hr.first, .inr ⟨by omega, hr⟩, nodup_le _ _ ?_ fun p hp => ?_, fun hok => hullF_of hok hb⟩⟩
    · have : (ring L U).Pairwise (· ≠ ·) := by
        rw [List.pairwise_iff_getElem]
        intro i j hi hj hij
        have := hr.nodup hij hj
        unfold pg at this
        rwa [List.getD_eq_getElem?_getD, List.getElem?_eq_getElem hi, Option.getD_some, List.getD_eq_getElem?_getD, List.getElem?_eq_getElem hj, Option.getD_some] at this
      exact this
    · obtain ⟨i, hi, rfl⟩ := mem_pg hp
      exact ring_mem hb hi
/-- The next corner behind a, as found among the first i points. -/
def scanTo (l : List Pt) (a : Pt) : Nat → Pt
  | 0 => a
  | i + 1 => if pg l i = a then scanTo l a i else if scanTo l a i = a then pg l i else
    if turn a (scanTo l a i) (pg l i) < 0 ∨ (turn a (scanTo l a i) (pg l i) = 0 ∧ mag a (scanTo l a i) < mag a (pg l i)) then pg l i else scanTo l a i
def scanStep (a x p : Pt) : Pt := if p = a then x else if x = a then p else if turn a x p < 0 ∨ (turn a x p = 0 ∧ mag a x < mag a p) then p else x
theorem scan_succ (l : List Pt) (a : Pt) (i : Nat) : scanTo l a (i + 1) = scanStep a (scanTo l a i) (pg l i) := rfl
theorem scan_in (l : List Pt) (a : Pt) : ∀ i, i ≤ l.length → scanTo l a i = a ∨ scanTo l a i ∈ l
  | 0, _ => .inl rfl
  | i + 1, h => by
    have ih := scan_in l a i (by omega)
    have hm : pg l i ∈ l := pg_mem (by omega)
    rw [scan_succ]
    generalize scanTo l a i = x at ih
    generalize pg l i = p at hm
    unfold scanStep
    split
    · exact ih
    · split
      · exact .inr hm
      · split
        · exact .inr hm
        · exact ih
theorem scan_found {l : List Pt} {a q : Pt} (h : Nx (fun p => p ∈ l) a q) : ∀ i, i ≤ l.length → (∃ j, j < i ∧ pg l j = q) → scanTo l a i = q
  | 0, _, ⟨j, hj, _⟩ => by omega
  | i + 1, hi, ⟨j, hj, hq⟩ => by
    have hne : a ≠ q := h.ne
    have hin := scan_in l a i (by omega)
    have hm : pg l i ∈ l := pg_mem (by omega)
    rw [scan_succ]
    unfold scanStep
    by_cases hp : pg l i = q
    · rw [if_neg (fun e => hne (e.symm.trans hp))]
      by_cases hx : scanTo l a i = a
      · rw [if_pos hx, hp]
      · rw [if_neg hx]
        by_cases hxq : scanTo l a i = q
        · rw [hxq, hp]; split <;> rfl
        · have := h.takes (hin.resolve_left hx) hxq
          rw [← hp] at this
          rw [if_pos this, hp]
    · have hji : j < i := by
        rcases Nat.lt_or_ge j i with h1 | h1
        · exact h1
        · have : j = i := by omega
          rw [this] at hq; exact absurd hq hp
      have ih := scan_found h i (by omega) ⟨j, hji, hq⟩
      rw [ih]
      split
      · rfl
      · rw [if_neg (fun e => hne e.symm), if_neg (h.stays hm)]
theorem scan_same {l : List Pt} {a : Pt} (h : ∀ p ∈ l, p = a) : ∀ i, i ≤ l.length → scanTo l a i = a
  | 0, _ => rfl
  | i + 1, hi => by
    rw [scan_succ]
    unfold scanStep
    rw [if_pos (h _ (pg_mem (by omega)))]
    exact scan_same h i (by omega)
/-- What the scan finds from the corner k on. -/
theorem Wound.scan {l H : List Pt} (h : Wound l H) {k : Nat} (hk : k < H.length) : scanTo l (pg H k) l.length = nx H k := by
  rcases h.goes with ⟨h1, h2⟩ | ⟨h1, h2⟩
  · have e : k = 0 := by omega
    subst e
    rw [scan_same h2 _ (Nat.le_refl _)]
    unfold nx; rw [h1]
  · have hn := h2.next k hk
    have hq : nx H k ∈ l := by unfold nx; exact h.mem _ (Nat.mod_lt _ (by omega))
    obtain ⟨j, hj, e⟩ := mem_pg hq
    exact scan_found hn l.length (Nat.le_refl _) ⟨j, hj, e.symm⟩
/-- The last corner's next one is the first. -/
theorem nx_last {H : List Pt} {k : Nat} (hk : k + 1 = H.length) : nx H k = pg H 0 := by unfold nx; rw [hk, Nat.mod_self]
theorem nx_next {H : List Pt} {k : Nat} (hk : k + 1 < H.length) : nx H k = pg H (k + 1) := by unfold nx; rw [Nat.mod_eq_of_lt hk]
theorem Wound.on {l H : List Pt} (h : Wound l H) {k : Nat} (hk : k + 1 < H.length) : nx H k ≠ pg H 0 ∧ nx H k ≠ pg H k := by
  rcases h.goes with ⟨h1, _⟩ | ⟨h1, h2⟩
  · omega
  · rw [nx_next hk]
    refine ⟨h2.back _ (by omega) hk, fun e => ?_⟩
    have := (h2.next k (by omega)).ne
    rw [nx_next hk] at this
    exact this e.symm
/-- The least point is the first corner. -/
theorem Wound.least {l H : List Pt} (h : Wound l H) {f : Pt} (hf : f ∈ l) (hl : ∀ p ∈ l, ltB p f = false) : f = pg H 0 := by
  rcases h.first f hf with h1 | h1
  · exact h1
  · have := hl _ (h.mem 0 h.pos)
    rw [(ltB_iff _ _).2 h1] at this; cases this
end Go.Proofs.Ytcoffankmmjehaa.Hull
