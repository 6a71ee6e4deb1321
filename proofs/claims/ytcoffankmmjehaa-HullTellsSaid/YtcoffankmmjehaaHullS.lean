/- Plain laws on the hull as a function: its points, its own hull, what is added, joined, moved; areas. -/
import Derived.Test.YtcoffankmmjehaaHullI
namespace Go.Proofs.Ytcoffankmmjehaa.Hull
open Go.Lib Go.RowKit
theorem hullF_nil : hullF [] = [] := by unfold hullF; rw [if_neg (fun h => by simp at h)]
theorem hullF_mem {l : List Pt} {p : Pt} (h : p ∈ hullF l) : p ∈ l := by
  have hne : hullF l ≠ [] := fun e => by rw [e] at h; simp at h
  obtain ⟨_, L, U, hb, e, _⟩ := hullF_both hne
  rw [e] at h
  obtain ⟨i, hi, rfl⟩ := mem_pg h
  exact ring_mem hb hi
theorem hullF_round {l : List Pt} (h : hullF l ≠ []) : Round (fun p => p ∈ l) (hullF l) ∧ 3 ≤ (hullF l).length := by
  obtain ⟨_, L, U, hb, e, h3⟩ := hullF_both h
  rw [e]
  exact ⟨ring_round hb (by omega), h3⟩
theorem hull_pos {l : List Pt} (h : hullF l ≠ []) : 3 ≤ (hullF l).length := (hullF_round h).2
theorem nodup_le : ∀ (H l : List Pt), H.Nodup → (∀ p ∈ H, p ∈ l) → H.length ≤ l.length
  | [], _, _, _ => Nat.zero_le _
  | a :: H, l, hn, hs => by
    have ha : a ∈ l := hs a (by simp)
    have h1 := nodup_le H (l.erase a) (List.nodup_cons.1 hn).2 fun p hp => by
      rw [List.mem_erase_of_ne (fun e => (List.nodup_cons.1 hn).1 (by rw [← e]; exact hp))]
      exact hs p (by simp [hp])
    rw [List.length_erase_of_mem ha] at h1
    have : 0 < l.length := List.length_pos_of_mem ha
    simp only [List.length_cons]; omega
theorem hullF_len (l : List Pt) : (hullF l).length ≤ l.length := by
  by_cases h : hullF l = []
  · rw [h]; simp
  · refine nodup_le _ _ ?_ fun p hp => hullF_mem hp
    have hr := (hullF_round h).1
    have : (hullF l).Pairwise (· ≠ ·) := by
      rw [List.pairwise_iff_getElem]
      intro i j hi hj hij
      have := hr.nodup hij hj
      unfold pg at this
      rwa [List.getD_eq_getElem?_getD, List.getElem?_eq_getElem hi, Option.getD_some, List.getD_eq_getElem?_getD, List.getElem?_eq_getElem hj, Option.getD_some] at this
    exact this
theorem okB_sub {l m : List Pt} (h : okB l = true) (hl : m.length ≤ 1000) (hs : ∀ p ∈ m, p ∈ l) : okB m = true := (okB_iff m).2 ⟨hl, fun p hp => ((okB_iff l).1 h).2 p (hs p hp)⟩
theorem hullF_ok {l : List Pt} (h : okB l = true) : okB (hullF l) = true := okB_sub h (Nat.le_trans (hullF_len l) ((okB_iff l).1 h).1) fun _ hp => hullF_mem hp
theorem hullF_idem (l : List Pt) : hullF (hullF l) = hullF l := by
  by_cases h : hullF l = []
  · rw [h]; exact hullF_nil
  · obtain ⟨hok, L, U, hb, e, h3⟩ := hullF_both h
    have := hullF_of (hullF_ok hok) (by rw [e]; exact hb.own (by omega))
    rw [this, if_pos h3, e]
theorem convexF_hull {l : List Pt} (h : hullF l ≠ []) : convexF (hullF l) = true := by
  unfold convexF
  rw [hullF_idem]
  have := hull_pos h
  exact decide_eq_true ⟨by omega, rfl⟩
theorem hull_left {l : List Pt} (h : hullF l ≠ []) {p : Pt} (hp : p ∈ l) : leftF (hullF l) p (hullF l).length = true := by
  unfold leftF
  exact decide_eq_true fun i hi => ((hullF_round h).1.next i hi).left hp
theorem hull_holds {l : List Pt} (h : hullF l ≠ []) {p : Pt} (hp : p ∈ l) : holdsF (hullF l) p = true := by
  unfold holdsF
  rw [convexF_hull h, hull_left h hp, (okB_iff [p]).2 ⟨by simp, fun q hq => by
    rw [List.mem_singleton.1 hq]
    exact ((okB_iff l).1 (hullF_both h).1).2 p hp⟩]
  rfl
/-- A point that is left of all edges adds nothing. -/
theorem hull_add {l m : List Pt} (h : hullF l ≠ []) {p : Pt} (hm : ∀ q, q ∈ m ↔ q ∈ l ∨ q = p) (hok : okB m = true) (hp : leftF (hullF l) p (hullF l).length = true) : hullF m = hullF l := by
  obtain ⟨_, L, U, hb, e, h3⟩ := hullF_both h
  have h1 := of_decide_eq_true hp
  rw [e] at h1
  rw [hullF_of hok ((hb.add h3 h1).of_iff hm), if_pos h3, e]
/-- A hull of more points is empty only if that of less is. -/
theorem hull_sub_ne {l m : List Pt} (h : hullF l ≠ []) (hs : ∀ p ∈ l, p ∈ m) (hok : okB m = true) : hullF m ≠ [] := fun e => by
  obtain ⟨_, L, U, hb, _, h3⟩ := hullF_both h
  have h0 : 0 < l.length := by have := hullF_len l; have := hull_pos h; omega
  obtain ⟨G, K, hg⟩ := both_of (l := m) (List.length_pos_of_mem (hs _ (pg_mem h0)))
  rw [hullF_of hok hg] at e
  by_cases h4 : 3 ≤ (ring G K).length
  · rw [if_pos h4] at e; rw [e] at h4; simp at h4
  · exact hb.not_flat h3 fun p q r hp hq hr => hg.flat (by omega) p q r (hs p hp) (hs q hq) (hs r hr)
theorem hull_area {l m : List Pt} (h : hullF l ≠ []) (hs : ∀ p ∈ l, p ∈ m) (hok : okB m = true) : area (hullF l) ≤ area (hullF m) := by
  obtain ⟨_, L, U, hb, e, h3⟩ := hullF_both h
  obtain ⟨_, G, K, hg, e2, h4⟩ := hullF_both (hull_sub_ne h hs hok)
  rw [e, e2]
  exact area_mono hg hb (fun i hi => hs _ (hb.lo.mem i hi)) fun i hi => hs _ (hb.hi.mem i hi)
theorem hull_same {l m : List Pt} (hm : ∀ p, p ∈ l ↔ p ∈ m) (h1 : okB l = true) (h2 : okB m = true) : hullF l = hullF m := (hullF_is l).unique (hullF_is m) (by rw [h1, h2]) hm
/-- The hull of two lists is that of their hulls. -/
theorem hull_join {l a b m : List Pt} (hl : ∀ p, p ∈ l ↔ p ∈ a ∨ p ∈ b) (hok : okB l = true) (ha : hullF a ≠ []) (hb : hullF b ≠ []) (hm : ∀ p, p ∈ m ↔ p ∈ hullF a ∨ p ∈ hullF b) (hok2 : okB m = true) : hullF l = hullF m := by
  obtain ⟨_, La, Ua, ha1, ea, ha3⟩ := hullF_both ha
  obtain ⟨_, Lb, Ub, hb1, eb, hb3⟩ := hullF_both hb
  have hne : hullF m ≠ [] := by
    refine hull_sub_ne (l := hullF a) (by rw [hullF_idem]; exact ha) (fun p hp => (hm p).2 (.inl hp)) hok2
  obtain ⟨_, G, K, hg, e, h3⟩ := hullF_both hne
  have hT : ∀ p, p ∈ m → p ∈ a ∨ p ∈ b := fun p hp => ((hm p).1 hp).imp hullF_mem hullF_mem
  have h1 := side_join sg1 hg.lo ha1.lo hb1.lo hT (fun i hi => (hm _).2 (.inl (by rw [ea]; exact corner_lo ha1 (by omega) hi))) fun i hi => (hm _).2 (.inr (by rw [eb]; exact corner_lo hb1 (by omega) hi))
  have h2 := side_join sgm hg.hi ha1.hi hb1.hi hT (fun i hi => (hm _).2 (.inl (by rw [ea]; exact corner_hi ha1 (by omega) hi))) fun i hi => (hm _).2 (.inr (by rw [eb]; exact corner_hi hb1 (by omega) hi))
  rw [hullF_of hok ((Both.mk h1 h2).of_iff hl), if_pos h3, e]
theorem hull_flat {l : List Pt} (hok : okB l = true) (h : hullF l = []) : Flat (fun p => p ∈ l) := by
  by_cases h0 : 0 < l.length
  · obtain ⟨L, U, hb⟩ := both_of h0
    rw [hullF_of hok hb] at h
    by_cases h3 : 3 ≤ (ring L U).length
    · rw [if_pos h3] at h; rw [h] at h3; simp at h3
    · exact hb.flat (by omega)
  · intro p q r hp _ _
    have : l = [] := List.eq_nil_of_length_eq_zero (by omega)
    rw [this] at hp; simp at hp
theorem hull_mv {l : List Pt} (d : Pt) (h1 : okB l = true) (h2 : okB (l.map (mv d)) = true) : hullF (l.map (mv d)) = (hullF l).map (mv d) := by
  by_cases h0 : 0 < l.length
  · obtain ⟨L, U, hb⟩ := both_of h0
    have hb2 : Both (fun p => p ∈ l.map (mv d)) (L.map (mv d)) (U.map (mv d)) := by
      refine ⟨(side_mv hb.lo d).of_iff fun p => ?_, (side_mv hb.hi d).of_iff fun p => ?_⟩ <;>
        · rw [List.mem_map]
          exact ⟨fun ⟨q, a, b⟩ => ⟨q, a, b.symm⟩, fun ⟨q, a, b⟩ => ⟨q, a, b.symm⟩⟩
    rw [hullF_of h1 hb, hullF_of h2 hb2, ring_map, List.length_map]
    split <;> rfl
  · have : l = [] := List.eq_nil_of_length_eq_zero (by omega)
    rw [this]; simp [hullF_nil]
/-- Numbers of a list of points are at most M. -/
def Small (M : Int) (l : List Pt) : Prop := ∀ p ∈ l, (-M ≤ p.1 ∧ p.1 ≤ M) ∧ (-M ≤ p.2 ∧ p.2 ≤ M)
theorem Small.ok {M : Int} {l : List Pt} (h : Small M l) (hM : M ≤ 536870912) (hl : l.length ≤ 1000) : okB l = true := (okB_iff l).2 ⟨hl, fun p hp => by
  have := h p hp
  unfold Near; omega⟩
theorem Small.hull {M : Int} {l : List Pt} (h : Small M l) : Small M (hullF l) := fun p hp => h p (hullF_mem hp)
theorem sum_bound (f : Nat → Int) (B : Int) (h0 : 0 ≤ B) : ∀ n, (∀ i, i < n → -B ≤ f i ∧ f i ≤ B) → -(n * B) ≤ ((List.range n).map f).sum ∧ ((List.range n).map f).sum ≤ n * B
  | 0, _ => by simp
  | n + 1, h => by
    have h1 := sum_bound f B h0 n fun i hi => h i (by omega)
    have h2 := h n (by omega)
    have e : ((n + 1 : Nat) : Int) * B = n * B + B := by rw [Int.natCast_add, Int.add_mul]; simp
    rw [sum_range, e]
    omega
theorem area_small {l : List Pt} (h : Small 1000000 l) (hl : l.length ≤ 1000) : wrap64 (area l) = area l := by
  have h1 := sum_bound (fun i => cr (pg l i) (nx l i)) 2000000000000 (by omega) l.length fun i hi => by
    have a := h _ (pg_mem hi)
    have b := h _ (pg_mem (l := l) (i := (i + 1) % l.length) (Nat.mod_lt _ (by omega)))
    have m1 := mul_le (a := (pg l i).1) (b := (nx l i).2) (U := 1000000) (V := 1000000) a.1.1 a.1.2 b.2.1 b.2.2
    have m2 := mul_le (a := (pg l i).2) (b := (nx l i).1) (U := 1000000) (V := 1000000) a.2.1 a.2.2 b.1.1 b.1.2
    show -2000000000000 ≤ cr (pg l i) (nx l i) ∧ cr (pg l i) (nx l i) ≤ 2000000000000
    unfold cr
    omega
  have e : area l = ((List.range l.length).map fun i => cr (pg l i) (nx l i)).sum := rfl
  rw [← e] at h1
  unfold wrap64
  have : (l.length : Int) ≤ 1000 := by omega
  omega
end Go.Proofs.Ytcoffankmmjehaa.Hull
