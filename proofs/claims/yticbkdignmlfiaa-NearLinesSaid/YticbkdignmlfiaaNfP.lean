/- Plain laws: a ring's numbers are told once each; lists of words that rise. -/
import Derived.Test.YticbkdignmlfiaaNfI
import Derived.Test.YticbkdignmlfiaaNfM
namespace Go.Proofs.Yticbkdignmlfiaa
open Go.RowKit Go.Lib Wd

theorem unit_ne (s : Nat) : ¬ ((unitE s).1 = 0 ∧ (unitE s).2 = 0) := by
  unfold unitE; split <;> simp
theorem line_nodup (c u : E2) (k : Nat) (hu : ¬ (u.1 = 0 ∧ u.2 = 0)) : (lineP c u k).Nodup := by
  unfold lineP
  refine List.pairwise_map.2 ((List.nodup_range (n := k)).imp fun {a b} hab h => hab ?_)
  unfold ptP at h
  simp only [Prod.mk.injEq] at h
  obtain ⟨h1, h2⟩ := h
  have e1 : (a : Int) * u.1 = b * u.1 := by omega
  have e2 : (a : Int) * u.2 = b * u.2 := by omega
  have : u.1 ≠ 0 ∨ u.2 ≠ 0 := by omega
  rcases this with h | h
  · have := Int.eq_of_mul_eq_mul_right h e1; omega
  · have := Int.eq_of_mul_eq_mul_right h e2; omega
theorem ring_nodup (z : E2) (k : Nat) : (ringL z k).Nodup := by
  obtain ⟨c0, c1, c2, c3, c4, c5⟩ := corn_at z k
  unfold ringL
  split
  · simp
  · simp only [sidesP, List.nil_append, List.nodup_append, List.mem_append]
    refine ⟨⟨⟨⟨⟨line_nodup _ _ _ (unit_ne _), line_nodup _ _ _ (unit_ne _), ?_⟩, line_nodup _ _ _ (unit_ne _), ?_⟩, line_nodup _ _ _ (unit_ne _), ?_⟩, line_nodup _ _ _ (unit_ne _), ?_⟩, line_nodup _ _ _ (unit_ne _), ?_⟩
    all_goals
      rintro ⟨a, b⟩ ha ⟨p, q⟩ hb he
      simp only [Prod.mk.injEq] at he
      obtain ⟨rfl, rfl⟩ := he
      simp only [lineP_mem, c0, c1, c2, c3, c4, c5, unitE, Prod.mk.injEq] at ha hb
      obtain ⟨j, h1, h2, h3⟩ := hb
    · obtain ⟨i, g1, g2, g3⟩ := ha; omega
    · rcases ha with ⟨i, g1, g2, g3⟩ | ⟨i, g1, g2, g3⟩ <;> omega
    · rcases ha with (⟨i, g1, g2, g3⟩ | ⟨i, g1, g2, g3⟩) | ⟨i, g1, g2, g3⟩ <;> omega
    · rcases ha with ((⟨i, g1, g2, g3⟩ | ⟨i, g1, g2, g3⟩) | ⟨i, g1, g2, g3⟩) | ⟨i, g1, g2, g3⟩ <;> omega
    · rcases ha with (((⟨i, g1, g2, g3⟩ | ⟨i, g1, g2, g3⟩) | ⟨i, g1, g2, g3⟩) | ⟨i, g1, g2, g3⟩) | ⟨i, g1, g2, g3⟩ <;> omega
theorem ring_steps (z y : E2) (k : Nat) : y ∈ ringL z k ↔ stepsN (subE y z) = k := by rw [ring_mem, hex_ring]
theorem all_steps (z y : E2) (f n : Nat) : y ∈ allR z f n ↔ (f : Int) ≤ stepsN (subE y z) ∧ stepsN (subE y z) < f + n := by
  induction n with
  | zero => unfold allR; simp only [List.not_mem_nil, false_iff]; omega
  | succ n ih =>
    show y ∈ allR z f n ++ ringL z (f + n) ↔ _
    rw [List.mem_append, ih, ring_steps]
    omega
theorem all_nodup (z : E2) (f n : Nat) : (allR z f n).Nodup := by
  induction n with
  | zero => exact List.nodup_nil
  | succ n ih =>
    show (allR z f n ++ ringL z (f + n)).Nodup
    rw [List.nodup_append]
    refine ⟨ih, ring_nodup _ _, fun a ha b hb e => ?_⟩
    subst e
    rw [all_steps] at ha
    rw [ring_steps] at hb
    omega
theorem tell_nodup {r : Nat} {L : List E2} (h : L.Nodup) : (tellL r L).Nodup := by
  unfold tellL
  rw [List.nodup_iff_pairwise_ne, List.pairwise_map]
  refine (List.Pairwise.imp_of_mem (l := L.filter fun z => okB r z) (R := (· ≠ ·)) ?_ (h.filter _))
  intro a b ha hb hab e
  have oa := (List.mem_filter.1 ha).2
  have ob := (List.mem_filter.1 hb).2
  have e2 : wordN r a = wordN r b := by rw [Int.toNat_natCast] at e; omega
  exact hab (word_inj oa ob e2).2
theorem srt_up {l : List Int} (h : l.Nodup) : Up (srt l) := by
  have hp : (srt l).Perm l := List.mergeSort_perm l _
  have hn : (srt l).Nodup := hp.nodup_iff.2 h
  have hs := srt_sorted l
  rw [List.nodup_iff_pairwise_ne] at hn
  exact (hs.and hn).imp fun ⟨h1, h2⟩ => by omega
theorem tell_mem {r : Nat} {L : List E2} {v : Int} : v ∈ tellL r L ↔ ∃ y, y ∈ L ∧ okB r y = true ∧ v = (wordN r y : Int) := by
  unfold tellL
  rw [List.mem_map]
  constructor
  · rintro ⟨y, hy, rfl⟩
    obtain ⟨h1, h2⟩ := List.mem_filter.1 hy
    exact ⟨y, h1, h2, by rw [Int.toNat_natCast]⟩
  · rintro ⟨y, h1, h2, rfl⟩
    exact ⟨y, List.mem_filter.2 ⟨h1, h2⟩, by rw [Int.toNat_natCast]⟩
theorem up_lt {l : List Int} (h : Up l) {i j : Nat} (hij : i < j) (hj : j < l.length) : l.getD i 0 < l.getD j 0 := by
  have := List.pairwise_iff_getElem.1 h i j (by omega) hj hij
  rw [List.getD_eq_getElem?_getD, List.getD_eq_getElem?_getD, List.getElem?_eq_getElem (by omega), List.getElem?_eq_getElem hj]
  exact this
end Go.Proofs.Yticbkdignmlfiaa
