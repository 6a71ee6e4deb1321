/- Joined: CvK: contracts and plain laws, each with its own heading below. -/
import Derived.Test.YtdbfimdcaacjhaaGreatPackAK
import Derived.Test.YtdbfimdcaacjhaaGreatPackAL
/- Plain laws: counting the greatest cells of a box; boxes of very many cells. -/
namespace Go.Proofs.YtdbfimdcaacjhaaGreat
open Go.RowKit Go.Lib Wd Cv

theorem nodup_sub : ∀ (H l : List E2), H.Nodup → (∀ p ∈ H, p ∈ l) → H.length ≤ l.length
  | [], _, _, _ => Nat.zero_le _
  | a :: H, l, hn, h => by
    rw [List.nodup_cons] at hn
    have ha := h a (by simp)
    have h1 := nodup_sub H (l.erase a) hn.2 fun p hp => (List.mem_erase_of_ne (fun (e : p = a) => hn.1 (e ▸ hp))).2 (h p (by simp [hp]))
    rw [List.length_erase_of_mem ha] at h1
    have := List.length_pos_of_mem ha
    simp only [List.length_cons]
    omega
def lowB (lo hi A : Int) : Int := max (-((-(lo + 3991052 * A)) / 2019914)) (-((4633200 * A + hi) / 5770395))
def upB (lo hi A : Int) : Int := min ((hi + 3991052 * A) / 2019914) ((-4633200 * A - lo) / 5770395)
def cntB (lo hi A : Int) : Nat := (upB lo hi A - lowB lo hi A + 1).toNat
theorem row_iff (lo hi A B : Int) : (lo ≤ -3991052 * A + 2019914 * B ∧ -3991052 * A + 2019914 * B ≤ hi) ∧ (lo ≤ -4633200 * A - 5770395 * B ∧ -4633200 * A - 5770395 * B ≤ hi) ↔ lowB lo hi A ≤ B ∧ B ≤ upB lo hi A := by
  unfold lowB upB; omega
theorem at_base (z : E2) : atE 12 z = (-3991052 * z.1 + 2019914 * z.2, -4633200 * z.1 - 5770395 * z.2) := by
  obtain ⟨_, _, _, _, _, _, _, _, _, _, _, _, q12⟩ := bE_tab
  unfold atE spotE mulE
  rw [q12]
  ext <;> simp only <;> omega
/-- All cells of the greatest size whose centres lie in a square. -/
def gridB (lo hi A0 : Int) : Nat → List E2
  | 0 => []
  | n + 1 => gridB lo hi A0 n ++ (List.range (cntB lo hi (A0 + n))).map fun j : Nat => ((A0 + n : Int), lowB lo hi (A0 + n) + (j : Int))
theorem gridB_mem (lo hi A0 : Int) (z : E2) : ∀ n, z ∈ gridB lo hi A0 n ↔ (A0 ≤ z.1 ∧ z.1 < A0 + n) ∧ lowB lo hi z.1 ≤ z.2 ∧ z.2 ≤ upB lo hi z.1
  | 0 => by
    constructor
    · intro h; cases h
    · rintro ⟨⟨h1, h2⟩, _⟩; exfalso; omega
  | n + 1 => by
    unfold gridB
    rw [List.mem_append, gridB_mem lo hi A0 z n, List.mem_map]
    constructor
    · rintro (⟨⟨h1, h2⟩, h3⟩ | ⟨j, hj, rfl⟩)
      · exact ⟨⟨h1, by omega⟩, h3⟩
      · have hj2 := List.mem_range.1 hj
        unfold cntB at hj2
        simp only
        omega
    · rintro ⟨⟨h1, h2⟩, h3, h4⟩
      by_cases e : z.1 < A0 + n
      · exact .inl ⟨⟨h1, e⟩, h3, h4⟩
      · have e2 : z.1 = A0 + n := by omega
        rw [e2] at h3 h4
        refine .inr ⟨(z.2 - lowB lo hi (A0 + n)).toNat, List.mem_range.2 (by unfold cntB; omega), ?_⟩
        ext <;> simp only <;> omega
theorem gridB_nodup (lo hi A0 : Int) : ∀ n, (gridB lo hi A0 n).Nodup
  | 0 => List.nodup_nil
  | n + 1 => by
    unfold gridB
    rw [List.nodup_append]
    refine ⟨gridB_nodup lo hi A0 n, nodup_map List.nodup_range fun a _ b _ e => ?_, fun a ha b hb e => ?_⟩
    · have := congrArg Prod.snd e
      simp only at this
      omega
    · subst e
      obtain ⟨j, _, rfl⟩ := List.mem_map.1 hb
      have := ((gridB_mem lo hi A0 _ n).1 ha).1.2
      simp only at this
      omega
def sumB (lo hi A0 : Int) : Nat → Nat
  | 0 => 0
  | n + 1 => sumB lo hi A0 n + cntB lo hi (A0 + n)
theorem gridB_length (lo hi A0 : Int) : ∀ n, (gridB lo hi A0 n).length = sumB lo hi A0 n
  | 0 => rfl
  | n + 1 => by
    unfold gridB sumB
    rw [List.length_append, gridB_length lo hi A0 n, List.length_map, List.length_range]
theorem sum_in : sumB 0 536870911 (-128) 129 = 8898 := by kernel_rfl
theorem sum_out : sumB (-3467865) 540338776 (-130) 132 = 9136 := by kernel_rfl
theorem sum_all : sumB 0 1073741823 (-257) 258 = 35593 := by kernel_rfl
/-- A square of the world at the greatest size: how many cells touch it. -/
theorem base_most {D : List E2} (hn : D.Nodup) (h : ∀ z ∈ D, TouchP (hexC 12 z) (triE (0, 0)) (triE (536870911, 536870911))) : D.length ≤ 9136 := by
  have h1 := nodup_sub D (gridB (-3467865) 540338776 (-130) 132) hn fun z hz => by
    have h2 := touch_near (Nat.le_refl 12) (h z hz)
    rw [cen_at, at_base] at h2
    simp only [triE, ddN] at h2
    rw [gridB_mem, ← row_iff]
    omega
  rwa [gridB_length, sum_out] at h1
theorem base_least {hi A0 : Int} {n s : Nat} (hs : sumB 0 hi A0 n = s) {D : List E2} (h : ∀ z, TouchP (hexC 12 z) (triE (0, 0)) (triE (hi, hi)) → z ∈ D) : s ≤ D.length := by
  have h1 := nodup_sub (gridB 0 hi A0 n) D (gridB_nodup _ _ _ _) fun z hz => by
    refine h z (cen_touch (Nat.le_refl 12) ?_)
    rw [inB_iff, at_base]
    have := (row_iff 0 hi z.1 z.2).2 ((gridB_mem _ _ _ _ _).1 hz).2
    simp only
    omega
  rwa [gridB_length, hs] at h1
/-- Very many cells of a finer size about a point. -/
theorem many_near {m : Nat} (hm : m ≤ 3) {lo hi : E2} (c : E2) (h1 : lo.1 + 10000000 ≤ (atE m c).1 ∧ (atE m c).1 + 10000000 ≤ hi.1) (h2 : lo.2 + 10000000 ≤ (atE m c).2 ∧ (atE m c).2 + 10000000 ≤ hi.2) {D : List E2} (h : ∀ z, TouchP (hexC m z) (triE lo) (triE hi) → z ∈ D) : 20164 ≤ D.length := by
  have hn : ((List.range 20164).map fun k : Nat => (c.1 + ((k / 142 : Nat) : Int), c.2 + ((k % 142 : Nat) : Int))).Nodup := nodup_map List.nodup_range fun a _ b _ e => by
    have e1 := congrArg Prod.fst e
    have e2 := congrArg Prod.snd e
    simp only at e1 e2
    omega
  have h3 := nodup_sub _ D hn fun z hz => by
    obtain ⟨k, hk, rfl⟩ := List.mem_map.1 hz
    have hk2 := List.mem_range.1 hk
    refine h _ (cen_touch (by omega) ?_)
    obtain ⟨q0, q1, q2, q3, _⟩ := bE_tab
    obtain ⟨c1, c2⟩ := c
    rw [inB_iff]
    obtain ⟨i, hi⟩ : ∃ i : Nat, k / 142 = i := ⟨_, rfl⟩
    obtain ⟨j, hj⟩ : ∃ j : Nat, k % 142 = j := ⟨_, rfl⟩
    rw [hi, hj]
    have hi2 : i ≤ 142 := by omega
    have hj2 : j ≤ 142 := by omega
    clear hi hj hk hk2 h hn
    rcases (show m = 0 ∨ m = 1 ∨ m = 2 ∨ m = 3 by omega) with rfl | rfl | rfl | rfl <;> simp only [atE, spotE, mulE, q0, q1, q2, q3] at h1 h2 ⊢ <;> omega
  rwa [List.length_map, List.length_range] at h3
theorem near_at {R : Nat} (hR : R ≤ 12) (x y : Int) : (x - 3467865 ≤ (atE (12 - R) (nearE x y R)).1 ∧ (atE (12 - R) (nearE x y R)).1 ≤ x + 3467865) ∧ y - 3467865 ≤ (atE (12 - R) (nearE x y R)).2 ∧ (atE (12 - R) (nearE x y R)).2 ≤ y + 3467865 := by
  have h := near_cen hR x y
  rw [cen_at] at h
  have hd : ddN (12 - R) ≤ 10403595 := by rcases upto12 hR with rfl | rfl | rfl | rfl | rfl | rfl | rfl | rfl | rfl | rfl | rfl | rfl | rfl <;> decide
  simp only [triE] at h
  omega
end Go.Proofs.YtdbfimdcaacjhaaGreat
