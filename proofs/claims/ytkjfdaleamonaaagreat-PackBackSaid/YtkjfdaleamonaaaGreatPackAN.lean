/- Joined: PlE: contracts and plain laws, each with its own heading below. -/
import Derived.Test.YtkjfdaleamonaaaGreatPackAM
import Derived.Test.YtkjfdaleamonaaaGreatPackAJ
/- Plain laws on packF: whether it covers a word; its length. (The same stand in PackCoversW, under a name of their own.) -/
namespace Go.Proofs.YtkjfdaleamonaaaGreat
open Go.RowKit Go.Lib Wd

theorem cov_pk {R : Nat} {l : List Int} (hs : Sized R l) {y : E2} (hy : okB R y = true) : covB (packF R l) (wordN R y) = decide ((wordN R y : Int) ∈ l) := by
  obtain ⟨a1, a2, a3⟩ := word_cell hy
  have hR := (okB_parts hy).1
  rw [Bool.eq_iff_iff, decide_eq_true_eq, ← pk_cov hs hy]
  unfold covB
  rw [a1, Bool.true_and, List.any_eq_true]
  have key : ∀ v ∈ packF R l, (wiB (wordN R y) v.toNat = true ↔ (wordN R y : Int) ∈ dsV R v) := fun v hv => by
    obtain ⟨k, hk, z, hz, rfl⟩ := pk_sized hs hv
    obtain ⟨b1, b2, b3⟩ := word_cell hz
    rw [dsV_word' hz, ds_mem (R - k) k z (by omega) hz, Int.toNat_natCast]
    unfold wiB
    rw [b1]
    unfold cvR cvZ winB
    rw [if_pos a1, if_pos a1, if_pos b1, if_pos b1, a2, a3, b2, b3, hy, hz, decide_eq_true (by omega), show ((R : Int) - (k : Int)).toNat = R - k by omega, show k + (R - k) = R by omega]
    simp only [Bool.true_and, decide_eq_true_eq]
    constructor
    · intro h; exact ⟨y, hy, h, rfl⟩
    · rintro ⟨y', hy', h, e⟩
      rw [(word_inj hy hy' (by omega)).2]; exact h
  constructor
  · rintro ⟨v, hv, h⟩; exact ⟨v, hv, (key v hv).1 h⟩
  · rintro ⟨v, hv, h⟩; exact ⟨v, hv, (key v hv).2 h⟩
theorem cov_0 (l : List Int) : covB l 0 = false := by unfold covB; rw [isW0]; rfl
theorem pk_64 {R : Nat} {l : List Int} (hs : Sized R l) : In64 (packF R l) := fun v hv => by
  obtain ⟨k, hk, z, hz, rfl⟩ := pk_sized hs hv
  have := (wordN_lt hz).1
  exact ⟨by omega, by omega⟩
theorem pk_len {R : Nat} {l : List Int} (hs : Sized R l) (hR : R ≤ 12) (hl : l.length ≤ 20000) : (packF R l).length ≤ 20000 := by
  have h1 := pk_sum hs hR
  have h2 := setF_length l
  have h3 : ∀ (R : Nat) (m : List Int), m.length ≤ sumS R m := fun R m => by
    induction m with
    | nil => exact Nat.le_refl _
    | cons v m ih =>
      show m.length + 1 ≤ 7 ^ (R - rW v.toNat) + sumS R m
      have : 0 < 7 ^ (R - rW v.toNat) := Nat.pow_pos (by decide)
      omega
  have := h3 R (packF R l)
  omega
theorem pk_mem_eq {R : Nat} {l m : List Int} (h : ∀ x, x ∈ l ↔ x ∈ m) : packF R l = packF R m := by
  have e : setF l = setF m := (setF_up l).ext (setF_up m) fun x => by rw [setF_mem, setF_mem, h]
  unfold packF
  rw [e]
end Go.Proofs.YtkjfdaleamonaaaGreat
