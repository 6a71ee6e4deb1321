/- Joined: PlF: contracts and plain laws, each with its own heading below. -/
import Derived.Test.YtkjfdaleamonaaaGreatPackAN
import Derived.Test.YtkjfdaleamonaaaGreatPackAM
/- Plain law on packF: no seven brothers. -/
namespace Go.Proofs.YtkjfdaleamonaaaGreat
open Go.RowKit Go.Lib Wd

def broF (q : Int) (v : Int) : Bool := (parE v.toNat == 0) && (parI v == q)
theorem word_par {k : Nat} {z : E2} (hz : okB k z = true) : (k = 0 ∧ parE (wordN k z) = 3) ∨ ∃ j, k = j + 1 ∧ parE (wordN k z) = 0 ∧ parI (wordN k z : Int) = (wordN j (upE z) : Int) ∧ okB j (upE z) = true := by
  rcases par_word hz with h | ⟨j, e, h1, h2, h3⟩
  · exact .inl h
  · exact .inr ⟨j, e, h1, by unfold parI; rw [Int.toNat_natCast, h2], h3⟩
theorem pk_bro {R : Nat} {l : List Int} (hs : Sized R l) {u : Int} (hu : u ∈ packF R l) (h0 : parE u.toNat = 0) : ((packF R l).filter (broF (parI u))).length < 7 := by
  obtain ⟨k, hk, z, hz, rfl⟩ := pk_sized hs hu
  rw [Int.toNat_natCast] at h0
  rcases word_par hz with ⟨-, e⟩ | ⟨j, rfl, -, e2, hj⟩
  · rw [e] at h0; cases h0
  · rw [e2]
    have hj12 : j + 1 ≤ 12 := (okB_parts hz).1
    have hup : Up ((packF R l).filter (broF (wordN j (upE z) : Int))) := filter_up (setF_up _) _
    have hmem : ∀ v ∈ (packF R l).filter (broF (wordN j (upE z) : Int)), v ∈ kidsW j (wordN j (upE z)) := fun v hv => by
      obtain ⟨hv1, hv2⟩ := List.mem_filter.1 hv
      obtain ⟨k', -, y, hy, rfl⟩ := pk_sized hs hv1
      unfold broF at hv2
      rw [Bool.and_eq_true, beq_iff_eq, beq_iff_eq, Int.toNat_natCast] at hv2
      rcases word_par hy with ⟨-, e⟩ | ⟨j', rfl, -, e3, hj'⟩
      · rw [e] at hv2; cases hv2.1
      · rw [e3] at hv2
        obtain ⟨e4, e5⟩ := word_inj hj' hj (by omega)
        subst e4
        rw [← e5]
        exact kid_of hy
    obtain ⟨h1, h2⟩ := kids_full hj12 (B := ((packF R l).filter (broF (wordN j (upE z) : Int))).reverse) hup.rev (fun v hv => hmem v (List.mem_reverse.1 hv))
    rw [List.length_reverse] at h1 h2
    rcases Nat.lt_or_ge ((packF R l).filter (broF (wordN j (upE z) : Int))).length 7 with h | h
    · exact h
    · exfalso
      have h3 := h2.1 (by omega)
      refine pack_bro R (setF l) (sized_set hs) j (upE z) hj12 hj fun v hv => ?_
      exact (setF_mem _ _).1 (List.mem_filter.1 (List.mem_reverse.1 (h3 v hv))).1
end Go.Proofs.YtkjfdaleamonaaaGreat
