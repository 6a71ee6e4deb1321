/- A queue's calls told by which weights it holds. -/
import Derived.Test.YtbmhnadnomngnaaQI
namespace Go.Proofs.Ytbmhnadnomngnaa
open Go.RowKit Go.Lib

/-- No ID is there twice. -/
def Ids (L : List Wt) : Prop := ∀ i j, i < L.length → j < L.length → (wg L i).1 = (wg L j).1 → i = j
theorem qIs_ids {w : World} {q : Nat} {F : Nat → Prop} {L : List Wt} (h : QIs w q F L) : Ids L := fun i j hi hj e => by
  obtain ⟨r, b, vo, c, _, h2, _⟩ := h
  obtain ⟨f, _, hp⟩ := h2.1.2.2.2.2.2.1
  exact hp.inj hi hj e
theorem One.ids {X : Nat → Prop} {w : World} {q : Nat} {L : List Wt} (h : One X w q L) : Ids L := by
  obtain ⟨F, h1, _⟩ := h; exact qIs_ids h1
theorem One.nodup {X : Nat → Prop} {w : World} {q : Nat} {L : List Wt} (h : One X w q L) : L.Nodup := by
  obtain ⟨F, h1, _⟩ := h; exact qIs_nodup h1
theorem Ids.one {L : List Wt} (h : Ids L) {p q : Wt} (hp : p ∈ L) (hq : q ∈ L) (e : p.1 = q.1) : p = q := by
  obtain ⟨i, hi, rfl⟩ := mem_wg hp
  obtain ⟨j, hj, rfl⟩ := mem_wg hq
  rw [h i j hi hj e]
theorem mem_set {L : List Wt} (h : Ids L) {i : Nat} (hi : i < L.length) {x : Wt} (hx : (wg L i).1 = x.1) (p : Wt) : p ∈ L.set i x ↔ p = x ∨ (p ∈ L ∧ p.1 ≠ x.1) := by
  constructor
  · intro hp
    obtain ⟨j, hj, rfl⟩ := mem_wg hp
    rw [List.length_set] at hj
    rw [wg_set hi]
    by_cases e : j = i
    · rw [if_pos e]; exact .inl rfl
    · rw [if_neg e]
      exact .inr ⟨wg_mem hj, fun e2 => e (h j i hj hi (e2.trans hx.symm))⟩
  · rintro (rfl | ⟨hp, hne⟩)
    · have := wg_mem (L := L.set i p) (i := i) (by rw [List.length_set]; exact hi)
      rwa [wg_set hi, if_pos rfl] at this
    · obtain ⟨j, hj, rfl⟩ := mem_wg hp
      have hji : j ≠ i := fun e => hne (by rw [e]; exact hx)
      have := wg_mem (L := L.set i x) (i := j) (by rw [List.length_set]; exact hj)
      rwa [wg_set hi, if_neg hji] at this
theorem mem_rest {L L' : List Wt} {x : Wt} (hn : L.Nodup) (hp : (x :: L').Perm L) (p : Wt) : p ∈ L' ↔ p ∈ L ∧ p ≠ x := by
  have h1 := List.nodup_cons.1 (hp.nodup_iff.2 hn)
  rw [← hp.mem_iff, List.mem_cons]
  constructor
  · intro h; exact ⟨.inr h, fun e => h1.1 (e ▸ h)⟩
  · rintro ⟨h | h, hne⟩
    · exact absurd h hne
    · exact h
theorem there_or {L : List Wt} (id : Int) : (∃ i, i < L.length ∧ (wg L i).1 = id) ∨ ∀ p ∈ L, p.1 ≠ id := by
  by_cases h : ∃ p ∈ L, p.1 = id
  · obtain ⟨p, hp, e⟩ := h
    obtain ⟨i, hi, rfl⟩ := mem_wg hp
    exact .inl ⟨i, hi, e⟩
  · exact .inr fun p hp e => h ⟨p, hp, e⟩
theorem push_mem {X : Nat → Prop} {w : World} {q : Nat} {L : List Wt} (h : One X w q L) (x : Wt) (hwx : WfW x) (hlen : L.length < 1000000) :
    Calls Try.prog 9 #[.pointer (some ⟨q, 0, none⟩), aggW x] w fun e w' => e = .returned (.tuple #[]) ∧ ∃ L', (∀ p, p ∈ L' ↔ p = x ∨ (p ∈ L ∧ p.1 ≠ x.1)) ∧ L'.length ≤ L.length + 1 ∧ One X w' q L' ∧ Stay X w w' := by
  obtain ⟨F, h1, h2⟩ := h
  rcases there_or (L := L) x.1 with ⟨i, hi, hid⟩ | hno
  · refine (qpush_old h1 x hwx hi hid).mono ?_
    rintro e w' ⟨rfl, h⟩
    obtain ⟨L', hp, h3, h4⟩ := One.next h2 h
    exact ⟨rfl, L', fun p => by rw [hp.mem_iff]; exact mem_set (qIs_ids h1) hi hid p, by rw [hp.length_eq, List.length_set]; omega, h3, h4⟩
  · refine (qpush_new h1 x hwx hno hlen).mono ?_
    rintro e w' ⟨rfl, h⟩
    obtain ⟨L', hp, h3, h4⟩ := One.next h2 h
    refine ⟨rfl, L', fun p => ?_, by rw [hp.length_eq]; simp, h3, h4⟩
    rw [hp.mem_iff, List.mem_cons]
    constructor
    · rintro (h | h)
      · exact .inl h
      · exact .inr ⟨h, hno p h⟩
    · rintro (h | h)
      · exact .inl h
      · exact .inr h.1
theorem set_mem {X : Nat → Prop} {w : World} {q : Nat} {L : List Wt} (h : One X w q L) {id v : Int} (hid : (Lit.int .u64 id).wf = true) (hv : (Lit.int .i64 v).wf = true) :
    Calls Try.prog 14 #[.pointer (some ⟨q, 0, none⟩), .int .u64 id, .int .i64 v] w fun e w' => ∃ b L', e = .returned (.bool b) ∧ (b = true ↔ ∃ p ∈ L, p.1 = id) ∧ (∀ p, p ∈ L' ↔ (b = true ∧ p = (id, v)) ∨ (p ∈ L ∧ p.1 ≠ id)) ∧ L'.length = L.length ∧ One X w' q L' ∧ Stay X w w' := by
  obtain ⟨F, h1, h2⟩ := h
  rcases there_or (L := L) id with ⟨i, hi, hx⟩ | hno
  · refine (qset_yes h1 hi hx hv).mono ?_
    rintro e w' ⟨rfl, h⟩
    obtain ⟨L', hp, h3, h4⟩ := One.next h2 h
    refine ⟨true, L', rfl, ⟨fun _ => ⟨_, wg_mem hi, hx⟩, fun _ => rfl⟩, fun p => ?_, by rw [hp.length_eq, List.length_set], h3, h4⟩
    rw [hp.mem_iff, mem_set (qIs_ids h1) hi hx p]
    simp
  · refine (qset_no h1 hid hno).mono ?_
    rintro e w' ⟨rfl, rfl⟩
    refine ⟨false, L, rfl, ⟨fun h => (by cases h), fun ⟨p, hp, e⟩ => absurd e (hno p hp)⟩, fun p => ?_, rfl, ⟨F, h1, h2⟩, Stay.refl _ _⟩
    constructor
    · intro hp; exact .inr ⟨hp, hno p hp⟩
    · rintro (⟨h, _⟩ | h)
      · cases h
      · exact h.1
theorem drop_mem {X : Nat → Prop} {w : World} {q : Nat} {L : List Wt} (h : One X w q L) {id : Int} (hid : (Lit.int .u64 id).wf = true) :
    Calls Try.prog 15 #[.pointer (some ⟨q, 0, none⟩), .int .u64 id] w fun e w' => ∃ b L', e = .returned (.bool b) ∧ (b = true ↔ ∃ p ∈ L, p.1 = id) ∧ (∀ p, p ∈ L' ↔ p ∈ L ∧ p.1 ≠ id) ∧ L'.length + (if b then 1 else 0) = L.length ∧ One X w' q L' ∧ Stay X w w' := by
  obtain ⟨F, h1, h2⟩ := h
  rcases there_or (L := L) id with ⟨i, hi, hx⟩ | hno
  · refine (qdrop_yes h1 hi hx).mono ?_
    rintro e w' ⟨rfl, h⟩
    obtain ⟨L', hp, h3, h4⟩ := One.next h2 h
    refine ⟨true, L', rfl, ⟨fun _ => ⟨_, wg_mem hi, hx⟩, fun _ => rfl⟩, fun p => ?_, by have := hp.length_eq; simpa using this, h3, h4⟩
    rw [mem_rest (qIs_nodup h1) hp p]
    constructor
    · rintro ⟨hpl, hne⟩
      exact ⟨hpl, fun e => hne ((qIs_ids h1).one hpl (wg_mem hi) (e.trans hx.symm))⟩
    · rintro ⟨hpl, hne⟩
      exact ⟨hpl, fun e => hne (by rw [e]; exact hx)⟩
  · refine (qdrop_no h1 hid hno).mono ?_
    rintro e w' ⟨rfl, rfl⟩
    refine ⟨false, L, rfl, ⟨fun h => (by cases h), fun ⟨p, hp, e⟩ => absurd e (hno p hp)⟩, fun p => ⟨fun hp => ⟨hp, hno p hp⟩, fun h => h.1⟩, by simp, ⟨F, h1, h2⟩, Stay.refl _ _⟩
theorem pop_mem {X : Nat → Prop} {w : World} {q : Nat} {L : List Wt} (h : One X w q L) :
    Calls Try.prog 10 #[.pointer (some ⟨q, 0, none⟩)] w fun e w' => e = .returned (.tuple #[aggW (wg L 0), .bool (decide (0 < L.length))]) ∧ ∃ L', (∀ p, p ∈ L' ↔ p ∈ L ∧ p ≠ wg L 0) ∧ L'.length = L.length - 1 ∧ One X w' q L' ∧ Stay X w w' := by
  refine (one_pop h).mono ?_
  rintro e w' ⟨rfl, L', hp, h3, h4⟩
  refine ⟨rfl, L', fun p => ?_, ?_, h3, h4⟩
  · by_cases h0 : 0 < L.length
    · rw [if_pos h0] at hp
      exact mem_rest h.nodup hp p
    · rw [if_neg h0] at hp
      obtain rfl : L = [] := List.eq_nil_of_length_eq_zero (by omega)
      rw [hp]
      simp
  · by_cases h0 : 0 < L.length
    · rw [if_pos h0] at hp
      have := hp.length_eq
      simp at this
      omega
    · rw [if_neg h0] at hp
      rw [hp]
      simp
      omega
theorem wf_u64 {x : Int} (h0 : 0 ≤ x) (h1 : x ≤ 18446744073709551615) : (Lit.int .u64 x).wf = true := by
  unfold Lit.wf; rw [Bool.and_eq_true, decide_eq_true_eq, decide_eq_true_eq]; exact ⟨h0, h1⟩
end Go.Proofs.Ytbmhnadnomngnaa
