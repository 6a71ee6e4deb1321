/- Weights held against each other; rows of weights made of numbers. -/
import Derived.Test.YtbmhnadnomngnaaQH
import Derived.WalkKit
namespace Go.Proofs.Ytbmhnadnomngnaa
open Go.RowKit Go.Lib

theorem eq_wt' (d : Nat) (a b c e : Int) (w : World) : (Op.equalIn (d + 2) 28 (.agg #[.int .u64 a, .int .i64 b]) (.agg #[.int .u64 c, .int .i64 e])).run Try.prog w = .ok (a == c && b == e) w := by
  have u := run_underlying Try.underlying28
  have z1 := Try.sizeOf26
  have z2 := Try.sizeOf2
  have E1 : ∀ (a b : Int) (w : World), (Op.equalIn (d + 1) 26 (.int .u64 a) (.int .u64 b)).run Try.prog w = .ok (a == b) w := fun a b w => run_equalIn_int w d 26 .u64 .u64 a b Try.underlying26
  have E2 : ∀ (a b : Int) (w : World), (Op.equalIn (d + 1) 2 (.int .i64 a) (.int .i64 b)).run Try.prog w = .ok (a == b) w := fun a b w => run_equalIn_int w d 2 .i64 .i64 a b Try.underlying2
  rw [show d + 2 = (d + 1) + 1 from rfl, Op.equalIn]
  generalize Op.equalIn (d + 1) = F at E1 E2 ⊢
  simp only [Sem.run_bind, u, Result.andThen_ok]
  by_cases h1 : a = c <;> by_cases h2 : b = e <;>
    simp [forIn, Sem.run_bind, part, z1, z2, E1, E2, go_sem, h1, h2]
theorem eq_wt (a b c e : Int) (w : World) : (Op.equalIn 10000 28 (.agg #[.int .u64 a, .int .i64 b]) (.agg #[.int .u64 c, .int .i64 e])).run Try.prog w = .ok (a == c && b == e) w := eq_wt' 9998 a b c e w

def wn (z : Nat → Int) (k : Nat) : Wt := ((k : Int), z k)
def firstN (z : Nat → Int) (i : Nat) : List Wt := (List.range i).map (wn z)
def turnN (z : Nat → Int) (t n i : Nat) : List Wt := (List.range i).map fun j => wn z ((j + t) % n)
theorem firstN_succ (z : Nat → Int) (i : Nat) : (wn z i :: firstN z i).Perm (firstN z (i + 1)) := by
  unfold firstN
  rw [List.range_succ, List.map_append]
  exact List.perm_append_comm (l₁ := [wn z i])
theorem turnN_succ (z : Nat → Int) (t n i : Nat) : (wn z ((i + t) % n) :: turnN z t n i).Perm (turnN z t n (i + 1)) := by
  unfold turnN
  rw [List.range_succ, List.map_append]
  exact List.perm_append_comm (l₁ := [wn z ((i + t) % n)])
theorem firstN_new {z : Nat → Int} {i : Nat} : ∀ p ∈ firstN z i, p.1 ≠ (wn z i).1 := fun p hp => by
  obtain ⟨j, hj, rfl⟩ := List.mem_map.1 hp
  have := List.mem_range.1 hj
  show (j : Int) ≠ (i : Int)
  omega
theorem mod_inj {n t i j : Nat} (hi : i < n) (hj : j < n) (e : (i + t) % n = (j + t) % n) : i = j := by
  rcases Nat.lt_trichotomy i j with h | h | h
  · have := Nat.sub_mod_eq_zero_of_mod_eq e.symm
    rw [show j + t - (i + t) = j - i by omega, Nat.mod_eq_of_lt (by omega)] at this
    omega
  · exact h
  · have := Nat.sub_mod_eq_zero_of_mod_eq e
    rw [show i + t - (j + t) = i - j by omega, Nat.mod_eq_of_lt (by omega)] at this
    omega
theorem turnN_new {z : Nat → Int} {t n i : Nat} (hi : i < n) : ∀ p ∈ turnN z t n i, p.1 ≠ (wn z ((i + t) % n)).1 := fun p hp => by
  obtain ⟨j, hj, rfl⟩ := List.mem_map.1 hp
  have hj := List.mem_range.1 hj
  show (((j + t) % n : Nat) : Int) ≠ (((i + t) % n : Nat) : Int)
  intro e
  have := mod_inj (n := n) (t := t) (by omega) hi (show (j + t) % n = (i + t) % n by omega)
  omega
theorem turn_range (t n : Nat) : ((List.range n).map fun j => (j + t) % n).Perm (List.range n) := by
  have h1 : ((List.range n).map fun j => (j + t) % n).Nodup := by
    refine List.pairwise_map.2 (List.Pairwise.imp_of_mem (fun {a b} ha hb hab => ?_) List.nodup_range)
    exact fun e => hab (mod_inj (List.mem_range.1 ha) (List.mem_range.1 hb) e)
  refine List.perm_iff_count.2 fun a => ?_
  rw [h1.count, List.nodup_range.count]
  have : a ∈ ((List.range n).map fun j => (j + t) % n) ↔ a ∈ List.range n := by
    rw [List.mem_map, List.mem_range]
    constructor
    · rintro ⟨j, hj, rfl⟩
      exact Nat.mod_lt _ (by have := List.mem_range.1 hj; omega)
    · intro ha
      refine ⟨(a + (n - t % n)) % n, List.mem_range.2 (Nat.mod_lt _ (by omega)), ?_⟩
      rw [Nat.mod_add_mod]
      have h2 := Nat.mod_add_div t n
      have h3 := Nat.mod_lt t (show 0 < n by omega)
      have e : a + (n - t % n) + t = a + n * (t / n + 1) := by rw [Nat.mul_add]; omega
      rw [e, Nat.add_mul_mod_self_left, Nat.mod_eq_of_lt ha]
  simp only [this]
theorem turnN_all (z : Nat → Int) (t n : Nat) : (turnN z t n n).Perm (firstN z n) := by
  have h := (turn_range t n).map (wn z)
  rw [List.map_map] at h
  exact h
/-- Of the same weights the same one is first. -/
theorem first_same {La Lb : List Wt} (hp : La.Perm Lb) (h0 : 0 < La.length) (ha : ∀ p ∈ La, lessW p (wg La 0) = false) (hb : ∀ p ∈ Lb, lessW p (wg Lb 0) = false) : wg La 0 = wg Lb 0 := by
  have hl := hp.length_eq
  exact less_total (hb _ (hp.mem_iff.1 (wg_mem h0))) (ha _ (hp.mem_iff.2 (wg_mem (by omega))))
theorem two_push {X : Nat → Prop} {w : World} {a b : Nat} {La Lb : List Wt} (h : Two X w a b La Lb) (x : Wt) (hwx : WfW x) (hno : ∀ p ∈ La, p.1 ≠ x.1) (hlen : La.length < 1000000) :
    Calls Try.prog 9 #[.pointer (some ⟨a, 0, none⟩), aggW x] w fun e w' => e = .returned (.tuple #[]) ∧ ∃ L', L'.Perm (x :: La) ∧ Two X w' a b L' Lb ∧ Stay X w w' := by
  obtain ⟨Fa, Fb, h1, h2, h3, h4⟩ := h
  refine (qpush_new h1 x hwx hno hlen).mono ?_
  rintro e w' ⟨rfl, h⟩
  exact ⟨rfl, Two.next h2 h3 h4 h⟩
theorem two_pop {X : Nat → Prop} {w : World} {a b : Nat} {La Lb : List Wt} (h : Two X w a b La Lb) :
    Calls Try.prog 10 #[.pointer (some ⟨a, 0, none⟩)] w fun e w' => e = .returned (.tuple #[aggW (wg La 0), .bool (decide (0 < La.length))]) ∧ ∃ L', (if 0 < La.length then (wg La 0 :: L').Perm La else L' = []) ∧ Two X w' a b L' Lb ∧ Stay X w w' := by
  obtain ⟨Fa, Fb, h1, h2, h3, h4⟩ := h
  refine (qpop_any h1).mono ?_
  rintro e w' ⟨rfl, h⟩
  exact ⟨rfl, Two.next h2 h3 h4 h⟩
theorem two_len {X : Nat → Prop} {w : World} {a b : Nat} {La Lb : List Wt} (h : Two X w a b La Lb) : Calls Try.prog 12 #[.pointer (some ⟨a, 0, none⟩)] w fun e w' => e = .returned (.int .i64 La.length) ∧ w = w' := by
  obtain ⟨Fa, Fb, h1, _⟩ := h; exact qlen_any h1
theorem qIs_nodup {w : World} {q : Nat} {F : Nat → Prop} {L : List Wt} (h : QIs w q F L) : L.Nodup := by
  obtain ⟨r, b, vo, c, _, h2, _⟩ := h
  obtain ⟨f, _, hp⟩ := h2.1.2.2.2.2.2.1
  refine List.pairwise_iff_getElem.2 fun i j hi hj hij e => ?_
  have e1 : wg L i = L[i] := by unfold wg; rw [List.getD_eq_getElem?_getD, List.getElem?_eq_getElem hi, Option.getD_some]
  have e2 : wg L j = L[j] := by unfold wg; rw [List.getD_eq_getElem?_getD, List.getElem?_eq_getElem hj, Option.getD_some]
  have := hp.inj hi hj (by rw [e1, e2, e])
  omega
theorem Two.nodup {X : Nat → Prop} {w : World} {a b : Nat} {La Lb : List Wt} (h : Two X w a b La Lb) : La.Nodup := by
  obtain ⟨Fa, _, h1, _⟩ := h; exact qIs_nodup h1
/-- The first one is ahead of all others. -/
theorem first_ahead {L L' : List Wt} {x : Wt} (hn : L.Nodup) (hf : ∀ p ∈ L, lessW p x = false) (hp : (x :: L').Perm L) : ∀ q ∈ L', lessW x q = true := fun q hq => by
  have h1 : (x :: L').Nodup := hp.nodup_iff.2 hn
  have h2 := hf q (hp.mem_iff.1 (List.mem_cons_of_mem _ hq))
  cases hc : lessW x q with
  | true => rfl
  | false =>
    have := less_total h2 hc
    subst this
    exact absurd hq (List.nodup_cons.1 h1).1
theorem firstN_length (z : Nat → Int) (i : Nat) : (firstN z i).length = i := by simp [firstN]
theorem turnN_length (z : Nat → Int) (t n i : Nat) : (turnN z t n i).length = i := by simp [turnN]
end Go.Proofs.Ytbmhnadnomngnaa
