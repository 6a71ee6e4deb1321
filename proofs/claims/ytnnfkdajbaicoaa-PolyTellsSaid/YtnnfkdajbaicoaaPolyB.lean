/- Contracts of poly.edges, poly.Check, poly.near. -/
import Derived.Test.YtnnfkdajbaicoaaPolyA
namespace Go.Proofs.Ytnnfkdajbaicoaa
open Go.RowKit

abbrev Pt := Int × Int
def px (l : List Pt) (k : Nat) : Int := (l.getD k (0, 0)).1
def py (l : List Pt) (k : Nat) : Int := (l.getD k (0, 0)).2

/-- In w, below block B, a slice's address leads to a ring's corners. -/
def RingAt (w : World) (B : Nat) (ao : Option Addr) (l : List Pt) : Prop :=
  0 < l.length → ∃ b off, ao = some ⟨b, off, none⟩ ∧ b < B ∧ ∀ k, k < l.length →
    w.cell? ⟨b, off + k * 2, none⟩ = some (.int .i64 (px l k)) ∧ w.cell? ⟨b, off + k * 2 + 1, none⟩ = some (.int .i64 (py l k))

theorem RingAt.below {w w' : World} {B : Nat} {ao : Option Addr} {l : List Pt} (h : RingAt w B ao l) {C : Nat} (hb : Below C w w') (hC : B ≤ C) : RingAt w' B ao l := by
  intro h0
  obtain ⟨b, off, e, hlt, hc⟩ := h h0
  refine ⟨b, off, e, hlt, fun k hk => ?_⟩
  rw [hb.cell (p := ⟨b, _, none⟩) (show b < C by omega), hb.cell (p := ⟨b, _, none⟩) (show b < C by omega)]
  exact hc k hk

def edgeV (l : List Pt) (k : Nat) : List Value :=
  [.int .i64 (px l k), .int .i64 (py l k), .int .i64 (px l ((k + 1) % l.length)), .int .i64 (py l ((k + 1) % l.length))]
def edgeVs (l : List Pt) (k : Nat) : List Value := (List.range k).flatMap (edgeV l)

theorem info_edge : (Try.prog.info? 45).map (fun i => (i.zero, i.size, i.bytes)) = some (some (.agg #[.int .i64 0, .int .i64 0, .int .i64 0, .int .i64 0]), 4, 32) := by kernel_rfl

theorem edgeVs_succ (l : List Pt) (k : Nat) : edgeVs l (k + 1) = edgeVs l k ++ edgeV l k := by
  unfold edgeVs; rw [List.range_succ, List.flatMap_append]; simp
theorem oneCell_edgeV (l : List Pt) (k : Nat) : ∀ u ∈ edgeV l k, u.oneCell' = true := by
  intro u hu; simp [edgeV] at hu; rcases hu with rfl | rfl | rfl | rfl <;> rfl

set_option maxHeartbeats 1000000 in
theorem edges_any (ao : Option Addr) (c : Nat) (l : List Pt) (w : World) (B : Nat) (hB : B ≤ w.heap.size) (h : RingAt w B ao l) (hl : l.length ≤ 1000000000) :
    Calls Try.prog 23 #[.slice ao l.length c] w fun e w' => ∃ v, e = .returned v ∧ w'.ownsRow w.heap.size 45 4 v l.length (edgeVs l l.length) ∧ Below w.heap.size w w' := by
  obtain ⟨i0, hi, hz0, hz1, hz2⟩ := info_parts info_edge
  go_enter Try.func23, Try.ntmps23
  go_wp2
  go_loopw [3, 8] (fun v i wr => ∃ k : Nat, k ≤ l.length ∧ i = .int .i64 k ∧ wr.ownsRow w.heap.size 45 4 v k (edgeVs l k) ∧ Below w.heap.size w wr) (fun _ i _ => l.length - (intOf i).toNat)
  case atStart => exact ⟨0, Nat.zero_le _, rfl, World.ownsRow_nil _ _ _ _, Below.refl _ _⟩
  case round =>
    obtain ⟨k, hk, rfl, hown, hnx⟩ := hrel
    by_cases hlt : k < l.length
    · obtain ⟨b, off, rfl, hb, hc⟩ := h.below hnx hB (by omega)
      have c0 := (hc k hlt).1
      have c1 := (hc k hlt).2
      have hm : (k + 1) % l.length < l.length := Nat.mod_lt _ (by omega)
      have d0 := (hc _ hm).1
      have d1 := (hc _ hm).2
      clear hc
      have hsz := hnx.size
      have hbw : b < wr.heap.size := by omega
      have hm2 : 0 ≤ ((k : Int) + 1) % (l.length : Int) ∧ ((k : Int) + 1) % (l.length : Int) < (l.length : Int) := ⟨Int.emod_nonneg _ (by omega), Int.emod_lt_of_pos _ (by omega)⟩
      go_wp2_with (first | (with_reducible refine wp_region_lex (by kernel_rfl) (by kernel_rfl) ?_) | (with_reducible refine OnlyG.intro (by kernel_rfl) ?_) | (at_builtin; refine wpList_append_own _ rfl (.tmp 13) (.tmp 24) 42 rfl w.heap.size 45 i0 (.agg #[.int .i64 0, .int .i64 0, .int .i64 0, .int .i64 0]) 4 32 Try.underlying42 hi hz0 hz1 hz2 rfl (by decide) _ _ _ rfl (((hown.alloc _).alloc _).drew) ⟨wr.heap.size + 1, 0, none⟩ 1 1 (edgeV l k) rfl rfl (cells_new_drew _ _ _ _ (by simp)) (oneCell_edgeV l k) (by unfold maxLen; omega) (by omega) (by simp; omega) ?_; intro v' w1 hown1 hgrow _; rw [← edgeVs_succ] at hown1))
      go_roundw
      case rel => exact ⟨k + 1, by omega, by go_num, hown1, below_append (((hnx.alloc hsz _).alloc (by simp; omega) _).drew) (((hown.alloc _).alloc _).drew) (by simp; omega) hgrow⟩
      case measure => simp [intOf]; omega
    · have hkl : k = l.length := by omega
      go_wp2
      go_ret
      subst hkl
      exact ⟨_, rfl, hown, hnx⟩
end Go.Proofs.Ytnnfkdajbaicoaa
