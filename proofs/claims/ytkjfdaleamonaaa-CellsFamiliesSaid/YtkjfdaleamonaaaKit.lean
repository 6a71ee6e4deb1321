/- Small lemmas that the walks share: new blocks, what a row of the call's own holds, ends of calls. -/
import Derived.WalkKit
import Derived.WalkSpells
import Derived.WalkLawsBesides
import Derived.Handy
import Derived.Lib.Hide
import Derived.BigQuiet
import Derived.Deep.QuietTactic
import Derived.Deep.AppendLies
import Derived.Deep.LoopGhost
import Derived.Test.YtkjfdaleamonaaaLex3
namespace Go.Proofs.Ytkjfdaleamonaaa
open Go Go.RowKit

theorem ret_int {k : IntKind} {a b : Int} (h : a = b) : Ending.returned (.int k a) = .returned (.int k b) := by rw [h]
theorem ret_bool {a b : Bool} (h : a = b) : Ending.returned (.bool a) = .returned (.bool b) := by rw [h]
theorem below_drewN {B : Nat} {a w : World} (h : Below B a w) (n : Nat) : Below B a (w.drewN n) :=
  h.trans ⟨rfl, rfl, rfl, Nat.le_refl _, fun _ _ => rfl⟩
/-- A new block, then what makes blocks of its own. -/
theorem below_alloc {w w' : World} {o : Obj} (h : Below (w.alloc o).heap.size (w.alloc o) w') : Below w.heap.size w w' :=
  ((Below.refl _ _).alloc (Nat.le_refl _) o).trans (h.mono (by simp))
theorem below_later {w w1 w2 : World} {B : Nat} (h : Below B w w1) (hB : B ≤ w1.heap.size) (h2 : Below w1.heap.size w1 w2) : Below B w w2 := h.trans (h2.mono hB)

theorem heap_new (w : World) (o : Obj) (n : Nat) (hn : w.heap.size = n) : (w.alloc o).heap[n]? = some o := by
  subst hn; exact heap_alloc_new w o
/-- What lies in a new block of cells. -/
theorem cells_new (w : World) (cs : List Value) (t : TypeId) (n : Nat) (hn : w.heap.size = n) : ∀ j u, cs[j]? = some u → (w.alloc (.cells cs.toArray t)).cell? ((⟨n, 0, none⟩ : Addr).add j) = some u :=
  fun j u hu => World.news_of_block (cs := cs.toArray) (t := t) (fr := (0, 0)) (heap_new w _ n hn) j u (by simpa using hu)
theorem cells_new_drew (w : World) (cs : List Value) (t : TypeId) (n : Nat) (hn : w.heap.size = n) : ∀ j u, cs[j]? = some u → (w.alloc (.cells cs.toArray t)).drew.cell? ((⟨n, 0, none⟩ : Addr).add j) = some u :=
  cells_new w cs t n hn
/-- A cell of a block that was laid just ahead of a call. -/
theorem cell_kept {w w' : World} {cs : Array Value} {t : TypeId} (h : Below (w.alloc (.cells cs t)).heap.size (w.alloc (.cells cs t)) w') (j : Nat) (v : Value) (hv : cs[j]? = some v) : w'.cell? ⟨w.heap.size, j, none⟩ = some v := by
  rw [h.cell (p := ⟨w.heap.size, j, none⟩) (by simp), cell_of_row _ w.heap.size j cs t (0, 0) (heap_new w _ _ rfl)]
  exact hv
theorem below_alloc' {a w w' : World} {o : Obj} (h0 : Below a.heap.size a w) (h : Below (w.alloc o).heap.size (w.alloc o) w') : Below a.heap.size a w' :=
  (h0.alloc h0.size o).trans (h.mono (by have := h0.size; simp; omega))
theorem below_grown0 {w w' : World} (h : w.grownBy w' none) : Below w.heap.size w w' := (Below.refl _ _).grown h (Nat.le_refl _) (fun k hk => by cases hk)
/-- What an append leaves below the call's own blocks. -/
theorem below_append {w a w1 : World} {B : Nat} {e : TypeId} {size n : Nat} {v : Value} {xs : List Value} (h : Below B w a) (hown : a.ownsRow B e size v n xs) (hB : B ≤ a.heap.size) (hg : a.grownBy w1 v.ownBlock) : Below B w w1 :=
  h.grown hg hB fun k hk => (hown.lt k hk).1
/-- A value that owns something, written out; its cells. -/
theorem own_form {w : World} {base : Nat} {e : TypeId} {size : Nat} {v : Value} {n : Nat} {xs : List Value} (h : w.ownsRow base e size v n xs) :
    ∃ ao c, v = .slice ao n c ∧ n ≤ c ∧ (0 < n → ∃ g, ao = some ⟨g, 0, none⟩ ∧ base ≤ g ∧ g < w.heap.size ∧ ∀ j u, xs[j]? = some u → w.cell? ⟨g, j, none⟩ = some u) := by
  rcases h.2 with ⟨rfl, rfl⟩ | ⟨g, cap, cur, hv, hb, hg, hn, _⟩
  · exact ⟨none, 0, rfl, Nat.le_refl _, fun h => absurd h (by omega)⟩
  · refine ⟨some ⟨g, 0, none⟩, cap, hv, hn, fun _ => ⟨g, rfl, hb, ?_, fun j u hu => ?_⟩⟩
    · rcases Nat.lt_or_ge g w.heap.size with hlt | hge
      · exact hlt
      · rw [Array.getElem?_eq_none hge] at hg; cases hg
    · have := h.cells (g := g) (by rw [hv]; rfl) j u hu
      have hadd : (⟨g, 0, none⟩ : Addr).add j = ⟨g, j, none⟩ := by unfold Addr.add; split <;> simp_all
      rwa [hadd] at this
/-- In w, below block B, a slice's address leads to whole numbers of a kind. -/
def IntsAtK (κ : IntKind) (w : World) (B : Nat) (ao : Option Addr) (n : Nat) (z : Nat → Int) : Prop :=
  0 < n → ∃ b off, ao = some ⟨b, off, none⟩ ∧ b < B ∧ ∀ i, i < n → w.cell? ⟨b, off + i, none⟩ = some (.int κ (z i))
theorem IntsAtK.below {κ : IntKind} {w w' : World} {B n : Nat} {ao : Option Addr} {z : Nat → Int} (h : IntsAtK κ w B ao n z) {C : Nat} (hb : Below C w w') (hC : B ≤ C) : IntsAtK κ w' B ao n z := by
  intro h0
  obtain ⟨b, off, e, hlt, hc⟩ := h h0
  exact ⟨b, off, e, hlt, fun i hi => by rw [hb.cell (p := ⟨b, _, none⟩) (show b < C by omega)]; exact hc i hi⟩
theorem intsAt_of {κ : IntKind} {w : World} {x : Addr} {n : Nat} {zs : List Int} (h : ∀ i, i < zs.length → w.cell? (x.add i) = some (.int κ (zs.getD i 0))) (hn : n ≤ zs.length) : IntsAtK κ w w.heap.size (some x) n fun i => zs.getD i 0 := by
  intro h0
  obtain ⟨b, off, spot⟩ := x
  have hspot : spot = none := by simpa [Addr.add] using World.cell?_spot (h 0 (by omega))
  subst hspot
  have hadd : ∀ i, (⟨b, off, none⟩ : Addr).add i = ⟨b, off + i, none⟩ := fun i => by unfold Addr.add; split <;> simp_all
  have hc : ∀ i, i < zs.length → w.cell? ⟨b, off + i, none⟩ = some (.int κ (zs.getD i 0)) := fun i hi => by rw [← hadd]; exact h i hi
  exact ⟨b, off, rfl, World.block_lt_of_cell? w _ (hc 0 (by omega)), fun i hi => hc i (by omega)⟩
theorem i64_and_mask (z : Int) (p : Nat) (hp : p ≤ 62) (m : Int) (hm : m = 2 ^ p - 1) : bits .and .i64 z m = z % 2 ^ p := by
  subst hm
  have hpp : (2 : Nat) ^ p ≤ 2 ^ 62 := Nat.pow_le_pow_right (by omega) hp
  have hpos : 0 < (2 : Nat) ^ p := Nat.pow_pos (by omega)
  have hcast : ((2 : Int) ^ p - 1) = ((2 ^ p - 1 : Nat) : Int) := by
    rw [Int.natCast_sub (by omega)]; simp
  have hd : (2 : Int) ^ p ∣ 2 ^ 64 := by
    refine ⟨2 ^ (64 - p), ?_⟩
    rw [← Int.pow_add]; congr 1; omega
  unfold bits
  simp only []
  have h1 : (BitVec.ofInt 64 z &&& BitVec.ofInt 64 (2 ^ p - 1)).toNat = (BitVec.ofInt 64 z).toNat % 2 ^ p := by
    rw [hcast, BitVec.ofInt_natCast, BitVec.toNat_and, BitVec.toNat_ofNat, Nat.mod_eq_of_lt (a := 2 ^ p - 1) (by omega), Nat.and_two_pow_sub_one_eq_mod]
  show IntKind.i64.wrap ((BitVec.ofInt 64 z &&& BitVec.ofInt 64 (2 ^ p - 1)).toNat : Int) = _
  rw [h1, BitVec.toNat_ofInt]
  have h2 : (((z % ((2 ^ 64 : Nat) : Int)).toNat % 2 ^ p : Nat) : Int) = z % 2 ^ p := by
    rw [Int.natCast_emod, Int.toNat_of_nonneg (Int.emod_nonneg _ (by decide))]
    have : (((2 : Nat) ^ p : Nat) : Int) = (2 : Int) ^ p := by simp
    rw [this]
    exact Int.emod_emod_of_dvd z (by simpa using hd)
  rw [h2]
  have h3 : 0 ≤ z % (2 : Int) ^ p := Int.emod_nonneg _ (by have : (0 : Int) < 2 ^ p := Int.pow_pos (by omega); omega)
  have h4 : z % (2 : Int) ^ p < 2 ^ p := Int.emod_lt_of_pos _ (Int.pow_pos (by omega))
  have h5 : (2 : Int) ^ p ≤ 4611686018427387904 := by
    have : (((2 : Nat) ^ p : Nat) : Int) ≤ ((2 ^ 62 : Nat) : Int) := by exact_mod_cast hpp
    simpa using this
  exact IntWalk.i64_in _ (by omega)
end Go.Proofs.Ytkjfdaleamonaaa
