/- Contracts of the numbers of 128 bits (apiaryref1.Wide): sum, turned about, a product (Wide.tpl without Below and Less). -/
import Derived.Test.YtkjfdaleamonaaaProg
import Derived.Test.YtkjfdaleamonaaaKit
import Derived.Lib.Mul64
import Derived.Shelf.Bits.Mul64
import Derived.Laws.Bits64b
import Derived.Laws.Externs
import Derived.Deep.RegionWith
namespace Go.Proofs.Ytkjfdaleamonaaa
open Go.RowKit

theorem add64_run (x y c : Nat) (hc : c ≤ 1) (w : World) :
    (callFunc 48 #[.int .u64 x, .int .u64 y, .int .u64 c]).run Try.prog w =
      .ok (.value (.tuple #[.int .u64 (((x + y + c) % 18446744073709551616 : Nat) : Int), .int .u64 (((x + y + c) / 18446744073709551616 : Nat) : Int)])) w := by
  rw [run_callFunc_extern Try.func48 (by kernel_rfl) (by kernel_rfl) (by kernel_rfl) (e := add64Entry) (by kernel_rfl), run_add64 x y c (by omega) (by omega) (by omega) (by omega)]
  simp only [Result.andThen]
  congr 5 <;> omega

def pL (al bl : Nat) : Nat := (al + bl) % 18446744073709551616
def pH (ah al bh bl : Nat) : Nat := (ah + bh + (al + bl) / 18446744073709551616) % 18446744073709551616
set_option maxHeartbeats 400000 in
theorem plus_any (ah al bh bl : Nat) (h1 : al < 18446744073709551616) (h2 : bl < 18446744073709551616) (w : World) :
    Calls Try.prog 32 #[.agg #[.int .u64 ah, .int .u64 al], .agg #[.int .u64 bh, .int .u64 bl]] w fun e w' => e = .returned (.agg #[.int .u64 (pH ah al bh bl), .int .u64 (pL al bl)]) ∧ Below w.heap.size w w' := by
  obtain ⟨c, hc⟩ : ∃ c, (al + bl + 0) / 18446744073709551616 = c := ⟨_, rfl⟩
  obtain ⟨l, hl⟩ : ∃ c, (al + bl + 0) % 18446744073709551616 = c := ⟨_, rfl⟩
  obtain ⟨h, hh⟩ : ∃ h, (ah + bh + c) % 18446744073709551616 = h := ⟨_, rfl⟩
  obtain ⟨k, hk⟩ : ∃ h, (ah + bh + c) / 18446744073709551616 = h := ⟨_, rfl⟩
  have A1 : ∀ w, (callFunc 48 #[.int .u64 al, .int .u64 bl, .int .u64 0]).run Try.prog w = .ok (.value (.tuple #[.int .u64 (l : Nat), .int .u64 (c : Nat)])) w := fun w => by
    have := add64_run al bl 0 (by omega) w
    rw [hc, hl] at this
    exact this
  have A2 : ∀ w, (callFunc 48 #[.int .u64 ah, .int .u64 bh, .int .u64 c]).run Try.prog w = .ok (.value (.tuple #[.int .u64 (h : Nat), .int .u64 (k : Nat)])) w := fun w => by
    have := add64_run ah bh c (by omega) w
    rw [hh, hk] at this
    exact this
  have HC : Hid (pH ah al bh bl = h) := by show _ = _; unfold pH; rw [← hh, ← hc]; rfl
  have HL : Hid (pL al bl = l) := by show _ = _; unfold pL; rw [← hl]; rfl
  clear hc hl hh hk h1 h2
  go_enter Try.func32, Try.ntmps32
  go_wp2
  exact bodyPost_ret (v := .agg #[.int .u64 h, .int .u64 l]) (by simp [results, Try.results32, go_sem]) rfl ⟨by rw [HC.out, HL.out], (((Below.refl _ _).alloc (Nat.le_refl _) _).alloc (by simp) _).alloc (by simp; omega) _⟩


/-- Two halves tell a number, up to 2^128. -/
structure Rep (h l : Nat) (A : Int) : Prop where
  hh : h < 18446744073709551616
  hl : l < 18446744073709551616
  val : ((h : Int) * 18446744073709551616 + (l : Int) - A) % 340282366920938463463374607431768211456 = 0
theorem Rep.plus {ah al bh bl : Nat} {A B : Int} (h1 : Rep ah al A) (h2 : Rep bh bl B) : Rep (pH ah al bh bl) (pL al bl) (A + B) := by
  obtain ⟨a1, a2, a3⟩ := h1
  obtain ⟨b1, b2, b3⟩ := h2
  unfold pH pL
  exact ⟨by omega, by omega, by omega⟩
theorem plus_rep {ah al bh bl : Nat} {A B : Int} (h1 : Rep ah al A) (h2 : Rep bh bl B) (w : World) :
    Calls Try.prog 32 #[.agg #[.int .u64 ah, .int .u64 al], .agg #[.int .u64 bh, .int .u64 bl]] w fun e w' => ∃ h l : Nat, e = .returned (.agg #[.int .u64 h, .int .u64 l]) ∧ Rep h l (A + B) ∧ Below w.heap.size w w' :=
  (plus_any ah al bh bl h1.hl h2.hl w).mono fun _ _ ⟨he, hb⟩ => ⟨_, _, he, h1.plus h2, hb⟩
theorem not_u64 (x : Nat) (hx : x < 18446744073709551616) : bits .xor .u64 IntKind.u64.max (x : Int) = ((18446744073709551615 - x : Nat) : Int) := by
  unfold bits
  simp only []
  show IntKind.u64.wrap ((BitVec.ofInt 64 IntKind.u64.max ^^^ BitVec.ofInt 64 (x : Int)).toNat : Int) = _
  have e1 : BitVec.ofInt 64 IntKind.u64.max = BitVec.allOnes 64 := by decide
  have e2 : BitVec.allOnes 64 ^^^ BitVec.ofInt 64 (x : Int) = ~~~ BitVec.ofInt 64 (x : Int) := by
    rw [BitVec.xor_comm, BitVec.xor_allOnes]
  rw [e1, e2, BitVec.toNat_not, BitVec.ofInt_natCast, BitVec.toNat_ofNat, Nat.mod_eq_of_lt (by simpa using hx), IntKind.wrap_u64]
  omega
theorem Rep.turned {h l : Nat} {A : Int} (h1 : Rep h l A) : Rep (pH (18446744073709551615 - h) (18446744073709551615 - l) 0 1) (pL (18446744073709551615 - l) 1) (-A) := by
  obtain ⟨a1, a2, a3⟩ := h1
  unfold pH pL
  exact ⟨by omega, by omega, by omega⟩
theorem one_rep : Rep 0 1 1 := ⟨by omega, by omega, by decide⟩

set_option maxHeartbeats 400000 in
theorem turned_rep {h l : Nat} {A : Int} (hr : Rep h l A) (w : World) :
    Calls Try.prog 33 #[.agg #[.int .u64 h, .int .u64 l]] w fun e w' => ∃ h' l' : Nat, e = .returned (.agg #[.int .u64 h', .int .u64 l']) ∧ Rep h' l' (-A) ∧ Below w.heap.size w w' := by
  have HT := Lib.hid hr.turned
  have P1 := plus_any (18446744073709551615 - h) (18446744073709551615 - l) 0 1 (by omega) (by omega)
  have e1 := not_u64 h hr.hh
  have e2 := not_u64 l hr.hl
  obtain ⟨ch, hch⟩ : ∃ c, 18446744073709551615 - h = c := ⟨_, rfl⟩
  obtain ⟨cl, hcl⟩ : ∃ c, 18446744073709551615 - l = c := ⟨_, rfl⟩
  rw [hch] at e1 P1 HT
  rw [hcl] at e2 P1 HT
  obtain ⟨h', hh'⟩ : ∃ c, pH ch cl 0 1 = c := ⟨_, rfl⟩
  obtain ⟨l', hl'⟩ : ∃ c, pL cl 1 = c := ⟨_, rfl⟩
  rw [hh', hl'] at P1 HT
  have HP := Lib.hid P1
  clear hch hcl hr P1 hh' hl'
  go_enter Try.func33, Try.ntmps33
  go_wp2_with fail
  refine (HP.out _).mono ?_
  rintro e w1 ⟨rfl, hb1⟩
  have hz : w.heap.size + 1 < w1.heap.size := by have := hb1.size; simp at this; omega
  have c0 : w1.frozen? ⟨w.heap.size + 1, 0, none⟩ = false := by rw [hb1.frozen (p := ⟨w.heap.size + 1, 0, none⟩) (by simp)]; exact frozen_of_row _ _ _ _ _ (heap_new _ _ _ (by simp))
  have c1 : w1.frozen? ⟨w.heap.size + 1, 1, none⟩ = false := by rw [hb1.frozen (p := ⟨w.heap.size + 1, 1, none⟩) (by simp)]; exact frozen_of_row _ _ _ _ _ (heap_new _ _ _ (by simp))
  have d0 : w1.cell? ⟨w.heap.size + 1, 0, none⟩ = some (.int .u64 0) := by rw [hb1.cell (p := ⟨w.heap.size + 1, 0, none⟩) (by simp), cell_of_row _ _ _ _ _ _ (heap_new _ _ _ (by simp))]; rfl
  have d1 : w1.cell? ⟨w.heap.size + 1, 1, none⟩ = some (.int .u64 0) := by rw [hb1.cell (p := ⟨w.heap.size + 1, 1, none⟩) (by simp), cell_of_row _ _ _ _ _ _ (heap_new _ _ _ (by simp))]; rfl
  have hb2 : Hid (Below w.heap.size w w1) := ((((Below.refl _ _).alloc (Nat.le_refl _) _).alloc (by simp) _).trans (hb1.mono (by simp; omega)))
  clear hb1
  go_wp2
  exact bodyPost_ret (v := .agg #[.int .u64 h', .int .u64 l']) (by simp [results, Try.results33, go_sem, *]) rfl ⟨_, _, rfl, HT.out, (hb2.out.setCell (p := ⟨w.heap.size + 1, 0, none⟩) (by simp) _).setCell (p := ⟨w.heap.size + 1, 1, none⟩) (by simp) _⟩

set_option maxHeartbeats 1000000 in
/-- Both halves of a product: the library's own text, walked. -/
theorem mul64_any (x y : Nat) (hx : x < 18446744073709551616) (hy : y < 18446744073709551616) (w : World) :
    Calls Try.prog 46 #[.int .u64 x, .int .u64 y] w fun e w' => e = .returned (.tuple #[.int .u64 ((x * y / 18446744073709551616 : Nat) : Int), .int .u64 ((x * y % 18446744073709551616 : Nat) : Int)]) ∧ w = w' := by
  obtain ⟨bd, bt, bw, hhi⟩ := Lib.mul64_hi x y hx hy
  have ba := Lib.half_mul_le (a := x / 4294967296) (b := y / 4294967296) (by omega) (by omega)
  have bb := Lib.half_mul_le (a := x / 4294967296) (b := y % 4294967296) (by omega) (by omega)
  have bc := Lib.half_mul_le (a := x % 4294967296) (b := y / 4294967296) (by omega) (by omega)
  have ba' : x / 4294967296 * (y / 4294967296) < 18446744073709551616 := by omega
  have bb' : x / 4294967296 * (y % 4294967296) < 18446744073709551616 := by omega
  have bc' : x % 4294967296 * (y / 4294967296) < 18446744073709551616 := by omega
  have bh1 : x / 4294967296 * (y / 4294967296) + (x / 4294967296 * (y % 4294967296) + x % 4294967296 * (y % 4294967296) / 4294967296) / 4294967296 < 18446744073709551616 := by omega
  have bh : x / 4294967296 * (y / 4294967296) + (x / 4294967296 * (y % 4294967296) + x % 4294967296 * (y % 4294967296) / 4294967296) / 4294967296 + ((x / 4294967296 * (y % 4294967296) + x % 4294967296 * (y % 4294967296) / 4294967296) % 4294967296 + x % 4294967296 * (y / 4294967296)) / 4294967296 < 18446744073709551616 := by omega
  go_enter Try.func46, Try.ntmps46
  go_wp2
  simp only [Mul64.maskN x hx, Mul64.maskN y hy, Mul64.divN, Mul64.mulN, Mul64.addN, Mul64.wrapN _ bd, Mul64.wrapN _ bb', Mul64.wrapN _ bt, Mul64.maskN _ bt, Mul64.wrapN _ bc', Mul64.wrapN _ bw, Mul64.wrapN _ ba', Mul64.wrapN _ bh1, Mul64.wrapN _ bh, Mul64.wrapM (x * y)]
  rw [hhi]
  go_ret2
  exact ⟨rfl, rfl⟩

theorem rep_prod {x y : Nat} {A : Int} (_hx : x ≤ 9223372036854775808) (_hy : y ≤ 9223372036854775808) (hA : ((x * y : Nat) : Int) = A) (hb : x * y < 340282366920938463463374607431768211456) : Rep (x * y / 18446744073709551616) (x * y % 18446744073709551616) A := by
  subst hA
  generalize x * y = n at *
  exact ⟨by omega, by omega, by omega⟩

set_option maxHeartbeats 1000000 in
theorem times_rep (a b : Int) (ha : -9223372036854775808 ≤ a ∧ a ≤ 9223372036854775807) (hb : -9223372036854775808 ≤ b ∧ b ≤ 9223372036854775807) (w : World) :
    Calls Try.prog 30 #[.int .i64 a, .int .i64 b] w fun e w' => ∃ h l : Nat, e = .returned (.agg #[.int .u64 h, .int .u64 l]) ∧ Rep h l (a * b) ∧ Below w.heap.size w w' := by
  obtain ⟨x, hx⟩ : ∃ x, a.natAbs = x := ⟨_, rfl⟩
  obtain ⟨y, hy⟩ : ∃ x, b.natAbs = x := ⟨_, rfl⟩
  have hx1 : x ≤ 9223372036854775808 := by omega
  have hy1 : y ≤ 9223372036854775808 := by omega
  have hxy : x * y < 340282366920938463463374607431768211456 := Nat.lt_of_le_of_lt (Nat.mul_le_mul hx1 hy1) (by decide)
  have HM : Hid (∀ w : World, _) := fun w => mul64_any x y (by omega) (by omega) w
  have ea : IntKind.u64.wrap a = if a < 0 then ((18446744073709551616 - x : Nat) : Int) else (x : Int) := by rw [IntKind.wrap_u64]; split <;> omega
  have eb : IntKind.u64.wrap b = if b < 0 then ((18446744073709551616 - y : Nat) : Int) else (y : Int) := by rw [IntKind.wrap_u64]; split <;> omega
  have en : ∀ z : Nat, z ≤ 9223372036854775808 → 0 < z → IntKind.u64.wrap (-((18446744073709551616 - z : Nat) : Int)) = (z : Int) := fun z h1 h2 => by rw [IntKind.wrap_u64]; omega
  by_cases h1 : a < 0 <;> by_cases h2 : b < 0
  · have HR : Hid (Rep (x * y / 18446744073709551616) (x * y % 18446744073709551616) (a * b)) := rep_prod hx1 hy1 (by rw [Int.natCast_mul, show (x : Int) = -a by omega, show (y : Int) = -b by omega, Int.neg_mul_neg]) hxy
    rw [if_pos h1] at ea
    rw [if_pos h2] at eb
    have na := en x hx1 (by omega)
    obtain ⟨ca, hca⟩ : ∃ c, 18446744073709551616 - x = c := ⟨_, rfl⟩
    rw [hca] at ea na
    clear hca
    have nb := en y hy1 (by omega)
    obtain ⟨cb, hcb⟩ : ∃ c, 18446744073709551616 - y = c := ⟨_, rfl⟩
    rw [hcb] at eb nb
    clear hcb
    generalize x * y / 18446744073709551616 = H at HM HR
    generalize x * y % 18446744073709551616 = L at HM HR
    clear en hx hy ha hb hx1 hy1 hxy
    go_enter Try.func30, Try.ntmps30
    go_wp2_with (go_at_call 46; refine (HM.out _).mono ?_; rintro e w' ⟨rfl, rfl⟩)
    exact bodyPost_ret (v := .agg #[.int .u64 H, .int .u64 L]) (by simp [results, Try.results30, go_sem]) rfl ⟨_, _, rfl, HR.out, (Below.refl _ _).alloc (Nat.le_refl _) _⟩
  · have HR : Hid (Rep (x * y / 18446744073709551616) (x * y % 18446744073709551616) (-(a * b))) := rep_prod hx1 hy1 (by rw [Int.natCast_mul, show (x : Int) = -a by omega, show (y : Int) = b by omega, Int.neg_mul]) hxy
    rw [if_pos h1] at ea
    rw [if_neg h2] at eb
    have qb : decide (b < 0) = false := by simpa using h2
    have na := en x hx1 (by omega)
    obtain ⟨ca, hca⟩ : ∃ c, 18446744073709551616 - x = c := ⟨_, rfl⟩
    rw [hca] at ea na
    clear hca
    generalize x * y / 18446744073709551616 = H at HM HR
    generalize x * y % 18446744073709551616 = L at HM HR
    clear en hx hy ha hb hx1 hy1 hxy
    have HT : Hid (∀ w : World, _) := fun w => turned_rep HR.out w
    go_enter Try.func30, Try.ntmps30
    go_wp2_with (go_at_call 46; refine (HM.out _).mono ?_; rintro e w' ⟨rfl, rfl⟩)
    refine (HT.out _).mono ?_
    rintro e w1 ⟨h', l', rfl, hr1, hb1⟩
    rw [Int.neg_neg] at hr1
    have HR1 := Lib.hid hr1
    have hz : w.heap.size < w1.heap.size := by have := hb1.size; simp at this; omega
    have c0 : w1.frozen? ⟨w.heap.size, 0, none⟩ = false := by rw [hb1.frozen (p := ⟨w.heap.size, 0, none⟩) (by simp)]; exact frozen_of_row _ _ _ _ _ (heap_new _ _ _ (by simp))
    have c1 : w1.frozen? ⟨w.heap.size, 1, none⟩ = false := by rw [hb1.frozen (p := ⟨w.heap.size, 1, none⟩) (by simp)]; exact frozen_of_row _ _ _ _ _ (heap_new _ _ _ (by simp))
    have d0 : w1.cell? ⟨w.heap.size, 0, none⟩ = some (.int .u64 0) := by rw [hb1.cell (p := ⟨w.heap.size, 0, none⟩) (by simp), cell_of_row _ _ _ _ _ _ (heap_new _ _ _ (by simp))]; rfl
    have d1 : w1.cell? ⟨w.heap.size, 1, none⟩ = some (.int .u64 0) := by rw [hb1.cell (p := ⟨w.heap.size, 1, none⟩) (by simp), cell_of_row _ _ _ _ _ _ (heap_new _ _ _ (by simp))]; rfl
    have hb2 : Hid (Below w.heap.size w w1) := (((Below.refl _ _).alloc (Nat.le_refl _) _).trans (hb1.mono (by simp)))
    clear hb1 hr1
    go_wp2
    exact bodyPost_ret (v := .agg #[.int .u64 h', .int .u64 l']) (by simp [results, Try.results30, go_sem, *]) rfl ⟨_, _, rfl, HR1.out, (hb2.out.setCell (p := ⟨w.heap.size, 0, none⟩) (by simp) _).setCell (p := ⟨w.heap.size, 1, none⟩) (by simp) _⟩
  · have HR : Hid (Rep (x * y / 18446744073709551616) (x * y % 18446744073709551616) (-(a * b))) := rep_prod hx1 hy1 (by rw [Int.natCast_mul, show (x : Int) = a by omega, show (y : Int) = -b by omega, Int.mul_neg]) hxy
    rw [if_neg h1] at ea
    have qa : decide (a < 0) = false := by simpa using h1
    rw [if_pos h2] at eb
    have nb := en y hy1 (by omega)
    obtain ⟨cb, hcb⟩ : ∃ c, 18446744073709551616 - y = c := ⟨_, rfl⟩
    rw [hcb] at eb nb
    clear hcb
    generalize x * y / 18446744073709551616 = H at HM HR
    generalize x * y % 18446744073709551616 = L at HM HR
    clear en hx hy ha hb hx1 hy1 hxy
    have HT : Hid (∀ w : World, _) := fun w => turned_rep HR.out w
    go_enter Try.func30, Try.ntmps30
    go_wp2_with (go_at_call 46; refine (HM.out _).mono ?_; rintro e w' ⟨rfl, rfl⟩)
    refine (HT.out _).mono ?_
    rintro e w1 ⟨h', l', rfl, hr1, hb1⟩
    rw [Int.neg_neg] at hr1
    have HR1 := Lib.hid hr1
    have hz : w.heap.size < w1.heap.size := by have := hb1.size; simp at this; omega
    have c0 : w1.frozen? ⟨w.heap.size, 0, none⟩ = false := by rw [hb1.frozen (p := ⟨w.heap.size, 0, none⟩) (by simp)]; exact frozen_of_row _ _ _ _ _ (heap_new _ _ _ (by simp))
    have c1 : w1.frozen? ⟨w.heap.size, 1, none⟩ = false := by rw [hb1.frozen (p := ⟨w.heap.size, 1, none⟩) (by simp)]; exact frozen_of_row _ _ _ _ _ (heap_new _ _ _ (by simp))
    have d0 : w1.cell? ⟨w.heap.size, 0, none⟩ = some (.int .u64 0) := by rw [hb1.cell (p := ⟨w.heap.size, 0, none⟩) (by simp), cell_of_row _ _ _ _ _ _ (heap_new _ _ _ (by simp))]; rfl
    have d1 : w1.cell? ⟨w.heap.size, 1, none⟩ = some (.int .u64 0) := by rw [hb1.cell (p := ⟨w.heap.size, 1, none⟩) (by simp), cell_of_row _ _ _ _ _ _ (heap_new _ _ _ (by simp))]; rfl
    have hb2 : Hid (Below w.heap.size w w1) := (((Below.refl _ _).alloc (Nat.le_refl _) _).trans (hb1.mono (by simp)))
    clear hb1 hr1
    go_wp2
    exact bodyPost_ret (v := .agg #[.int .u64 h', .int .u64 l']) (by simp [results, Try.results30, go_sem, *]) rfl ⟨_, _, rfl, HR1.out, (hb2.out.setCell (p := ⟨w.heap.size, 0, none⟩) (by simp) _).setCell (p := ⟨w.heap.size, 1, none⟩) (by simp) _⟩
  · have HR : Hid (Rep (x * y / 18446744073709551616) (x * y % 18446744073709551616) (a * b)) := rep_prod hx1 hy1 (by rw [Int.natCast_mul, show (x : Int) = a by omega, show (y : Int) = b by omega]) hxy
    rw [if_neg h1] at ea
    have qa : decide (a < 0) = false := by simpa using h1
    rw [if_neg h2] at eb
    have qb : decide (b < 0) = false := by simpa using h2
    generalize x * y / 18446744073709551616 = H at HM HR
    generalize x * y % 18446744073709551616 = L at HM HR
    clear en hx hy ha hb hx1 hy1 hxy
    go_enter Try.func30, Try.ntmps30
    go_wp2_with (go_at_call 46; refine (HM.out _).mono ?_; rintro e w' ⟨rfl, rfl⟩)
    exact bodyPost_ret (v := .agg #[.int .u64 H, .int .u64 L]) (by simp [results, Try.results30, go_sem]) rfl ⟨_, _, rfl, HR.out, (Below.refl _ _).alloc (Nat.le_refl _) _⟩

theorem prod_bound {a b : Int} (ha : -9223372036854775808 ≤ a ∧ a ≤ 9223372036854775807) (hb : -9223372036854775808 ≤ b ∧ b ≤ 9223372036854775807) :
    -85070591730234615856620279821087277056 ≤ a * b ∧ a * b ≤ 85070591730234615865843651857942052864 := by
  have up : ∀ x y : Nat, x ≤ 9223372036854775808 → y ≤ 9223372036854775808 → x * y ≤ 85070591730234615865843651857942052864 := fun x y h1 h2 => Nat.le_trans (Nat.mul_le_mul h1 h2) (by decide)
  have lo : ∀ x y : Nat, x ≤ 9223372036854775808 → y ≤ 9223372036854775807 → x * y ≤ 85070591730234615856620279821087277056 := fun x y h1 h2 => Nat.le_trans (Nat.mul_le_mul h1 h2) (by decide)
  by_cases h1 : a < 0 <;> by_cases h2 : b < 0
  · have e : a * b = ((a.natAbs * b.natAbs : Nat) : Int) := by rw [Int.natCast_mul, show (a.natAbs : Int) = -a by omega, show (b.natAbs : Int) = -b by omega, Int.neg_mul_neg]
    have := up a.natAbs b.natAbs (by omega) (by omega)
    generalize a.natAbs * b.natAbs = n at *
    omega
  · have e : a * b = -((a.natAbs * b.natAbs : Nat) : Int) := by rw [Int.natCast_mul, show (a.natAbs : Int) = -a by omega, show (b.natAbs : Int) = b by omega, Int.neg_mul, Int.neg_neg]
    have := lo a.natAbs b.natAbs (by omega) (by omega)
    generalize a.natAbs * b.natAbs = n at *
    omega
  · have e : a * b = -((b.natAbs * a.natAbs : Nat) : Int) := by rw [Int.natCast_mul, show (a.natAbs : Int) = a by omega, show (b.natAbs : Int) = -b by omega, Int.neg_mul, Int.neg_neg, Int.mul_comm]
    have := lo b.natAbs a.natAbs (by omega) (by omega)
    generalize b.natAbs * a.natAbs = n at *
    omega
  · have e : a * b = ((a.natAbs * b.natAbs : Nat) : Int) := by rw [Int.natCast_mul, show (a.natAbs : Int) = a by omega, show (b.natAbs : Int) = b by omega]
    have := up a.natAbs b.natAbs (by omega) (by omega)
    generalize a.natAbs * b.natAbs = n at *
    omega
/-- A new block of two numbers, a call behind it. -/
theorem pair_kept {w w' : World} {x y : Value} {t : TypeId} (hb : Below (w.alloc (.cells #[x, y] t)).heap.size (w.alloc (.cells #[x, y] t)) w') :
    w'.cell? ⟨w.heap.size, 0, none⟩ = some x ∧ w'.cell? ⟨w.heap.size, 1, none⟩ = some y ∧ w.heap.size < w'.heap.size := by
  have hz := hb.size
  exact ⟨cell_kept hb 0 _ rfl, cell_kept hb 1 _ rfl, by simp at hz; omega⟩
end Go.Proofs.Ytkjfdaleamonaaa
