/- Contracts of package hull: points in memory; ok, turn. -/
import Derived.Test.YtcoffankmmjehaaHullP
import Derived.Test.YtcoffankmmjehaaKit2
import Derived.Test.YtcoffankmmjehaaProg
namespace Go.Proofs.Ytcoffankmmjehaa
open Go.RowKit Go.Lib Hull

def pA (p : Pt) : Value := .agg #[.int .i64 p.1, .int .i64 p.2]
def pV (l : List Pt) : List Value := l.flatMap fun p => [.int .i64 p.1, .int .i64 p.2]
theorem pV_length (l : List Pt) : (pV l).length = l.length * 2 := by
  induction l with
  | nil => rfl
  | cons p l ih => simp only [pV, List.flatMap_cons, List.length_append, List.length_cons, List.length_nil] at *; omega
theorem pV_append (a b : List Pt) : pV (a ++ b) = pV a ++ pV b := by simp [pV]
theorem pV_get : ∀ (l : List Pt) (k : Nat), k < l.length → (pV l)[k * 2]? = some (.int .i64 (pg l k).1) ∧ (pV l)[k * 2 + 1]? = some (.int .i64 (pg l k).2)
  | [], k, h => by simp at h
  | p :: l, 0, _ => by simp [pV, pg]
  | p :: l, k + 1, h => by
    have ih := pV_get l k (by simpa using h)
    have e : pV (p :: l) = [.int .i64 p.1, .int .i64 p.2] ++ pV l := rfl
    have g : pg (p :: l) (k + 1) = pg l k := rfl
    rw [e, g, List.getElem?_append_right (by simp; omega), List.getElem?_append_right (by simp; omega)]
    simp only [List.length_cons, List.length_nil]
    rw [show (k + 1) * 2 - (0 + 1 + 1) = k * 2 by omega, show (k + 1) * 2 + 1 - (0 + 1 + 1) = k * 2 + 1 by omega]
    exact ih
theorem pV_cell (l : List Pt) : ∀ u ∈ pV l, u.oneCell' = true := fun u hu => by
  simp only [pV, List.mem_flatMap] at hu
  obtain ⟨p, _, hp⟩ := hu
  simp at hp
  rcases hp with rfl | rfl <;> rfl
/-- In w, below block B, a slice's address leads to points. -/
def RingAt (w : World) (B : Nat) (ao : Option Addr) (l : List Pt) : Prop :=
  0 < l.length → ∃ b off, ao = some ⟨b, off, none⟩ ∧ b < B ∧ ∀ k, k < l.length →
    w.cell? ⟨b, off + k * 2, none⟩ = some (.int .i64 (pg l k).1) ∧ w.cell? ⟨b, off + k * 2 + 1, none⟩ = some (.int .i64 (pg l k).2)
theorem RingAt.below {w w' : World} {B : Nat} {ao : Option Addr} {l : List Pt} (h : RingAt w B ao l) {C : Nat} (hb : Below C w w') (hC : B ≤ C) : RingAt w' B ao l := fun h0 => by
  obtain ⟨b, off, e, hlt, hc⟩ := h h0
  refine ⟨b, off, e, hlt, fun k hk => ?_⟩
  rw [hb.cell (p := ⟨b, _, none⟩) (show b < C by omega), hb.cell (p := ⟨b, _, none⟩) (show b < C by omega)]
  exact hc k hk
theorem RingAt.wider {w : World} {B C : Nat} {ao : Option Addr} {l : List Pt} (h : RingAt w B ao l) (hC : B ≤ C) : RingAt w C ao l := fun h0 => by
  obtain ⟨b, off, e, hlt, hc⟩ := h h0
  exact ⟨b, off, e, by omega, hc⟩
/-- In w a slice's address leads to points. -/
def PAt (w : World) (ao : Option Addr) (l : List Pt) : Prop := RingAt w w.heap.size ao l
theorem PAt.below {w w' : World} {ao : Option Addr} {l : List Pt} (h : PAt w ao l) (hb : Below w.heap.size w w') : PAt w' ao l := (RingAt.below h hb (Nat.le_refl _)).wider hb.size
theorem pAt_own {w : World} {base n c : Nat} {t : TypeId} {ao : Option Addr} {l : List Pt} (hn : n = l.length) (h : w.ownsRow base t 2 (.slice ao n c) n (pV l)) : PAt w ao l := fun h0 => by
  subst hn
  obtain ⟨ao', c', e, _, hh⟩ := own_form h
  cases e
  obtain ⟨g, rfl, _, hlt, hc⟩ := hh h0
  exact ⟨g, 0, rfl, hlt, fun i hi => by
    have := pV_get l i hi
    rw [Nat.zero_add]
    exact ⟨hc _ _ this.1, hc _ _ this.2⟩⟩
theorem info_pt : (Try.prog.info? 26).map (fun i => (i.zero, i.size, i.bytes)) = some (some (.agg #[.int .i64 0, .int .i64 0]), 2, 16) := by kernel_rfl

theorem eq_pair' (d : Nat) (a b c e : Int) (w : World) : (Op.equalIn (d + 2) 26 (.agg #[.int .i64 a, .int .i64 b]) (.agg #[.int .i64 c, .int .i64 e])).run Try.prog w = .ok (a == c && b == e) w := by
  have u := run_underlying Try.underlying26
  have z := Try.sizeOf2
  have E : ∀ (a b : Int) (w : World), (Op.equalIn (d + 1) 2 (.int .i64 a) (.int .i64 b)).run Try.prog w = .ok (a == b) w := fun a b w => run_equalIn_int w d 2 .i64 .i64 a b Try.underlying2
  rw [show d + 2 = (d + 1) + 1 from rfl, Op.equalIn]
  generalize Op.equalIn (d + 1) = F at E ⊢
  simp only [Sem.run_bind, u, Result.andThen_ok, z]
  by_cases h1 : a = c <;> by_cases h2 : b = e <;>
    simp [forIn, Sem.run_bind, List.range', part, z, E, go_sem, h1, h2]
/-- Two points held against each other. -/
theorem eq_pair (a b c e : Int) (w : World) : (Op.equalIn 10000 26 (.agg #[.int .i64 a, .int .i64 b]) (.agg #[.int .i64 c, .int .i64 e])).run Try.prog w = .ok (a == c && b == e) w := eq_pair' 9998 a b c e w

/-- A point that is too far. -/
def outB (p : Pt) : Bool := decide (p.1 < -536870912) || decide (536870912 < p.1) || decide (p.2 < -536870912) || decide (536870912 < p.2)
theorem out_any (p : Pt) (w : World) : Calls Try.prog 32 #[.agg #[.int .i64 p.1, .int .i64 p.2]] w fun e w' => e = .returned (.bool (outB p)) ∧ Below w.heap.size w w' := by
  obtain ⟨x, y⟩ := p
  have hb : Below w.heap.size w (w.alloc (.cells #[.int .i64 x, .int .i64 y] 26)) := (Below.refl _ _).alloc (Nat.le_refl _) _
  have HB := Lib.hid hb
  clear hb
  cases q1 : decide (x < -536870912)
  case true =>
    have HF : Hid (outB (x, y) = true) := by show _ = _; unfold outB; simp only [q1]; rfl
    go_enter Try.func32, Try.ntmps32
    go_wp2
    go_ret
    exact ⟨by rw [HF.out]; rfl, HB.out⟩
  case false =>
    cases q2 : decide (536870912 < x)
    case true =>
      have HF : Hid (outB (x, y) = true) := by show _ = _; unfold outB; simp only [q1, q2]; rfl
      go_enter Try.func32, Try.ntmps32
      go_wp2
      go_ret
      exact ⟨by rw [HF.out]; rfl, HB.out⟩
    case false =>
      cases q3 : decide (y < -536870912)
      case true =>
        have HF : Hid (outB (x, y) = true) := by show _ = _; unfold outB; simp only [q1, q2, q3]; rfl
        go_enter Try.func32, Try.ntmps32
        go_wp2
        go_ret
        exact ⟨by rw [HF.out]; rfl, HB.out⟩
      case false =>
        have HF : Hid (outB (x, y) = decide (536870912 < y)) := by show _ = _; unfold outB; simp only [q1, q2, q3]; rfl
        go_enter Try.func32, Try.ntmps32
        go_wp2
        go_ret
        exact ⟨by rw [HF.out]; rfl, HB.out⟩
/-- What IndexFunc tells. -/
def Found (l : List Pt) (w : World) (e : Ending) (w' : World) : Prop := ∃ r : Int, e = .returned (.int .i64 r) ∧ decide (0 ≤ r) = l.any outB ∧ Below w.heap.size w w'
theorem any_at {l : List Pt} {j : Nat} (hj : j < l.length) (h : outB (pg l j) = true) : l.any outB = true := List.any_eq_true.2 ⟨_, pg_mem hj, h⟩
theorem any_no {l : List Pt} (h : ∀ j, j < l.length → outB (pg l j) = false) : l.any outB = false := by
  rw [List.any_eq_false]
  intro p hp
  obtain ⟨i, hi, rfl⟩ := mem_pg hp
  rw [h i hi]; simp
set_option maxRecDepth 100000 in
set_option maxHeartbeats 1000000 in
theorem index_any (ao : Option Addr) (c : Nat) (l : List Pt) (w : World) (h : PAt w ao l) (hn : l.length ≤ 1000000000) :
    Calls Try.prog 39 #[.slice ao l.length c, .func (.func 32) #[] #[]] w (Found l w) := by
  obtain ⟨n, hnn⟩ : ∃ n, l.length = n := ⟨_, rfl⟩
  have HN := Lib.hid hnn
  have HW := Lib.hid h
  rw [hnn] at hn ⊢
  clear hnn h
  go_enter Try.func39, Try.ntmps39
  go_wp2
  go_loopw [5, 8] (fun _ i wr => ∃ k : Nat, k ≤ n ∧ i = .int .i64 k ∧ Hid ((∀ j, j < k → outB (pg l j) = false) ∧ Below w.heap.size w wr)) (fun _ i _ => n - (intOf i).toNat)
  case atStart => exact ⟨0, Nat.zero_le _, rfl, fun j hj => by omega, Below.refl _ _⟩
  case round =>
    obtain ⟨k, hk, rfl, HA⟩ := hrel
    by_cases hlt : k < n
    · obtain ⟨b, off, rfl, hb, hc⟩ := (HW.out.below HA.out.2) (by rw [HN.out]; omega)
      obtain ⟨c0, c1⟩ := hc k (by rw [HN.out]; exact hlt)
      clear hc
      have HY : Hid (outB (pg l k) = true → l.any outB = true) := fun e => any_at (by rw [HN.out]; exact hlt) e
      have HS : Hid (outB (pg l k) = false → ∀ j, j < k + 1 → outB (pg l j) = false) := fun e j hj => by
        by_cases ej : j = k
        · rw [ej]; exact e
        · exact HA.out.1 j (by omega)
      have HO := Lib.hid (out_any (pg l k))
      generalize pg l k = y at c0 c1 HY HS HO
      obtain ⟨o, ho⟩ : ∃ o, outB y = o := ⟨_, rfl⟩
      rw [ho] at HO HY HS
      clear ho
      go_wp2_with fail
      refine (HO.out _).mono ?_
      rintro e w2 ⟨rfl, hb2⟩
      have HB2 : Hid (Below w.heap.size w w2) := below_later HA.out.2 HA.out.2.size hb2
      clear hb2
      cases o
      · have HS2 := Lib.hid (HS.out rfl)
        clear HY HS
        go_wp2
        go_roundw
        case rel => exact ⟨k + 1, by omega, by go_num, HS2.out, HB2.out⟩
        case measure => simp [intOf]; omega
      · have HF := Lib.hid (HY.out rfl)
        clear HY HS
        go_wp2
        go_ret
        exact ⟨_, rfl, by rw [HF.out]; simp, HB2.out⟩
    · obtain rfl : k = n := by omega
      have HF : Hid (l.any outB = false) := any_no (fun j hj => HA.out.1 j (by rw [HN.out] at hj; exact hj))
      have HB := Lib.hid HA.out.2
      clear HA
      go_wp2
      go_ret
      exact ⟨_, rfl, by rw [HF.out]; simp, HB.out⟩
theorem cont_any (ao : Option Addr) (c : Nat) (l : List Pt) (w : World) (h : PAt w ao l) (hn : l.length ≤ 1000000000) :
    Calls Try.prog 33 #[.slice ao l.length c, .func (.func 32) #[] #[]] w fun e w' => e = .returned (.bool (l.any outB)) ∧ Below w.heap.size w w' := by
  have HI := Lib.hid (index_any ao c l w h hn)
  clear h
  go_enter Try.func33, Try.ntmps33
  go_wp2_with fail
  refine HI.out.mono ?_
  rintro e w2 ⟨r, rfl, hr, hb⟩
  have HR := Lib.hid hr
  clear hr
  go_wp2
  go_ret
  exact ⟨ret_bool HR.out, hb⟩
/-- Points that may be. -/
def okB (l : List Pt) : Bool := decide (l.length ≤ 1000) && !l.any outB
theorem ok_any (ao : Option Addr) (c : Nat) (l : List Pt) (w : World) (h : PAt w ao l) (hn : l.length ≤ 1000000000) :
    Calls Try.prog 21 #[.slice ao l.length c] w fun e w' => e = .returned (.bool (okB l)) ∧ Below w.heap.size w w' := by
  have HI := Lib.hid (cont_any ao c l w h hn)
  have HF : Hid (okB l = (decide (l.length ≤ 1000) && !l.any outB)) := rfl
  generalize okB l = r at HF ⊢
  generalize l.any outB = q at HF HI
  generalize l.length = n at hn HI HF ⊢
  clear h
  by_cases h1 : n ≤ 1000
  · have HF2 : Hid (r = !q) := by show _ = _; rw [HF.out, decide_eq_true h1]; simp
    have q1 : (n : Int) ≤ 1000 := by omega
    clear HF h1
    go_enter Try.func21, Try.ntmps21
    go_wp2_with fail
    refine HI.out.mono ?_
    rintro e w2 ⟨rfl, hb⟩
    go_wp2
    go_ret
    exact ⟨ret_bool HF2.out.symm, hb⟩
  · have HF2 : Hid (r = false) := by show _ = _; rw [HF.out, decide_eq_false h1]; simp
    have q1 : (1000 : Int) < (n : Int) := by omega
    clear HF h1
    go_enter Try.func21, Try.ntmps21
    go_wp2
    go_ret
    exact ⟨ret_bool HF2.out.symm, Below.refl _ _⟩
/-- A point that may be. -/
def Near (p : Pt) : Prop := (-536870912 ≤ p.1 ∧ p.1 ≤ 536870912) ∧ (-536870912 ≤ p.2 ∧ p.2 ≤ 536870912)
theorem outB_near (p : Pt) : outB p = false ↔ Near p := by unfold outB Near; simp; omega
theorem okB_iff (l : List Pt) : okB l = true ↔ l.length ≤ 1000 ∧ ∀ p ∈ l, Near p := by
  unfold okB
  rw [Bool.and_eq_true, decide_eq_true_eq, Bool.not_eq_true', List.any_eq_false]
  refine and_congr Iff.rfl ⟨fun h p hp => ?_, fun h p hp => ?_⟩
  · rw [← outB_near]; have := h p hp; simpa using this
  · have := (outB_near p).2 (h p hp); rw [this]; simp
theorem mul_le {a b U V : Int} (h1 : -U ≤ a) (h2 : a ≤ U) (h3 : -V ≤ b) (h4 : b ≤ V) : -(U * V) ≤ a * b ∧ a * b ≤ U * V := by
  have hU : 0 ≤ U := by omega
  have hV : 0 ≤ V := by omega
  have e1 : 0 ≤ (U - a) * (V + b) := Int.mul_nonneg (by omega) (by omega)
  have e2 : 0 ≤ (U + a) * (V - b) := Int.mul_nonneg (by omega) (by omega)
  have e3 : 0 ≤ (U - a) * (V - b) := Int.mul_nonneg (by omega) (by omega)
  have e4 : 0 ≤ (U + a) * (V + b) := Int.mul_nonneg (by omega) (by omega)
  have x1 : (U - a) * (V + b) + (U + a) * (V - b) = 2 * (U * V) - 2 * (a * b) := by grind
  have x2 : (U - a) * (V - b) + (U + a) * (V + b) = 2 * (U * V) + 2 * (a * b) := by grind
  omega
theorem turn_bound {a b c : Pt} (ha : Near a) (hb : Near b) (hc : Near c) : ∃ m n : Int, turn a b c = m - n ∧ m = (b.1 - a.1) * (c.2 - a.2) ∧ n = (b.2 - a.2) * (c.1 - a.1) ∧ (-1152921504606846976 ≤ m ∧ m ≤ 1152921504606846976) ∧ (-1152921504606846976 ≤ n ∧ n ≤ 1152921504606846976) := by
  unfold Near at *
  have h1 := mul_le (a := b.1 - a.1) (b := c.2 - a.2) (U := 1073741824) (V := 1073741824) (by omega) (by omega) (by omega) (by omega)
  have h2 := mul_le (a := b.2 - a.2) (b := c.1 - a.1) (U := 1073741824) (V := 1073741824) (by omega) (by omega) (by omega) (by omega)
  exact ⟨(b.1 - a.1) * (c.2 - a.2), (b.2 - a.2) * (c.1 - a.1), rfl, rfl, rfl, by omega, by omega⟩
set_option maxRecDepth 100000 in
theorem turn_any (a b c : Pt) (ha : Near a) (hb : Near b) (hc : Near c) (w : World) :
    Calls Try.prog 27 #[.agg #[.int .i64 a.1, .int .i64 a.2], .agg #[.int .i64 b.1, .int .i64 b.2], .agg #[.int .i64 c.1, .int .i64 c.2]] w fun e w' => e = .returned (.int .i64 (turn a b c)) ∧ Below w.heap.size w w' := by
  obtain ⟨m, n, ht, hm, hn, bm, bn⟩ := turn_bound ha hb hc
  have hb0 : Below w.heap.size w (((w.alloc (.cells #[.int .i64 a.1, .int .i64 a.2] 26)).alloc (.cells #[.int .i64 b.1, .int .i64 b.2] 26)).alloc (.cells #[.int .i64 c.1, .int .i64 c.2] 26)) := (((Below.refl _ _).alloc (Nat.le_refl _) _).alloc (by simp) _).alloc (by simp; omega) _
  have HB := Lib.hid hb0
  unfold Near at ha hb hc
  obtain ⟨a1, a2⟩ := a
  obtain ⟨b1, b2⟩ := b
  obtain ⟨c1, c2⟩ := c
  simp only at *
  have HT : Hid (turn (a1, a2) (b1, b2) (c1, c2) = m - n) := ht
  have w1 : IntKind.i64.wrap (b1 - a1) = b1 - a1 := wrap_in (by omega) (by omega)
  have w2 : IntKind.i64.wrap (c2 - a2) = c2 - a2 := wrap_in (by omega) (by omega)
  have w3 : IntKind.i64.wrap (b2 - a2) = b2 - a2 := wrap_in (by omega) (by omega)
  have w4 : IntKind.i64.wrap (c1 - a1) = c1 - a1 := wrap_in (by omega) (by omega)
  have w5 : IntKind.i64.wrap ((b1 - a1) * (c2 - a2)) = m := by rw [← hm]; exact wrap_in (by omega) (by omega)
  have w6 : IntKind.i64.wrap ((b2 - a2) * (c1 - a1)) = n := by rw [← hn]; exact wrap_in (by omega) (by omega)
  clear hb0 hm hn ht
  generalize turn (a1, a2) (b1, b2) (c1, c2) = r at HT
  go_enter Try.func27, Try.ntmps27
  go_wp2
  go_ret
  exact ⟨ret_int HT.out.symm, HB.out⟩
end Go.Proofs.Ytcoffankmmjehaa
