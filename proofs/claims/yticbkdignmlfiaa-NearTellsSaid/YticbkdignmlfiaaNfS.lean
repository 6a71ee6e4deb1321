/- Contracts of apiaryref1.around, beside. -/
import Derived.Test.YticbkdignmlfiaaNfP
import Derived.Test.YticbkdignmlfiaaKit
namespace Go.Proofs.Yticbkdignmlfiaa
open Go.RowKit Go.Lib Wd

def eV (l : List E2) : List Value := l.flatMap fun c => [.int .i64 c.1, .int .i64 c.2]
def eg (l : List E2) (k : Nat) : E2 := l.getD k (0, 0)
theorem eV_length (l : List E2) : (eV l).length = l.length * 2 := by
  induction l with
  | nil => rfl
  | cons p l ih => simp only [eV, List.flatMap_cons, List.length_append, List.length_cons, List.length_nil] at *; omega
theorem eV_append (a b : List E2) : eV (a ++ b) = eV a ++ eV b := by simp [eV]
theorem eV_one (c : E2) : eV [c] = [.int .i64 c.1, .int .i64 c.2] := rfl
theorem eV_get : ∀ (l : List E2) (k : Nat), k < l.length → (eV l)[k * 2]? = some (.int .i64 (eg l k).1) ∧ (eV l)[k * 2 + 1]? = some (.int .i64 (eg l k).2)
  | [], k, h => by simp at h
  | p :: l, 0, _ => by simp [eV, eg]
  | p :: l, k + 1, h => by
    have ih := eV_get l k (by simpa using h)
    have e : eV (p :: l) = [.int .i64 p.1, .int .i64 p.2] ++ eV l := rfl
    have g : eg (p :: l) (k + 1) = eg l k := rfl
    rw [e, g, List.getElem?_append_right (by simp; omega), List.getElem?_append_right (by simp; omega)]
    simp only [List.length_cons, List.length_nil]
    rw [show (k + 1) * 2 - (0 + 1 + 1) = k * 2 by omega, show (k + 1) * 2 + 1 - (0 + 1 + 1) = k * 2 + 1 by omega]
    exact ih
theorem eV_cell (l : List E2) : ∀ u ∈ eV l, u.oneCell' = true := fun u hu => by
  simp only [eV, List.mem_flatMap] at hu
  obtain ⟨p, _, hp⟩ := hu
  simp at hp
  rcases hp with rfl | rfl <;> rfl
/-- In w a slice's address leads to numbers of the lattice. -/
def EAt (w : World) (ao : Option Addr) (l : List E2) : Prop :=
  0 < l.length → ∃ b off, ao = some ⟨b, off, none⟩ ∧ b < w.heap.size ∧ ∀ k, k < l.length →
    w.cell? ⟨b, off + k * 2, none⟩ = some (.int .i64 (eg l k).1) ∧ w.cell? ⟨b, off + k * 2 + 1, none⟩ = some (.int .i64 (eg l k).2)
theorem EAt.below {w w' : World} {ao : Option Addr} {l : List E2} (h : EAt w ao l) (hb : Below w.heap.size w w') : EAt w' ao l := fun h0 => by
  obtain ⟨b, off, e, hlt, hc⟩ := h h0
  refine ⟨b, off, e, Nat.lt_of_lt_of_le hlt hb.size, fun k hk => ?_⟩
  rw [hb.cell (p := ⟨b, _, none⟩) hlt, hb.cell (p := ⟨b, _, none⟩) hlt]
  exact hc k hk
theorem eAt_own {w : World} {base n c : Nat} {ao : Option Addr} {l : List E2} (hn : n = l.length) (h : w.ownsRow base 23 2 (.slice ao n c) n (eV l)) : EAt w ao l := fun h0 => by
  subst hn
  obtain ⟨ao', c', e, _, hh⟩ := own_form h
  cases e
  obtain ⟨g, rfl, _, hlt, hc⟩ := hh h0
  exact ⟨g, 0, rfl, hlt, fun i hi => by
    have := eV_get l i hi
    rw [Nat.zero_add]
    exact ⟨hc _ _ this.1, hc _ _ this.2⟩⟩
theorem info_e : (Try.prog.info? 23).map (fun i => (i.zero, i.size, i.bytes)) = some (some (.agg #[.int .i64 0, .int .i64 0]), 2, 16) := by kernel_rfl
theorem take_e (V : List E2) {k : Nat} (h : k < V.length) : V.take (k + 1) = V.take k ++ [eg V k] := by
  unfold eg
  rw [List.take_add_one, List.getElem?_eq_getElem h, List.getD_eq_getElem?_getD, List.getElem?_eq_getElem h]
  rfl

/-- Steps of a size of lo to hi. -/
def arow (lo hi a : Int) : Nat → List E2
  | 0 => []
  | m + 1 => arow lo hi a m ++ (if lo ≤ stepsN (a, -hi + m) ∧ stepsN (a, -hi + m) ≤ hi then [(a, -hi + m)] else [])
def aall (lo hi : Int) (n : Nat) : Nat → List E2
  | 0 => []
  | j + 1 => aall lo hi n j ++ arow lo hi (-hi + j) n
theorem arow_len (lo hi a : Int) (m : Nat) : (arow lo hi a m).length ≤ m := by
  induction m with
  | zero => simp [arow]
  | succ m ih =>
    show (arow lo hi a m ++ _).length ≤ _
    rw [List.length_append]
    split <;> simp <;> omega
theorem aall_len (lo hi : Int) (n j : Nat) : (aall lo hi n j).length ≤ j * n := by
  induction j with
  | zero => simp [aall]
  | succ j ih =>
    show (aall lo hi n j ++ _).length ≤ _
    rw [List.length_append, Nat.succ_mul]
    have := arow_len lo hi (-hi + j) n
    omega
theorem arow_mem (lo hi a : Int) (m : Nat) (z : E2) : z ∈ arow lo hi a m ↔ z.1 = a ∧ -hi ≤ z.2 ∧ z.2 < -hi + m ∧ lo ≤ stepsN z ∧ stepsN z ≤ hi := by
  induction m with
  | zero => simp only [arow, List.not_mem_nil, false_iff]; omega
  | succ m ih =>
    show z ∈ arow lo hi a m ++ _ ↔ _
    rw [List.mem_append, ih]
    obtain ⟨p, q⟩ := z
    simp only
    constructor
    · rintro (h | h)
      · exact ⟨h.1, h.2.1, by omega, h.2.2.2⟩
      · split at h
        · next h2 =>
          simp only [List.mem_singleton, Prod.mk.injEq] at h
          obtain ⟨rfl, rfl⟩ := h
          exact ⟨rfl, by omega, by omega, h2⟩
        · simp at h
    · rintro ⟨rfl, h1, h2, h3, h4⟩
      by_cases hq : q < -hi + m
      · exact .inl ⟨rfl, h1, hq, h3, h4⟩
      · obtain rfl : q = -hi + m := by omega
        right
        rw [if_pos ⟨h3, h4⟩]
        simp
theorem aall_mem (lo hi : Int) (n j : Nat) (z : E2) : z ∈ aall lo hi n j ↔ -hi ≤ z.1 ∧ z.1 < -hi + j ∧ -hi ≤ z.2 ∧ z.2 < -hi + n ∧ lo ≤ stepsN z ∧ stepsN z ≤ hi := by
  induction j with
  | zero => simp only [aall, List.not_mem_nil, false_iff]; omega
  | succ j ih =>
    show z ∈ aall lo hi n j ++ _ ↔ _
    rw [List.mem_append, ih, arow_mem]
    constructor
    · rintro (h | h)
      · exact ⟨h.1, by omega, h.2.2⟩
      · exact ⟨by omega, by omega, h.2⟩
    · rintro ⟨h1, h2, h3⟩
      by_cases hq : z.1 < -hi + j
      · exact .inl ⟨h1, hq, h3⟩
      · exact .inr ⟨by omega, h3⟩
def arL (lo hi : Nat) : List E2 := aall lo hi (2 * hi + 1) (2 * hi + 1)
theorem arL_mem (lo hi : Nat) (z : E2) : z ∈ arL lo hi ↔ (lo : Int) ≤ stepsN z ∧ stepsN z ≤ hi := by
  unfold arL
  rw [aall_mem]
  constructor
  · exact fun h => ⟨h.2.2.2.2.1, h.2.2.2.2.2⟩
  · intro ⟨h1, h2⟩
    have := (steps_hex z _).2 h2
    unfold Hex at this
    exact ⟨by omega, by omega, by omega, by omega, h1, h2⟩
/-- What is told: a list of numbers. -/
def ToldE (w : World) (L : List E2) (e : Ending) (w' : World) : Prop := ∃ ao c, e = .returned (.slice ao L.length c) ∧ EAt w' ao L ∧ Below w.heap.size w w'
set_option maxRecDepth 100000 in
set_option maxHeartbeats 8000000 in
theorem around_any (lo hi : Nat) (hh : hi ≤ 1000) (hl : lo ≤ 1000) (w : World) : Calls Try.prog 39 #[.int .i64 lo, .int .i64 hi] w (ToldE w (arL lo hi)) := by
  obtain ⟨i1, hj, hy0, hy1, hy2⟩ := info_parts info_e
  have HST : Hid (∀ (a b : Int), -1000 ≤ a → a ≤ 1000 → -1000 ≤ b → b ≤ 1000 → ∀ w, Calls Try.prog 38 #[.agg #[.int .i64 a, .int .i64 b]] w fun e w' => e = .returned (.tuple #[.int .i64 (stepsN (a, b)), .bool true]) ∧ Below w.heap.size w w') := fun a b h1 h2 h3 h4 w => rsteps_in (a, b) (by unfold Sm; simp only; omega) w
  have HA : Hid (arL lo hi = aall lo hi (2 * hi + 1) (2 * hi + 1)) := rfl
  obtain ⟨N, hN⟩ : ∃ N, 2 * hi + 1 = N := ⟨_, rfl⟩
  rw [hN] at HA
  have HL := Lib.hid (aall_len lo hi N)
  have HR := Lib.hid (fun a => arow_len lo hi a N)
  go_enter Try.func39, Try.ntmps39
  go_wp2
  go_loopw [5, 6] (fun sl i wr => ∃ (j m : Nat) (ao : Option Addr) (c : Nat), j ≤ N ∧ i = .int .i64 (-(hi : Int) + j) ∧ sl = .slice ao m c ∧ m ≤ 5000000 ∧ Hid ((aall lo hi N j).length = m) ∧ Hid (wr.ownsRow w.heap.size 23 2 (.slice ao m c) m (eV (aall lo hi N j)) ∧ Below w.heap.size w wr)) (fun _ i _ => ((hi : Int) + 1 - intOf i).toNat)
  case atStart => exact ⟨0, 0, _, _, by omega, by simp, rfl, by omega, rfl, World.ownsRow_nil _ _ _ _, Below.refl _ _⟩
  case round =>
    obtain ⟨j, m, ao, c, hj2, rfl, rfl, hm5, HLEN, HI⟩ := hrel
    by_cases hlt : j < N
    · have q1 : decide (-(hi : Int) + j ≤ hi) = true := decide_eq_true (by omega)
      have hnext : (aall lo hi N (j + 1)).length ≤ 5000000 := by
        have h1 := HL.out (j + 1)
        have h2 : (j + 1) * N ≤ 2001 * 2001 := Nat.mul_le_mul (by omega) (by omega)
        omega
      have HXL := Lib.hid hnext
      clear hnext
      have HNX : Hid (aall lo hi N (j + 1) = aall lo hi N j ++ arow lo hi (-(hi : Int) + j) N) := rfl
      generalize aall lo hi N j = A at *
      obtain ⟨a, ha⟩ : ∃ a, -(hi : Int) + (j : Int) = a := ⟨_, rfl⟩
      rw [ha] at HNX q1
      rw [ha]
      have ha1 : -(hi : Int) ≤ a := by omega
      have ha2 : a ≤ hi := by omega
      have HA2 := Lib.hid ha
      clear ha
      go_wp2
      go_loopw [5, 7] (fun sl i wr => ∃ (b m : Nat) (ao : Option Addr) (c : Nat), b ≤ N ∧ i = .int .i64 (-(hi : Int) + b) ∧ sl = .slice ao m c ∧ m ≤ 5000000 + b ∧ Hid ((A ++ arow lo hi a b).length = m) ∧ Hid (wr.ownsRow w.heap.size 23 2 (.slice ao m c) m (eV (A ++ arow lo hi a b)) ∧ Below w.heap.size w wr)) (fun _ i _ => ((hi : Int) + 1 - intOf i).toNat)
      case atStart => exact ⟨0, m, _, _, by omega, by simp, rfl, by omega, by simpa [arow] using HLEN, by simpa [arow] using HI⟩
      case round =>
        obtain ⟨b, m, ao, c, hb2, rfl, rfl, hm6, HLEN, HI⟩ := hrel
        by_cases hlt2 : b < N
        · have q2 : decide (-(hi : Int) + b ≤ hi) = true := decide_eq_true (by omega)
          have HST2 := Lib.hid (HST.out a (-(hi : Int) + b) (by omega) (by omega) (by omega) (by omega))
          have HRX : Hid (arow lo hi a (b + 1) = arow lo hi a b ++ (if (lo : Int) ≤ stepsN (a, -(hi : Int) + b) ∧ stepsN (a, -(hi : Int) + b) ≤ hi then [(a, -(hi : Int) + b)] else [])) := rfl
          generalize stepsN (a, -(hi : Int) + b) = s at *
          go_wp2_with fail
          refine (HST2.out _).mono ?_
          rintro e w5 ⟨rfl, hb5⟩
          have hown := own_later HI.out.1 hb5
          have hsr := HI.out.2.size
          have hz5 := hb5.size
          have HB5 := Lib.hid (HI.out.2.trans (hb5.mono hsr))
          clear HI hb5
          by_cases hP : (lo : Int) ≤ s ∧ s ≤ hi
          · rw [if_pos hP] at HRX
            have q3 : decide ((lo : Int) ≤ s) = true := decide_eq_true hP.1
            have q4 : decide (s ≤ (hi : Int)) = true := decide_eq_true hP.2
            clear hP
            go_wp2_with (at_builtin; refine wpList_append_own _ rfl (.tmp 39) (.tmp 43) 24 rfl w.heap.size 23 i1 (.agg #[.int .i64 0, .int .i64 0]) 2 16 Try.underlying24 hj hy0 hy1 hy2 rfl (by decide) _ _ _ rfl (hown.alloc _) ⟨w5.heap.size, 0, none⟩ 1 1 [.int .i64 a, .int .i64 (-(hi : Int) + b)] rfl rfl (cells_new _ _ _ _ rfl) (by simp [Value.oneCell']) (by unfold maxLen; omega) (by omega) (by simp; omega) ?_; intro v' w9 hown1 hgrow _)
            have HB9 : Hid (Below w.heap.size w w9) := below_append (HB5.out.alloc (by omega) (.cells #[.int .i64 a, .int .i64 (-(hi : Int) + b)] 23)) (hown.alloc (.cells #[.int .i64 a, .int .i64 (-(hi : Int) + b)] 23)) (by simp; omega) hgrow
            obtain ⟨ao', c', rfl, _⟩ := own_form hown1
            have ho9 : w9.ownsRow w.heap.size 23 2 (.slice ao' (m + 1) c') (m + 1) (eV (A ++ arow lo hi a (b + 1))) := by rw [HRX.out, ← List.append_assoc, eV_append, eV_one]; exact hown1
            have HO9 := Lib.hid ho9
            have HLN : Hid ((A ++ arow lo hi a (b + 1)).length = m + 1) := by show _ = _; rw [HRX.out, ← List.append_assoc, List.length_append, HLEN.out]; rfl
            clear hown1 hgrow hown ho9
            go_wp2
            go_roundw
            case rel => exact ⟨b + 1, m + 1, ao', c', by omega, by go_num, rfl, by omega, HLN.out, HO9.out, HB9.out⟩
            case measure => simp [intOf]; omega
          · rw [if_neg hP, List.append_nil] at HRX
            have HO9 := Lib.hid hown
            rw [← HRX.out] at HO9 HLEN
            clear hown
            rcases (show ¬ (lo : Int) ≤ s ∨ ((lo : Int) ≤ s ∧ ¬ s ≤ hi) by omega) with h | ⟨h, h'⟩
            · have q3 : decide ((lo : Int) ≤ s) = false := decide_eq_false h
              go_wp2
              go_roundw
              case rel => exact ⟨b + 1, m, ao, c, by omega, by go_num, rfl, by omega, HLEN.out, HO9.out, HB5.out⟩
              case measure => simp [intOf]; omega
            · have q3 : decide ((lo : Int) ≤ s) = true := decide_eq_true h
              have q4 : decide (s ≤ (hi : Int)) = false := decide_eq_false h'
              go_wp2
              go_roundw
              case rel => exact ⟨b + 1, m, ao, c, by omega, by go_num, rfl, by omega, HLEN.out, HO9.out, HB5.out⟩
              case measure => simp [intOf]; omega
        · have q2 : decide (-(hi : Int) + b ≤ hi) = false := decide_eq_false (by omega)
          have hbN : b = N := by omega
          rw [hbN, ← HNX.out] at HLEN HI
          have hm7 : m ≤ 5000000 := by rw [← HLEN.out]; exact HXL.out
          have HI2 := Lib.hid HI.out
          have e1 := HA2.out
          have q9 : IntKind.i64.wrap (a + 1) = -(hi : Int) + (j + 1 : Nat) := by rw [← e1]; exact (wrap_in (by omega) (by omega)).trans (by omega)
          clear e1
          go_wp2
          go_roundw
          case rel => exact ⟨j + 1, m, ao, c, by omega, by have := HA2.out; go_num, rfl, hm7, HLEN.out, HI2.out⟩
          case measure => have := HA2.out; simp [intOf, q9]; omega
    · have q1 : decide (-(hi : Int) + j ≤ hi) = false := decide_eq_false (by omega)
      have hjN : j = N := by omega
      rw [hjN, ← HA.out] at HLEN HI
      have HF : Hid (ToldE w (arL lo hi) (.returned (.slice ao m c)) wr) := ⟨ao, c, by rw [HLEN.out], eAt_own HLEN.out.symm HI.out.1, HI.out.2⟩
      clear HI HLEN
      go_wp2
      go_ret
      exact HF.out
/-- A cell moved by steps: the words of those that may be, rising. -/
def besL (r : Int) (z : E2) (L : List E2) : List Int := setF (tellL r (L.map (addE z)))
set_option maxRecDepth 100000 in
set_option maxHeartbeats 8000000 in
theorem beside_any (r : Int) (z : E2) (ao : Option Addr) (c : Nat) (L : List E2) (w : World) (h : EAt w ao L) (hz : Sm 1073741824 z) (hL : ∀ y ∈ L, Sm 1000 y) (hn : L.length ≤ 5000000) :
    Calls Try.prog 37 #[vC r z, .slice ao L.length c] w (Joined w (besL r z L)) := by
  obtain ⟨i0, hi, hz0, hz1, hz2⟩ := info_parts info_u
  have HE := Lib.hid h
  have HS := Lib.hid hL
  have HT1 := Lib.hid (tellL_app r)
  have HT2 := Lib.hid (tellL_one r)
  have HOF := Lib.hid (word_any r)
  have HOE : Hid (∀ z, ofE r z = if okB r z = true then 0 else 2) := fun z => rfl
  have HBL : Hid (besL r z L = setF (tellL r (L.map (addE z)))) := rfl
  have HMT : Hid (∀ k, k < L.length → (L.take (k + 1)).map (addE z) = (L.take k).map (addE z) ++ [((z.1 + (eg L k).1), (z.2 + (eg L k).2))]) := fun k hk => by rw [take_e L hk, List.map_append]; rfl
  have HEM : Hid (∀ k, k < L.length → Sm 1000 (eg L k)) := fun k hk => hL _ (by unfold eg; rw [List.getD_eq_getElem?_getD, List.getElem?_eq_getElem hk]; exact List.getElem_mem hk)
  obtain ⟨n, hnn⟩ : ∃ n, L.length = n := ⟨_, rfl⟩
  have HN := Lib.hid hnn
  have HTL : Hid (∀ k, n ≤ k → L.take k = L) := fun k hk => List.take_of_length_le (by rw [hnn]; exact hk)
  rw [hnn] at hn HMT HEM ⊢
  unfold Sm at hz
  obtain ⟨z1, z2, z3, z4⟩ := hz
  have HTR : Hid (Tri (w.alloc (.cells #[.int .i64 r, .int .i64 z.1, .int .i64 z.2] 29)) w.heap.size r z) := heap_new _ _ _ rfl
  have HAL : Hid (Below w.heap.size w (w.alloc (.cells #[.int .i64 r, .int .i64 z.1, .int .i64 z.2] 29))) := (Below.refl _ _).alloc (Nat.le_refl _) _
  clear hnn h hL
  simp only [vC] at *
  go_enter Try.func37, Try.ntmps37
  go_upto_region 1 with (fail)
  generalize w.alloc (.cells #[.int .i64 r, .int .i64 z.1, .int .i64 z.2] 29) = w2 at *
  have HE2 := Lib.hid (HE.out.below HAL.out)
  have hw2 := HTR.out.lt
  go_wp2
  go_loopw [5, 6] (fun sl i wr => ∃ (k m : Nat) (bo : Option Addr) (d : Nat), k ≤ n ∧ i = .int .i64 k ∧ m ≤ k ∧ sl = .slice bo m d ∧ Hid ((tellL r ((L.take k).map (addE z))).length = m) ∧ Hid (wr.ownsRow w2.heap.size 25 1 (.slice bo m d) m (uV (tellL r ((L.take k).map (addE z)))) ∧ Below w2.heap.size w2 wr)) (fun _ i _ => n - (intOf i).toNat)
  case atStart => exact ⟨0, 0, _, _, by omega, rfl, by omega, rfl, rfl, World.ownsRow_nil _ _ _ _, Below.refl _ _⟩
  case round =>
    obtain ⟨k, m, bo, d, hk, rfl, hmk, rfl, HLEN, HI⟩ := hrel
    by_cases hlt : k < n
    · obtain ⟨g, off, rfl, hg, hc⟩ := (HE2.out.below HI.out.2) (by rw [HN.out]; omega)
      obtain ⟨c0, c1⟩ := hc k (by rw [HN.out]; exact hlt)
      have hy := HEM.out k hlt
      have HMK := Lib.hid (HMT.out k hlt)
      generalize eg L k = y at *
      unfold Sm at hy
      obtain ⟨y1, y2, y3, y4⟩ := hy
      have HTX := Lib.hid (HTR.out.later HI.out.2)
      have HCX : Hid (∀ wx, Below wr.heap.size wr wx → Tri wx w.heap.size r z ∧ wx.cell? ⟨g, off + k * 2, none⟩ = some (.int .i64 y.1) ∧ wx.cell? ⟨g, off + k * 2 + 1, none⟩ = some (.int .i64 y.2)) := fun wx hx => ⟨HTX.out.later hx, (hx.cell (p := ⟨g, _, none⟩) hg).trans c0, (hx.cell (p := ⟨g, _, none⟩) hg).trans c1⟩
      obtain ⟨t0, t1, t2, t3, t4, t5, t6⟩ := HTX.out.cells
      have HW := Lib.hid (HOF.out (z.1 + y.1, z.2 + y.2))
      have HT2z := Lib.hid (HT2.out (z.1 + y.1, z.2 + y.2))
      have HOEz := Lib.hid (HOE.out (z.1 + y.1, z.2 + y.2))
      clear hc
      go_upto_region 5 with (fail)
      clear c0 c1 t0 t1 t2 t3 t4 t5 HTX
      obtain ⟨v, hv⟩ : ∃ v, ofW r (z.1 + y.1, z.2 + y.2) = v := ⟨_, rfl⟩
      obtain ⟨ev, hev⟩ : ∃ v, ofE r (z.1 + y.1, z.2 + y.2) = v := ⟨_, rfl⟩
      rw [hv] at HW HT2z
      rw [hev] at HW HOEz
      clear hv hev
      simp only at HW
      refine wp_region_inv (fun w w' => Below w.heap.size w w') (fun qi_ qv_ _ => qv_ = ([.pointer (some ⟨w.heap.size, 0, none⟩), .int .i64 r, .pointer (some ⟨w.heap.size, 1, none⟩), .pointer (some ⟨w.heap.size, 1, none⟩), .int .i64 z.1, .slice (some ⟨g, off, none⟩) n c, .int .i64 k, .pointer (some ⟨g, off + k * 2, none⟩), .pointer (some ⟨g, off + k * 2, none⟩), .int .i64 y.1, .int .i64 (z.1 + y.1), .pointer (some ⟨w.heap.size, 1, none⟩), .pointer (some ⟨w.heap.size, 2, none⟩), .int .i64 z.2, .slice (some ⟨g, off, none⟩) n c, .int .i64 k, .pointer (some ⟨g, off + k * 2, none⟩), .pointer (some ⟨g, off + k * 2 + 1, none⟩), .int .i64 y.2, .int .i64 (z.2 + y.2), .agg #[.int .i64 (z.1 + y.1), .int .i64 (z.2 + y.2)], .agg #[.int .i64 r, .int .i64 (z.1 + y.1), .int .i64 (z.2 + y.2)], .tuple #[.int .u64 v, .int .i64 ev], .tuple #[.int .u64 v, .int .i64 ev], .int .u64 v, .int .i64 ev, .int .u64 v, .int .i64 ev] : List Value).getD qi_ undef) (by kernel_rfl) (by kernel_rfl) (fun _ => Below.refl _ _) (fun _ _ _ h1 h2 => below_later h1 h1.size h2) (fun _ _ _ _ _ _ h => h) ?_
      refine inv_cons (fun wx hg hd => ?_) (fun v0 => ?_)
      · have hx := ((Below.refl wr.heap.size wr).drew).trans hg
        clear hd hg
        go_wp2
        exact ⟨_, rfl, Below.refl _ _, rfl⟩
      (try simp only [List.nil_append, Act.put, List.setIfInBounds_toArray, List.set_cons_zero, List.set_cons_succ])
      refine inv_cons (fun wx hg hd => ?_) (fun v1 => ?_)
      · have hx := ((Below.refl wr.heap.size wr).drew).trans hg
        (try (have ee : v0 = (.pointer (some ⟨w.heap.size, 0, none⟩) : Value) := hd 0 (by simp) (by decide); subst ee))
        clear hd hg
        obtain ⟨k0, k1, k2⟩ := HCX.out _ hx
        obtain ⟨t0, t1, t2, t3, t4, t5, t6⟩ := k0.cells
        clear k0
        go_wp2
        exact ⟨_, rfl, Below.refl _ _, rfl⟩
      (try simp only [List.cons_append, List.nil_append, Act.put, List.setIfInBounds_toArray, List.set_cons_zero, List.set_cons_succ])
      refine inv_cons (fun wx hg hd => ?_) (fun v2 => ?_)
      · have hx := ((Below.refl wr.heap.size wr).drew).trans hg
        clear hd hg
        go_wp2
        exact ⟨_, rfl, Below.refl _ _, rfl⟩
      (try simp only [List.cons_append, List.nil_append, Act.put, List.setIfInBounds_toArray, List.set_cons_zero, List.set_cons_succ])
      refine inv_cons (fun wx hg hd => ?_) (fun v3 => ?_)
      · have hx := ((Below.refl wr.heap.size wr).drew).trans hg
        (try (have ee : v2 = (.pointer (some ⟨w.heap.size, 1, none⟩) : Value) := hd 2 (by simp) (by decide); subst ee))
        clear hd hg
        go_wp2
        exact ⟨_, rfl, Below.refl _ _, rfl⟩
      (try simp only [List.cons_append, List.nil_append, Act.put, List.setIfInBounds_toArray, List.set_cons_zero, List.set_cons_succ])
      refine inv_cons (fun wx hg hd => ?_) (fun v4 => ?_)
      · have hx := ((Below.refl wr.heap.size wr).drew).trans hg
        (try (have ee : v3 = (.pointer (some ⟨w.heap.size, 1, none⟩) : Value) := hd 3 (by simp) (by decide); subst ee))
        clear hd hg
        obtain ⟨k0, k1, k2⟩ := HCX.out _ hx
        obtain ⟨t0, t1, t2, t3, t4, t5, t6⟩ := k0.cells
        clear k0
        go_wp2
        exact ⟨_, rfl, Below.refl _ _, rfl⟩
      (try simp only [List.cons_append, List.nil_append, Act.put, List.setIfInBounds_toArray, List.set_cons_zero, List.set_cons_succ])
      refine inv_cons (fun wx hg hd => ?_) (fun v5 => ?_)
      · have hx := ((Below.refl wr.heap.size wr).drew).trans hg
        clear hd hg
        go_wp2
        exact ⟨_, rfl, Below.refl _ _, rfl⟩
      (try simp only [List.cons_append, List.nil_append, Act.put, List.setIfInBounds_toArray, List.set_cons_zero, List.set_cons_succ])
      refine inv_cons (fun wx hg hd => ?_) (fun v6 => ?_)
      · have hx := ((Below.refl wr.heap.size wr).drew).trans hg
        clear hd hg
        go_wp2
        exact ⟨_, rfl, Below.refl _ _, rfl⟩
      (try simp only [List.cons_append, List.nil_append, Act.put, List.setIfInBounds_toArray, List.set_cons_zero, List.set_cons_succ])
      refine inv_cons (fun wx hg hd => ?_) (fun v7 => ?_)
      · have hx := ((Below.refl wr.heap.size wr).drew).trans hg
        (try (have ee : v5 = (.slice (some ⟨g, off, none⟩) n c : Value) := hd 5 (by simp) (by decide); subst ee))
        (try (have ee : v6 = (.int .i64 k : Value) := hd 6 (by simp) (by decide); subst ee))
        clear hd hg
        go_wp2
        exact ⟨_, rfl, Below.refl _ _, rfl⟩
      (try simp only [List.cons_append, List.nil_append, Act.put, List.setIfInBounds_toArray, List.set_cons_zero, List.set_cons_succ])
      refine inv_cons (fun wx hg hd => ?_) (fun v8 => ?_)
      · have hx := ((Below.refl wr.heap.size wr).drew).trans hg
        (try (have ee : v7 = (.pointer (some ⟨g, off + k * 2, none⟩) : Value) := hd 7 (by simp) (by decide); subst ee))
        clear hd hg
        go_wp2
        exact ⟨_, rfl, Below.refl _ _, rfl⟩
      (try simp only [List.cons_append, List.nil_append, Act.put, List.setIfInBounds_toArray, List.set_cons_zero, List.set_cons_succ])
      refine inv_cons (fun wx hg hd => ?_) (fun v9 => ?_)
      · have hx := ((Below.refl wr.heap.size wr).drew).trans hg
        (try (have ee : v8 = (.pointer (some ⟨g, off + k * 2, none⟩) : Value) := hd 8 (by simp) (by decide); subst ee))
        clear hd hg
        obtain ⟨k0, k1, k2⟩ := HCX.out _ hx
        clear k0
        go_wp2
        exact ⟨_, rfl, Below.refl _ _, rfl⟩
      (try simp only [List.cons_append, List.nil_append, Act.put, List.setIfInBounds_toArray, List.set_cons_zero, List.set_cons_succ])
      refine inv_cons (fun wx hg hd => ?_) (fun v10 => ?_)
      · have hx := ((Below.refl wr.heap.size wr).drew).trans hg
        (try (have ee : v4 = (.int .i64 z.1 : Value) := hd 4 (by simp) (by decide); subst ee))
        (try (have ee : v9 = (.int .i64 y.1 : Value) := hd 9 (by simp) (by decide); subst ee))
        clear hd hg
        go_wp2
        exact ⟨_, rfl, Below.refl _ _, rfl⟩
      (try simp only [List.cons_append, List.nil_append, Act.put, List.setIfInBounds_toArray, List.set_cons_zero, List.set_cons_succ])
      refine inv_cons (fun wx hg hd => ?_) (fun v11 => ?_)
      · have hx := ((Below.refl wr.heap.size wr).drew).trans hg
        clear hd hg
        go_wp2
        exact ⟨_, rfl, Below.refl _ _, rfl⟩
      (try simp only [List.cons_append, List.nil_append, Act.put, List.setIfInBounds_toArray, List.set_cons_zero, List.set_cons_succ])
      refine inv_cons (fun wx hg hd => ?_) (fun v12 => ?_)
      · have hx := ((Below.refl wr.heap.size wr).drew).trans hg
        (try (have ee : v11 = (.pointer (some ⟨w.heap.size, 1, none⟩) : Value) := hd 11 (by simp) (by decide); subst ee))
        clear hd hg
        go_wp2
        exact ⟨_, rfl, Below.refl _ _, rfl⟩
      (try simp only [List.cons_append, List.nil_append, Act.put, List.setIfInBounds_toArray, List.set_cons_zero, List.set_cons_succ])
      refine inv_cons (fun wx hg hd => ?_) (fun v13 => ?_)
      · have hx := ((Below.refl wr.heap.size wr).drew).trans hg
        (try (have ee : v12 = (.pointer (some ⟨w.heap.size, 2, none⟩) : Value) := hd 12 (by simp) (by decide); subst ee))
        clear hd hg
        obtain ⟨k0, k1, k2⟩ := HCX.out _ hx
        obtain ⟨t0, t1, t2, t3, t4, t5, t6⟩ := k0.cells
        clear k0
        go_wp2
        exact ⟨_, rfl, Below.refl _ _, rfl⟩
      (try simp only [List.cons_append, List.nil_append, Act.put, List.setIfInBounds_toArray, List.set_cons_zero, List.set_cons_succ])
      refine inv_cons (fun wx hg hd => ?_) (fun v14 => ?_)
      · have hx := ((Below.refl wr.heap.size wr).drew).trans hg
        clear hd hg
        go_wp2
        exact ⟨_, rfl, Below.refl _ _, rfl⟩
      (try simp only [List.cons_append, List.nil_append, Act.put, List.setIfInBounds_toArray, List.set_cons_zero, List.set_cons_succ])
      refine inv_cons (fun wx hg hd => ?_) (fun v15 => ?_)
      · have hx := ((Below.refl wr.heap.size wr).drew).trans hg
        clear hd hg
        go_wp2
        exact ⟨_, rfl, Below.refl _ _, rfl⟩
      (try simp only [List.cons_append, List.nil_append, Act.put, List.setIfInBounds_toArray, List.set_cons_zero, List.set_cons_succ])
      refine inv_cons (fun wx hg hd => ?_) (fun v16 => ?_)
      · have hx := ((Below.refl wr.heap.size wr).drew).trans hg
        (try (have ee : v14 = (.slice (some ⟨g, off, none⟩) n c : Value) := hd 14 (by simp) (by decide); subst ee))
        (try (have ee : v15 = (.int .i64 k : Value) := hd 15 (by simp) (by decide); subst ee))
        clear hd hg
        go_wp2
        exact ⟨_, rfl, Below.refl _ _, rfl⟩
      (try simp only [List.cons_append, List.nil_append, Act.put, List.setIfInBounds_toArray, List.set_cons_zero, List.set_cons_succ])
      refine inv_cons (fun wx hg hd => ?_) (fun v17 => ?_)
      · have hx := ((Below.refl wr.heap.size wr).drew).trans hg
        (try (have ee : v16 = (.pointer (some ⟨g, off + k * 2, none⟩) : Value) := hd 16 (by simp) (by decide); subst ee))
        clear hd hg
        go_wp2
        exact ⟨_, rfl, Below.refl _ _, rfl⟩
      (try simp only [List.cons_append, List.nil_append, Act.put, List.setIfInBounds_toArray, List.set_cons_zero, List.set_cons_succ])
      refine inv_cons (fun wx hg hd => ?_) (fun v18 => ?_)
      · have hx := ((Below.refl wr.heap.size wr).drew).trans hg
        (try (have ee : v17 = (.pointer (some ⟨g, off + k * 2 + 1, none⟩) : Value) := hd 17 (by simp) (by decide); subst ee))
        clear hd hg
        obtain ⟨k0, k1, k2⟩ := HCX.out _ hx
        clear k0
        go_wp2
        exact ⟨_, rfl, Below.refl _ _, rfl⟩
      (try simp only [List.cons_append, List.nil_append, Act.put, List.setIfInBounds_toArray, List.set_cons_zero, List.set_cons_succ])
      refine inv_cons (fun wx hg hd => ?_) (fun v19 => ?_)
      · have hx := ((Below.refl wr.heap.size wr).drew).trans hg
        (try (have ee : v13 = (.int .i64 z.2 : Value) := hd 13 (by simp) (by decide); subst ee))
        (try (have ee : v18 = (.int .i64 y.2 : Value) := hd 18 (by simp) (by decide); subst ee))
        clear hd hg
        go_wp2
        exact ⟨_, rfl, Below.refl _ _, rfl⟩
      (try simp only [List.cons_append, List.nil_append, Act.put, List.setIfInBounds_toArray, List.set_cons_zero, List.set_cons_succ])
      refine inv_cons (fun wx hg hd => ?_) (fun v20 => ?_)
      · have hx := ((Below.refl wr.heap.size wr).drew).trans hg
        (try (have ee : v10 = (.int .i64 (z.1 + y.1) : Value) := hd 10 (by simp) (by decide); subst ee))
        (try (have ee : v19 = (.int .i64 (z.2 + y.2) : Value) := hd 19 (by simp) (by decide); subst ee))
        clear hd hg
        go_wp2
        exact ⟨_, rfl, Below.refl _ _, rfl⟩
      (try simp only [List.cons_append, List.nil_append, Act.put, List.setIfInBounds_toArray, List.set_cons_zero, List.set_cons_succ])
      refine inv_cons (fun wx hg hd => ?_) (fun v21 => ?_)
      · have hx := ((Below.refl wr.heap.size wr).drew).trans hg
        (try (have ee : v1 = (.int .i64 r : Value) := hd 1 (by simp) (by decide); subst ee))
        (try (have ee : v20 = (.agg #[.int .i64 (z.1 + y.1), .int .i64 (z.2 + y.2)] : Value) := hd 20 (by simp) (by decide); subst ee))
        clear hd hg
        go_wp2
        exact ⟨_, rfl, Below.refl _ _, rfl⟩
      (try simp only [List.cons_append, List.nil_append, Act.put, List.setIfInBounds_toArray, List.set_cons_zero, List.set_cons_succ])
      refine inv_cons (fun wx hg hd => ?_) (fun v22 => ?_)
      · have hx := ((Below.refl wr.heap.size wr).drew).trans hg
        (try (have ee : v21 = (.agg #[.int .i64 r, .int .i64 (z.1 + y.1), .int .i64 (z.2 + y.2)] : Value) := hd 21 (by simp) (by decide); subst ee))
        clear hd hg
        go_wp2_with fail
        refine (HW.out _).mono ?_
        rintro e w' ⟨rfl, hb⟩
        go_wp2
        exact ⟨_, rfl, hb, rfl⟩
      (try simp only [List.cons_append, List.nil_append, Act.put, List.setIfInBounds_toArray, List.set_cons_zero, List.set_cons_succ])
      refine inv_cons (fun wx hg hd => ?_) (fun v23 => ?_)
      · have hx := ((Below.refl wr.heap.size wr).drew).trans hg
        (try (have ee : v22 = (.tuple #[.int .u64 v, .int .i64 ev] : Value) := hd 22 (by simp) (by decide); subst ee))
        clear hd hg
        go_wp2
        exact ⟨_, rfl, Below.refl _ _, rfl⟩
      (try simp only [List.cons_append, List.nil_append, Act.put, List.setIfInBounds_toArray, List.set_cons_zero, List.set_cons_succ])
      refine inv_cons (fun wx hg hd => ?_) (fun v24 => ?_)
      · have hx := ((Below.refl wr.heap.size wr).drew).trans hg
        (try (have ee : v23 = (.tuple #[.int .u64 v, .int .i64 ev] : Value) := hd 23 (by simp) (by decide); subst ee))
        clear hd hg
        go_wp2
        exact ⟨_, rfl, Below.refl _ _, rfl⟩
      (try simp only [List.cons_append, List.nil_append, Act.put, List.setIfInBounds_toArray, List.set_cons_zero, List.set_cons_succ])
      refine inv_cons (fun wx hg hd => ?_) (fun v25 => ?_)
      · have hx := ((Below.refl wr.heap.size wr).drew).trans hg
        (try (have ee : v23 = (.tuple #[.int .u64 v, .int .i64 ev] : Value) := hd 23 (by simp) (by decide); subst ee))
        clear hd hg
        go_wp2
        exact ⟨_, rfl, Below.refl _ _, rfl⟩
      (try simp only [List.cons_append, List.nil_append, Act.put, List.setIfInBounds_toArray, List.set_cons_zero, List.set_cons_succ])
      refine inv_cons (fun wx hg hd => ?_) (fun v26 => ?_)
      · have hx := ((Below.refl wr.heap.size wr).drew).trans hg
        (try (have ee : v24 = (.int .u64 v : Value) := hd 24 (by simp) (by decide); subst ee))
        clear hd hg
        go_wp2
        exact ⟨_, rfl, Below.refl _ _, rfl⟩
      (try simp only [List.cons_append, List.nil_append, Act.put, List.setIfInBounds_toArray, List.set_cons_zero, List.set_cons_succ])
      refine inv_cons (fun wx hg hd => ?_) (fun v27 => ?_)
      · have hx := ((Below.refl wr.heap.size wr).drew).trans hg
        (try (have ee : v25 = (.int .i64 ev : Value) := hd 25 (by simp) (by decide); subst ee))
        clear hd hg
        go_wp2
        exact ⟨_, rfl, Below.refl _ _, rfl⟩
      (try simp only [List.cons_append, List.nil_append, Act.put, List.setIfInBounds_toArray, List.set_cons_zero, List.set_cons_succ])
      refine inv_done (fun wx hg hd => ?_)
      have hx := ((Below.refl wr.heap.size wr).drew).trans hg
      (have ee : v0 = (.pointer (some ⟨w.heap.size, 0, none⟩) : Value) := hd 0 (by simp); subst ee)
      (have ee : v1 = (.int .i64 r : Value) := hd 1 (by simp); subst ee)
      (have ee : v2 = (.pointer (some ⟨w.heap.size, 1, none⟩) : Value) := hd 2 (by simp); subst ee)
      (have ee : v3 = (.pointer (some ⟨w.heap.size, 1, none⟩) : Value) := hd 3 (by simp); subst ee)
      (have ee : v4 = (.int .i64 z.1 : Value) := hd 4 (by simp); subst ee)
      (have ee : v5 = (.slice (some ⟨g, off, none⟩) n c : Value) := hd 5 (by simp); subst ee)
      (have ee : v6 = (.int .i64 k : Value) := hd 6 (by simp); subst ee)
      (have ee : v7 = (.pointer (some ⟨g, off + k * 2, none⟩) : Value) := hd 7 (by simp); subst ee)
      (have ee : v8 = (.pointer (some ⟨g, off + k * 2, none⟩) : Value) := hd 8 (by simp); subst ee)
      (have ee : v9 = (.int .i64 y.1 : Value) := hd 9 (by simp); subst ee)
      (have ee : v10 = (.int .i64 (z.1 + y.1) : Value) := hd 10 (by simp); subst ee)
      (have ee : v11 = (.pointer (some ⟨w.heap.size, 1, none⟩) : Value) := hd 11 (by simp); subst ee)
      (have ee : v12 = (.pointer (some ⟨w.heap.size, 2, none⟩) : Value) := hd 12 (by simp); subst ee)
      (have ee : v13 = (.int .i64 z.2 : Value) := hd 13 (by simp); subst ee)
      (have ee : v14 = (.slice (some ⟨g, off, none⟩) n c : Value) := hd 14 (by simp); subst ee)
      (have ee : v15 = (.int .i64 k : Value) := hd 15 (by simp); subst ee)
      (have ee : v16 = (.pointer (some ⟨g, off + k * 2, none⟩) : Value) := hd 16 (by simp); subst ee)
      (have ee : v17 = (.pointer (some ⟨g, off + k * 2 + 1, none⟩) : Value) := hd 17 (by simp); subst ee)
      (have ee : v18 = (.int .i64 y.2 : Value) := hd 18 (by simp); subst ee)
      (have ee : v19 = (.int .i64 (z.2 + y.2) : Value) := hd 19 (by simp); subst ee)
      (have ee : v20 = (.agg #[.int .i64 (z.1 + y.1), .int .i64 (z.2 + y.2)] : Value) := hd 20 (by simp); subst ee)
      (have ee : v21 = (.agg #[.int .i64 r, .int .i64 (z.1 + y.1), .int .i64 (z.2 + y.2)] : Value) := hd 21 (by simp); subst ee)
      (have ee : v22 = (.tuple #[.int .u64 v, .int .i64 ev] : Value) := hd 22 (by simp); subst ee)
      (have ee : v23 = (.tuple #[.int .u64 v, .int .i64 ev] : Value) := hd 23 (by simp); subst ee)
      (have ee : v24 = (.int .u64 v : Value) := hd 24 (by simp); subst ee)
      (have ee : v25 = (.int .i64 ev : Value) := hd 25 (by simp); subst ee)
      (have ee : v26 = (.int .u64 v : Value) := hd 26 (by simp); subst ee)
      (have ee : v27 = (.int .i64 ev : Value) := hd 27 (by simp); subst ee)
      clear hd hg
      (try go_simp)
      have hown := own_later HI.out.1 hx
      have HB8 := Lib.hid (HI.out.2.trans (hx.mono HI.out.2.size))
      have hz8 := HB8.out.size
      have HTA := Lib.hid (HT1.out ((L.take k).map (addE z)) [(z.1 + y.1, z.2 + y.2)])
      clear hx HI HCX
      by_cases hokz : okB r (z.1 + y.1, z.2 + y.2) = true
      · have HNX : Hid (tellL r ((L.take (k + 1)).map (addE z)) = tellL r ((L.take k).map (addE z)) ++ [(v : Int)]) := by show _ = _; rw [HMK.out, HTA.out, HT2z.out, if_pos hokz]
        have h0E : ev = 0 := by rw [HOEz.out, if_pos hokz]
        subst h0E
        go_wp2_with (at_builtin; refine wpList_append_own _ rfl (.tmp 43) (.tmp 45) 30 rfl w2.heap.size 25 i0 (.int .u64 0) 1 8 Try.underlying30 hi hz0 hz1 hz2 rfl (by decide) _ _ _ rfl (hown.alloc _) ⟨wx.heap.size, 0, none⟩ 1 1 [.int .u64 v] rfl rfl (cells_new _ _ _ _ rfl) (by simp [Value.oneCell']) (by unfold maxLen; omega) (by omega) (by simp; omega) ?_; intro v' w9 hown1 hgrow _)
        have HB9 : Hid (Below w2.heap.size w2 w9) := below_append (HB8.out.alloc (by omega) (.cells #[.int .u64 v] 25)) (hown.alloc (.cells #[.int .u64 v] 25)) (by simp; omega) hgrow
        obtain ⟨ao', c', rfl, _⟩ := own_form hown1
        have ho9 : w9.ownsRow w2.heap.size 25 1 (.slice ao' (m + 1) c') (m + 1) (uV (tellL r ((L.take (k + 1)).map (addE z)))) := by rw [HNX.out]; simpa [uV] using hown1
        have HO9 := Lib.hid ho9
        have HLN : Hid ((tellL r ((L.take (k + 1)).map (addE z))).length = m + 1) := by show _ = _; rw [HNX.out, List.length_append, HLEN.out]; rfl
        clear hown1 hgrow hown ho9
        go_wp2
        go_roundw
        case rel => exact ⟨k + 1, m + 1, ao', c', by omega, by go_num, by omega, rfl, HLN.out, HO9.out, HB9.out⟩
        case measure => simp [intOf]; omega
      · have HNX : Hid (tellL r ((L.take (k + 1)).map (addE z)) = tellL r ((L.take k).map (addE z))) := by show _ = _; rw [HMK.out, HTA.out, HT2z.out, if_neg hokz, List.append_nil]
        have h0E : ev = 2 := by rw [HOEz.out, if_neg hokz]
        subst h0E
        have HLN : Hid ((tellL r ((L.take (k + 1)).map (addE z))).length = m) := by show _ = _; rw [HNX.out, HLEN.out]
        have HO7 := Lib.hid hown
        rw [← HNX.out] at HO7
        clear hown
        go_wp2
        go_roundw
        case rel => exact ⟨k + 1, m, bo, d, by omega, by go_num, by omega, rfl, HLN.out, HO7.out, HB8.out⟩
        case measure => simp [intOf]; omega
    · have hkn : n ≤ k := by omega
      rw [HTL.out k hkn] at HLEN HI
      have hwo := words_own HLEN.out.symm HI.out.1
      have HSE := Lib.hid (rset_any bo d _ wr hwo (by rw [HLEN.out]; omega))
      rw [HLEN.out, ← HBL.out] at HSE
      have HB8 := Lib.hid (HAL.out.trans (HI.out.2.mono HAL.out.size))
      clear hwo HI HLEN
      go_wp2_with fail
      refine HSE.out.mono ?_
      rintro e w5 ⟨qo, q, rfl, hq, hb5, hq0⟩
      have HF : Hid (Joined w (besL r z L) (.returned (.slice qo (besL r z L).length q)) w5) := ⟨qo, q, rfl, hq, HB8.out.trans (hb5.mono HB8.out.size), hq0⟩
      clear hq hb5 hq0
      go_wp2
      go_ret
      exact HF.out
end Go.Proofs.Yticbkdignmlfiaa
