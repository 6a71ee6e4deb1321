/- Plain laws: which cells may be; words as numbers, and cells of words. -/
import Derived.Test.YtkjfdaleamonaaaWdP
import Derived.Laws.BitsAllLaws
namespace Go.Proofs.Ytkjfdaleamonaaa.Wd

/-- So many parents up. -/
def upN : Nat → E2 → E2
  | 0, z => z
  | k + 1, z => upN k (upE z)
theorem upN_up (k : Nat) (z : E2) : upN (k + 1) z = upE (upN k z) := by
  induction k generalizing z with
  | zero => rfl
  | succ k ih => show upN (k + 1) (upE z) = _; rw [ih]; rfl
theorem upN_add (j k : Nat) (z : E2) : upN j (upN k z) = upN (k + j) z := by
  induction j with
  | zero => rfl
  | succ j ih => rw [upN_up, ih, ← Nat.add_assoc, upN_up]
/-- Which cells may be. -/
def baseB (z : E2) : Bool := decide (-512 ≤ z.1) && decide (z.1 < 512) && (decide (-512 ≤ z.2) && decide (z.2 < 512))
def shapeB (r : Int) (z : E2) : Bool := decide (0 ≤ r) && decide (r ≤ 12) && (decide (-1073741824 ≤ z.1) && decide (z.1 ≤ 1073741824)) && (decide (-1073741824 ≤ z.2) && decide (z.2 ≤ 1073741824))
def okB (r : Int) (z : E2) : Bool := shapeB r z && baseB (upN r.toNat z)
theorem baseB_iff (z : E2) : baseB z = true ↔ -512 ≤ z.1 ∧ z.1 < 512 ∧ -512 ≤ z.2 ∧ z.2 < 512 := by
  unfold baseB; simp [and_assoc]
theorem shapeB_iff (r : Int) (z : E2) : shapeB r z = true ↔ 0 ≤ r ∧ r ≤ 12 ∧ -1073741824 ≤ z.1 ∧ z.1 ≤ 1073741824 ∧ -1073741824 ≤ z.2 ∧ z.2 ≤ 1073741824 := by
  unfold shapeB; simp [and_assoc]
theorem okB_iff (r : Int) (z : E2) : okB r z = true ↔ shapeB r z = true ∧ baseB (upN r.toNat z) = true := by
  unfold okB; simp
theorem okB_nat {r : Int} {z : E2} (h : okB r z = true) : ∃ k : Nat, r = k ∧ k ≤ 12 := by
  have := (shapeB_iff r z).1 ((okB_iff r z).1 h).1
  exact ⟨r.toNat, by omega, by omega⟩

/-- The number of the first digits. -/
def hd (f : Nat → Nat) : Nat → Nat
  | 0 => 0
  | k + 1 => hd f k * 8 + f (k + 1)
theorem hd_lt {f : Nat → Nat} (h : ∀ k, f k < 8) (n : Nat) : hd f n < 8 ^ n := by
  induction n with
  | zero => show 0 < 1; omega
  | succ n ih => show hd f n * 8 + f (n + 1) < 8 ^ (n + 1); rw [Nat.pow_succ]; have := h (n + 1); omega
theorem hd_div {f : Nat → Nat} (h : ∀ k, f k < 8) (k j : Nat) : hd f (k + j) / 8 ^ j = hd f k := by
  induction j with
  | zero => simp
  | succ j ih =>
    rw [Nat.pow_succ, Nat.mul_comm, ← Nat.div_div_eq_div_mul]
    show (hd f (k + j) * 8 + f (k + j + 1)) / 8 / 8 ^ j = _
    rw [show (hd f (k + j) * 8 + f (k + j + 1)) / 8 = hd f (k + j) by have := h (k + j + 1); omega]
    exact ih
theorem hd_dig {f : Nat → Nat} (h : ∀ k, f k < 8) {k : Nat} (hk : 0 < k) (j : Nat) : hd f (k + j) / 8 ^ j % 8 = f k := by
  rw [hd_div h]
  obtain ⟨i, rfl⟩ : ∃ i, k = i + 1 := ⟨k - 1, by omega⟩
  show (hd f i * 8 + f (i + 1)) % 8 = _
  have := h (i + 1)
  omega
theorem hd_congr {f g : Nat → Nat} {n : Nat} (h : ∀ k, 0 < k → k ≤ n → f k = g k) : hd f n = hd g n := by
  induction n with
  | zero => rfl
  | succ n ih =>
    show hd f n * 8 + f (n + 1) = hd g n * 8 + g (n + 1)
    rw [ih fun k h1 h2 => h k h1 (by omega), h (n + 1) (by omega) (Nat.le_refl _)]
/-- A word's digit. -/
def dgW (w k : Nat) : Nat := w / 8 ^ (12 - k) % 8
theorem dgW_lt (w k : Nat) : dgW w k < 8 := Nat.mod_lt _ (by decide)
theorem hd_word (w : Nat) {k : Nat} (hk : k ≤ 12) : hd (dgW w) k = w / 8 ^ (12 - k) % 8 ^ k := by
  induction k with
  | zero => show 0 = _; rw [Nat.pow_zero, Nat.mod_one]
  | succ k ih =>
    show hd (dgW w) k * 8 + dgW w (k + 1) = _
    rw [ih (by omega)]
    unfold dgW
    rw [Nat.pow_succ 8 k, Nat.mul_comm (8 ^ k) 8, Nat.mod_mul, Nat.div_div_eq_div_mul, ← Nat.pow_succ, show (12 - (k + 1)).succ = 12 - k by omega]
    omega
/-- A cell's digit: 7 behind the last. -/
def dgt (r : Nat) (z : E2) (k : Nat) : Nat := if k ≤ r then digE (upN (r - k) z) else 7
theorem dgt_lt (r : Nat) (z : E2) (k : Nat) : dgt r z k < 8 := by
  unfold dgt
  split
  · have := digE_lt (upN (r - k) z); omega
  · decide
/-- A cell's word. -/
def topN (r : Nat) (b : E2) : Nat := 1152921504606846976 + r * 72057594037927936 + (b.1 + 512).toNat * 70368744177664 + (b.2 + 512).toNat * 68719476736
def wordN (r : Nat) (z : E2) : Nat := topN r (upN r z) + hd (dgt r z) 12
/-- The cells within, by digits. -/
def dn (f : Nat → Nat) (b : E2) : Nat → E2
  | 0 => b
  | k + 1 => downE (dn f b k) (f (k + 1))
def rW (w : Nat) : Nat := w / 72057594037927936 % 16
def bW (w : Nat) : E2 := (((w / 70368744177664 % 1024 : Nat) : Int) - 512, ((w / 68719476736 % 1024 : Nat) : Int) - 512)
def zW (w : Nat) : E2 := dn (dgW w) (bW w) (rW w)
/-- Whether the digits end where they should. -/
def okD (f : Nat → Nat) (r : Nat) : Nat → Bool
  | 0 => true
  | k + 1 => okD f r k && ((f (k + 1) == 7) == decide (r < k + 1))
theorem okD_iff (f : Nat → Nat) (r n : Nat) : okD f r n = true ↔ ∀ k, 0 < k → k ≤ n → (f k = 7 ↔ r < k) := by
  induction n with
  | zero => exact ⟨fun _ k h1 h2 => by omega, fun _ => rfl⟩
  | succ n ih =>
    show (okD f r n && ((f (n + 1) == 7) == decide (r < n + 1))) = true ↔ _
    rw [Bool.and_eq_true, ih]
    constructor
    · rintro ⟨h1, h2⟩ k hk hk2
      rcases Nat.lt_or_ge k (n + 1) with h | h
      · exact h1 k hk (by omega)
      · obtain rfl : k = n + 1 := by omega
        by_cases ha : f (n + 1) = 7 <;> by_cases hb : r < n + 1 <;> simp_all
    · intro h
      refine ⟨fun k hk hk2 => h k hk (by omega), ?_⟩
      have := h (n + 1) (by omega) (Nat.le_refl _)
      by_cases hb : r < n + 1
      · rw [this.2 hb, decide_eq_true hb]; rfl
      · rw [decide_eq_false hb, beq_eq_false_iff_ne.2 fun e => hb (this.1 e)]; rfl
theorem okD_stop {f : Nat → Nat} {r n k : Nat} (h : okD f r k = false) (hk : k ≤ n) : okD f r n = false := by
  obtain ⟨j, rfl⟩ : ∃ j, n = k + j := ⟨n - k, by omega⟩
  clear hk
  induction j with
  | zero => exact h
  | succ j ih => show (okD f r (k + j) && _) = false; rw [ih]; rfl
/-- Whether a number is a word. -/
def isW (w : Nat) : Bool := decide (w / 1152921504606846976 = 1) && decide (rW w ≤ 12) && okD (dgW w) (rW w) 12
theorem isW_iff (w : Nat) : isW w = true ↔ w / 1152921504606846976 = 1 ∧ rW w ≤ 12 ∧ ∀ k, 0 < k → k ≤ 12 → (dgW w k = 7 ↔ rW w < k) := by
  unfold isW; rw [Bool.and_eq_true, Bool.and_eq_true, okD_iff]; simp [and_assoc]

theorem dn_up {f : Nat → Nat} {b : E2} {r : Nat} (h : ∀ k, 0 < k → k ≤ r → f k < 7) {j : Nat} (hj : j ≤ r) : upN j (dn f b r) = dn f b (r - j) := by
  induction j with
  | zero => rfl
  | succ j ih =>
    rw [upN_up, ih (by omega)]
    obtain ⟨i, hi⟩ : ∃ i, r - j = i + 1 := ⟨r - j - 1, by omega⟩
    rw [hi, show r - (j + 1) = i by omega]
    exact upE_down _ (h (i + 1) (by omega) (by omega))
theorem dn_dig {f : Nat → Nat} {b : E2} {r : Nat} (h : ∀ k, 0 < k → k ≤ r → f k < 7) {k : Nat} (hk : 0 < k) (hr : k ≤ r) : digE (upN (r - k) (dn f b r)) = f k := by
  rw [dn_up h (by omega)]
  obtain ⟨i, rfl⟩ : ∃ i, k = i + 1 := ⟨k - 1, by omega⟩
  rw [show r - (r - (i + 1)) = i + 1 by omega]
  exact digE_down _ (h (i + 1) hk hr)
theorem dn_of_up (r : Nat) (z : E2) {k : Nat} (hk : k ≤ r) : dn (dgt r z) (upN r z) k = upN (r - k) z := by
  induction k with
  | zero => rfl
  | succ k ih =>
    show downE (dn (dgt r z) (upN r z) k) (dgt r z (k + 1)) = _
    rw [ih (by omega)]
    unfold dgt
    rw [if_pos hk, show r - k = (r - (k + 1)) + 1 by omega, upN_up]
    exact down_up _
/-- How far a cell may lie: along three ways. -/
def Hex (h : Int) (z : E2) : Prop := -h ≤ z.1 ∧ z.1 ≤ h ∧ -h ≤ z.2 ∧ z.2 ≤ h ∧ -h ≤ z.1 + z.2 ∧ z.1 + z.2 ≤ h
theorem hex_down {h : Int} {q : E2} (hq : Hex h q) {d : Nat} (hd : d < 7) : Hex (3 * h + 1) (downE q d) := by
  rw [downE_eq]
  unfold Hex at *
  rcases left_cases hd with ⟨_, e⟩ | ⟨_, e⟩ | ⟨_, e⟩ | ⟨_, e⟩ | ⟨_, e⟩ | ⟨_, e⟩ | ⟨_, e⟩ <;> rw [e] <;> simp only <;> omega
def hexH : Nat → Int
  | 0 => 1024
  | k + 1 => 3 * hexH k + 1
theorem dn_hex {f : Nat → Nat} {b : E2} (hb : baseB b = true) {r : Nat} (h : ∀ k, 0 < k → k ≤ r → f k < 7) {k : Nat} (hk : k ≤ r) : Hex (hexH k) (dn f b k) := by
  induction k with
  | zero =>
    have := (baseB_iff b).1 hb
    show Hex 1024 b
    unfold Hex
    omega
  | succ k ih => exact hex_down (ih (by omega)) (h (k + 1) (by omega) hk)
theorem hexH_le {k : Nat} (h : k ≤ 12) : hexH k ≤ 1073741824 := by
  rcases (show k = 0 ∨ k = 1 ∨ k = 2 ∨ k = 3 ∨ k = 4 ∨ k = 5 ∨ k = 6 ∨ k = 7 ∨ k = 8 ∨ k = 9 ∨ k = 10 ∨ k = 11 ∨ k = 12 by omega) with rfl | rfl | rfl | rfl | rfl | rfl | rfl | rfl | rfl | rfl | rfl | rfl | rfl <;> decide
theorem Hex.mono {h h' : Int} {z : E2} (hz : Hex h z) (hh : h ≤ h') : Hex h' z := by unfold Hex at *; omega
/-- A cell made of digits may be. -/
theorem dn_ok {f : Nat → Nat} {b : E2} (hb : baseB b = true) {r : Nat} (hr : r ≤ 12) (h : ∀ k, 0 < k → k ≤ r → f k < 7) : okB r (dn f b r) = true := by
  rw [okB_iff, shapeB_iff]
  have h1 := (dn_hex hb h (Nat.le_refl r)).mono (hexH_le hr)
  unfold Hex at h1
  refine ⟨⟨by omega, by omega, by omega, by omega, by omega, by omega⟩, ?_⟩
  rw [show (r : Int).toNat = r from rfl, dn_up h (Nat.le_refl r), Nat.sub_self]
  exact hb
theorem bW_base (w : Nat) : baseB (bW w) = true := by
  rw [baseB_iff]; unfold bW; simp only; omega
theorem topN_parts {r : Nat} {b : E2} (hr : r ≤ 12) (hb : baseB b = true) {t : Nat} (ht : t < 68719476736) :
    (topN r b + t) / 1152921504606846976 = 1 ∧ rW (topN r b + t) = r ∧ bW (topN r b + t) = b ∧ (topN r b + t) < 2305843009213693952 ∧ topN r b % 68719476736 = 0 := by
  obtain ⟨h1, h2, h3, h4⟩ := (baseB_iff b).1 hb
  unfold rW bW topN
  refine ⟨by omega, by omega, ?_, by omega, by omega⟩
  ext <;> simp only <;> omega
theorem hd12_lt {f : Nat → Nat} (h : ∀ k, f k < 8) : hd f 12 < 68719476736 := by
  have h1 := hd_lt h 12
  rw [show (8 : Nat) ^ 12 = 68719476736 by decide] at h1
  exact h1
theorem dgW_word {r : Nat} {z : E2} (hr : r ≤ 12) (hb : baseB (upN r z) = true) {k : Nat} (h0 : 0 < k) (hk : k ≤ 12) : dgW (wordN r z) k = dgt r z k := by
  have h5 := (topN_parts hr hb (t := 0) (by decide)).2.2.2.2
  unfold dgW wordN
  obtain ⟨j, hj⟩ : ∃ j, 12 = k + j := ⟨12 - k, by omega⟩
  have h1 := hd_dig (f := dgt r z) (dgt_lt r z) h0 j
  rw [← hj] at h1
  obtain ⟨c, hc⟩ : ∃ c, topN r (upN r z) = c * 68719476736 := ⟨topN r (upN r z) / 68719476736, by omega⟩
  rw [hc, show 12 - k = j by omega, show (68719476736 : Nat) = 8 ^ (k + j) by rw [← hj], Nat.pow_add, ← Nat.mul_assoc]
  rw [Nat.add_comm, Nat.add_mul_div_right _ _ (Nat.pow_pos (by decide))]
  obtain ⟨i, rfl⟩ : ∃ i, k = i + 1 := ⟨k - 1, by omega⟩
  rw [Nat.pow_succ, ← Nat.mul_assoc, Nat.add_mul_mod_self_right]
  exact h1
theorem wordN_parts {r : Nat} {z : E2} (hr : r ≤ 12) (hb : baseB (upN r z) = true) : wordN r z / 1152921504606846976 = 1 ∧ rW (wordN r z) = r ∧ bW (wordN r z) = upN r z := by
  obtain ⟨h1, h2, h3, _, _⟩ := topN_parts hr hb (hd12_lt (dgt_lt r z))
  unfold wordN
  exact ⟨h1, h2, h3⟩
theorem word_isW {r : Nat} {z : E2} (hr : r ≤ 12) (hb : baseB (upN r z) = true) : isW (wordN r z) = true := by
  obtain ⟨h1, h2, h3⟩ := wordN_parts hr hb
  rw [isW_iff, h2]
  refine ⟨h1, hr, fun k h0 hk => ?_⟩
  rw [dgW_word hr hb h0 hk]
  unfold dgt
  split
  · have := digE_lt (upN (r - k) z); omega
  · omega
theorem dn_congr {f g : Nat → Nat} {b : E2} {r : Nat} (h5 : ∀ k, 0 < k → k ≤ r → f k = g k) : ∀ k, k ≤ r → dn f b k = dn g b k := by
  intro k hk
  induction k with
  | zero => rfl
  | succ k ih =>
    show downE _ _ = downE _ _
    rw [ih (by omega), h5 (k + 1) (by omega) (by omega)]
theorem dn_back {r : Nat} {z : E2} {f : Nat → Nat} (h5 : ∀ k, 0 < k → k ≤ r → f k = dgt r z k) : dn f (upN r z) r = z := by
  rw [dn_congr h5 r (Nat.le_refl r), dn_of_up r z (Nat.le_refl r), Nat.sub_self]
  rfl
theorem zW_back {r : Nat} {z : E2} {w : Nat} (h2 : rW w = r) (h3 : bW w = upN r z) (h5 : ∀ k, 0 < k → k ≤ r → dgW w k = dgt r z k) : zW w = z := by
  unfold zW
  rw [h2, h3]
  exact dn_back h5
theorem word_zW {r : Nat} {z : E2} (hr : r ≤ 12) (hb : baseB (upN r z) = true) : zW (wordN r z) = z :=
  zW_back (wordN_parts hr hb).2.1 (wordN_parts hr hb).2.2 (fun _ h0 h1 => dgW_word hr hb h0 (Nat.le_trans h1 hr))
theorem okB_parts {r : Nat} {z : E2} (h : okB r z = true) : r ≤ 12 ∧ baseB (upN r z) = true := by
  obtain ⟨hs, hb⟩ := (okB_iff _ _).1 h
  have hr := (shapeB_iff _ _).1 hs
  exact ⟨by omega, hb⟩
/-- A cell that may be, from its word. -/
theorem word_cell {r : Nat} {z : E2} (h : okB r z = true) : isW (wordN r z) = true ∧ rW (wordN r z) = r ∧ zW (wordN r z) = z := by
  obtain ⟨hr, hb⟩ := okB_parts h
  exact ⟨word_isW hr hb, (wordN_parts hr hb).2.1, word_zW hr hb⟩
theorem isW_dig {w : Nat} (h : isW w = true) {k : Nat} (h0 : 0 < k) (hk : k ≤ rW w) : dgW w k < 7 := by
  obtain ⟨_, h2, h3⟩ := (isW_iff w).1 h
  have h4 := h3 k h0 (by omega)
  have := dgW_lt w k
  omega
/-- A word, from its cell. -/
theorem cell_word {w : Nat} (h : isW w = true) : okB (rW w) (zW w) = true ∧ wordN (rW w) (zW w) = w := by
  obtain ⟨h1, h2, h3⟩ := (isW_iff w).1 h
  have hd : ∀ k, 0 < k → k ≤ rW w → dgW w k < 7 := fun k h0 hk => isW_dig h h0 hk
  refine ⟨dn_ok (bW_base w) h2 hd, ?_⟩
  unfold wordN
  rw [show upN (rW w) (zW w) = bW w by unfold zW; rw [dn_up hd (Nat.le_refl _), Nat.sub_self]; rfl]
  rw [hd_congr (g := dgW w) (fun k h0 hk => ?_), hd_word w (Nat.le_refl 12)]
  · unfold topN rW bW
    simp only [Nat.sub_self, Nat.pow_zero, Nat.div_one]
    have e : (8 : Nat) ^ 12 = 68719476736 := by decide
    rw [e]
    omega
  · unfold dgt
    split
    · rename_i hkr
      unfold zW
      exact dn_dig hd h0 hkr
    · rename_i hkr
      exact ((h3 k h0 hk).2 (by omega)).symm
theorem wordN_lt {r : Nat} {z : E2} (h : okB r z = true) : wordN r z < 2305843009213693952 ∧ 1152921504606846976 ≤ wordN r z := by
  obtain ⟨hs, hb⟩ := (okB_iff _ _).1 h
  have hr := (shapeB_iff _ _).1 hs
  obtain ⟨_, _, _, h4, _⟩ := topN_parts (r := r) (by omega) hb (hd12_lt (dgt_lt r z))
  exact ⟨h4, by unfold wordN topN; omega⟩
theorem word_inj {r s : Nat} {y z : E2} (h : okB r y = true) (h2 : okB s z = true) (e : wordN r y = wordN s z) : r = s ∧ y = z := by
  obtain ⟨_, a1, a2⟩ := word_cell h
  obtain ⟨_, b1, b2⟩ := word_cell h2
  rw [e] at a1 a2
  exact ⟨a1.symm.trans b1, a2.symm.trans b2⟩
end Go.Proofs.Ytkjfdaleamonaaa.Wd
