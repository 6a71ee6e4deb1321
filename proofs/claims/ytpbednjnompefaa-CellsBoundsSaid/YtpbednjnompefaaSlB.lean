/- Contracts at []uint64 that only read: Index, Contains, BinarySearch, (set).in, (set).out, cells.Has; the reference's Has and Same. -/
import Derived.Test.YtpbednjnompefaaSlA
namespace Go.Proofs.Ytpbednjnompefaa
open Go.RowKit Go.Lib Go.Sort

def hasF (l : List Int) (x : Int) : Bool := l.contains x
theorem hasF_yes {l : List Int} {x : Int} {j : Nat} (hj : j < l.length) (h : l.getD j 0 = x) : hasF l x = true := by
  unfold hasF
  rw [List.contains_iff_mem]
  rw [← h, List.getD_eq_getElem?_getD, List.getElem?_eq_getElem hj, Option.getD_some]
  exact List.getElem_mem _
theorem hasF_no {l : List Int} {x : Int} (h : ∀ j, j < l.length → l.getD j 0 ≠ x) : hasF l x = false := by
  unfold hasF
  rw [Bool.eq_false_iff, ne_eq, List.contains_iff_mem]
  intro hm
  obtain ⟨j, hj, e⟩ := List.getElem_of_mem hm
  exact h j hj (by rw [List.getD_eq_getElem?_getD, List.getElem?_eq_getElem hj, Option.getD_some, e])

set_option maxRecDepth 100000 in
set_option maxHeartbeats 1000000 in
theorem uindex_any (ao : Option Addr) (c : Nat) (l : List Int) (x : Int) (w : World) (B : Nat) (h : WordsAt w B ao l) (hn : l.length ≤ 1000000000) :
    Calls Try.prog 44 #[.slice ao l.length c, .int .u64 x] w fun e w' => ∃ r : Int, e = .returned (.int .i64 r) ∧ decide (0 ≤ r) = hasF l x ∧ w = w' := by
  obtain ⟨n, hnn⟩ : ∃ n, l.length = n := ⟨_, rfl⟩
  have HN := Lib.hid hnn
  have HW := Lib.hid h
  rw [hnn] at hn ⊢
  clear hnn h
  go_enter Try.func44, Try.ntmps44
  go_wp2
  go_loop [8] (fun i => ∃ k : Nat, k ≤ n ∧ i = .int .i64 k ∧ Hid (∀ j, j < k → l.getD j 0 ≠ x)) (fun i => n - (intOf i).toNat)
  case atStart => exact ⟨0, Nat.zero_le _, rfl, fun j hj => by omega⟩
  case round =>
    obtain ⟨k, hk, rfl, HA⟩ := hrel
    by_cases hlt : k < n
    · obtain ⟨b, off, rfl, hb, hc⟩ := HW.out (by rw [HN.out]; omega)
      have c0 := hc k (by rw [HN.out]; exact hlt)
      clear hc
      have HY : Hid (l.getD k 0 = x → hasF l x = true) := fun e => hasF_yes (by rw [HN.out]; exact hlt) e
      have HS : Hid (l.getD k 0 ≠ x → ∀ j, j < k + 1 → l.getD j 0 ≠ x) := fun e j hj => by
        by_cases ej : j = k
        · rw [ej]; exact e
        · exact HA.out j (by omega)
      generalize l.getD k 0 = y at c0 HY HS
      by_cases he : x = y
      · have hq : (x == y) = true := by simpa using he
        have HF : Hid (hasF l x = true) := HY.out he.symm
        clear he HY HS
        go_wp2
        go_ret
        exact ⟨_, rfl, by rw [HF.out]; simp, rfl⟩
      · have hq : (x == y) = false := by simpa using he
        have HS2 : Hid (∀ j, j < k + 1 → l.getD j 0 ≠ x) := HS.out (fun e => he e.symm)
        clear he HY HS
        go_wp2
        go_round
        case rel => exact ⟨k + 1, by omega, by go_num, HS2⟩
        case measure => simp [intOf]; omega
    · obtain rfl : k = n := by omega
      have HF : Hid (hasF l x = false) := hasF_no (fun j hj => HA.out j (by rw [HN.out] at hj; exact hj))
      clear HA
      go_wp2
      go_ret
      exact ⟨_, rfl, by rw [HF.out]; simp, rfl⟩
set_option maxHeartbeats 400000 in
theorem ucontains_any (ao : Option Addr) (c : Nat) (l : List Int) (x : Int) (w : World) (B : Nat) (h : WordsAt w B ao l) (hn : l.length ≤ 1000000000) :
    Calls Try.prog 29 #[.slice ao l.length c, .int .u64 x] w fun e w' => e = .returned (.bool (hasF l x)) ∧ w = w' := by
  have HI := Lib.hid (uindex_any ao c l x w B h hn)
  go_enter Try.func29, Try.ntmps29
  go_wp2_with fail
  refine HI.out.mono ?_
  rintro e w1 ⟨r, rfl, hr, rfl⟩
  have HR := Lib.hid hr
  clear hr
  go_wp2
  go_ret
  exact ⟨ret_bool HR.out, rfl⟩
set_option maxHeartbeats 400000 in
theorem uhas_any (ao : Option Addr) (c : Nat) (l : List Int) (x : Int) (w : World) (B : Nat) (h : WordsAt w B ao l) (hn : l.length ≤ 1000000000) :
    Calls Try.prog 12 #[.slice ao l.length c, .int .u64 x] w fun e w' => e = .returned (.bool (hasF l x)) ∧ w = w' := by
  have HI := Lib.hid (ucontains_any ao c l x w B h hn)
  go_enter Try.func12, Try.ntmps12
  go_wp2_with fail
  refine HI.out.mono ?_
  rintro e w1 ⟨rfl, rfl⟩
  go_wp2
  go_ret
  exact ⟨rfl, rfl⟩

/-- Words, rising (each once or not). -/
def Rising (l : List Int) : Prop := ∀ i j, i ≤ j → j < l.length → l.getD i 0 ≤ l.getD j 0
set_option maxHeartbeats 400000 in
theorem unan_any (x : Int) (w : World) : Calls Try.prog 58 #[.int .u64 x] w fun e w' => e = .returned (.bool false) ∧ w = w' := by
  go_enter Try.func58, Try.ntmps58
  go_wp2
  go_ret
  exact ⟨by simp, rfl⟩

def Found (l : List Int) (x : Int) (w : World) (e : Ending) (w' : World) : Prop := ∃ p : Int, e = .returned (.tuple #[.int .i64 p, .bool (hasF l x)]) ∧ w = w'
set_option maxRecDepth 100000 in
set_option maxHeartbeats 2000000 in
theorem usearch_any (ao : Option Addr) (c : Nat) (l : List Int) (x : Int) (w : World) (B : Nat) (h : WordsAt w B ao l) (hn : l.length ≤ 1000000000) (hr : Rising l) :
    Calls Try.prog 43 #[.slice ao l.length c, .int .u64 x] w (Found l x w) := by
  obtain ⟨n, hnn⟩ : ∃ n, l.length = n := ⟨_, rfl⟩
  have HN := Lib.hid hnn
  have HW := Lib.hid h
  have HR := Lib.hid hr
  rw [hnn] at hn ⊢
  clear hnn h hr
  go_enter Try.func43, Try.ntmps43
  go_wp2
  go_loop [7, 8] (fun i j => ∃ lo hi : Nat, lo ≤ hi ∧ hi ≤ n ∧ i = .int .i64 lo ∧ j = .int .i64 hi ∧ Hid ((∀ k, k < lo → l.getD k 0 < x) ∧ ∀ k, hi ≤ k → k < n → x ≤ l.getD k 0)) (fun i j => (intOf j).toNat - (intOf i).toNat)
  case atStart => exact ⟨0, n, Nat.zero_le _, Nat.le_refl _, rfl, rfl, fun k hk => by omega, fun k h1 h2 => by omega⟩
  case round =>
    obtain ⟨lo, hi, h1, h2, rfl, rfl, HA⟩ := hrel
    by_cases hlt : lo < hi
    · obtain ⟨b, off, rfl, hb, hc⟩ := HW.out (by rw [HN.out]; omega)
      obtain ⟨m, hm⟩ : ∃ m, (lo + hi) / 2 = m := ⟨_, rfl⟩
      have hm1 : lo ≤ m := by omega
      have hm2 : m < hi := by omega
      have hmI : ((lo : Int) + (hi : Int)) / 2 = (m : Int) := by omega
      have c0 := hc m (by rw [HN.out]; omega)
      have HL1 : Hid (l.getD m 0 < x → ∀ k, k < m + 1 → l.getD k 0 < x) := fun e k hk => by
        have := HR.out k m (by omega) (by rw [HN.out]; omega)
        omega
      have HL2 : Hid (¬ l.getD m 0 < x → ∀ k, m ≤ k → k < n → x ≤ l.getD k 0) := fun e k h3 h4 => by
        have := HR.out m k h3 (by rw [HN.out]; exact h4)
        omega
      generalize l.getD m 0 = y at c0 HL1 HL2
      clear hc hm
      have HC := Lib.hid (u64_cmp_Less_int y x)
      by_cases hyx : y < x
      · have hL := HL1.out hyx
        have HLL := Lib.hid hL
        have hq : Sort.ltInt y x = true := by simp [Sort.ltInt, hyx]
        rw [hq] at HC
        clear hL HL1 HL2 hq
        go_wp2_with (go_at_call 57; refine (HC.out _).mono ?_; rintro e w' ⟨rfl, rfl⟩)
        go_round
        case rel => exact ⟨m + 1, hi, by omega, h2, by go_num, rfl, HLL.out, HA.out.2⟩
        case measure => simp [intOf]; omega
      · have hL := HL2.out hyx
        have HLL := Lib.hid hL
        have hq : Sort.ltInt y x = false := by simp [Sort.ltInt]; omega
        rw [hq] at HC
        clear hL HL1 HL2 hq
        go_wp2_with (go_at_call 57; refine (HC.out _).mono ?_; rintro e w' ⟨rfl, rfl⟩)
        go_round
        case rel => exact ⟨lo, m, by omega, by omega, rfl, by go_num, HA.out.1, HLL.out⟩
        case measure => simp [intOf]; omega
    · obtain rfl : lo = hi := by omega
      by_cases hln : lo < n
      · obtain ⟨b, off, rfl, hb, hc⟩ := HW.out (by rw [HN.out]; omega)
        have c0 := hc lo (by rw [HN.out]; exact hln)
        have HY : Hid (l.getD lo 0 = x → hasF l x = true) := fun e => hasF_yes (by rw [HN.out]; exact hln) e
        have HNO : Hid (l.getD lo 0 ≠ x → hasF l x = false) := fun e => hasF_no fun j hj => by
          rw [HN.out] at hj
          by_cases hjl : j < lo
          · have := HA.out.1 j hjl; omega
          · have h3 := HA.out.2 lo (Nat.le_refl _) hln
            have h4 := HR.out lo j (by omega) (by rw [HN.out]; exact hj)
            omega
        generalize l.getD lo 0 = y at c0 HY HNO
        clear hc
        have HNA := Lib.hid unan_any
        have q0 : decide ((lo : Int) < (n : Int)) = true := by simp; omega
        by_cases he : y = x
        · have hq : (y == x) = true := by simpa using he
          have HF : Hid (hasF l x = true) := HY.out he
          clear he HY HNO
          go_wp2
          go_ret2
          exact ⟨(lo : Int), by (first | (rw [HF.out]; done) | (rw [HF.out]; rfl)), rfl⟩
        · have hq : (y == x) = false := by simpa using he
          have HF : Hid (hasF l x = false) := HNO.out he
          clear he HY HNO
          go_wp2_with (go_at_call 58; refine (HNA.out _ _).mono ?_; rintro e w' ⟨rfl, rfl⟩)
          go_ret2
          exact ⟨(lo : Int), by (first | (rw [HF.out]; done) | (rw [HF.out]; rfl)), rfl⟩
      · obtain rfl : lo = n := by omega
        have HF : Hid (hasF l x = false) := hasF_no fun j hj => by
          rw [HN.out] at hj
          have := HA.out.1 j hj
          omega
        have q0 : decide ((lo : Int) < (lo : Int)) = false := by simp
        go_wp2
        go_ret2
        exact ⟨(lo : Int), by (first | (rw [HF.out]; done) | (rw [HF.out]; rfl)), rfl⟩
set_option maxHeartbeats 400000 in
theorem uin_any (ao : Option Addr) (c : Nat) (l : List Int) (x : Int) (w : World) (B : Nat) (h : WordsAt w B ao l) (hn : l.length ≤ 1000000000) (hr : Rising l) :
    Calls Try.prog 27 #[.slice ao l.length c, .int .u64 x] w fun e w' => e = .returned (.bool (hasF l x)) ∧ w = w' := by
  have HI := Lib.hid (usearch_any ao c l x w B h hn hr)
  go_enter Try.func27, Try.ntmps27
  go_wp2_with fail
  refine HI.out.mono ?_
  rintro e w1 ⟨p, rfl, rfl⟩
  go_wp2
  go_ret
  exact ⟨rfl, rfl⟩
set_option maxHeartbeats 400000 in
theorem uout_any (ao : Option Addr) (c : Nat) (l : List Int) (x : Int) (w : World) (B : Nat) (h : WordsAt w B ao l) (hn : l.length ≤ 1000000000) (hr : Rising l) :
    Calls Try.prog 28 #[.slice ao l.length c, .int .u64 x] w fun e w' => e = .returned (.bool (!hasF l x)) ∧ w = w' := by
  have HI := Lib.hid (uin_any ao c l x w B h hn hr)
  go_enter Try.func28, Try.ntmps28
  go_wp2_with fail
  refine HI.out.mono ?_
  rintro e w1 ⟨rfl, rfl⟩
  go_wp2
  go_ret
  exact ⟨rfl, rfl⟩

set_option maxRecDepth 100000 in
set_option maxHeartbeats 2000000 in
theorem rhas_any (ao : Option Addr) (c : Nat) (l : List Int) (x : Int) (w : World) (B : Nat) (h : WordsAt w B ao l) (hn : l.length ≤ 1000000000) (hr : Rising l) :
    Calls Try.prog 14 #[.slice ao l.length c, .int .u64 x] w fun e w' => e = .returned (.bool (hasF l x)) ∧ w = w' := by
  obtain ⟨n, hnn⟩ : ∃ n, l.length = n := ⟨_, rfl⟩
  have HN := Lib.hid hnn
  have HW := Lib.hid h
  have HR := Lib.hid hr
  rw [hnn] at hn ⊢
  clear hnn h hr
  go_enter Try.func14, Try.ntmps14
  go_wp2
  go_loop [5, 6] (fun i j => ∃ lo hi : Nat, lo ≤ hi ∧ hi ≤ n ∧ i = .int .i64 lo ∧ j = .int .i64 hi ∧ Hid ((∀ k, k < lo → l.getD k 0 < x) ∧ ∀ k, hi ≤ k → k < n → x ≤ l.getD k 0)) (fun i j => (intOf j).toNat - (intOf i).toNat)
  case atStart => exact ⟨0, n, Nat.zero_le _, Nat.le_refl _, rfl, rfl, fun k hk => by omega, fun k h1 h2 => by omega⟩
  case round =>
    obtain ⟨lo, hi, h1, h2, rfl, rfl, HA⟩ := hrel
    by_cases hlt : lo < hi
    · obtain ⟨b, off, rfl, hb, hc⟩ := HW.out (by rw [HN.out]; omega)
      obtain ⟨m, hm⟩ : ∃ m, (lo + hi) / 2 = m := ⟨_, rfl⟩
      have hm1 : lo ≤ m := by omega
      have hm2 : m < hi := by omega
      have hmI : ((lo : Int) + (hi : Int)) / 2 = (m : Int) := by omega
      have c0 := hc m (by rw [HN.out]; omega)
      have HL1 : Hid (l.getD m 0 < x → ∀ k, k < m + 1 → l.getD k 0 < x) := fun e k hk => by
        have := HR.out k m (by omega) (by rw [HN.out]; omega)
        omega
      have HL2 : Hid (¬ l.getD m 0 < x → ∀ k, m ≤ k → k < n → x ≤ l.getD k 0) := fun e k h3 h4 => by
        have := HR.out m k h3 (by rw [HN.out]; exact h4)
        omega
      generalize l.getD m 0 = y at c0 HL1 HL2
      clear hc hm
      by_cases hyx : y < x
      · have HLL := Lib.hid (HL1.out hyx)
        clear HL1 HL2
        go_wp2
        go_round
        case rel => exact ⟨m + 1, hi, by omega, h2, by go_num, rfl, HLL.out, HA.out.2⟩
        case measure => simp [intOf]; omega
      · have HLL := Lib.hid (HL2.out hyx)
        clear HL1 HL2
        go_wp2
        go_round
        case rel => exact ⟨lo, m, by omega, by omega, rfl, by go_num, HA.out.1, HLL.out⟩
        case measure => simp [intOf]; omega
    · obtain rfl : lo = hi := by omega
      by_cases hln : lo < n
      · obtain ⟨b, off, rfl, hb, hc⟩ := HW.out (by rw [HN.out]; omega)
        have c0 := hc lo (by rw [HN.out]; exact hln)
        have HF : Hid ((l.getD lo 0 == x) = hasF l x) := by
          show _ = _
          by_cases e : l.getD lo 0 = x
          · rw [hasF_yes (by rw [HN.out]; exact hln) e]; simpa using e
          · rw [hasF_no fun j hj => by
              rw [HN.out] at hj
              by_cases hjl : j < lo
              · have := HA.out.1 j hjl; omega
              · have h3 := HA.out.2 lo (Nat.le_refl _) hln
                have h4 := HR.out lo j (by omega) (by rw [HN.out]; exact hj)
                omega]
            simpa using e
        generalize l.getD lo 0 = y at c0 HF
        clear hc
        have q0 : decide ((lo : Int) < (n : Int)) = true := by simp; omega
        go_wp2
        go_ret
        exact ⟨ret_bool HF.out, rfl⟩
      · obtain rfl : lo = n := by omega
        have HF : Hid (hasF l x = false) := hasF_no fun j hj => by
          rw [HN.out] at hj
          have := HA.out.1 j hj
          omega
        have q0 : decide ((lo : Int) < (lo : Int)) = false := by simp
        go_wp2
        go_ret
        exact ⟨ret_bool HF.out.symm, rfl⟩
end Go.Proofs.Ytpbednjnompefaa
