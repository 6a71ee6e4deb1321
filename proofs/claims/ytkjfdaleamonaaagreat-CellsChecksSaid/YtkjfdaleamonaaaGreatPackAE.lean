/- Joined: SortB, SortC, SortD, CellA, SlB, SetP, NcP, NcA, NcR: contracts and plain laws, each with its own heading below. -/
import Derived.Test.YtkjfdaleamonaaaGreatPackAD
import Derived.Lib.OwnBridge
import Derived.Test.YtkjfdaleamonaaaGreatPackAC
/- The library's ordered sort at []uint64, walked: the kit's worked walks at []int, turned (sortport.py). -/
namespace Go.Proofs.YtkjfdaleamonaaaGreat
open Go.RowKit Go.Sort

set_option maxHeartbeats 1600000 in
set_option maxRecDepth 1000000 in
theorem u64_reverseRange_int (blk off cap : Nat) (d : Array Int) (a b : Nat) (w : World) (hH : Holds encU w blk off d) (hab : a ≤ b) (hb : b ≤ d.size) (hsz : d.size < 4611686018427387904) :
    Calls Tryz.prog 119 #[.slice (some ⟨blk, off, none⟩) d.size cap, .int .i64 a, .int .i64 b] w fun e w' => e = .returned (.tuple #[]) ∧ ∃ n, w' = putRow encU (Sort.ahead w n) blk off (reverseRange d a b) := by
  go_enter Tryz.func119, Tryz.ntmps119
  go_wp2
  go_loopg [6, 7] (b - a) (fun k s6 s7 wr => ∃ (i jn : Nat) (jz : Int) (dk : Array Int) (n : Nat), s6 = .int .i64 i ∧ s7 = .int .i64 jz ∧ ((i : Int) < jz → jz = jn ∧ jn < d.size) ∧ (¬ (i : Int) < jz → ¬ i < jn) ∧ jn - i ≤ k ∧
    dk.size = d.size ∧ wr = putRow encU (Sort.ahead w n) blk off dk ∧ reverseLoop i jn dk = reverseLoop a (b - 1) d)
  case atStart => exact ⟨a, b - 1, (b : Int) - 1, d, 0, rfl, rfl, fun h => ⟨by omega, by omega⟩, fun h => by omega, by omega, rfl, (putRow_self encU w blk off d hH).symm, rfl⟩
  case round =>
    obtain ⟨i, jn, jz, dk, n, rfl, rfl, h1, h2, hk, hds, hwr, heq⟩ := hrel
    by_cases hlt : (i : Int) < jz
    · obtain ⟨rfl, hjn⟩ := h1 hlt
      have hij : i < jn := by omega
      have hHk : Holds encU wr blk off dk := by rw [hwr]; exact holds_putRow encU _ blk off d dk (holds_ahead encU w n blk off d hH) hds
      obtain ⟨ci, fi⟩ := hHk i (by omega)
      obtain ⟨cj, fj⟩ := hHk jn (by omega)
      have A : Aside (wr = putRow encU (Sort.ahead w n) blk off dk) := hwr
      clear hwr hHk hH h1 h2
      go_wp2_with fail
      go_region
      go_wp2
      go_roundg (jn - 1 - (i + 1))
      case measure => omega
      case rel =>
        rw [reverseLoop, if_pos hij] at heq
        exact ⟨i + 1, jn - 1, (jn : Int) - 1, swp dk i jn, n + 1, by simp, rfl, fun h => ⟨by omega, by omega⟩, fun h => by omega, Nat.le_refl _, by rw [size_swp]; exact hds,
          swap_world encU (by omega) (by omega) A.out (by simp [encU, getElem!_pos, show jn < dk.size by omega]) rfl, heq⟩
    · have hnot := h2 hlt
      go_wp2
      go_end0
      refine ⟨rfl, n, ?_⟩
      rw [reverseLoop, if_neg hnot] at heq
      rw [reverseRange, ← heq]

set_option maxHeartbeats 3200000 in
set_option maxRecDepth 1000000 in
theorem u64_siftDown_int (blk off len cap : Nat) (d : Array Int) (hlen : d.size = len) (lo hi first : Nat) (w : World) (hH : Holds encU w blk off d) (hlo : lo ≤ hi) (hb : first + hi ≤ d.size) (hsz : d.size < 4611686018427387904) :
    Calls Tryz.prog 141 #[.slice (some ⟨blk, off, none⟩) len cap, .int .i64 lo, .int .i64 hi, .int .i64 first] w fun e w' => e = .returned (.tuple #[]) ∧ ∃ n, w' = putRow encU (Sort.ahead w n) blk off (siftDown ltInt hi first lo d) := by
  subst hlen
  go_enter Tryz.func141, Tryz.ntmps141
  go_wp2
  go_loopg [8] (hi - lo) (fun k s8 wr => ∃ (root : Nat) (dk : Array Int) (n : Nat), s8 = .int .i64 root ∧ root ≤ hi ∧ hi - root ≤ k ∧ dk.size = d.size ∧ wr = putRow encU (Sort.ahead w n) blk off dk ∧ siftDown ltInt hi first root dk = siftDown ltInt hi first lo d)
  case atStart => exact ⟨lo, d, 0, rfl, hlo, Nat.le_refl _, rfl, (putRow_self encU w blk off d hH).symm, rfl⟩
  case round =>
    obtain ⟨root, dk, n, rfl, hr, hk, hds, hwr, heq⟩ := hrel
    have hHk : Holds encU wr blk off dk := by rw [hwr]; exact holds_putRow encU _ blk off d dk (holds_ahead encU w n blk off d hH) hds
    -- THE ROW's TWO FAMILIES (the authors' Derived/CellFam.lean finds each cell in them)
    have hcw : ∀ t, t < d.size → wr.cell? ⟨blk, off + t, none⟩ = some (.int .u64 dk[t]!) := fun t ht => (hHk t (by omega)).1
    have hfw : ∀ t, t < d.size → wr.frozen? ⟨blk, off + t, none⟩ = false := fun t ht => (hHk t (by omega)).2
    have A : Aside (wr = putRow encU (Sort.ahead w n) blk off dk) := hwr
    clear hwr hH hHk
    by_cases h0 : hi ≤ 2 * root + 1
    · -- no child: the loop is left
      have h0z : (hi : Int) ≤ 2 * (root : Int) + 1 := by omega
      go_wp2
      go_end0
      refine ⟨rfl, n, ?_⟩
      rw [A.out, ← heq, sd_end ltInt dk h0]
    · -- (the tests, AS THE WALK SPELLS THEM: over Int: a guard that is not decided stops the quiet walk)
      have h0z : ¬ ((hi : Int) ≤ 2 * (root : Int) + 1) := by omega
      by_cases h1 : 2 * root + 2 < hi
      · have h1z : 2 * (root : Int) + 1 + 1 < (hi : Int) := by omega
        go_wp2_with fail
        go_big_quiet (first | (go_at_call 121; refine Calls.quiet_of_same (u64_cmp_Less_int _ _ _)))
        go_wp2_with fail
        · -- THE RIGHT CHILD IS THE GREATER
          have hL : ltInt dk[first + 2 * root + 1]! dk[first + 2 * root + 2]! = true := by assumption
          revert nq; intro nq1      -- (the next quiet region brings an 'nq' of its own)
          have hcw2 : ∀ t, t < d.size → (wr.drewN nq1).cell? ⟨blk, off + t, none⟩ = some (.int .u64 dk[t]!) := hcw
          have hfw2 : ∀ t, t < d.size → (wr.drewN nq1).frozen? ⟨blk, off + t, none⟩ = false := hfw
          have A2 : Aside (wr.drewN nq1 = putRow encU (Sort.ahead w (n + nq1)) blk off dk) := drewN_world encU A.out nq1
          clear hcw hfw A
          generalize wr.drewN nq1 = wr2 at hcw2 hfw2 A2 ⊢
          go_big_quiet (first | (go_at_call 121; refine Calls.quiet_of_same (u64_cmp_Less_int _ _ _)))
          go_wp2_with fail
          · -- the hole is not less than the greater child: return
            have hS : ltInt dk[first + root]! dk[first + 2 * root + 2]! = false := by
              have : (!ltInt dk[first + root]! dk[first + 2 * root + 2]!) = true := by assumption
              simpa using this
            (try simp only [Exit.inBlock, Exit.then]); refine bodyPost_ret (results_none rfl _ _ _) rfl ?_      -- (an explicit 'return' of a function without results)
            refine ⟨rfl, n + nq1 + nq, ?_⟩
            rw [drewN_world encU A2.out nq, ← heq, sd_right_stop ltInt dk h1 hL hS]
          · -- it is: they are swapped, and the hole goes down
            have hG : ltInt dk[first + root]! dk[first + 2 * root + 2]! = true := by
              have : (!ltInt dk[first + root]! dk[first + 2 * root + 2]!) = false := by assumption
              simpa using this
            have hcw3 : ∀ t, t < d.size → (wr2.drewN nq).cell? ⟨blk, off + t, none⟩ = some (.int .u64 dk[t]!) := hcw2
            have hfw3 : ∀ t, t < d.size → (wr2.drewN nq).frozen? ⟨blk, off + t, none⟩ = false := hfw2
            have A3 : Aside (wr2.drewN nq = putRow encU (Sort.ahead w (n + nq1 + nq)) blk off dk) := drewN_world encU A2.out nq
            clear hcw2 hfw2 A2
            generalize wr2.drewN nq = wr3 at hcw3 hfw3 A3 ⊢
            go_region
            go_wp2
            go_roundg (hi - (2 * root + 2))
            case measure => omega
            case rel =>
              refine ⟨2 * root + 2, swp dk (first + root) (first + (2 * root + 1 + 1)), n + nq1 + nq + 1, by simp <;> omega, by omega, Nat.le_refl _, by rw [size_swp]; exact hds, swap_world encU (by omega) (by omega) A3.out rfl rfl, ?_⟩
              rw [← heq, sd_right_go ltInt dk h1 hL hG]
        · -- THE LEFT CHILD IS NOT LESS THAN THE RIGHT
          have hL : ltInt dk[first + 2 * root + 1]! dk[first + 2 * root + 2]! = false := by assumption
          revert nq; intro nq1      -- (the next quiet region brings an 'nq' of its own)
          have hcw2 : ∀ t, t < d.size → (wr.drewN nq1).cell? ⟨blk, off + t, none⟩ = some (.int .u64 dk[t]!) := hcw
          have hfw2 : ∀ t, t < d.size → (wr.drewN nq1).frozen? ⟨blk, off + t, none⟩ = false := hfw
          have A2 : Aside (wr.drewN nq1 = putRow encU (Sort.ahead w (n + nq1)) blk off dk) := drewN_world encU A.out nq1
          clear hcw hfw A
          generalize wr.drewN nq1 = wr2 at hcw2 hfw2 A2 ⊢
          go_big_quiet (first | (go_at_call 121; refine Calls.quiet_of_same (u64_cmp_Less_int _ _ _)))
          go_wp2_with fail
          · -- the hole is not less than the greater child: return
            have hS : ltInt dk[first + root]! dk[first + 2 * root + 1]! = false := by
              have : (!ltInt dk[first + root]! dk[first + 2 * root + 1]!) = true := by assumption
              simpa using this
            (try simp only [Exit.inBlock, Exit.then]); refine bodyPost_ret (results_none rfl _ _ _) rfl ?_      -- (an explicit 'return' of a function without results)
            refine ⟨rfl, n + nq1 + nq, ?_⟩
            rw [drewN_world encU A2.out nq, ← heq, sd_left_stop ltInt dk (by omega) (fun _ => hL) hS]
          · -- it is: they are swapped, and the hole goes down
            have hG : ltInt dk[first + root]! dk[first + 2 * root + 1]! = true := by
              have : (!ltInt dk[first + root]! dk[first + 2 * root + 1]!) = false := by assumption
              simpa using this
            have hcw3 : ∀ t, t < d.size → (wr2.drewN nq).cell? ⟨blk, off + t, none⟩ = some (.int .u64 dk[t]!) := hcw2
            have hfw3 : ∀ t, t < d.size → (wr2.drewN nq).frozen? ⟨blk, off + t, none⟩ = false := hfw2
            have A3 : Aside (wr2.drewN nq = putRow encU (Sort.ahead w (n + nq1 + nq)) blk off dk) := drewN_world encU A2.out nq
            clear hcw2 hfw2 A2
            generalize wr2.drewN nq = wr3 at hcw3 hfw3 A3 ⊢
            go_region
            go_wp2
            go_roundg (hi - (2 * root + 1))
            case measure => omega
            case rel =>
              refine ⟨2 * root + 1, swp dk (first + root) (first + (2 * root + 1)), n + nq1 + nq + 1, by simp <;> omega, by omega, Nat.le_refl _, by rw [size_swp]; exact hds, swap_world encU (by omega) (by omega) A3.out rfl rfl, ?_⟩
              rw [← heq, sd_left_go ltInt dk (by omega) (fun _ => hL) hG]
      · -- THERE IS NO RIGHT CHILD
        have h1z : decide (2 * (root : Int) + 1 + 1 < (hi : Int)) = false := decide_eq_false (by omega)      -- (a guard that is FALSE: said so outright: from '¬ ..' the walk did not decide it)
        go_wp2_with fail
        go_big_quiet (first | (go_at_call 121; refine Calls.quiet_of_same (u64_cmp_Less_int _ _ _)))
        go_wp2_with fail
        revert nq; intro nq1      -- (the next quiet region brings an 'nq' of its own)
        have hcw2 : ∀ t, t < d.size → (wr.drewN nq1).cell? ⟨blk, off + t, none⟩ = some (.int .u64 dk[t]!) := hcw
        have hfw2 : ∀ t, t < d.size → (wr.drewN nq1).frozen? ⟨blk, off + t, none⟩ = false := hfw
        have A2 : Aside (wr.drewN nq1 = putRow encU (Sort.ahead w (n + nq1)) blk off dk) := drewN_world encU A.out nq1
        clear hcw hfw A
        generalize wr.drewN nq1 = wr2 at hcw2 hfw2 A2 ⊢
        go_big_quiet (first | (go_at_call 121; refine Calls.quiet_of_same (u64_cmp_Less_int _ _ _)))
        go_wp2_with fail
        · -- the hole is not less than the greater child: return
          have hS : ltInt dk[first + root]! dk[first + 2 * root + 1]! = false := by
            have : (!ltInt dk[first + root]! dk[first + 2 * root + 1]!) = true := by assumption
            simpa using this
          (try simp only [Exit.inBlock, Exit.then]); refine bodyPost_ret (results_none rfl _ _ _) rfl ?_      -- (an explicit 'return' of a function without results)
          refine ⟨rfl, n + nq1 + nq, ?_⟩
          rw [drewN_world encU A2.out nq, ← heq, sd_left_stop ltInt dk (by omega) (fun h => absurd h h1) hS]
        · -- it is: they are swapped, and the hole goes down
          have hG : ltInt dk[first + root]! dk[first + 2 * root + 1]! = true := by
            have : (!ltInt dk[first + root]! dk[first + 2 * root + 1]!) = false := by assumption
            simpa using this
          have hcw3 : ∀ t, t < d.size → (wr2.drewN nq).cell? ⟨blk, off + t, none⟩ = some (.int .u64 dk[t]!) := hcw2
          have hfw3 : ∀ t, t < d.size → (wr2.drewN nq).frozen? ⟨blk, off + t, none⟩ = false := hfw2
          have A3 : Aside (wr2.drewN nq = putRow encU (Sort.ahead w (n + nq1 + nq)) blk off dk) := drewN_world encU A2.out nq
          clear hcw2 hfw2 A2
          generalize wr2.drewN nq = wr3 at hcw3 hfw3 A3 ⊢
          go_region
          go_wp2
          go_roundg (hi - (2 * root + 1))
          case measure => omega
          case rel =>
            refine ⟨2 * root + 1, swp dk (first + root) (first + (2 * root + 1)), n + nq1 + nq + 1, by simp <;> omega, by omega, Nat.le_refl _, by rw [size_swp]; exact hds, swap_world encU (by omega) (by omega) A3.out rfl rfl, ?_⟩
            rw [← heq, sd_left_go ltInt dk (by omega) (fun h => absurd h h1) hG]

set_option maxHeartbeats 3200000 in
set_option maxRecDepth 1000000 in
theorem u64_heapSort_int (blk off len cap : Nat) (d : Array Int) (hlen : d.size = len) (a b : Nat) (w : World) (hH : Holds encU w blk off d) (hab : a ≤ b) (hb : b ≤ d.size) (hsz : d.size < 4611686018427387904) :
    Calls Tryz.prog 116 #[.slice (some ⟨blk, off, none⟩) len cap, .int .i64 a, .int .i64 b] w fun e w' => e = .returned (.tuple #[]) ∧ ∃ n, w' = putRow encU (Sort.ahead w n) blk off (heapSort ltInt d a b) := by
  subst hlen
  have ecast : ((b - a : Nat) : Int) = (b : Int) - (a : Int) := by omega
  go_enter Tryz.func116, Tryz.ntmps116
  go_wp2
  go_loopg [9] ((b - a - 1) / 2 + 1) (fun k s9 wr => s9 = .int .i64 ((k : Int) - 1) ∧ k ≤ (b - a - 1) / 2 + 1 ∧ ∃ (dk : Array Int) (n : Nat), dk.size = d.size ∧ wr = putRow encU (Sort.ahead w n) blk off dk ∧
    heapBuild ltInt (b - a) a k dk = heapBuild ltInt (b - a) a ((b - a - 1) / 2 + 1) d)
  case atStart => exact ⟨by rw [half_start hab], Nat.le_refl _, d, 0, rfl, (putRow_self encU w blk off d hH).symm, rfl⟩
  case round =>
    obtain ⟨rfl, hkk, dk, n, hds, hwr, heq⟩ := hrel
    have hHk : Holds encU wr blk off dk := by rw [hwr]; exact holds_putRow encU _ blk off d dk (holds_ahead encU w n blk off d hH) hds
    have A : Aside (wr = putRow encU (Sort.ahead w n) blk off dk) := hwr
    clear hwr
    cases gk with
    | zero =>
      -- THE HEAP IS BUILT; NOW THE GREATEST IS TAKEN OFF, TIME AND AGAIN
      have hB : dk = heapBuild ltInt (b - a) a ((b - a - 1) / 2 + 1) d := heq
      clear heq hHk hkk
      go_wp2
      go_loopg [10] (b - a) (fun k s10 wr2 => s10 = .int .i64 ((k : Int) - 1) ∧ k ≤ b - a ∧ ∃ (dj : Array Int) (n2 : Nat), dj.size = d.size ∧ wr2 = putRow encU (Sort.ahead w n2) blk off dj ∧ heapPop ltInt a k dj = heapPop ltInt a (b - a) dk)
      case atStart => exact ⟨by rw [ecast], Nat.le_refl _, dk, n, hds, A.out, rfl⟩
      case round =>
        obtain ⟨rfl, hkk, dj, n2, hdj, hwr2, heq2⟩ := hrel
        cases gk with
        | zero =>
          go_wp2
          go_end0
          refine ⟨rfl, n2, ?_⟩
          have e : dj = heapSort ltInt d a b := by rw [heapSort, ← hB, ← heq2]; rfl
          rw [← e]
        | succ k =>
          have hHj : Holds encU wr blk off dj := by rw [hwr2]; exact holds_putRow encU _ blk off d dj (holds_ahead encU w n2 blk off d hH) hdj
          have hcw : ∀ t, t < d.size → wr.cell? ⟨blk, off + t, none⟩ = some (.int .u64 dj[t]!) := fun t ht => (hHj t (by omega)).1
          have hfw : ∀ t, t < d.size → wr.frozen? ⟨blk, off + t, none⟩ = false := fun t ht => (hHj t (by omega)).2
          have A2 : Aside (wr = putRow encU (Sort.ahead w n2) blk off dj) := hwr2
          clear hwr2 hHj
          -- ✋ AT THE LAST ROUND (i = 0) 'data[first]' AND 'data[first+i]' ARE ONE CELL: the walk cannot tell whether the second store hits the cell just written: PART AHEAD OF THE REGION
          rcases Nat.eq_zero_or_pos k with hk0 | hkp
          · subst hk0
            go_wp2_with fail
            go_region
            go_wp2_with fail
            rw [swap_world encU (i := a) (j := a) (by omega) (by omega) A2.out rfl rfl]
            refine (u64_siftDown_int blk off d.size cap (swp dj a (a)) (by rw [size_swp]; exact hdj) 0 0 a _ (holds_putRow encU _ blk off d _ (holds_ahead encU w (n2 + 1) blk off d hH) (by rw [size_swp]; exact hdj)) (Nat.zero_le _) (by rw [size_swp]; omega) (by rw [size_swp]; omega)).mono ?_
            rintro e w1 ⟨rfl, m, hw1⟩
            go_wp2
            go_roundg 0
            case measure => omega
            case rel =>
              refine ⟨by simp, by omega, siftDown ltInt 0 a 0 (swp dj a (a)), n2 + 1 + m, by rw [size_siftDown ltInt _ _ _ _ _ (Nat.le_refl _), size_swp]; exact hdj, ?_, heq2⟩
              first
                | rw [hw1, putRow_ahead_putRow encU w (n2 + 1) m blk off _ _ (size_siftDown ltInt _ _ _ _ _ (Nat.le_refl _))]
                | rw [putRow_ahead_putRow encU w (n2 + 1) m blk off _ _ (size_siftDown ltInt _ _ _ _ _ (Nat.le_refl _))]
          · skip
            go_wp2_with fail
            go_region
            go_wp2_with fail
            rw [swap_world encU (i := a) (j := a + k) (by omega) (by omega) A2.out rfl rfl]
            refine (u64_siftDown_int blk off d.size cap (swp dj a (a + k)) (by rw [size_swp]; exact hdj) 0 k a _ (holds_putRow encU _ blk off d _ (holds_ahead encU w (n2 + 1) blk off d hH) (by rw [size_swp]; exact hdj)) (Nat.zero_le _) (by rw [size_swp]; omega) (by rw [size_swp]; omega)).mono ?_
            rintro e w1 ⟨rfl, m, hw1⟩
            go_wp2
            go_roundg k
            case measure => omega
            case rel =>
              refine ⟨by simp, by omega, siftDown ltInt k a 0 (swp dj a (a + k)), n2 + 1 + m, by rw [size_siftDown ltInt _ _ _ _ _ (Nat.le_refl _), size_swp]; exact hdj, ?_, heq2⟩
              first
                | rw [hw1, putRow_ahead_putRow encU w (n2 + 1) m blk off _ _ (size_siftDown ltInt _ _ _ _ _ (Nat.le_refl _))]
                | rw [putRow_ahead_putRow encU w (n2 + 1) m blk off _ _ (size_siftDown ltInt _ _ _ _ _ (Nat.le_refl _))]
    | succ k =>
      have hcall := u64_siftDown_int blk off d.size cap dk hds k (b - a) a wr hHk (by omega) (by omega) (by omega)
      rw [ecast] at hcall
      go_wp2_with (go_at_call 141; refine hcall.mono ?_; rintro e w1 ⟨rfl, m, hw1⟩)
      go_roundg k
      case measure => omega
      case rel =>
        refine ⟨by simp, by omega, siftDown ltInt (b - a) a k dk, n + m, by rw [size_siftDown ltInt _ _ _ _ _ (Nat.le_refl _)]; exact hds, ?_, heq⟩
        rw [A.out, putRow_ahead_putRow encU w n m blk off dk _ (size_siftDown ltInt _ _ _ _ _ (Nat.le_refl _))]

end Go.Proofs.YtkjfdaleamonaaaGreat
/- The library's ordered sort at []uint64, walked: the kit's worked walks at []int, turned (sortport.py). -/
namespace Go.Proofs.YtkjfdaleamonaaaGreat
open Go.RowKit Go.Sort

set_option maxHeartbeats 6400000 in
set_option maxRecDepth 100000 in
theorem u64_partitionEqual_int (blk off cap a b pivot : Nat) (d : Array Int) (w : World) (hH : Holds (Value.int .u64) w blk off d) (hap : a ≤ pivot) (hpb : pivot < b) (hb : b ≤ d.size) (hsz : d.size < 4611686018427387904) :
    Calls Tryz.prog 122 #[.slice (some ⟨blk, off, none⟩) d.size cap, .int .i64 a, .int .i64 b, .int .i64 pivot] w fun e w' =>
      e = .returned (.int .i64 (Sort.partitionEqual Sort.ltInt d a b pivot).1) ∧ ∃ n, w' = (putRow (Value.int .u64) w blk off (Sort.partitionEqual Sort.ltInt d a b pivot).2).drewN n := by
  have hla : a < d.size := by omega
  have hlp : pivot < d.size := by omega
  -- THE ROW's CONTENTS UNDER A NAME OF THEIR OWN: with 'pivot < d.size' at hand the walk's simp turns 'd[pivot]!' into 'd[pivot]', and a fact spelt the other way no longer strikes
  obtain ⟨G, hG⟩ : ∃ G : Nat → Int, ∀ j, G j = d[j]! := ⟨fun j => d[j]!, fun _ => rfl⟩
  have ca : w.cell? ⟨blk, off + a, none⟩ = some (.int .u64 (G a)) := by rw [hG]; exact (hH a hla).1
  have fa := (hH a hla).2
  have cp : w.cell? ⟨blk, off + pivot, none⟩ = some (.int .u64 (G pivot)) := by rw [hG]; exact (hH pivot hlp).1
  have fp := (hH pivot hlp).2
  obtain ⟨v', hy'⟩ := cell?_setCell_some (w := w) (p := ⟨blk, off + a, none⟩) (x := .int .u64 (G pivot)) (q := ⟨blk, off + pivot, none⟩) cp
  have AG : Hid (∀ j, G j = d[j]!) := hG
  have AH : Hid (Holds (Value.int .u64) w blk off d) := hH
  clear hG hH
  go_enter Tryz.func122, Tryz.ntmps122
  go_wp2
  go_region
  go_wp2
  -- THE 'for {'
  go_loopw [9, 10] (fun vi vj wr => ∃ (i j n : Nat) (dk : Array Int), vi = .int .i64 i ∧ vj = .int .i64 j ∧ a < i ∧ i ≤ j + 1 ∧ j < b ∧ dk.size = d.size ∧ wr = (putRow (Value.int .u64) w blk off dk).drewN n ∧
      Sort.partEqLoop Sort.ltInt a i j dk = Sort.partEqLoop Sort.ltInt a (a + 1) (b - 1) (Sort.swp d a pivot))
    (fun vi vj _ => (intOf vj).toNat + 1 - (intOf vi).toNat)
  case atStart =>
    refine ⟨a + 1, b - 1, 1, Sort.swp d a pivot, by go_num, by go_num, by omega, by omega, by omega, size_swp _ _ _, ?_, rfl⟩
    have e := swap_worldC (Value.int .u64) w blk off d 0 a pivot hla hlp
    rw [putRow_self _ w blk off d AH.out] at e
    rw [AG.out a, AG.out pivot]
    exact e
  case round =>
    obtain ⟨i, j, n, dk, rfl, rfl, hai, hij, hjb, hs, hw, heq⟩ := hrel
    clear ca fa cp fp hy' v' AG
    rename World => W1
    have hHk : Holds (Value.int .u64) W1 blk off dk := by
      rw [hw]
      exact holds_putRow (Value.int .u64) w blk off d dk AH.out hs
    obtain ⟨Gk, hG⟩ : ∃ Gk : Nat → Int, ∀ t, Gk t = dk[t]! := ⟨fun t => dk[t]!, fun _ => rfl⟩
    have hc : ∀ t, t < d.size → W1.cell? ⟨blk, off + t, none⟩ = some (.int .u64 (Gk t)) := fun t ht => by rw [hG]; exact (hHk t (by omega)).1
    have hf : ∀ t, t < d.size → W1.frozen? ⟨blk, off + t, none⟩ = false := fun t ht => (hHk t (by omega)).2
    have AG : Hid (∀ t, Gk t = dk[t]!) := hG
    have AW : Hid (W1 = (putRow (Value.int .u64) w blk off dk).drewN n) := hw
    have AE : Hid (Sort.partEqLoop Sort.ltInt a i j dk = Sort.partEqLoop Sort.ltInt a (a + 1) (b - 1) (Sort.swp d a pivot)) := heq
    clear hG hw heq hHk
    go_wp2
    -- THE UPWARD SCAN
    go_loopw [9] (fun vi w1 => ∃ (i' n1 : Nat), vi = .int .i64 i' ∧ i ≤ i' ∧ i' ≤ j + 1 ∧ w1 = W1.drewN n1 ∧
        Hid (Sort.scanUp (fun x => !Sort.ltInt dk[a]! x) dk j i' = Sort.scanUp (fun x => !Sort.ltInt dk[a]! x) dk j i))
      (fun vi _ => j + 1 - (intOf vi).toNat)
    case atStart => exact ⟨i, 0, rfl, Nat.le_refl _, hij, rfl, rfl⟩
    case round =>
      obtain ⟨i', n1, rfl, hii, hij', hw1, hsc⟩ := hrel
      -- THE ROUND's WORLD STAYS A VARIABLE (as 'W1.drewN n1' the walk's simp would merge the draws, and the quiet law's end would not fit)
      have hcw : ∀ t, t < d.size → wr.cell? ⟨blk, off + t, none⟩ = some (.int .u64 (Gk t)) := fun t ht => by rw [hw1]; exact hc t ht
      have HW1 : Hid (wr = W1.drewN n1) := hw1
      clear hw1
      by_cases hle : i' ≤ j
      · go_wp2_with fail
        go_big_quiet (first | (go_at_call 121; refine Calls.quiet_of_same (u64_cmp_Less_int _ _ _)))
        go_wp2
        · -- it goes on: i++
          have ht : (!Sort.ltInt (Gk a) (Gk i')) = true := by assumption
          go_roundw
          case rel => exact ⟨i' + 1, n1 + nq, by go_num, by omega, by omega, by rw [HW1.out, World.drewN_drewN], (scanUp_go (fun x => !Sort.ltInt dk[a]! x) dk j i' hle (by rw [← AG.out a, ← AG.out i']; exact ht)).symm.trans hsc.out⟩
          case measure => simp [intOf]; omega
        · -- it stops: the test has failed
          have ht : (!Sort.ltInt (Gk a) (Gk i')) = false := by assumption
          have hi2 : Hid (i' = Sort.scanUp (fun x => !Sort.ltInt dk[a]! x) dk j i) := (scanUp_end (fun x => !Sort.ltInt dk[a]! x) dk j i' (Or.inr (by rw [← AG.out a, ← AG.out i']; exact ht))).symm.trans hsc.out
          clear ht
          -- THE DOWNWARD SCAN
          have hw2 : wr.drewN nq = W1.drewN (n1 + nq) := by rw [HW1.out, World.drewN_drewN]
          clear hcw HW1 hsc
          go_loopw [10] (fun vj w2 => ∃ (j' n2 : Nat), vj = .int .i64 j' ∧ j' ≤ j ∧ i' ≤ j' + 1 ∧ w2 = W1.drewN n2 ∧
              Hid (Sort.scanDown (fun x => Sort.ltInt dk[a]! x) dk i' j' = Sort.scanDown (fun x => Sort.ltInt dk[a]! x) dk i' j))
            (fun vj _ => (intOf vj).toNat)
          case atStart => exact ⟨j, n1 + nq, rfl, Nat.le_refl _, hij', hw2, rfl⟩
          case round =>
            clear hw2
            obtain ⟨j', n2, rfl, hjj, hij2, hw2, hsd⟩ := hrel
            have hcw : ∀ t, t < d.size → wr.cell? ⟨blk, off + t, none⟩ = some (.int .u64 (Gk t)) := fun t ht => by rw [hw2]; exact hc t ht
            have HW2 : Hid (wr = W1.drewN n2) := hw2
            clear hw2
            by_cases hle2 : i' ≤ j'
            · go_wp2_with fail
              go_big_quiet (first | (go_at_call 121; refine Calls.quiet_of_same (u64_cmp_Less_int _ _ _)))
              go_wp2
              · -- it goes on: j--
                have ht : Sort.ltInt (Gk a) (Gk j') = true := by assumption
                go_roundw
                case rel => exact ⟨j' - 1, n2 + nq, by go_num, by omega, by omega, by rw [HW2.out, World.drewN_drewN], (scanDown_go (fun x => Sort.ltInt dk[a]! x) dk i' j' hle2 (by omega) (by rw [← AG.out a, ← AG.out j']; exact ht)).symm.trans hsd.out⟩
                case measure => simp [intOf]; omega
              · -- it stops: the test has failed
                have ht : Sort.ltInt (Gk a) (Gk j') = false := by assumption
                have hj2 : Hid (j' = Sort.scanDown (fun x => Sort.ltInt dk[a]! x) dk i' j) := (scanDown_end (fun x => Sort.ltInt dk[a]! x) dk i' j' (Or.inr (by rw [← AG.out a, ← AG.out j']; exact ht))).symm.trans hsd.out
                clear hcw hsd ht
                -- BEHIND BOTH SCANS
                have hw3 : wr.drewN nq = W1.drewN (n2 + nq) := by rw [HW2.out, World.drewN_drewN]
                generalize wr.drewN nq = W3 at hw3 ⊢
                have hc3 : ∀ t, t < d.size → W3.cell? ⟨blk, off + t, none⟩ = some (.int .u64 (Gk t)) := fun t ht => by rw [hw3]; exact hc t ht
                have hf3 : ∀ t, t < d.size → W3.frozen? ⟨blk, off + t, none⟩ = false := fun t ht => by rw [hw3]; exact hf t ht
                have HW3 : Hid (W3 = W1.drewN (n2 + nq)) := hw3
                clear hw3
                -- the exchange; i++; j--
                obtain ⟨v3, hy3⟩ := cell?_setCell_some (w := W3) (p := ⟨blk, off + i', none⟩) (x := .int .u64 (Gk j')) (q := ⟨blk, off + j', none⟩) (hc3 j' (by omega))
                have hlt3 := scans_lt Sort.ltInt a i j dk (by omega) hi2.out hj2.out hle2
                go_wp2
                go_region
                all_goals go_wp2
                all_goals go_roundw
                case rel =>
                  refine ⟨i' + 1, j' - 1, n + (n2 + nq) + 1, Sort.swp dk i' j', by go_num, by go_num, by omega, by omega, by omega, by rw [size_swp]; exact hs, ?_, ?_⟩
                  · rw [HW3.out, AW.out, World.drewN_drewN, AG.out i', AG.out j']
                    exact swap_worldC (Value.int .u64) w blk off dk _ i' j' (by omega) (by omega)
                  · rw [← AE.out]; exact (partEq_go Sort.ltInt a i j dk hi2.out hj2.out (by omega)).symm
                case measure => simp [intOf]; omega
            · go_wp2_with fail
              go_big_quiet (first | (go_at_call 121; refine Calls.quiet_of_same (u64_cmp_Less_int _ _ _)))
              -- it stops: i > j
              have hj2 : Hid (j' = Sort.scanDown (fun x => Sort.ltInt dk[a]! x) dk i' j) := (scanDown_end (fun x => Sort.ltInt dk[a]! x) dk i' j' (Or.inl hle2)).symm.trans hsd.out
              clear hcw hsd
              -- BEHIND BOTH SCANS
              have hw3 : wr.drewN nq = W1.drewN (n2 + nq) := by rw [HW2.out, World.drewN_drewN]
              generalize wr.drewN nq = W3 at hw3 ⊢
              have hc3 : ∀ t, t < d.size → W3.cell? ⟨blk, off + t, none⟩ = some (.int .u64 (Gk t)) := fun t ht => by rw [hw3]; exact hc t ht
              have hf3 : ∀ t, t < d.size → W3.frozen? ⟨blk, off + t, none⟩ = false := fun t ht => by rw [hw3]; exact hf t ht
              have HW3 : Hid (W3 = W1.drewN (n2 + nq)) := hw3
              clear hw3
              -- i > j: break; return i
              go_wp2
              go_ret
              have e := partEq_break Sort.ltInt a i j dk hi2.out hj2.out (by omega)
              refine ⟨?_, n + (n2 + nq), ?_⟩
              · unfold Sort.partitionEqual; rw [← AE.out, e]; rfl
              · unfold Sort.partitionEqual; rw [← AE.out, e, HW3.out, AW.out, World.drewN_drewN]
      · go_wp2_with fail
        go_big_quiet (first | (go_at_call 121; refine Calls.quiet_of_same (u64_cmp_Less_int _ _ _)))
        go_wp2
        -- it stops: i > j
        have hi2 : Hid (i' = Sort.scanUp (fun x => !Sort.ltInt dk[a]! x) dk j i) := (scanUp_end (fun x => !Sort.ltInt dk[a]! x) dk j i' (Or.inl hle)).symm.trans hsc.out
        -- THE DOWNWARD SCAN
        have hw2 : wr.drewN nq = W1.drewN (n1 + nq) := by rw [HW1.out, World.drewN_drewN]
        clear hcw HW1 hsc
        go_loopw [10] (fun vj w2 => ∃ (j' n2 : Nat), vj = .int .i64 j' ∧ j' ≤ j ∧ i' ≤ j' + 1 ∧ w2 = W1.drewN n2 ∧
            Hid (Sort.scanDown (fun x => Sort.ltInt dk[a]! x) dk i' j' = Sort.scanDown (fun x => Sort.ltInt dk[a]! x) dk i' j))
          (fun vj _ => (intOf vj).toNat)
        case atStart => exact ⟨j, n1 + nq, rfl, Nat.le_refl _, hij', hw2, rfl⟩
        case round =>
          clear hw2
          obtain ⟨j', n2, rfl, hjj, hij2, hw2, hsd⟩ := hrel
          have hcw : ∀ t, t < d.size → wr.cell? ⟨blk, off + t, none⟩ = some (.int .u64 (Gk t)) := fun t ht => by rw [hw2]; exact hc t ht
          have HW2 : Hid (wr = W1.drewN n2) := hw2
          clear hw2
          by_cases hle2 : i' ≤ j'
          · exfalso; omega      -- the upward scan has run past j, and j' ≤ j
          · go_wp2_with fail
            go_big_quiet (first | (go_at_call 121; refine Calls.quiet_of_same (u64_cmp_Less_int _ _ _)))
            -- it stops: i > j
            have hj2 : Hid (j' = Sort.scanDown (fun x => Sort.ltInt dk[a]! x) dk i' j) := (scanDown_end (fun x => Sort.ltInt dk[a]! x) dk i' j' (Or.inl hle2)).symm.trans hsd.out
            clear hcw hsd
            -- BEHIND BOTH SCANS
            have hw3 : wr.drewN nq = W1.drewN (n2 + nq) := by rw [HW2.out, World.drewN_drewN]
            generalize wr.drewN nq = W3 at hw3 ⊢
            have hc3 : ∀ t, t < d.size → W3.cell? ⟨blk, off + t, none⟩ = some (.int .u64 (Gk t)) := fun t ht => by rw [hw3]; exact hc t ht
            have hf3 : ∀ t, t < d.size → W3.frozen? ⟨blk, off + t, none⟩ = false := fun t ht => by rw [hw3]; exact hf t ht
            have HW3 : Hid (W3 = W1.drewN (n2 + nq)) := hw3
            clear hw3
            -- i > j: break; return i
            go_wp2
            go_ret
            have e := partEq_break Sort.ltInt a i j dk hi2.out hj2.out (by omega)
            refine ⟨?_, n + (n2 + nq), ?_⟩
            · unfold Sort.partitionEqual; rw [← AE.out, e]; rfl
            · unfold Sort.partitionEqual; rw [← AE.out, e, HW3.out, AW.out, World.drewN_drewN]

theorem u64_partitionEqualOrdered_int (blk off cap a b pivot : Nat) (d : Array Int) (w : World) (hH : Holds (Value.int .u64) w blk off d) (hap : a ≤ pivot) (hpb : pivot < b) (hb : b ≤ d.size) (hsz : d.size < 4611686018427387904) :
    Calls Tryz.prog 122 #[.slice (some ⟨blk, off, none⟩) d.size cap, .int .i64 a, .int .i64 b, .int .i64 pivot] w fun e w' =>
      e = .returned (.int .i64 (Sort.partitionEqual Sort.ltInt d a b pivot).1) ∧ ∃ n, w' = putRow (Value.int .u64) (Sort.ahead w n) blk off (Sort.partitionEqual Sort.ltInt d a b pivot).2 :=
  (u64_partitionEqual_int blk off cap a b pivot d w hH hap hpb hb hsz).mono fun _ _ ⟨he, n, hw⟩ => ⟨he, n, hw⟩

set_option maxHeartbeats 12800000 in
set_option maxRecDepth 100000 in
theorem u64_partition_int (blk off cap a b pivot : Nat) (d : Array Int) (w : World) (hH : Holds (Value.int .u64) w blk off d) (hap : a ≤ pivot) (hpb : pivot < b) (hb : b ≤ d.size) (hsz : d.size < 4611686018427387904) :
    Calls Tryz.prog 123 #[.slice (some ⟨blk, off, none⟩) d.size cap, .int .i64 a, .int .i64 b, .int .i64 pivot] w fun e w' =>
      e = .returned (.tuple #[.int .i64 (Sort.partition Sort.ltInt d a b pivot).1, .bool (Sort.partition Sort.ltInt d a b pivot).2.1]) ∧ ∃ n, w' = (putRow (Value.int .u64) w blk off (Sort.partition Sort.ltInt d a b pivot).2.2).drewN n := by
  have hla : a < d.size := by omega
  have hlp : pivot < d.size := by omega
  obtain ⟨G, hG⟩ : ∃ G : Nat → Int, ∀ j, G j = d[j]! := ⟨fun j => d[j]!, fun _ => rfl⟩
  have ca : w.cell? ⟨blk, off + a, none⟩ = some (.int .u64 (G a)) := by rw [hG]; exact (hH a hla).1
  have fa := (hH a hla).2
  have cp : w.cell? ⟨blk, off + pivot, none⟩ = some (.int .u64 (G pivot)) := by rw [hG]; exact (hH pivot hlp).1
  have fp := (hH pivot hlp).2
  obtain ⟨v', hy'⟩ := cell?_setCell_some (w := w) (p := ⟨blk, off + a, none⟩) (x := .int .u64 (G pivot)) (q := ⟨blk, off + pivot, none⟩) cp
  have hw : ((w.setCell ⟨blk, off + a, none⟩ (.int .u64 (G pivot))).setCell ⟨blk, off + pivot, none⟩ (.int .u64 (G a))).drew = (putRow (Value.int .u64) w blk off (Sort.swp d a pivot)).drewN 1 := by
    have e := swap_worldC (Value.int .u64) w blk off d 0 a pivot hla hlp
    rw [putRow_self _ w blk off d hH] at e
    rw [hG a, hG pivot]
    exact e
  have AH : Hid (Holds (Value.int .u64) w blk off d) := hH
  have HW0 := Hid.mk' hw
  clear hG hH hw
  go_enter Tryz.func123, Tryz.ntmps123
  go_wp2
  go_region
  go_wp2
  -- THE FIRST ROUND's STATE UNDER THE NAMES THAT EVERY ROUND USES
  clear ca fa cp fp hy' v'
  have hw := HW0.out
  clear HW0
  generalize ((w.setCell ⟨blk, off + a, none⟩ (.int .u64 (G pivot))).setCell ⟨blk, off + pivot, none⟩ (.int .u64 (G a))).drew = W1 at hw ⊢
  obtain ⟨dk, hdk⟩ : ∃ dk, dk = Sort.swp d a pivot := ⟨_, rfl⟩
  obtain ⟨n, hn⟩ : ∃ n : Nat, n = 1 := ⟨_, rfl⟩
  rw [← hdk, ← hn] at hw
  clear hn
  have hs : dk.size = d.size := by rw [hdk, size_swp]
  have e1 : ((a : Int) + 1) = ((a + 1 : Nat) : Int) := by omega
  have e2 : ((b : Int) - 1) = ((b - 1 : Nat) : Int) := by omega
  rw [e1, e2]
  clear e1 e2
  obtain ⟨i, hi⟩ : ∃ i, i = a + 1 := ⟨_, rfl⟩
  obtain ⟨j, hj⟩ : ∃ j, j = b - 1 := ⟨_, rfl⟩
  rw [← hi, ← hj]
  have hai : a < i := by omega
  have hij : i ≤ j + 1 := by omega
  have hjb : j < b := by omega
  -- (the walk takes every hypothesis for a rule: 'j = b - 1' would write j out again, and the test's guard 'i' ≤ j' would not be known)
  have HI := Hid.mk' hi
  have HJ := Hid.mk' hj
  have HDK := Hid.mk' hdk
  clear hi hj hdk
  have hHk : Holds (Value.int .u64) W1 blk off dk := by
    rw [hw]
    exact holds_putRow (Value.int .u64) w blk off d dk AH.out hs
  obtain ⟨Gk, hG⟩ : ∃ Gk : Nat → Int, ∀ t, Gk t = dk[t]! := ⟨fun t => dk[t]!, fun _ => rfl⟩
  have hc : ∀ t, t < d.size → W1.cell? ⟨blk, off + t, none⟩ = some (.int .u64 (Gk t)) := fun t ht => by rw [hG]; exact (hHk t (by omega)).1
  have hf : ∀ t, t < d.size → W1.frozen? ⟨blk, off + t, none⟩ = false := fun t ht => (hHk t (by omega)).2
  have AG : Hid (∀ t, Gk t = dk[t]!) := hG
  have AW : Hid (W1 = (putRow (Value.int .u64) w blk off dk).drewN n) := hw
  clear hG hw hHk
  -- THE UPWARD SCAN
  go_loopw [10] (fun vi w1 => ∃ (i' n1 : Nat), vi = .int .i64 i' ∧ i ≤ i' ∧ i' ≤ j + 1 ∧ w1 = W1.drewN n1 ∧
      Hid (Sort.scanUp (fun x => Sort.ltInt x dk[a]!) dk j i' = Sort.scanUp (fun x => Sort.ltInt x dk[a]!) dk j i))
    (fun vi _ => j + 1 - (intOf vi).toNat)
  case atStart => exact ⟨i, 0, rfl, Nat.le_refl _, hij, rfl, rfl⟩
  case round =>
    obtain ⟨i', n1, rfl, hii, hij', hw1, hsc⟩ := hrel
    have hcw : ∀ t, t < d.size → wr.cell? ⟨blk, off + t, none⟩ = some (.int .u64 (Gk t)) := fun t ht => by rw [hw1]; exact hc t ht
    have HW1 : Hid (wr = W1.drewN n1) := hw1
    clear hw1
    by_cases hle : i' ≤ j
    · go_wp2_with fail
      go_big_quiet (first | (go_at_call 121; refine Calls.quiet_of_same (u64_cmp_Less_int _ _ _)))
      go_wp2
      · -- it goes on: i++
        have ht : Sort.ltInt (Gk i') (Gk a) = true := by assumption
        go_roundw
        case rel => exact ⟨i' + 1, n1 + nq, by go_num, by omega, by omega, by rw [HW1.out, World.drewN_drewN], (scanUp_go (fun x => Sort.ltInt x dk[a]!) dk j i' hle (by rw [← AG.out a, ← AG.out i']; exact ht)).symm.trans hsc.out⟩
        case measure => simp [intOf]; omega
      · -- it stops: the test has failed
        have ht : Sort.ltInt (Gk i') (Gk a) = false := by assumption
        have hi2 : Hid (i' = Sort.scanUp (fun x => Sort.ltInt x dk[a]!) dk j i) := (scanUp_end (fun x => Sort.ltInt x dk[a]!) dk j i' (Or.inr (by rw [← AG.out a, ← AG.out i']; exact ht))).symm.trans hsc.out
        clear ht
        -- THE DOWNWARD SCAN
        have hw2 : wr.drewN nq = W1.drewN (n1 + nq) := by rw [HW1.out, World.drewN_drewN]
        clear hcw HW1 hsc
        go_loopw [11] (fun vj w2 => ∃ (j' n2 : Nat), vj = .int .i64 j' ∧ j' ≤ j ∧ i' ≤ j' + 1 ∧ w2 = W1.drewN n2 ∧
            Hid (Sort.scanDown (fun x => !Sort.ltInt x dk[a]!) dk i' j' = Sort.scanDown (fun x => !Sort.ltInt x dk[a]!) dk i' j))
          (fun vj _ => (intOf vj).toNat)
        case atStart => exact ⟨j, n1 + nq, rfl, Nat.le_refl _, hij', hw2, rfl⟩
        case round =>
          clear hw2
          obtain ⟨j', n2, rfl, hjj, hij2, hw2, hsd⟩ := hrel
          have hcw : ∀ t, t < d.size → wr.cell? ⟨blk, off + t, none⟩ = some (.int .u64 (Gk t)) := fun t ht => by rw [hw2]; exact hc t ht
          have HW2 : Hid (wr = W1.drewN n2) := hw2
          clear hw2
          by_cases hle2 : i' ≤ j'
          · go_wp2_with fail
            go_big_quiet (first | (go_at_call 121; refine Calls.quiet_of_same (u64_cmp_Less_int _ _ _)))
            go_wp2
            · -- it goes on: j--
              have ht : (!Sort.ltInt (Gk j') (Gk a)) = true := by assumption
              go_roundw
              case rel => exact ⟨j' - 1, n2 + nq, by go_num, by omega, by omega, by rw [HW2.out, World.drewN_drewN], (scanDown_go (fun x => !Sort.ltInt x dk[a]!) dk i' j' hle2 (by omega) (by rw [← AG.out a, ← AG.out j']; exact ht)).symm.trans hsd.out⟩
              case measure => simp [intOf]; omega
            · -- it stops: the test has failed
              have ht : (!Sort.ltInt (Gk j') (Gk a)) = false := by assumption
              have hj2 : Hid (j' = Sort.scanDown (fun x => !Sort.ltInt x dk[a]!) dk i' j) := (scanDown_end (fun x => !Sort.ltInt x dk[a]!) dk i' j' (Or.inr (by rw [← AG.out a, ← AG.out j']; exact ht))).symm.trans hsd.out
              clear hcw hsd ht
              -- BEHIND BOTH SCANS
              have hw3 : wr.drewN nq = W1.drewN (n2 + nq) := by rw [HW2.out, World.drewN_drewN]
              generalize wr.drewN nq = W3 at hw3 ⊢
              have hc3 : ∀ t, t < d.size → W3.cell? ⟨blk, off + t, none⟩ = some (.int .u64 (Gk t)) := fun t ht => by rw [hw3]; exact hc t ht
              have hf3 : ∀ t, t < d.size → W3.frozen? ⟨blk, off + t, none⟩ = false := fun t ht => by rw [hw3]; exact hf t ht
              have HW3 : Hid (W3 = W1.drewN (n2 + nq)) := hw3
              clear hw3
              -- the exchange; i++; j--
              obtain ⟨v3, hy3⟩ := cell?_setCell_some (w := W3) (p := ⟨blk, off + i', none⟩) (x := .int .u64 (Gk j')) (q := ⟨blk, off + j', none⟩) (hc3 j' (by omega))
              have hlt3 := part_scans_lt Sort.ltInt a i j dk (by omega) hi2.out hj2.out hle2
              go_wp2
              go_region
              all_goals go_wp2
              -- THE 'for {'
              obtain ⟨R, hR⟩ : ∃ R, R = Sort.partLoop Sort.ltInt a (i' + 1) (j' - 1) (Sort.swp dk i' j') := ⟨_, rfl⟩
              have HP : Hid (Sort.partition Sort.ltInt d a b pivot = (R.1, false, Sort.swp R.2 R.1 a)) := by rw [hR]; exact part_first_go Sort.ltInt d a b pivot HI.out HJ.out HDK.out hi2.out hj2.out (by omega)
              have hw0 : ((W3.setCell ⟨blk, off + i', none⟩ (.int .u64 (Gk j'))).setCell ⟨blk, off + j', none⟩ (.int .u64 (Gk i'))).drew = (putRow (Value.int .u64) w blk off (Sort.swp dk i' j')).drewN (n + (n2 + nq) + 1) := by
                rw [HW3.out, AW.out, World.drewN_drewN, AG.out i', AG.out j']
                exact swap_worldC (Value.int .u64) w blk off dk _ i' j' (by omega) (by omega)
              have HR : Hid (R = Sort.partLoop Sort.ltInt a (i' + 1) (j' - 1) (Sort.swp dk i' j')) := hR
              clear hR hc hf hc3 hf3 hy3 HW3 AW AG hi2 hj2
              go_loopw [10, 11] (fun vi vj wr => ∃ (i j n : Nat) (dk : Array Int), vi = .int .i64 i ∧ vj = .int .i64 j ∧ a < i ∧ i ≤ j + 1 ∧ j < b ∧ dk.size = d.size ∧ wr = (putRow (Value.int .u64) w blk off dk).drewN n ∧
                  Sort.partLoop Sort.ltInt a i j dk = R)
                (fun vi vj _ => (intOf vj).toNat + 1 - (intOf vi).toNat)
              case atStart => exact ⟨i' + 1, j' - 1, _, Sort.swp dk i' j', by go_num, by go_num, by omega, by omega, by omega, by rw [size_swp]; exact hs, hw0, HR.out.symm⟩
              case round =>
                clear hw0 HR
                obtain ⟨i, j, n, dk, rfl, rfl, hai, hij, hjb, hs, hw, heq⟩ := hrel
                rename World => W1
                have AE : Hid (Sort.partLoop Sort.ltInt a i j dk = R) := heq
                clear heq
                have hHk : Holds (Value.int .u64) W1 blk off dk := by
                  rw [hw]
                  exact holds_putRow (Value.int .u64) w blk off d dk AH.out hs
                obtain ⟨Gk, hG⟩ : ∃ Gk : Nat → Int, ∀ t, Gk t = dk[t]! := ⟨fun t => dk[t]!, fun _ => rfl⟩
                have hc : ∀ t, t < d.size → W1.cell? ⟨blk, off + t, none⟩ = some (.int .u64 (Gk t)) := fun t ht => by rw [hG]; exact (hHk t (by omega)).1
                have hf : ∀ t, t < d.size → W1.frozen? ⟨blk, off + t, none⟩ = false := fun t ht => (hHk t (by omega)).2
                have AG : Hid (∀ t, Gk t = dk[t]!) := hG
                have AW : Hid (W1 = (putRow (Value.int .u64) w blk off dk).drewN n) := hw
                clear hG hw hHk
                go_wp2
                -- THE UPWARD SCAN
                go_loopw [10] (fun vi w1 => ∃ (i' n1 : Nat), vi = .int .i64 i' ∧ i ≤ i' ∧ i' ≤ j + 1 ∧ w1 = W1.drewN n1 ∧
                    Hid (Sort.scanUp (fun x => Sort.ltInt x dk[a]!) dk j i' = Sort.scanUp (fun x => Sort.ltInt x dk[a]!) dk j i))
                  (fun vi _ => j + 1 - (intOf vi).toNat)
                case atStart => exact ⟨i, 0, rfl, Nat.le_refl _, hij, rfl, rfl⟩
                case round =>
                  obtain ⟨i', n1, rfl, hii, hij', hw1, hsc⟩ := hrel
                  have hcw : ∀ t, t < d.size → wr.cell? ⟨blk, off + t, none⟩ = some (.int .u64 (Gk t)) := fun t ht => by rw [hw1]; exact hc t ht
                  have HW1 : Hid (wr = W1.drewN n1) := hw1
                  clear hw1
                  by_cases hle : i' ≤ j
                  · go_wp2_with fail
                    go_big_quiet (first | (go_at_call 121; refine Calls.quiet_of_same (u64_cmp_Less_int _ _ _)))
                    go_wp2
                    · -- it goes on: i++
                      have ht : Sort.ltInt (Gk i') (Gk a) = true := by assumption
                      go_roundw
                      case rel => exact ⟨i' + 1, n1 + nq, by go_num, by omega, by omega, by rw [HW1.out, World.drewN_drewN], (scanUp_go (fun x => Sort.ltInt x dk[a]!) dk j i' hle (by rw [← AG.out a, ← AG.out i']; exact ht)).symm.trans hsc.out⟩
                      case measure => simp [intOf]; omega
                    · -- it stops: the test has failed
                      have ht : Sort.ltInt (Gk i') (Gk a) = false := by assumption
                      have hi2 : Hid (i' = Sort.scanUp (fun x => Sort.ltInt x dk[a]!) dk j i) := (scanUp_end (fun x => Sort.ltInt x dk[a]!) dk j i' (Or.inr (by rw [← AG.out a, ← AG.out i']; exact ht))).symm.trans hsc.out
                      clear ht
                      -- THE DOWNWARD SCAN
                      have hw2 : wr.drewN nq = W1.drewN (n1 + nq) := by rw [HW1.out, World.drewN_drewN]
                      clear hcw HW1 hsc
                      go_loopw [11] (fun vj w2 => ∃ (j' n2 : Nat), vj = .int .i64 j' ∧ j' ≤ j ∧ i' ≤ j' + 1 ∧ w2 = W1.drewN n2 ∧
                          Hid (Sort.scanDown (fun x => !Sort.ltInt x dk[a]!) dk i' j' = Sort.scanDown (fun x => !Sort.ltInt x dk[a]!) dk i' j))
                        (fun vj _ => (intOf vj).toNat)
                      case atStart => exact ⟨j, n1 + nq, rfl, Nat.le_refl _, hij', hw2, rfl⟩
                      case round =>
                        clear hw2
                        obtain ⟨j', n2, rfl, hjj, hij2, hw2, hsd⟩ := hrel
                        have hcw : ∀ t, t < d.size → wr.cell? ⟨blk, off + t, none⟩ = some (.int .u64 (Gk t)) := fun t ht => by rw [hw2]; exact hc t ht
                        have HW2 : Hid (wr = W1.drewN n2) := hw2
                        clear hw2
                        by_cases hle2 : i' ≤ j'
                        · go_wp2_with fail
                          go_big_quiet (first | (go_at_call 121; refine Calls.quiet_of_same (u64_cmp_Less_int _ _ _)))
                          go_wp2
                          · -- it goes on: j--
                            have ht : (!Sort.ltInt (Gk j') (Gk a)) = true := by assumption
                            go_roundw
                            case rel => exact ⟨j' - 1, n2 + nq, by go_num, by omega, by omega, by rw [HW2.out, World.drewN_drewN], (scanDown_go (fun x => !Sort.ltInt x dk[a]!) dk i' j' hle2 (by omega) (by rw [← AG.out a, ← AG.out j']; exact ht)).symm.trans hsd.out⟩
                            case measure => simp [intOf]; omega
                          · -- it stops: the test has failed
                            have ht : (!Sort.ltInt (Gk j') (Gk a)) = false := by assumption
                            have hj2 : Hid (j' = Sort.scanDown (fun x => !Sort.ltInt x dk[a]!) dk i' j) := (scanDown_end (fun x => !Sort.ltInt x dk[a]!) dk i' j' (Or.inr (by rw [← AG.out a, ← AG.out j']; exact ht))).symm.trans hsd.out
                            clear hcw hsd ht
                            -- BEHIND BOTH SCANS
                            have hw3 : wr.drewN nq = W1.drewN (n2 + nq) := by rw [HW2.out, World.drewN_drewN]
                            generalize wr.drewN nq = W3 at hw3 ⊢
                            have hc3 : ∀ t, t < d.size → W3.cell? ⟨blk, off + t, none⟩ = some (.int .u64 (Gk t)) := fun t ht => by rw [hw3]; exact hc t ht
                            have hf3 : ∀ t, t < d.size → W3.frozen? ⟨blk, off + t, none⟩ = false := fun t ht => by rw [hw3]; exact hf t ht
                            have HW3 : Hid (W3 = W1.drewN (n2 + nq)) := hw3
                            clear hw3
                            -- the exchange; i++; j--
                            obtain ⟨v3, hy3⟩ := cell?_setCell_some (w := W3) (p := ⟨blk, off + i', none⟩) (x := .int .u64 (Gk j')) (q := ⟨blk, off + j', none⟩) (hc3 j' (by omega))
                            have hlt3 := part_scans_lt Sort.ltInt a i j dk (by omega) hi2.out hj2.out hle2
                            go_wp2
                            go_region
                            all_goals go_wp2
                            all_goals go_roundw
                            case rel =>
                              refine ⟨i' + 1, j' - 1, n + (n2 + nq) + 1, Sort.swp dk i' j', by go_num, by go_num, by omega, by omega, by omega, by rw [size_swp]; exact hs, ?_, ?_⟩
                              · rw [HW3.out, AW.out, World.drewN_drewN, AG.out i', AG.out j']
                                exact swap_worldC (Value.int .u64) w blk off dk _ i' j' (by omega) (by omega)
                              · exact (part_go Sort.ltInt a i j dk hi2.out hj2.out (by omega)).symm.trans AE.out
                            case measure => simp [intOf]; omega
                        · go_wp2_with fail
                          go_big_quiet (first | (go_at_call 121; refine Calls.quiet_of_same (u64_cmp_Less_int _ _ _)))
                          -- it stops: i > j
                          have hj2 : Hid (j' = Sort.scanDown (fun x => !Sort.ltInt x dk[a]!) dk i' j) := (scanDown_end (fun x => !Sort.ltInt x dk[a]!) dk i' j' (Or.inl hle2)).symm.trans hsd.out
                          clear hcw hsd
                          -- BEHIND BOTH SCANS
                          have hw3 : wr.drewN nq = W1.drewN (n2 + nq) := by rw [HW2.out, World.drewN_drewN]
                          generalize wr.drewN nq = W3 at hw3 ⊢
                          have hc3 : ∀ t, t < d.size → W3.cell? ⟨blk, off + t, none⟩ = some (.int .u64 (Gk t)) := fun t ht => by rw [hw3]; exact hc t ht
                          have hf3 : ∀ t, t < d.size → W3.frozen? ⟨blk, off + t, none⟩ = false := fun t ht => by rw [hw3]; exact hf t ht
                          have HW3 : Hid (W3 = W1.drewN (n2 + nq)) := hw3
                          clear hw3
                          -- i > j: 'data[j], data[a] = data[a], data[j]'; return j
                          obtain ⟨v3, hy3⟩ := cell?_setCell_some (w := W3) (p := ⟨blk, off + j', none⟩) (x := .int .u64 (Gk a)) (q := ⟨blk, off + a, none⟩) (hc3 a (by omega))
                          have hlj : j' < d.size := by omega
                          go_wp2
                          go_region
                          all_goals go_wp2
                          all_goals go_ret2
                          have e : Sort.partition Sort.ltInt d a b pivot = (j', false, Sort.swp dk j' a) := by
                            have e0 := (part_break Sort.ltInt a i j dk hi2.out hj2.out (by omega)).symm.trans AE.out
                            rw [HP.out, ← e0]
                          refine ⟨?_, n + (n2 + nq) + 1, ?_⟩
                          · rw [e]; rfl
                          · rw [e, HW3.out, AW.out, World.drewN_drewN, AG.out a, AG.out j']
                            exact swap_worldC (Value.int .u64) w blk off dk _ j' a (by omega) (by omega)
                  · go_wp2_with fail
                    go_big_quiet (first | (go_at_call 121; refine Calls.quiet_of_same (u64_cmp_Less_int _ _ _)))
                    go_wp2
                    -- it stops: i > j
                    have hi2 : Hid (i' = Sort.scanUp (fun x => Sort.ltInt x dk[a]!) dk j i) := (scanUp_end (fun x => Sort.ltInt x dk[a]!) dk j i' (Or.inl hle)).symm.trans hsc.out
                    -- THE DOWNWARD SCAN
                    have hw2 : wr.drewN nq = W1.drewN (n1 + nq) := by rw [HW1.out, World.drewN_drewN]
                    clear hcw HW1 hsc
                    go_loopw [11] (fun vj w2 => ∃ (j' n2 : Nat), vj = .int .i64 j' ∧ j' ≤ j ∧ i' ≤ j' + 1 ∧ w2 = W1.drewN n2 ∧
                        Hid (Sort.scanDown (fun x => !Sort.ltInt x dk[a]!) dk i' j' = Sort.scanDown (fun x => !Sort.ltInt x dk[a]!) dk i' j))
                      (fun vj _ => (intOf vj).toNat)
                    case atStart => exact ⟨j, n1 + nq, rfl, Nat.le_refl _, hij', hw2, rfl⟩
                    case round =>
                      clear hw2
                      obtain ⟨j', n2, rfl, hjj, hij2, hw2, hsd⟩ := hrel
                      have hcw : ∀ t, t < d.size → wr.cell? ⟨blk, off + t, none⟩ = some (.int .u64 (Gk t)) := fun t ht => by rw [hw2]; exact hc t ht
                      have HW2 : Hid (wr = W1.drewN n2) := hw2
                      clear hw2
                      by_cases hle2 : i' ≤ j'
                      · exfalso; omega      -- the upward scan has run past j, and j' ≤ j
                      · go_wp2_with fail
                        go_big_quiet (first | (go_at_call 121; refine Calls.quiet_of_same (u64_cmp_Less_int _ _ _)))
                        -- it stops: i > j
                        have hj2 : Hid (j' = Sort.scanDown (fun x => !Sort.ltInt x dk[a]!) dk i' j) := (scanDown_end (fun x => !Sort.ltInt x dk[a]!) dk i' j' (Or.inl hle2)).symm.trans hsd.out
                        clear hcw hsd
                        -- BEHIND BOTH SCANS
                        have hw3 : wr.drewN nq = W1.drewN (n2 + nq) := by rw [HW2.out, World.drewN_drewN]
                        generalize wr.drewN nq = W3 at hw3 ⊢
                        have hc3 : ∀ t, t < d.size → W3.cell? ⟨blk, off + t, none⟩ = some (.int .u64 (Gk t)) := fun t ht => by rw [hw3]; exact hc t ht
                        have hf3 : ∀ t, t < d.size → W3.frozen? ⟨blk, off + t, none⟩ = false := fun t ht => by rw [hw3]; exact hf t ht
                        have HW3 : Hid (W3 = W1.drewN (n2 + nq)) := hw3
                        clear hw3
                        -- i > j: 'data[j], data[a] = data[a], data[j]'; return j
                        obtain ⟨v3, hy3⟩ := cell?_setCell_some (w := W3) (p := ⟨blk, off + j', none⟩) (x := .int .u64 (Gk a)) (q := ⟨blk, off + a, none⟩) (hc3 a (by omega))
                        have hlj : j' < d.size := by omega
                        go_wp2
                        go_region
                        all_goals go_wp2
                        all_goals go_ret2
                        have e : Sort.partition Sort.ltInt d a b pivot = (j', false, Sort.swp dk j' a) := by
                          have e0 := (part_break Sort.ltInt a i j dk hi2.out hj2.out (by omega)).symm.trans AE.out
                          rw [HP.out, ← e0]
                        refine ⟨?_, n + (n2 + nq) + 1, ?_⟩
                        · rw [e]; rfl
                        · rw [e, HW3.out, AW.out, World.drewN_drewN, AG.out a, AG.out j']
                          exact swap_worldC (Value.int .u64) w blk off dk _ j' a (by omega) (by omega)
          · go_wp2_with fail
            go_big_quiet (first | (go_at_call 121; refine Calls.quiet_of_same (u64_cmp_Less_int _ _ _)))
            -- it stops: i > j
            have hj2 : Hid (j' = Sort.scanDown (fun x => !Sort.ltInt x dk[a]!) dk i' j) := (scanDown_end (fun x => !Sort.ltInt x dk[a]!) dk i' j' (Or.inl hle2)).symm.trans hsd.out
            clear hcw hsd
            -- BEHIND BOTH SCANS
            have hw3 : wr.drewN nq = W1.drewN (n2 + nq) := by rw [HW2.out, World.drewN_drewN]
            generalize wr.drewN nq = W3 at hw3 ⊢
            have hc3 : ∀ t, t < d.size → W3.cell? ⟨blk, off + t, none⟩ = some (.int .u64 (Gk t)) := fun t ht => by rw [hw3]; exact hc t ht
            have hf3 : ∀ t, t < d.size → W3.frozen? ⟨blk, off + t, none⟩ = false := fun t ht => by rw [hw3]; exact hf t ht
            have HW3 : Hid (W3 = W1.drewN (n2 + nq)) := hw3
            clear hw3
            -- i > j: 'data[j], data[a] = data[a], data[j]'; return j
            obtain ⟨v3, hy3⟩ := cell?_setCell_some (w := W3) (p := ⟨blk, off + j', none⟩) (x := .int .u64 (Gk a)) (q := ⟨blk, off + a, none⟩) (hc3 a (by omega))
            have hlj : j' < d.size := by omega
            go_wp2
            go_region
            all_goals go_wp2
            all_goals go_ret2
            have e : Sort.partition Sort.ltInt d a b pivot = (j', true, Sort.swp dk j' a) := part_first_break Sort.ltInt d a b pivot HI.out HJ.out HDK.out hi2.out hj2.out (by omega)
            refine ⟨?_, n + (n2 + nq) + 1, ?_⟩
            · rw [e]; rfl
            · rw [e, HW3.out, AW.out, World.drewN_drewN, AG.out a, AG.out j']
              exact swap_worldC (Value.int .u64) w blk off dk _ j' a (by omega) (by omega)
    · go_wp2_with fail
      go_big_quiet (first | (go_at_call 121; refine Calls.quiet_of_same (u64_cmp_Less_int _ _ _)))
      go_wp2
      -- it stops: i > j
      have hi2 : Hid (i' = Sort.scanUp (fun x => Sort.ltInt x dk[a]!) dk j i) := (scanUp_end (fun x => Sort.ltInt x dk[a]!) dk j i' (Or.inl hle)).symm.trans hsc.out
      -- THE DOWNWARD SCAN
      have hw2 : wr.drewN nq = W1.drewN (n1 + nq) := by rw [HW1.out, World.drewN_drewN]
      clear hcw HW1 hsc
      go_loopw [11] (fun vj w2 => ∃ (j' n2 : Nat), vj = .int .i64 j' ∧ j' ≤ j ∧ i' ≤ j' + 1 ∧ w2 = W1.drewN n2 ∧
          Hid (Sort.scanDown (fun x => !Sort.ltInt x dk[a]!) dk i' j' = Sort.scanDown (fun x => !Sort.ltInt x dk[a]!) dk i' j))
        (fun vj _ => (intOf vj).toNat)
      case atStart => exact ⟨j, n1 + nq, rfl, Nat.le_refl _, hij', hw2, rfl⟩
      case round =>
        clear hw2
        obtain ⟨j', n2, rfl, hjj, hij2, hw2, hsd⟩ := hrel
        have hcw : ∀ t, t < d.size → wr.cell? ⟨blk, off + t, none⟩ = some (.int .u64 (Gk t)) := fun t ht => by rw [hw2]; exact hc t ht
        have HW2 : Hid (wr = W1.drewN n2) := hw2
        clear hw2
        by_cases hle2 : i' ≤ j'
        · exfalso; omega      -- the upward scan has run past j, and j' ≤ j
        · go_wp2_with fail
          go_big_quiet (first | (go_at_call 121; refine Calls.quiet_of_same (u64_cmp_Less_int _ _ _)))
          -- it stops: i > j
          have hj2 : Hid (j' = Sort.scanDown (fun x => !Sort.ltInt x dk[a]!) dk i' j) := (scanDown_end (fun x => !Sort.ltInt x dk[a]!) dk i' j' (Or.inl hle2)).symm.trans hsd.out
          clear hcw hsd
          -- BEHIND BOTH SCANS
          have hw3 : wr.drewN nq = W1.drewN (n2 + nq) := by rw [HW2.out, World.drewN_drewN]
          generalize wr.drewN nq = W3 at hw3 ⊢
          have hc3 : ∀ t, t < d.size → W3.cell? ⟨blk, off + t, none⟩ = some (.int .u64 (Gk t)) := fun t ht => by rw [hw3]; exact hc t ht
          have hf3 : ∀ t, t < d.size → W3.frozen? ⟨blk, off + t, none⟩ = false := fun t ht => by rw [hw3]; exact hf t ht
          have HW3 : Hid (W3 = W1.drewN (n2 + nq)) := hw3
          clear hw3
          -- i > j: 'data[j], data[a] = data[a], data[j]'; return j
          obtain ⟨v3, hy3⟩ := cell?_setCell_some (w := W3) (p := ⟨blk, off + j', none⟩) (x := .int .u64 (Gk a)) (q := ⟨blk, off + a, none⟩) (hc3 a (by omega))
          have hlj : j' < d.size := by omega
          go_wp2
          go_region
          all_goals go_wp2
          all_goals go_ret2
          have e : Sort.partition Sort.ltInt d a b pivot = (j', true, Sort.swp dk j' a) := part_first_break Sort.ltInt d a b pivot HI.out HJ.out HDK.out hi2.out hj2.out (by omega)
          refine ⟨?_, n + (n2 + nq) + 1, ?_⟩
          · rw [e]; rfl
          · rw [e, HW3.out, AW.out, World.drewN_drewN, AG.out a, AG.out j']
            exact swap_worldC (Value.int .u64) w blk off dk _ j' a (by omega) (by omega)

theorem u64_partitionOrdered_int (blk off cap a b pivot : Nat) (d : Array Int) (w : World) (hH : Holds (Value.int .u64) w blk off d) (hap : a ≤ pivot) (hpb : pivot < b) (hb : b ≤ d.size) (hsz : d.size < 4611686018427387904) :
    Calls Tryz.prog 123 #[.slice (some ⟨blk, off, none⟩) d.size cap, .int .i64 a, .int .i64 b, .int .i64 pivot] w fun e w' =>
      e = .returned (.tuple #[.int .i64 (Sort.partition Sort.ltInt d a b pivot).1, .bool (Sort.partition Sort.ltInt d a b pivot).2.1]) ∧ ∃ n, w' = putRow (Value.int .u64) (Sort.ahead w n) blk off (Sort.partition Sort.ltInt d a b pivot).2.2 :=
  (u64_partition_int blk off cap a b pivot d w hH hap hpb hb hsz).mono fun _ _ ⟨he, n, hw⟩ => ⟨he, n, hw⟩

end Go.Proofs.YtkjfdaleamonaaaGreat
/- The library's ordered sort at []uint64, walked: the kit's worked walks at []int, turned (sortport.py). -/
namespace Go.Proofs.YtkjfdaleamonaaaGreat
open Go.RowKit Go.Sort

theorem holds_asideU {w : World} {blk off sb so n t : Nat} {d : Array Int} (h : Holds (Value.int .u64) w blk off d) (hne : sb ≠ blk) : Holds (Value.int .u64) (putRow (Value.int .i64) (Sort.ahead w n) sb so (one t)) blk off d := fun j hj =>
  ⟨by rw [cell?_putRow_other _ _ _ _ _ _ (Or.inl (Ne.symm hne))]; exact (h j hj).1, by rw [frozen?_putRow]; exact (h j hj).2⟩

set_option maxHeartbeats 1000000 in
theorem u64_order2_int (d : Array Int) (len : Nat) (hlen : d.size = len) (blk off cap a b sb so s : Nat) (w : World) (hH : Holds (Value.int .u64) w blk off d) (ha : a < d.size) (hb : b < d.size)
    (hS : Holds (Value.int .i64) w sb so (one s)) (hs : s < 2 ^ 62) :
    Calls Tryz.prog 151 #[.slice (some ⟨blk, off, none⟩) len cap, .int .i64 a, .int .i64 b, .pointer (some ⟨sb, so, none⟩)] w fun e w' =>
      e = .returned (.tuple #[.int .i64 (order2 ltInt d a b s).1, .int .i64 (order2 ltInt d a b s).2.1]) ∧ ∃ n, w' = putRow (Value.int .i64) (Sort.ahead w n) sb so (one (order2 ltInt d a b s).2.2) := by
  subst hlen
  replace hs : s < 4611686018427387904 := by omega
  have ca := (hH a ha).1
  have cb := (hH b hb).1
  obtain ⟨cs, fs⟩ := one_cell hS
  have ea : d[a]! = d[a] := getElem!_pos d a ha
  have eb : d[b]! = d[b] := getElem!_pos d b hb
  go_enter Tryz.func151, Tryz.ntmps151
  go_wp2
  go_region_with (go_at_call 121; refine (u64_cmp_Less_int _ _ _).mono ?_; rintro e w' ⟨rfl, rfl⟩)
  all_goals (try go_wp2)
  all_goals first
    | (have hlt : ltInt d[b] d[a] = true := by assumption
       have e2 : order2 ltInt d a b s = (b, a, s + 1) := by simp [order2, ea, eb, hlt]
       go_ret2
       rw [e2]
       refine ⟨rfl, 1, ?_⟩
       rw [putRow_ahead, ← one_set hS (s + 1)]
       simp [drew_eq_ahead])
    | (have hlt : ltInt d[b] d[a] = false := by assumption
       have e2 : order2 ltInt d a b s = (a, b, s) := by simp [order2, ea, eb, hlt]
       go_ret2
       rw [e2]
       refine ⟨rfl, 1, ?_⟩
       rw [putRow_ahead, putRow_self _ _ _ _ _ hS]
       rfl)

set_option maxHeartbeats 1000000 in
set_option maxRecDepth 100000 in
theorem u64_median_int (d : Array Int) (len : Nat) (hlen : d.size = len) (blk off cap a b c sb so s : Nat) (w : World) (hH : Holds (Value.int .u64) w blk off d) (ha : a < d.size) (hb : b < d.size) (hc : c < d.size) (hne : sb ≠ blk)
    (hS : Holds (Value.int .i64) w sb so (one s)) (hs : s + 3 < 2 ^ 62) :
    Calls Tryz.prog 145 #[.slice (some ⟨blk, off, none⟩) len cap, .int .i64 a, .int .i64 b, .int .i64 c, .pointer (some ⟨sb, so, none⟩)] w fun e w' =>
      e = .returned (.int .i64 (median ltInt d a b c s).1) ∧ ∃ n, w' = putRow (Value.int .i64) (Sort.ahead w n) sb so (one (median ltInt d a b c s).2) := by
  subst hlen
  have l1 := order2_lt d s ha hb
  have s1 := order2_swaps d a b s
  have l2 := order2_lt d (order2 ltInt d a b s).2.2 l1.2 hc
  have s2 := order2_swaps d (order2 ltInt d a b s).2.1 c (order2 ltInt d a b s).2.2
  go_enter Tryz.func145, Tryz.ntmps145
  -- WHICH OF THE THREE CALLS IT IS, IS TOLD BY AN ARGUMENT THAT THE OTHERS LACK ('go_at_call_of'): a contract that does not fit is not harmless: 'refine' lays both calls open
  go_wp2_with (go_at_call_of 151 (Value.int .i64 (b : Int)); refine (u64_order2_int d _ rfl blk off cap a b sb so s w hH ha hb hS (by omega)).mono ?_; rintro e w' ⟨rfl, n1, rfl⟩)
  go_wp2_with (go_at_call_of 151 (Value.int .i64 (c : Int)); refine (u64_order2_int d _ rfl blk off cap (order2 ltInt d a b s).2.1 c sb so (order2 ltInt d a b s).2.2 _ (holds_asideU hH hne) l1.2 hc (holds_one hS) (by omega)).mono ?_; rintro e w' ⟨rfl, n2, rfl⟩)
  go_wp2_with (go_at_call_of 151 (Value.int .i64 ((order2 ltInt d a b s).1 : Int)); refine (u64_order2_int d _ rfl blk off cap (order2 ltInt d a b s).1 (order2 ltInt d (order2 ltInt d a b s).2.1 c (order2 ltInt d a b s).2.2).1 sb so (order2 ltInt d (order2 ltInt d a b s).2.1 c (order2 ltInt d a b s).2.2).2.2 _
    (holds_asideU (holds_asideU hH hne) hne) l1.1 l2.1 (holds_one (holds_one hS)) (by omega)).mono ?_; rintro e w' ⟨rfl, n3, rfl⟩)
  go_ret
  refine ⟨rfl, n1 + (n2 + n3), ?_⟩
  rw [one_one, one_one]
  rfl

set_option maxHeartbeats 1000000 in
set_option maxRecDepth 100000 in
theorem u64_medianAdjacent_int (d : Array Int) (len : Nat) (hlen : d.size = len) (blk off cap a sb so s : Nat) (w : World) (hH : Holds (Value.int .u64) w blk off d) (ha0 : 1 ≤ a) (ha : a + 1 < d.size) (hsz : d.size < 2 ^ 62) (hne : sb ≠ blk)
    (hS : Holds (Value.int .i64) w sb so (one s)) (hs : s + 3 < 2 ^ 62) :
    Calls Tryz.prog 144 #[.slice (some ⟨blk, off, none⟩) len cap, .int .i64 a, .pointer (some ⟨sb, so, none⟩)] w fun e w' =>
      e = .returned (.int .i64 (medianAdjacent ltInt d a s).1) ∧ ∃ n, w' = putRow (Value.int .i64) (Sort.ahead w n) sb so (one (medianAdjacent ltInt d a s).2) := by
  subst hlen
  replace hsz : d.size < 4611686018427387904 := by omega
  go_enter Tryz.func144, Tryz.ntmps144
  go_wp2_with (go_at_call 145; rw [show ((a : Int) - 1) = ((a - 1 : Nat) : Int) by omega, show ((a : Int) + 1) = ((a + 1 : Nat) : Int) by omega]; refine (u64_median_int d _ rfl blk off cap (a - 1) a (a + 1) sb so s w hH (by omega) (by omega) ha hne hS hs).mono ?_; rintro e w' ⟨rfl, n1, rfl⟩)
  go_ret
  exact ⟨rfl, n1, rfl⟩

theorem pivot_worldU (blk off cap : Nat) (d : Array Int) (w : World) (hH : Holds (Value.int .u64) w blk off d) (hblk : blk < w.heap.size) (hsz : d.size < 4611686018427387904) :
    ∃ Wc : Nat → Nat → World,
      w.alloc (.cells #[.int .i64 0] 3) = Wc 0 0 ∧
      (∀ N S : Nat, (Wc N S).cell? ⟨w.heap.size, 0, none⟩ = some (.int .i64 (S : Int))) ∧
      (∀ N S : Nat, ∃ os, Wc N S = grow (Sort.ahead w N) os) ∧
      (∀ x s N : Nat, 1 ≤ x → x + 1 < d.size → s + 3 < 4611686018427387904 → Calls Tryz.prog 144 #[.slice (some ⟨blk, off, none⟩) d.size cap, .int .i64 (x : Int), .pointer (some ⟨w.heap.size, 0, none⟩)] (Wc N s) fun e w' =>
        e = .returned (.int .i64 ((medianAdjacent ltInt d x s).1 : Int)) ∧ ∃ N', w' = Wc N' (medianAdjacent ltInt d x s).2) ∧
      (∀ x y z s N : Nat, x < d.size → y < d.size → z < d.size → s + 3 < 4611686018427387904 → Calls Tryz.prog 145 #[.slice (some ⟨blk, off, none⟩) d.size cap, .int .i64 (x : Int), .int .i64 (y : Int), .int .i64 (z : Int), .pointer (some ⟨w.heap.size, 0, none⟩)] (Wc N s) fun e w' =>
        e = .returned (.int .i64 ((median ltInt d x y z s).1 : Int)) ∧ ∃ N', w' = Wc N' (median ltInt d x y z s).2) := by
  have hne : w.heap.size ≠ blk := by omega
  have hH0 : Holds (Value.int .u64) (w.alloc (.cells #[.int .i64 0] 3)) blk off d := by rw [alloc_eq_grow]; exact holds_grow _ _ _ _ _ _ hblk hH
  have hS0 : Holds (Value.int .i64) (w.alloc (.cells #[.int .i64 0] 3)) w.heap.size 0 (one 0) := fun j hj => by
    obtain rfl : j = 0 := by simpa using hj
    simp
  refine ⟨fun N S => putRow (Value.int .i64) (Sort.ahead (w.alloc (.cells #[.int .i64 0] 3)) N) w.heap.size 0 (one S), (putRow_self _ _ _ _ _ hS0).symm, fun N S => (one_cell (holds_one (n := N) (t := S) hS0)).1, fun N S => counter_grow w N S, ?_, ?_⟩
  · intro x s N h1 h2 hs
    refine (u64_medianAdjacent_int d _ rfl blk off cap x w.heap.size 0 s _ (holds_asideU hH0 hne) h1 h2 (by omega) hne (holds_one hS0) (by omega)).mono ?_
    rintro e w' ⟨he, n, hw⟩
    exact ⟨he, N + n, by rw [hw, one_one]⟩
  · intro x y z s N h1 h2 h3 hs
    refine (u64_median_int d _ rfl blk off cap x y z w.heap.size 0 s _ (holds_asideU hH0 hne) h1 h2 h3 hne (holds_one hS0) (by omega)).mono ?_
    rintro e w' ⟨he, n, hw⟩
    exact ⟨he, N + n, by rw [hw, one_one]⟩

set_option maxRecDepth 100000 in
theorem u64_choosePivot_int (blk off cap a b : Nat) (d : Array Int) (w : World) (hH : Holds (Value.int .u64) w blk off d) (hblk : blk < w.heap.size) (hab : a < b) (hb : b ≤ d.size) (hsz : d.size < 4611686018427387904) :
    Calls Tryz.prog 118 #[.slice (some ⟨blk, off, none⟩) d.size cap, .int .i64 a, .int .i64 b] w fun e w' =>
      e = .returned (.tuple #[.int .i64 (choosePivot ltInt d a b).1, .int .i64 (hintCode (choosePivot ltInt d a b).2)]) ∧ ∃ n os, w' = grow (Sort.ahead w n) os := by
  obtain ⟨Wc, hW0, cS, hG, MA, MD⟩ := pivot_worldU blk off cap d w hH hblk hsz
  clear hH
  rw [choosePivot_eq]
  -- the three places under names of their own
  obtain ⟨I, hI⟩ : ∃ I : Nat, I = a + (b - a) / 4 * 1 := ⟨_, rfl⟩
  obtain ⟨J, hJ⟩ : ∃ J : Nat, J = a + (b - a) / 4 * 2 := ⟨_, rfl⟩
  obtain ⟨K, hK⟩ : ∃ K : Nat, K = a + (b - a) / 4 * 3 := ⟨_, rfl⟩
  have eI : ((a : Int) + ((b : Int) - (a : Int)) / 4) = (I : Int) := by omega
  have eJ : ((a : Int) + ((b : Int) - (a : Int)) / 4 * 2) = (J : Int) := by omega
  have eK : ((a : Int) + ((b : Int) - (a : Int)) / 4 * 3) = (K : Int) := by omega
  by_cases h8 : b - a ≥ 8
  · by_cases h50 : b - a ≥ 50
    · -- THE NINTHER
      obtain ⟨i1, s1, h1⟩ : ∃ i1 s1, medianAdjacent ltInt d I 0 = (i1, s1) := ⟨_, _, rfl⟩
      obtain ⟨j1, s2, h2⟩ : ∃ j1 s2, medianAdjacent ltInt d J s1 = (j1, s2) := ⟨_, _, rfl⟩
      obtain ⟨k1, s3, h3⟩ : ∃ k1 s3, medianAdjacent ltInt d K s2 = (k1, s3) := ⟨_, _, rfl⟩
      obtain ⟨p, s, h4⟩ : ∃ p s, median ltInt d i1 j1 k1 s3 = (p, s) := ⟨_, _, rfl⟩
      have hraw : rawPivot ltInt d a b = (p, s) := by simp only [rawPivot, if_pos h8, if_pos h50, ← hI, ← hJ, ← hK, h1, h2, h3, h4]
      have m1 := medianAdjacent_mem ltInt d I 0; rw [h1] at m1
      have m2 := medianAdjacent_mem ltInt d J s1; rw [h2] at m2
      have m3 := medianAdjacent_mem ltInt d K s2; rw [h3] at m3
      have n1 := medianAdjacent_count ltInt d I 0; rw [h1] at n1
      have n2 := medianAdjacent_count ltInt d J s1; rw [h2] at n2
      have n3 := medianAdjacent_count ltInt d K s2; rw [h3] at n3
      simp only [] at m1 m2 m3 n1 n2 n3
      have c1 : Calls Tryz.prog 144 #[.slice (some ⟨blk, off, none⟩) d.size cap, .int .i64 (I : Int), .pointer (some ⟨w.heap.size, 0, none⟩)] (Wc 0 0) fun e w' => e = .returned (.int .i64 (i1 : Int)) ∧ ∃ N', w' = Wc N' s1 := by
        have h := MA I 0 0 (by omega) (by omega) (by omega); rw [h1] at h; exact h
      have c2 : ∀ N, Calls Tryz.prog 144 #[.slice (some ⟨blk, off, none⟩) d.size cap, .int .i64 (J : Int), .pointer (some ⟨w.heap.size, 0, none⟩)] (Wc N s1) fun e w' => e = .returned (.int .i64 (j1 : Int)) ∧ ∃ N', w' = Wc N' s2 := fun N => by
        have h := MA J s1 N (by omega) (by omega) (by omega); rw [h2] at h; exact h
      have c3 : ∀ N, Calls Tryz.prog 144 #[.slice (some ⟨blk, off, none⟩) d.size cap, .int .i64 (K : Int), .pointer (some ⟨w.heap.size, 0, none⟩)] (Wc N s2) fun e w' => e = .returned (.int .i64 (k1 : Int)) ∧ ∃ N', w' = Wc N' s3 := fun N => by
        have h := MA K s2 N (by omega) (by omega) (by omega); rw [h3] at h; exact h
      have c4 : ∀ N, Calls Tryz.prog 145 #[.slice (some ⟨blk, off, none⟩) d.size cap, .int .i64 (i1 : Int), .int .i64 (j1 : Int), .int .i64 (k1 : Int), .pointer (some ⟨w.heap.size, 0, none⟩)] (Wc N s3) fun e w' => e = .returned (.int .i64 (p : Int)) ∧ ∃ N', w' = Wc N' s := fun N => by
        have h := MD i1 j1 k1 s3 N (by omega) (by omega) (by omega) (by omega); rw [h4] at h; exact h
      -- the pivot, the count, the hint's number under names of their own
      rw [hraw]
      obtain ⟨Hc, hHc⟩ : ∃ Hc : Int, Hc = hintCode (hintOf s) := ⟨_, rfl⟩
      have hh0 : s = 0 → Hc = 1 := fun h => by rw [hHc, h]; rfl
      have hh12 : s = 12 → Hc = 2 := fun h => by rw [hHc, h]; rfl
      have hhx : s ≠ 0 → s ≠ 12 → Hc = 0 := fun h1 h2 => by rw [hHc]; unfold hintOf; rw [if_neg h1, if_neg h2]; rfl
      show Calls Tryz.prog 118 _ w fun e w' => e = .returned (.tuple #[.int .i64 (p : Int), .int .i64 (hintCode (hintOf s))]) ∧ ∃ n os, w' = grow (Sort.ahead w n) os
      rw [← hHc]
      clear hHc hraw
      clear h1 h2 h3 h4 MA MD hI hJ hK m1 m2 m3
      go_enter Tryz.func118, Tryz.ntmps118
      go_wp2_with (first
        | (go_at_call_has 144 (Value.int .i64 (I : Int)); refine c1.mono ?_; rintro e w' ⟨rfl, N1, rfl⟩)
        | (go_at_call_has 144 (Value.int .i64 (J : Int)); refine (c2 _).mono ?_; rintro e w' ⟨rfl, N2, rfl⟩)
        | (go_at_call_has 144 (Value.int .i64 (K : Int)); refine (c3 _).mono ?_; rintro e w' ⟨rfl, N3, rfl⟩)
        | (go_at_call 145; refine (c4 _).mono ?_; rintro e w' ⟨rfl, N4, rfl⟩))
      -- 'switch swaps'
      all_goals
        go_ret2
        refine ⟨?_, _, hG _ _⟩
        first
          | (have e0 : (s : Int) = 0 := of_beq_int (by assumption)
             rw [hh0 (by omega)]; rfl)
          | (have e1 : (s : Int) = 12 := of_beq_int (by assumption)
             rw [hh12 (by omega)]; rfl)
          | (have e0 : (s : Int) ≠ 0 := of_bne_int (by assumption)
             have e1 : (s : Int) ≠ 12 := of_bne_int (by assumption)
             rw [hhx (by omega) (by omega)]; rfl)
          | (rw [hh0 (by omega)]; rfl)
    · -- THE MEDIAN OF THREE
      obtain ⟨p, s, h4⟩ : ∃ p s, median ltInt d I J K 0 = (p, s) := ⟨_, _, rfl⟩
      have hraw : rawPivot ltInt d a b = (p, s) := by simp only [rawPivot, if_pos h8, if_neg h50, ← hI, ← hJ, ← hK, h4]
      have c4 : Calls Tryz.prog 145 #[.slice (some ⟨blk, off, none⟩) d.size cap, .int .i64 (I : Int), .int .i64 (J : Int), .int .i64 (K : Int), .pointer (some ⟨w.heap.size, 0, none⟩)] (Wc 0 0) fun e w' => e = .returned (.int .i64 (p : Int)) ∧ ∃ N', w' = Wc N' s := by
        have h := MD I J K 0 0 (by omega) (by omega) (by omega) (by omega); rw [h4] at h; exact h
      -- the pivot, the count, the hint's number under names of their own
      rw [hraw]
      obtain ⟨Hc, hHc⟩ : ∃ Hc : Int, Hc = hintCode (hintOf s) := ⟨_, rfl⟩
      have hh0 : s = 0 → Hc = 1 := fun h => by rw [hHc, h]; rfl
      have hh12 : s = 12 → Hc = 2 := fun h => by rw [hHc, h]; rfl
      have hhx : s ≠ 0 → s ≠ 12 → Hc = 0 := fun h1 h2 => by rw [hHc]; unfold hintOf; rw [if_neg h1, if_neg h2]; rfl
      show Calls Tryz.prog 118 _ w fun e w' => e = .returned (.tuple #[.int .i64 (p : Int), .int .i64 (hintCode (hintOf s))]) ∧ ∃ n os, w' = grow (Sort.ahead w n) os
      rw [← hHc]
      clear hHc hraw
      clear h4 MA MD hI hJ hK
      go_enter Tryz.func118, Tryz.ntmps118
      go_wp2_with (first | (go_at_call 145; refine c4.mono ?_; rintro e w' ⟨rfl, N4, rfl⟩))
      -- 'switch swaps'
      all_goals
        go_ret2
        refine ⟨?_, _, hG _ _⟩
        first
          | (have e0 : (s : Int) = 0 := of_beq_int (by assumption)
             rw [hh0 (by omega)]; rfl)
          | (have e1 : (s : Int) = 12 := of_beq_int (by assumption)
             rw [hh12 (by omega)]; rfl)
          | (have e0 : (s : Int) ≠ 0 := of_bne_int (by assumption)
             have e1 : (s : Int) ≠ 12 := of_bne_int (by assumption)
             rw [hhx (by omega) (by omega)]; rfl)
          | (rw [hh0 (by omega)]; rfl)
  · -- FEWER THAN EIGHT: the middle; nothing is counted
    obtain ⟨p, hp⟩ : ∃ p : Nat, p = J := ⟨_, rfl⟩
    obtain ⟨s, hs⟩ : ∃ s : Nat, s = 0 := ⟨_, rfl⟩
    have hraw : rawPivot ltInt d a b = (p, s) := by simp only [rawPivot, if_neg h8, ← hJ, hp, hs]
    -- the pivot, the count, the hint's number under names of their own
    rw [hraw]
    obtain ⟨Hc, hHc⟩ : ∃ Hc : Int, Hc = hintCode (hintOf s) := ⟨_, rfl⟩
    have hh0 : s = 0 → Hc = 1 := fun h => by rw [hHc, h]; rfl
    have hh12 : s = 12 → Hc = 2 := fun h => by rw [hHc, h]; rfl
    have hhx : s ≠ 0 → s ≠ 12 → Hc = 0 := fun h1 h2 => by rw [hHc]; unfold hintOf; rw [if_neg h1, if_neg h2]; rfl
    show Calls Tryz.prog 118 _ w fun e w' => e = .returned (.tuple #[.int .i64 (p : Int), .int .i64 (hintCode (hintOf s))]) ∧ ∃ n os, w' = grow (Sort.ahead w n) os
    rw [← hHc]
    clear hHc hraw
    subst hp
    clear MA MD hI hJ hK
    have hW0' : w.alloc (.cells #[.int .i64 0] 3) = Wc 0 s := by rw [hs]; exact hW0
    clear hW0
    go_enter Tryz.func118, Tryz.ntmps118
    go_wp2
    -- 'switch swaps'
    all_goals
      go_ret2
      refine ⟨?_, _, hG _ _⟩
      first
        | (have e0 : (s : Int) = 0 := of_beq_int (by assumption)
           rw [hh0 (by omega)]; rfl)
        | (have e1 : (s : Int) = 12 := of_beq_int (by assumption)
           rw [hh12 (by omega)]; rfl)
        | (have e0 : (s : Int) ≠ 0 := of_bne_int (by assumption)
           have e1 : (s : Int) ≠ 12 := of_bne_int (by assumption)
           rw [hhx (by omega) (by omega)]; rfl)
        | (rw [hh0 (by omega)]; rfl)

structure Callees13U : Prop where
  ins : ∀ (blk off cap a b : Nat) (d : Array Int) (w : World), Holds encU w blk off d → a ≤ b → b ≤ d.size → d.size < 4611686018427387904 →
    Calls Tryz.prog 115 #[.slice (some ⟨blk, off, none⟩) d.size cap, .int .i64 a, .int .i64 b] w fun e w' => e = .returned (.tuple #[]) ∧ ∃ n, w' = putRow encU (Sort.ahead w n) blk off (insertionSort ltInt d a b)
  brk : ∀ (blk off cap a b : Nat) (d : Array Int) (w : World), Holds encU w blk off d → blk < w.heap.size → a ≤ b → b ≤ d.size → d.size < 4611686018427387904 →
    Calls Tryz.prog 117 #[.slice (some ⟨blk, off, none⟩) d.size cap, .int .i64 a, .int .i64 b] w fun e w' => e = .returned (.tuple #[]) ∧ ∃ n os, w' = grow (putRow encU (Sort.ahead w n) blk off (breakPatterns d a b)) os
  piv : ∀ (blk off cap a b : Nat) (d : Array Int) (w : World), Holds encU w blk off d → blk < w.heap.size → a < b → b ≤ d.size → d.size < 4611686018427387904 →
    Calls Tryz.prog 118 #[.slice (some ⟨blk, off, none⟩) d.size cap, .int .i64 a, .int .i64 b] w fun e w' => e = .returned (.tuple #[.int .i64 (choosePivot ltInt d a b).1, .int .i64 (hintCode (choosePivot ltInt d a b).2)]) ∧ ∃ n os, w' = grow (Sort.ahead w n) os
  par : ∀ (blk off cap a b : Nat) (d : Array Int) (w : World), Holds encU w blk off d → a < b → b ≤ d.size → d.size < 4611686018427387904 →
    Calls Tryz.prog 120 #[.slice (some ⟨blk, off, none⟩) d.size cap, .int .i64 a, .int .i64 b] w fun e w' => e = .returned (.bool (partialInsertionSort ltInt d a b).2) ∧ ∃ n, w' = putRow encU (Sort.ahead w n) blk off (partialInsertionSort ltInt d a b).1
  peq : ∀ (blk off cap a b pivot : Nat) (d : Array Int) (w : World), Holds encU w blk off d → a ≤ pivot → pivot < b → b ≤ d.size → d.size < 4611686018427387904 →
    Calls Tryz.prog 122 #[.slice (some ⟨blk, off, none⟩) d.size cap, .int .i64 a, .int .i64 b, .int .i64 pivot] w fun e w' => e = .returned (.int .i64 (partitionEqual ltInt d a b pivot).1) ∧ ∃ n, w' = putRow encU (Sort.ahead w n) blk off (partitionEqual ltInt d a b pivot).2
  prt : ∀ (blk off cap a b pivot : Nat) (d : Array Int) (w : World), Holds encU w blk off d → a ≤ pivot → pivot < b → b ≤ d.size → d.size < 4611686018427387904 →
    Calls Tryz.prog 123 #[.slice (some ⟨blk, off, none⟩) d.size cap, .int .i64 a, .int .i64 b, .int .i64 pivot] w fun e w' => e = .returned (.tuple #[.int .i64 (partition ltInt d a b pivot).1, .bool (partition ltInt d a b pivot).2.1]) ∧ ∃ n, w' = putRow encU (Sort.ahead w n) blk off (partition ltInt d a b pivot).2.2

set_option maxHeartbeats 6400000 in
set_option maxRecDepth 1000000 in
theorem u64_pdqsort_int (C : Callees13U) (S : Plain13) : ∀ (N blk off cap a b limit : Nat) (d : Array Int) (w : World), b - a < N → Holds encU w blk off d → blk < w.heap.size → a ≤ b → b ≤ d.size → d.size < 4611686018427387904 → limit < 4611686018427387904 → Below ltInt a b d →
    Calls Tryz.prog 91 #[.slice (some ⟨blk, off, none⟩) d.size cap, .int .i64 a, .int .i64 b, .int .i64 limit] w fun e w' => e = .returned (.tuple #[]) ∧ At encU w blk off (pdq ltInt d a b limit true true) w' := by
  intro N
  induction N with
  | zero => intro _ _ _ _ _ _ _ _ h; exact absurd h (Nat.not_lt_zero _)
  | succ N ih =>
    intro blk off cap a b limit d w hN hH hblk hab hb hsz hlimit hBel0
    go_enter Tryz.func91, Tryz.ntmps91
    go_wp2
    go_loopg [1, 2, 3, 8, 9] (b - a) (fun k s1 s2 s3 s8 s9 wr => ∃ (a' b' lim : Nat) (wb wp : Bool) (dk : Array Int), s1 = .int .i64 a' ∧ s2 = .int .i64 b' ∧ s3 = .int .i64 lim ∧ s8 = .bool wb ∧ s9 = .bool wp ∧
      a' ≤ b' ∧ b' ≤ d.size ∧ b' - a' ≤ k ∧ k ≤ b - a ∧ lim ≤ limit ∧ dk.size = d.size ∧ Below ltInt a' b' dk ∧ At encU w blk off dk wr ∧ pdq ltInt dk a' b' lim wb wp = pdq ltInt d a b limit true true)
    case atStart => exact ⟨a, b, limit, true, true, d, rfl, rfl, rfl, rfl, rfl, hab, hb, Nat.le_refl _, Nat.le_refl _, Nat.le_refl _, rfl, hBel0, At.refl hH, rfl⟩
    case round =>
      obtain ⟨a', b', lim, wb, wp, dk, rfl, rfl, rfl, rfl, rfl, hab', hb', hk, hkN, hlim, hds, hBel, hAt, heq⟩ := hrel
      obtain ⟨hHk, hblk'⟩ := hAt.holds hH hds hblk
      have A : Aside (pdq ltInt dk a' b' lim wb wp = pdq ltInt d a b limit true true) := heq
      clear heq
      by_cases h12 : b' - a' ≤ 12
      · -- 'if length <= maxInsertion'
        have h12z : (b' : Int) - (a' : Int) ≤ 12 := by omega
        have hc := C.ins blk off cap a' b' dk wr hHk hab' (by omega) (by omega)
        rw [hds] at hc
        go_wp2_with (go_at_call 115; refine hc.mono ?_; rintro e w1 ⟨rfl, hw1⟩)
        (try simp only [Exit.inBlock, Exit.then]); refine bodyPost_ret (results_none rfl _ _ _) rfl ?_
        refine ⟨rfl, ?_⟩
        rw [← A.out, pdq_small h12]
        exact hAt.step hblk (S.ins S.swo dk a' b' hab' (by omega)).1.1 hw1
      · have h12z : ¬ ((b' : Int) - (a' : Int) ≤ 12) := by omega
        by_cases hl0 : lim = 0
        · -- 'if limit == 0'
          subst hl0
          have hc := u64_heapSort_int blk off d.size cap dk hds a' b' wr hHk hab' (by omega) (by omega)
          go_wp2_with (go_at_call 116; refine hc.mono ?_; rintro e w1 ⟨rfl, hw1⟩)
          (try simp only [Exit.inBlock, Exit.then]); refine bodyPost_ret (results_none rfl _ _ _) rfl ?_
          refine ⟨rfl, ?_⟩
          rw [← A.out, pdq_heap h12 rfl]
          exact hAt.step hblk (heapSort_holds S.swo dk a' b' hab' (by omega)).1.1 hw1
        · have hl0z : ¬ ((lim : Int) = 0) := by omega
          -- THE ROUND's VALUES: sizes, ranges, 'Below', stage by stage
          obtain ⟨s1, B1, hc1, s2, B2, hpv, s3, B3⟩ := rd_facts (limit := lim) (wb := wb) (wp := wp) S.swo S.par reverseRange_holds (show a' < b' by omega) (show b' ≤ dk.size by omega) hBel
          -- ████ 'if !wasBalanced { breakPatterns; limit-- }': THE WAYS MEET
          go_upto_if 35 with fail
          go_cut [3] from 19 (fun s3 wc => s3 = .int .i64 (rd ltInt dk a' b' lim wb wp).lim ∧ At encU w blk off (rd ltInt dk a' b' lim wb wp).d1 wc)
          case first =>
            cases wb
            · have hc := C.brk blk off cap a' b' dk wr hHk hblk' hab' (by omega) (by omega)
              rw [hds] at hc
              go_wp2_with (go_at_call 117; refine hc.mono ?_; rintro e w1 ⟨rfl, hw1⟩)
              go_meet
              case rel =>
                refine ⟨?_, hAt.stepG hblk s1 hw1⟩
                show Value.int .i64 ((lim : Int) - 1) = Value.int .i64 ((lim - 1 : Nat) : Int)
                congr 1
                omega
            · go_wp2_with fail
              go_meet
              case rel => exact ⟨rfl, hAt⟩
          case rest =>
            obtain ⟨rfl, hAt1⟩ := hcut
            obtain ⟨hH1, hblk1⟩ := hAt1.holds hH (s1.trans hds) hblk
            have hc17 : Calls Tryz.prog 118 #[.slice (some ⟨blk, off, none⟩) d.size cap, .int .i64 a', .int .i64 b'] wc fun e w' => e = .returned (.tuple #[.int .i64 (rd ltInt dk a' b' lim wb wp).c.1, .int .i64 (hintCode (rd ltInt dk a' b' lim wb wp).c.2)]) ∧ ∃ n os, w' = grow (Sort.ahead wc n) os := by
              have := C.piv blk off cap a' b' (rd ltInt dk a' b' lim wb wp).d1 wc hH1 hblk1 (by omega) (by omega) (by omega)
              rw [s1, hds] at this
              exact this
            go_upto_if 50 with (go_at_call 118; refine hc17.mono ?_; rintro e w2 ⟨rfl, hw2⟩)
            have hAt2 : At encU w blk off (rd ltInt dk a' b' lim wb wp).d1 w2 := hAt1.same hH (s1.trans hds) hblk hw2
            obtain ⟨hH2, hblk2⟩ := hAt2.holds hH (s1.trans hds) hblk
            -- ████ 'if hint == decreasingHint { reverseRange; pivot = ..; hint = increasingHint }': THE WAYS MEET
            go_cut [11, 12] from 19 (fun s11 s12 wc => s11 = .int .i64 (rd ltInt dk a' b' lim wb wp).pivot ∧ s12 = .int .i64 (hintCode (rd ltInt dk a' b' lim wb wp).hint) ∧ At encU w blk off (rd ltInt dk a' b' lim wb wp).d2 wc)
            case first =>
              by_cases hh : (rd ltInt dk a' b' lim wb wp).c.2 = .decreasing
              · have hcode : hintCode (rd ltInt dk a' b' lim wb wp).c.2 = 2 := by rw [hh]; rfl
                obtain ⟨e2, epv, eht⟩ := rd_dec hh
                have hc18 := u64_reverseRange_int blk off cap (rd ltInt dk a' b' lim wb wp).d1 a' b' w2 hH2 hab' (by omega) (by omega)
                rw [s1, hds] at hc18
                go_wp2_with (go_at_call 119; refine hc18.mono ?_; rintro e w3 ⟨rfl, hw3⟩)
                go_meet
                case rel =>
                  refine ⟨?_, by rw [eht]; rfl, by rw [e2]; exact hAt2.step hblk (by rw [← e2, s2, s1]) hw3⟩
                  rw [epv]
                  congr 1
                  omega
              · have hcode : ¬ (hintCode (rd ltInt dk a' b' lim wb wp).c.2 = 2) := fun h => hh (hintCode_two h)
                obtain ⟨e2, epv, eht⟩ := rd_not hh
                go_wp2_with fail
                go_meet
                case rel => exact ⟨by rw [epv], by rw [eht], by rw [e2]; exact hAt2⟩
            case rest =>
              obtain ⟨rfl, rfl, hAt3⟩ := hcut
              obtain ⟨hH3, hblk3⟩ := hAt3.holds hH (s2.trans hds) hblk
              -- ████ THE TEST 'wasBalanced && wasPartitioned && hint == increasingHint', over Booleans that are variables: THE WAYS THROUGH THE REGION MEET
              go_upto_region 15 with fail
              go_cut [12, 68] from 19 (fun s12 s68 wx => s12 = .int .i64 (hintCode (rd ltInt dk a' b' lim wb wp).hint) ∧ s68 = .bool (wb && wp && decide ((rd ltInt dk a' b' lim wb wp).hint = .increasing)) ∧ wx = wc)
              case first =>
                cases wb <;> cases wp <;> cases hh3 : (rd ltInt dk a' b' lim _ _).hint <;>
                  (have hcode3 := congrArg hintCode hh3
                   simp only [hintCode] at hcode3
                   go_wp2_with fail
                   go_meet
                   exact ⟨by simp [hh3, hintCode], by simp [hh3, hintCode], rfl⟩)
              case rest =>
                obtain ⟨rfl, rfl, rfl⟩ := hcut
                -- ████ 'if .. { if partialInsertionSort(..) { return } }': THE WAYS MEET (one returns)
                go_upto_if 68 with fail
                go_cut [] from 19 (fun wx => (rd ltInt dk a' b' lim wb wp).pi.2 = false ∧ At encU w blk off (rd ltInt dk a' b' lim wb wp).pi.1 wx)
                case first =>
                  cases h68 : (wb && wp && decide ((rd ltInt dk a' b' lim wb wp).hint = .increasing))
                  · have epi := rd_pi_no h68
                    go_wp2_with fail
                    go_meet
                    case rel => exact ⟨by rw [epi], by rw [epi]; exact hAt3⟩
                  · have epi := rd_pi_yes h68
                    have hc19 := C.par blk off cap a' b' (rd ltInt dk a' b' lim wb wp).d2 wc hH3 (by omega) (by omega) (by omega)
                    rw [s2, hds, ← epi] at hc19
                    go_wp2_with (go_at_call 120; refine hc19.mono ?_; rintro e w4 ⟨rfl, hw4⟩)
                    -- (the walk parts on what the callee says: each way is closed by the script that fits it)
                    all_goals first
                      | (have hp2 : (rd ltInt dk a' b' lim wb wp).pi.2 = false := by rw [epi]; assumption
                         go_meet
                         exact ⟨hp2, hAt3.step hblk (by rw [s3, s2]) hw4⟩)
                      | (have hp2 : (rd ltInt dk a' b' lim wb wp).pi.2 = true := by rw [epi]; assumption
                         (try simp only [Exit.inBlock, Exit.then]); refine bodyPost_ret (results_none rfl _ _ _) rfl ?_
                         refine ⟨rfl, ?_⟩
                         rw [← A.out, pdq_done h12 hl0 hp2]
                         exact hAt3.step hblk (by rw [s3, s2]) hw4)
                case rest =>
                  obtain ⟨hp2, hAt5⟩ := hcut
                  obtain ⟨hH5, hblk5⟩ := hAt5.holds hH (s3.trans hds) hblk
                  -- THE ROW's TWO FAMILIES (the authors' Derived/CellFam.lean)
                  have hcw : ∀ t, t < d.size → wc.cell? ⟨blk, off + t, none⟩ = some (.int .u64 (rd ltInt dk a' b' lim wb wp).pi.1[t]!) := fun t ht => (hH5 t (by omega)).1
                  have hfw : ∀ t, t < d.size → wc.frozen? ⟨blk, off + t, none⟩ = false := fun t ht => (hH5 t (by omega)).2
                  -- ████ THE TEST 'a > 0 && !cmp.Less(data[a-1], data[pivot])': it draws; its guard must be parted on: THE WAYS THROUGH THE REGION MEET
                  go_upto_region 17 with fail
                  go_cut [87] from 19 (fun s87 wx => s87 = .bool (decide (a' > 0) && !ltInt (rd ltInt dk a' b' lim wb wp).pi.1[a' - 1]! (rd ltInt dk a' b' lim wb wp).pi.1[(rd ltInt dk a' b' lim wb wp).pivot]!) ∧ At encU w blk off (rd ltInt dk a' b' lim wb wp).pi.1 wx)
                  case first =>
                    rcases Nat.eq_zero_or_pos a' with ha0 | ha0
                    · have ha0z : decide ((a' : Int) > 0) = false := decide_eq_false (by omega)
                      go_big_quiet (first | (go_at_call 121; refine Calls.quiet_of_same (u64_cmp_Less_int _ _ _)))
                      go_wp2_with fail
                      go_meet
                      case rel => exact ⟨by simp [ha0], hAt5.ahead nq⟩
                    · have ha0z : (a' : Int) > 0 := by omega
                      go_big_quiet (first | (go_at_call 121; refine Calls.quiet_of_same (u64_cmp_Less_int _ _ _)))
                      go_wp2_with fail
                      go_meet
                      case rel => exact ⟨by simp [ha0], hAt5.ahead nq⟩
                  case rest =>
                    obtain ⟨rfl, hAt6⟩ := hcut
                    obtain ⟨hH6, hblk6⟩ := hAt6.holds hH (s3.trans hds) hblk
                    clear hcw hfw
                    cases h87 : (decide (a' > 0) && !ltInt (rd ltInt dk a' b' lim wb wp).pi.1[a' - 1]! (rd ltInt dk a' b' lim wb wp).pi.1[(rd ltInt dk a' b' lim wb wp).pivot]!)
                    · -- ████ 'mid, alreadyPartitioned := partitionOrdered(..)'; THE SMALLER SIDE BY A CALL OF ITSELF, the other by the next round
                      -- (✋ WHAT THE PARTITION GIVES, AS VARIABLES WITH ONE EQUATION: handed 'rfl' for it, the unifier UNFOLDED 'partition' to find the triple's parts, and the ranges came back over 'partLoop ..': nothing met them any more)
                      obtain ⟨mid, ap, d4, hx⟩ : ∃ mid ap d4, partition ltInt (rd ltInt dk a' b' lim wb wp).pi.1 a' b' (rd ltInt dk a' b' lim wb wp).pivot = (mid, ap, d4) := ⟨(partition ltInt (rd ltInt dk a' b' lim wb wp).pi.1 a' b' (rd ltInt dk a' b' lim wb wp).pivot).1, (partition ltInt (rd ltInt dk a' b' lim wb wp).pi.1 a' b' (rd ltInt dk a' b' lim wb wp).pivot).2.1, (partition ltInt (rd ltInt dk a' b' lim wb wp).pi.1 a' b' (rd ltInt dk a' b' lim wb wp).pivot).2.2, rfl⟩
                      obtain ⟨r1, r2, r3, r4, r5, r6, r7⟩ := round_part S.swo S.prt hpv.1 hpv.2 (show b' ≤ (rd ltInt dk a' b' lim wb wp).pi.1.size by omega) B3 hx
                      have hc22 := C.prt blk off cap a' b' (rd ltInt dk a' b' lim wb wp).pivot (rd ltInt dk a' b' lim wb wp).pi.1 wc hH6 hpv.1 hpv.2 (by omega) (by omega)
                      rw [s3, hds, hx] at hc22
                      have X : Aside (partition ltInt (rd ltInt dk a' b' lim wb wp).pi.1 a' b' (rd ltInt dk a' b' lim wb wp).pivot = (mid, ap, d4)) := hx
                      clear hx
                      go_upto_if 113 with (go_at_call 123; refine hc22.mono ?_; rintro e w7 ⟨rfl, hw7⟩)
                      have hx := X.out
                      have hAt7 : At encU w blk off d4 w7 := hAt6.step hblk r3 hw7
                      obtain ⟨hH7, hblk7⟩ := hAt7.holds hH (r3.trans (s3.trans hds)) hblk
                      by_cases h4 : mid - a' < b' - mid
                      · have h4z : (mid : Int) - (a' : Int) < (b' : Int) - (mid : Int) := by omega
                        have hih := ih blk off cap a' mid (rd ltInt dk a' b' lim wb wp).lim d4 w7 (by omega) hH7 hblk7 (by omega) (by omega) (by omega) (Nat.lt_of_le_of_lt (Nat.le_trans rd_lim_le hlim) hlimit) r4
                        rw [r3, s3, hds] at hih
                        obtain ⟨pL, sL⟩ := S.pdq S.swo d4 a' mid (rd ltInt dk a' b' lim wb wp).lim true true (by omega) (by omega) r4
                        go_wp2_with (go_at_call 91; refine hih.mono ?_; rintro e w8 ⟨rfl, hw8⟩)
                        go_roundg (b' - (mid + 1))
                        case measure => omega
                        case rel =>
                          refine ⟨mid + 1, b', (rd ltInt dk a' b' lim wb wp).lim, decide (mid - a' ≥ (b' - a') / 8), ap, pdq ltInt d4 a' mid (rd ltInt dk a' b' lim wb wp).lim true true, by simp, rfl, rfl, ?_, rfl, by omega, by omega, Nat.le_refl _, by omega, Nat.le_trans rd_lim_le hlim, by rw [pL.1, r3, s3, hds], (r6 _ pL sL).1, hAt7.stepG hblk pL.1 hw8, ?_⟩
                          · exact congrArg Value.bool (eighth (by omega) (by omega))
                          · rw [← A.out, pdq_left h12 hl0 hp2 h87 (by rw [hx]; exact ⟨r1, r2⟩) (by rw [hx]; exact h4), hx]
                      · have h4z : ¬ ((mid : Int) - (a' : Int) < (b' : Int) - (mid : Int)) := by omega
                        have hih := ih blk off cap (mid + 1) b' (rd ltInt dk a' b' lim wb wp).lim d4 w7 (by omega) hH7 hblk7 (by omega) (by omega) (by omega) (Nat.lt_of_le_of_lt (Nat.le_trans rd_lim_le hlim) hlimit) r5
                        rw [r3, s3, hds] at hih
                        obtain ⟨pL, sL⟩ := S.pdq S.swo d4 (mid + 1) b' (rd ltInt dk a' b' lim wb wp).lim true true (by omega) (by omega) r5
                        go_wp2_with (go_at_call 91; refine hih.mono ?_; rintro e w8 ⟨rfl, hw8⟩)
                        go_roundg (mid - a')
                        case measure => omega
                        case rel =>
                          refine ⟨a', mid, (rd ltInt dk a' b' lim wb wp).lim, decide (b' - mid ≥ (b' - a') / 8), ap, pdq ltInt d4 (mid + 1) b' (rd ltInt dk a' b' lim wb wp).lim true true, rfl, rfl, rfl, ?_, rfl, by omega, by omega, Nat.le_refl _, by omega, Nat.le_trans rd_lim_le hlim, by rw [pL.1, r3, s3, hds], (r7 _ pL sL).1, hAt7.stepG hblk pL.1 hw8, ?_⟩
                          · exact congrArg Value.bool (eighth (by omega) (by omega))
                          · rw [← A.out, pdq_right h12 hl0 hp2 h87 (by rw [hx]; exact ⟨r1, r2⟩) (by rw [hx]; exact h4), hx]
                    · -- ████ 'mid := partitionEqualOrdered(..); a = mid; continue'
                      have h87' := h87
                      simp only [Bool.and_eq_true, decide_eq_true_eq, Bool.not_eq_true'] at h87'
                      obtain ⟨mid, d4, hx⟩ : ∃ mid d4, partitionEqual ltInt (rd ltInt dk a' b' lim wb wp).pi.1 a' b' (rd ltInt dk a' b' lim wb wp).pivot = (mid, d4) := ⟨(partitionEqual ltInt (rd ltInt dk a' b' lim wb wp).pi.1 a' b' (rd ltInt dk a' b' lim wb wp).pivot).1, (partitionEqual ltInt (rd ltInt dk a' b' lim wb wp).pi.1 a' b' (rd ltInt dk a' b' lim wb wp).pivot).2, rfl⟩
                      obtain ⟨r1, r2, r3, r4, _⟩ := round_eq S.swo S.peq h87'.1 hpv.1 hpv.2 (show b' ≤ (rd ltInt dk a' b' lim wb wp).pi.1.size by omega) B3 h87'.2 hx
                      have hc21 := C.peq blk off cap a' b' (rd ltInt dk a' b' lim wb wp).pivot (rd ltInt dk a' b' lim wb wp).pi.1 wc hH6 hpv.1 hpv.2 (by omega) (by omega)
                      rw [s3, hds, hx] at hc21
                      have X : Aside (partitionEqual ltInt (rd ltInt dk a' b' lim wb wp).pi.1 a' b' (rd ltInt dk a' b' lim wb wp).pivot = (mid, d4)) := hx
                      clear hx
                      go_wp2_with (go_at_call 122; refine hc21.mono ?_; rintro e w7 ⟨rfl, hw7⟩)
                      go_roundg (b' - mid)
                      case measure => omega
                      case rel =>
                        have hx := X.out
                        exact ⟨mid, b', (rd ltInt dk a' b' lim wb wp).lim, wb, wp, d4, rfl, rfl, rfl, rfl, rfl, r2, hb', Nat.le_refl _, by omega, Nat.le_trans rd_lim_le hlim, by rw [r3, s3, hds], r4, hAt6.step hblk r3 hw7, by rw [← A.out, pdq_eq h12 hl0 hp2 h87 (by rw [hx]; exact ⟨r1, r2⟩), hx]⟩

theorem callees13U : Callees13U where
  ins := u64_insertionSort_int
  brk := u64_breakPatterns_int
  piv := u64_choosePivot_int
  par := u64_partialInsertionSort_int
  peq := u64_partitionEqualOrdered_int
  prt := u64_partitionOrdered_int

theorem plain13U : Plain13 where
  swo := swo_ltInt
  ins := insertionSort_holds
  par := partialInsertionSort_holds
  prt := partition_holds _
  peq := partitionEqual_holds _
  pdq := pdq_sorts _

theorem sort_int_eqU (zs : List Int) : Sort.sort ltInt zs.toArray = (zs.mergeSort fun x y => decide (x ≤ y)).toArray := by
  rw [← sortInt zs]

def pdqWalkU : Prop := ∀ (blk off cap a b limit : Nat) (d : Array Int) (w : World), Holds (Value.int .u64) w blk off d → blk < w.heap.size → a ≤ b → b ≤ d.size → d.size < 4611686018427387904 → limit < 4611686018427387904 → Below ltInt a b d →
  Calls Tryz.prog 91 #[.slice (some ⟨blk, off, none⟩) d.size cap, .int .i64 a, .int .i64 b, .int .i64 limit] w fun e w' =>
    e = .returned (.tuple #[]) ∧ ∃ n os, w' = grow (putRow (Value.int .u64) (Sort.ahead w n) blk off (Sort.pdq ltInt d a b limit true true)) os

theorem pdqWalkIntU : pdqWalkU := fun blk off cap a b limit d w hH hb hab hbd hsz hl hB =>
  u64_pdqsort_int callees13U plain13U (b - a + 1) blk off cap a b limit d w (by omega) hH hb hab hbd hsz hl hB

set_option maxRecDepth 100000 in
theorem u64_Sort_int (hpdq : pdqWalkU) (blk off cap : Nat) (d : Array Int) (w : World) (hH : Holds (Value.int .u64) w blk off d) (hblk : blk < w.heap.size) (hsz : d.size < 4611686018427387904) :
    Calls Tryz.prog 60 #[.slice (some ⟨blk, off, none⟩) d.size cap] w fun e w' => e = .returned (.tuple #[]) ∧ ∃ n os, w' = grow (putRow (Value.int .u64) (Sort.ahead w n) blk off (Sort.sort ltInt d)) os := by
  have HH : Hid (Holds (Value.int .u64) w blk off d) := hH
  clear hH
  have hLen : ∀ w, Calls Tryz.prog 92 #[.int .u64 (d.size : Int)] w fun e w' => e = .returned (.int .i64 (bitsLen d.size : Nat)) ∧ w' = w := fun w => by
    have h := u64_bits_Len (d.size : Int) w (by omega) (by omega)
    rwa [Int.toNat_natCast, bitLen_eq _ (by omega)] at h
  have hk : bitsLen d.size ≤ 62 := (bitsLen_le_iff d.size 62).2 (by omega)
  go_enter Tryz.func60, Tryz.ntmps60
  go_wp2_with (first
    | (go_at_call 92; refine (hLen _).mono ?_; rintro e w' ⟨rfl, rfl⟩)
    | (go_at_call 91; refine (hpdq blk off cap 0 d.size (bitsLen d.size) d _ (by exact HH.out) (by exact hblk) (Nat.zero_le _) (Nat.le_refl _) hsz (by omega) (Or.inl rfl)).mono ?_; rintro e w' ⟨rfl, n, os, rfl⟩))
  go_end0
  exact ⟨rfl, n, os, rfl⟩

theorem u64_insertionSort_int_nil (p : Option Addr) (cap : Nat) (w : World) :
    Calls Tryz.prog 115 #[.slice p 0 cap, .int .i64 0, .int .i64 0] w fun e w' => e = .returned (.tuple #[]) ∧ w' = w := by
  go_enter Tryz.func115, Tryz.ntmps115
  go_wp2
  refine wp_loop_rounds 1 ?_
  rw [rounds_succ]
  go_wp2
  go_end0
  exact ⟨rfl, rfl⟩

set_option maxRecDepth 100000 in
theorem u64_pdqsort_int_nil (p : Option Addr) (cap : Nat) (w : World) :
    Calls Tryz.prog 91 #[.slice p 0 cap, .int .i64 0, .int .i64 0, .int .i64 0] w fun e w' => e = .returned (.tuple #[]) ∧ w' = w := by
  go_enter Tryz.func91, Tryz.ntmps91
  go_wp2
  refine wp_loop_rounds 1 ?_
  rw [rounds_succ]
  go_wp2_with (first | (go_at_call 115; refine (u64_insertionSort_int_nil p cap _).mono ?_; rintro e w' ⟨rfl, rfl⟩))
  refine bodyPost_ret (results_none rfl _ _ _) rfl ?_      -- an explicit 'return' in a function without results
  exact ⟨rfl, rfl⟩

set_option maxRecDepth 100000 in
theorem u64_Sort_int_nil (p : Option Addr) (cap : Nat) (w : World) :
    Calls Tryz.prog 60 #[.slice p 0 cap] w fun e w' => e = .returned (.tuple #[]) ∧ w' = w := by
  have hLen : ∀ w, Calls Tryz.prog 92 #[.int .u64 0] w fun e w' => e = .returned (.int .i64 0) ∧ w' = w := fun w => u64_bits_Len 0 w (by omega) (by omega)
  go_enter Tryz.func60, Tryz.ntmps60
  go_wp2_with (first
    | (go_at_call 92; refine (hLen _).mono ?_; rintro e w' ⟨rfl, rfl⟩)
    | (go_at_call 91; refine (u64_pdqsort_int_nil p cap _).mono ?_; rintro e w' ⟨rfl, rfl⟩))
  go_end0
  exact ⟨rfl, rfl⟩

theorem u64_slices_Sort_int (blk off cap : Nat) (zs : List Int) (w : World) (hH : Holds (Value.int .u64) w blk off zs.toArray) (hblk : blk < w.heap.size) (hsz : zs.length < 4611686018427387904) :
    Calls Tryz.prog 60 #[.slice (some ⟨blk, off, none⟩) zs.length cap] w fun e w' =>
      e = .returned (.tuple #[]) ∧ ∃ n os, w' = grow (putRow (Value.int .u64) (Sort.ahead w n) blk off (zs.mergeSort fun x y => decide (x ≤ y)).toArray) os := by
  have h := u64_Sort_int pdqWalkIntU blk off cap zs.toArray w hH hblk (by simpa using hsz)
  rw [sort_int_eqU] at h
  simpa using h

end Go.Proofs.YtkjfdaleamonaaaGreat
/- The contract of cells.Set: words, rising, each once. -/
namespace Go.Proofs.YtkjfdaleamonaaaGreat
open Go.RowKit Go.Lib Go.Sort

def srt (l : List Int) : List Int := l.mergeSort fun x y => decide (x ≤ y)
def setF (l : List Int) : List Int := compactUpTo (srt l).toArray (srt l).length
theorem srt_length (l : List Int) : (srt l).length = l.length := List.length_mergeSort l
theorem cut_length (d : Array Int) (m : Nat) : (compactUpTo d m).length ≤ m := by
  induction m with
  | zero => simp [compactUpTo]
  | succ m ih => rw [compactUpTo_succ, List.length_append]; split <;> simp <;> omega
theorem setF_nil : setF [] = [] := by simp [setF, srt, compactUpTo]

theorem below_growU {B : Nat} {w0 w : World} {os : Array Obj} (h : Below B w0 w) (hB : B ≤ w.heap.size) : Below B w0 (grow w os) :=
  ⟨h.os, h.tape, h.output, by have := h.size; simp [grow]; omega, fun k hk => by rw [← h.block k hk]; exact heap_grow_old w os (show k < w.heap.size by omega)⟩
theorem holds_own {w : World} {base n c : Nat} {ao : Option Addr} {l : List Int} (hn : 0 < n) (h : w.ownsRow base 25 1 (.slice ao n c) n (uV l)) :
    ∃ g, ao = some ⟨g, 0, none⟩ ∧ base ≤ g ∧ g < w.heap.size ∧ n ≤ c ∧ Holds encU w g 0 l.toArray := by
  obtain ⟨ao', c', e, hnc, hh⟩ := own_form h
  cases e
  obtain ⟨g, rfl, hb, hg, hc⟩ := hh hn
  refine ⟨g, rfl, hb, hg, hnc, fun j hj => ?_⟩
  have hj' : j < l.length := by simpa using hj
  refine ⟨?_, h.frozenAt _⟩
  rw [hc (0 + j) _ (by rw [Nat.zero_add]; exact uV_get l j hj')]
  congr 2
  simp [List.getD_eq_getElem?_getD, hj', getElem!_pos]
theorem words_of_holds {w : World} {g : Nat} {l : List Int} (hg : g < w.heap.size) (h : Holds encU w g 0 l.toArray) (k : Nat) (hk : k ≤ l.length) : WordsAt w w.heap.size (some ⟨g, 0, none⟩) (l.take k) := fun _ => by
  refine ⟨g, 0, rfl, hg, fun i hi => ?_⟩
  have hi' : i < k ∧ i < l.length := by simp at hi; omega
  rw [(h i (by simpa using hi'.2)).1]
  congr 2
  simp [List.getD_eq_getElem?_getD, hi'.1, hi'.2, getElem!_pos]

set_option maxRecDepth 100000 in
set_option maxHeartbeats 1000000 in
theorem uclip_any (ao : Option Addr) (n c : Nat) (w : World) (h : n ≤ c) : Calls Tryz.prog 71 #[.slice ao n c] w fun e w' => e = .returned (.slice ao n n) ∧ w = w' := by
  go_enter Tryz.func71, Tryz.ntmps71
  go_wp2
  go_ret
  exact ⟨rfl, rfl⟩

set_option maxRecDepth 100000 in
set_option maxHeartbeats 1000000 in
theorem uclone_none (ao : Option Addr) (c : Nat) (w : World) :
    Calls Tryz.prog 70 #[.slice ao 0 c] w fun e w' => ∃ ao' c', e = .returned (.slice ao' 0 c') ∧ Below w.heap.size w w' := by
  have q22 : ∀ (w : World) (a : Option Addr) (n c n' c' : Nat), (binOp .eql 22 (.slice a n c) (.slice none n' c')).run Tryz.prog w = .ok (.bool a.isNone) w := fun w a n c n' c' => Lib.run_eql_slice_nil w _ _ a n c n' c' Tryz.underlying22
  cases ao with
  | none =>
    go_enter Tryz.func70, Tryz.ntmps70
    go_wp2
    go_ret
    exact ⟨_, _, rfl, Below.refl _ _⟩
  | some a =>
    go_enter Tryz.func70, Tryz.ntmps70
    go_wp2
    go_ret
    exact ⟨_, _, rfl, (Below.refl _ _).alloc (Nat.le_refl _) _⟩
set_option maxRecDepth 100000 in
set_option maxHeartbeats 1000000 in
theorem ucompact_none (ao : Option Addr) (c : Nat) (w : World) : Calls Tryz.prog 72 #[.slice ao 0 c] w fun e w' => e = .returned (.slice ao 0 c) ∧ w = w' := by
  go_enter Tryz.func72, Tryz.ntmps72
  go_wp2
  go_ret
  exact ⟨rfl, rfl⟩

set_option maxRecDepth 100000 in
set_option maxHeartbeats 1000000 in
theorem uset_any (ao : Option Addr) (c : Nat) (l : List Int) (w : World) (B : Nat) (h : WordsAt w B ao l) (hn : l.length ≤ 1000000000) :
    Calls Tryz.prog 39 #[.slice ao l.length c] w fun e w' => ∃ ao' c', e = .returned (.slice ao' (setF l).length c') ∧ (ao' = none → c' = 0) ∧ WordsAt w' w'.heap.size ao' (setF l) ∧ Below w.heap.size w w' := by
  by_cases h0 : l.length = 0
  · obtain rfl : l = [] := List.eq_nil_of_length_eq_zero h0
    rw [setF_nil]
    simp only [List.length_nil]
    go_enter Tryz.func39, Tryz.ntmps39
    go_wp2_with fail
    refine (uclone_none ao c _).mono ?_
    rintro e w1 ⟨a1, c1, rfl, hb⟩
    go_wp2_with fail
    refine (u64_Sort_int_nil a1 c1 _).mono ?_
    rintro e w2 ⟨rfl, hw⟩
    rw [hw]
    clear hw
    go_wp2_with fail
    refine (ucompact_none a1 c1 _).mono ?_
    rintro e w2 ⟨rfl, rfl⟩
    go_wp2_with fail
    refine (uclip_any a1 0 c1 _ (Nat.zero_le _)).mono ?_
    rintro e w2 ⟨rfl, rfl⟩
    go_wp2
    go_ret
    exact ⟨_, _, rfl, fun _ => rfl, fun h => by simp at h, hb⟩
  · obtain ⟨b, off, rfl, hlt, hc⟩ := h (by omega)
    have HC := Lib.hid hc
    obtain ⟨n, hnn⟩ : ∃ n, l.length = n := ⟨_, rfl⟩
    have HCL := Lib.hid (uclone_any b off c l w hn hc)
    have HN := Lib.hid hnn
    rw [hnn] at hn h0 HCL ⊢
    clear hc hnn h
    go_enter Tryz.func39, Tryz.ntmps39
    go_wp2_with fail
    refine HCL.out.mono ?_
    rintro e w1 ⟨v, rfl, hown, hb1⟩
    obtain ⟨a1, c1, rfl, hnc, _⟩ := own_form hown
    obtain ⟨g, rfl, hg0, hg, _, hH⟩ := holds_own (by omega) hown
    have HO := Lib.hid hH
    have HS := Lib.hid (u64_slices_Sort_int g 0 c1 l w1 hH hg (by rw [HN.out]; omega))
    have HB1 := Lib.hid hb1
    rw [HN.out] at HS
    clear hown hb1 hH
    go_wp2_with fail
    refine HS.out.mono ?_
    rintro e w2 ⟨rfl, q, os, hw2⟩
    have hH2 : Holds encU w2 g 0 (srt l).toArray := by
      rw [hw2]
      refine holds_grow _ _ _ _ _ _ (by simpa [putRow, mapBlock, Sort.ahead] using hg) ?_
      exact holds_putRow _ _ _ _ l.toArray _ (holds_ahead _ _ _ _ _ _ HO.out) (by simp)
    have hb2 : Below w.heap.size w w2 := by
      rw [hw2]
      refine below_growU (below_putRow HB1.out hg0) ?_
      have := HB1.out.size
      simpa [putRow, mapBlock, Sort.ahead] using this
    have hg2 : g < w2.heap.size := by
      rw [hw2]
      have : g < (putRow (Value.int .u64) (Sort.ahead w1 q) g 0 (l.mergeSort fun x y => decide (x ≤ y)).toArray).heap.size := by simpa [putRow, mapBlock, Sort.ahead] using hg
      simp only [grow, Array.size_append]
      omega
    have hsl : (srt l).toArray.size = n := by simp [srt_length, HN.out]
    have HCO := Lib.hid (ucompact_any g 0 c1 (srt l).toArray w2 hH2 (by rw [hsl]; omega) (by rw [hsl]; omega))
    have HB2 := Lib.hid hb2
    have HO2 := Lib.hid hH2
    have HW := Lib.hid hg2
    rw [hsl] at HCO
    have HL : Hid (compactUpTo (srt l).toArray n = setF l) := by show _ = _; unfold setF; rw [srt_length, HN.out]
    rw [HL.out] at HCO
    clear hw2 hH2 hb2 hg2 HS
    go_wp2_with fail
    refine HCO.out.mono ?_
    rintro e w3 ⟨rfl, q3, hw3⟩
    have hle : (setF l).length ≤ n := by rw [← HL.out]; exact cut_length _ _
    have hH3 : Holds encU w3 g 0 (setF l ++ List.replicate (n - (setF l).length) 0).toArray := by
      rw [hw3]
      exact holds_putRow _ _ _ _ (srt l).toArray _ (holds_ahead _ _ _ _ _ _ HO2.out) (by rw [hsl]; simp; omega)
    have hb3 : Below w.heap.size w w3 := by rw [hw3]; exact below_putRow HB2.out hg0
    have hg3 : g < w3.heap.size := by rw [hw3]; simpa [putRow, mapBlock, Sort.ahead] using HW.out
    have HR : Hid (WordsAt w3 w3.heap.size (some ⟨g, 0, none⟩) (setF l)) := by
      have := words_of_holds hg3 hH3 (setF l).length (by simp)
      rwa [List.take_left] at this
    have HB3 := Lib.hid hb3
    have HCP := Lib.hid (uclip_any (some ⟨g, 0, none⟩) (setF l).length c1 w3 (by omega))
    clear hw3 hH3 hb3 hg3
    go_wp2_with fail
    refine HCP.out.mono ?_
    rintro e w4 ⟨rfl, rfl⟩
    go_wp2
    go_ret
    exact ⟨_, _, rfl, fun h => (by cases h), HR.out, HB3.out⟩
end Go.Proofs.YtkjfdaleamonaaaGreat
/- Contracts at []uint64 that only read: Index, Contains, BinarySearch, (set).in, (set).out, cells.Has; the reference's Has and Same. -/
namespace Go.Proofs.YtkjfdaleamonaaaGreat
open Go.RowKit Go.Lib Go.Sort

def hasF (l : List Int) (x : Int) : Bool := l.contains x
theorem hasF_yes {l : List Int} {x : Int} {j : Nat} (hj : j < l.length) (h : l.getD j 0 = x) : hasF l x = true := by
  unfold hasF
  rw [List.contains_iff_mem]
  rw [← h, List.getD_eq_getElem?_getD, List.getElem?_eq_getElem hj, Option.getD_some]
  exact List.getElem_mem _
theorem hasF_no {l : List Int} {x : Int} (h : ∀ j, j < l.length → l.getD j 0 ≠ x) : hasF l x = false := by
  unfold hasF
  rw [Bool.eq_false_iff, ne_eq, List.contains_iff_mem]
  intro hm
  obtain ⟨j, hj, e⟩ := List.getElem_of_mem hm
  exact h j hj (by rw [List.getD_eq_getElem?_getD, List.getElem?_eq_getElem hj, Option.getD_some, e])

set_option maxRecDepth 100000 in
set_option maxHeartbeats 1000000 in
theorem uindex_any (ao : Option Addr) (c : Nat) (l : List Int) (x : Int) (w : World) (B : Nat) (h : WordsAt w B ao l) (hn : l.length ≤ 1000000000) :
    Calls Tryz.prog 104 #[.slice ao l.length c, .int .u64 x] w fun e w' => ∃ r : Int, e = .returned (.int .i64 r) ∧ decide (0 ≤ r) = hasF l x ∧ w = w' := by
  obtain ⟨n, hnn⟩ : ∃ n, l.length = n := ⟨_, rfl⟩
  have HN := Lib.hid hnn
  have HW := Lib.hid h
  rw [hnn] at hn ⊢
  clear hnn h
  go_enter Tryz.func104, Tryz.ntmps104
  go_wp2
  go_loop [8] (fun i => ∃ k : Nat, k ≤ n ∧ i = .int .i64 k ∧ Hid (∀ j, j < k → l.getD j 0 ≠ x)) (fun i => n - (intOf i).toNat)
  case atStart => exact ⟨0, Nat.zero_le _, rfl, fun j hj => by omega⟩
  case round =>
    obtain ⟨k, hk, rfl, HA⟩ := hrel
    by_cases hlt : k < n
    · obtain ⟨b, off, rfl, hb, hc⟩ := HW.out (by rw [HN.out]; omega)
      have c0 := hc k (by rw [HN.out]; exact hlt)
      clear hc
      have HY : Hid (l.getD k 0 = x → hasF l x = true) := fun e => hasF_yes (by rw [HN.out]; exact hlt) e
      have HS : Hid (l.getD k 0 ≠ x → ∀ j, j < k + 1 → l.getD j 0 ≠ x) := fun e j hj => by
        by_cases ej : j = k
        · rw [ej]; exact e
        · exact HA.out j (by omega)
      generalize l.getD k 0 = y at c0 HY HS
      by_cases he : x = y
      · have hq : (x == y) = true := by simpa using he
        have HF : Hid (hasF l x = true) := HY.out he.symm
        clear he HY HS
        go_wp2
        go_ret
        exact ⟨_, rfl, by rw [HF.out]; simp, rfl⟩
      · have hq : (x == y) = false := by simpa using he
        have HS2 : Hid (∀ j, j < k + 1 → l.getD j 0 ≠ x) := HS.out (fun e => he e.symm)
        clear he HY HS
        go_wp2
        go_round
        case rel => exact ⟨k + 1, by omega, by go_num, HS2⟩
        case measure => simp [intOf]; omega
    · obtain rfl : k = n := by omega
      have HF : Hid (hasF l x = false) := hasF_no (fun j hj => HA.out j (by rw [HN.out] at hj; exact hj))
      clear HA
      go_wp2
      go_ret
      exact ⟨_, rfl, by rw [HF.out]; simp, rfl⟩
set_option maxHeartbeats 400000 in
theorem ucontains_any (ao : Option Addr) (c : Nat) (l : List Int) (x : Int) (w : World) (B : Nat) (h : WordsAt w B ao l) (hn : l.length ≤ 1000000000) :
    Calls Tryz.prog 75 #[.slice ao l.length c, .int .u64 x] w fun e w' => e = .returned (.bool (hasF l x)) ∧ w = w' := by
  have HI := Lib.hid (uindex_any ao c l x w B h hn)
  go_enter Tryz.func75, Tryz.ntmps75
  go_wp2_with fail
  refine HI.out.mono ?_
  rintro e w1 ⟨r, rfl, hr, rfl⟩
  have HR := Lib.hid hr
  clear hr
  go_wp2
  go_ret
  exact ⟨ret_bool HR.out, rfl⟩
set_option maxHeartbeats 400000 in
theorem uhas_any (ao : Option Addr) (c : Nat) (l : List Int) (x : Int) (w : World) (B : Nat) (h : WordsAt w B ao l) (hn : l.length ≤ 1000000000) :
    Calls Tryz.prog 41 #[.slice ao l.length c, .int .u64 x] w fun e w' => e = .returned (.bool (hasF l x)) ∧ w = w' := by
  have HI := Lib.hid (ucontains_any ao c l x w B h hn)
  go_enter Tryz.func41, Tryz.ntmps41
  go_wp2_with fail
  refine HI.out.mono ?_
  rintro e w1 ⟨rfl, rfl⟩
  go_wp2
  go_ret
  exact ⟨rfl, rfl⟩

/-- Words, rising (each once or not). -/
def Rising (l : List Int) : Prop := ∀ i j, i ≤ j → j < l.length → l.getD i 0 ≤ l.getD j 0
def Found (l : List Int) (x : Int) (w : World) (e : Ending) (w' : World) : Prop := ∃ p : Int, e = .returned (.tuple #[.int .i64 p, .bool (hasF l x)]) ∧ w = w'
set_option maxRecDepth 100000 in
set_option maxHeartbeats 2000000 in
theorem rhas_any (ao : Option Addr) (c : Nat) (l : List Int) (x : Int) (w : World) (B : Nat) (h : WordsAt w B ao l) (hn : l.length ≤ 1000000000) (hr : Rising l) :
    Calls Tryz.prog 33 #[.slice ao l.length c, .int .u64 x] w fun e w' => e = .returned (.bool (hasF l x)) ∧ w = w' := by
  obtain ⟨n, hnn⟩ : ∃ n, l.length = n := ⟨_, rfl⟩
  have HN := Lib.hid hnn
  have HW := Lib.hid h
  have HR := Lib.hid hr
  rw [hnn] at hn ⊢
  clear hnn h hr
  go_enter Tryz.func33, Tryz.ntmps33
  go_wp2
  go_loop [5, 6] (fun i j => ∃ lo hi : Nat, lo ≤ hi ∧ hi ≤ n ∧ i = .int .i64 lo ∧ j = .int .i64 hi ∧ Hid ((∀ k, k < lo → l.getD k 0 < x) ∧ ∀ k, hi ≤ k → k < n → x ≤ l.getD k 0)) (fun i j => (intOf j).toNat - (intOf i).toNat)
  case atStart => exact ⟨0, n, Nat.zero_le _, Nat.le_refl _, rfl, rfl, fun k hk => by omega, fun k h1 h2 => by omega⟩
  case round =>
    obtain ⟨lo, hi, h1, h2, rfl, rfl, HA⟩ := hrel
    by_cases hlt : lo < hi
    · obtain ⟨b, off, rfl, hb, hc⟩ := HW.out (by rw [HN.out]; omega)
      obtain ⟨m, hm⟩ : ∃ m, (lo + hi) / 2 = m := ⟨_, rfl⟩
      have hm1 : lo ≤ m := by omega
      have hm2 : m < hi := by omega
      have hmI : ((lo : Int) + (hi : Int)) / 2 = (m : Int) := by omega
      have c0 := hc m (by rw [HN.out]; omega)
      have HL1 : Hid (l.getD m 0 < x → ∀ k, k < m + 1 → l.getD k 0 < x) := fun e k hk => by
        have := HR.out k m (by omega) (by rw [HN.out]; omega)
        omega
      have HL2 : Hid (¬ l.getD m 0 < x → ∀ k, m ≤ k → k < n → x ≤ l.getD k 0) := fun e k h3 h4 => by
        have := HR.out m k h3 (by rw [HN.out]; exact h4)
        omega
      generalize l.getD m 0 = y at c0 HL1 HL2
      clear hc hm
      by_cases hyx : y < x
      · have HLL := Lib.hid (HL1.out hyx)
        clear HL1 HL2
        go_wp2
        go_round
        case rel => exact ⟨m + 1, hi, by omega, h2, by go_num, rfl, HLL.out, HA.out.2⟩
        case measure => simp [intOf]; omega
      · have HLL := Lib.hid (HL2.out hyx)
        clear HL1 HL2
        go_wp2
        go_round
        case rel => exact ⟨lo, m, by omega, by omega, rfl, by go_num, HA.out.1, HLL.out⟩
        case measure => simp [intOf]; omega
    · obtain rfl : lo = hi := by omega
      by_cases hln : lo < n
      · obtain ⟨b, off, rfl, hb, hc⟩ := HW.out (by rw [HN.out]; omega)
        have c0 := hc lo (by rw [HN.out]; exact hln)
        have HF : Hid ((l.getD lo 0 == x) = hasF l x) := by
          show _ = _
          by_cases e : l.getD lo 0 = x
          · rw [hasF_yes (by rw [HN.out]; exact hln) e]; simpa using e
          · rw [hasF_no fun j hj => by
              rw [HN.out] at hj
              by_cases hjl : j < lo
              · have := HA.out.1 j hjl; omega
              · have h3 := HA.out.2 lo (Nat.le_refl _) hln
                have h4 := HR.out lo j (by omega) (by rw [HN.out]; exact hj)
                omega]
            simpa using e
        generalize l.getD lo 0 = y at c0 HF
        clear hc
        have q0 : decide ((lo : Int) < (n : Int)) = true := by simp; omega
        go_wp2
        go_ret
        exact ⟨ret_bool HF.out, rfl⟩
      · obtain rfl : lo = n := by omega
        have HF : Hid (hasF l x = false) := hasF_no fun j hj => by
          rw [HN.out] at hj
          have := HA.out.1 j hj
          omega
        have q0 : decide ((lo : Int) < (lo : Int)) = false := by simp
        go_wp2
        go_ret
        exact ⟨ret_bool HF.out.symm, rfl⟩
end Go.Proofs.YtkjfdaleamonaaaGreat
/- The plain laws of sets of words: rising, each once; what is in them. No Go in sight. -/
namespace Go.Proofs.YtkjfdaleamonaaaGreat
open Go.RowKit Go.Lib Go.Sort

def Up (l : List Int) : Prop := l.Pairwise (· < ·)
theorem getD_mem {l : List Int} {j : Nat} (h : j < l.length) : l.getD j 0 ∈ l := by
  rw [List.getD_eq_getElem?_getD, List.getElem?_eq_getElem h, Option.getD_some]; exact List.getElem_mem h
theorem hasF_iff (l : List Int) (x : Int) : hasF l x = true ↔ x ∈ l := by unfold hasF; exact List.contains_iff_mem
theorem srt_mem (l : List Int) (x : Int) : x ∈ srt l ↔ x ∈ l := List.mem_mergeSort
theorem srt_sorted (l : List Int) : (srt l).Pairwise (· ≤ ·) := by
  have := List.pairwise_mergeSort (le := fun x y : Int => decide (x ≤ y)) (fun a b c h1 h2 => by simp at *; omega) (fun a b => by simp; omega) l
  exact this.imp fun h => by simpa using h
theorem cut_mem (d : Array Int) (x : Int) : ∀ m, m ≤ d.size → (x ∈ compactUpTo d m ↔ ∃ j, j < m ∧ d[j]! = x)
  | 0, _ => by simp [compactUpTo]
  | m + 1, h => by
    rw [compactUpTo_succ, List.mem_append, cut_mem d x m (by omega)]
    by_cases hk : 0 < m ∧ d[m]! = d[m - 1]!
    · rw [keeps_neg hk.1 hk.2]
      simp only [Bool.false_eq_true, if_false, List.not_mem_nil, or_false]
      constructor
      · rintro ⟨j, hj, e⟩; exact ⟨j, by omega, e⟩
      · rintro ⟨j, hj, e⟩
        by_cases ej : j = m
        · subst ej; exact ⟨j - 1, by omega, by rw [← hk.2]; exact e⟩
        · exact ⟨j, by omega, e⟩
    · have hkk : keeps d m = true := by
        by_cases h0 : m = 0
        · exact keeps_lt_one d m (by omega)
        · exact keeps_pos fun e => hk ⟨by omega, e⟩
      rw [hkk]
      simp only [if_true, List.mem_singleton]
      constructor
      · rintro (⟨j, hj, e⟩ | e)
        · exact ⟨j, by omega, e⟩
        · exact ⟨m, by omega, e.symm⟩
      · rintro ⟨j, hj, e⟩
        by_cases ej : j = m
        · subst ej; exact .inr e.symm
        · exact .inl ⟨j, by omega, e⟩
theorem cut_up (d : Array Int) (hs : ∀ i j, i ≤ j → j < d.size → d[i]! ≤ d[j]!) : ∀ m, m ≤ d.size → Up (compactUpTo d m)
  | 0, _ => by simp [compactUpTo, Up]
  | m + 1, h => by
    rw [compactUpTo_succ]
    have ih := cut_up d hs m (by omega)
    by_cases hk : 0 < m ∧ d[m]! = d[m - 1]!
    · rw [keeps_neg hk.1 hk.2]; simpa using ih
    · have hkk : keeps d m = true := by
        by_cases h0 : m = 0
        · exact keeps_lt_one d m (by omega)
        · exact keeps_pos fun e => hk ⟨by omega, e⟩
      rw [hkk]
      simp only [if_true]
      unfold Up at *
      rw [List.pairwise_append]
      refine ⟨ih, by simp, fun a ha b hb => ?_⟩
      obtain rfl : b = d[m]! := by simpa using hb
      obtain ⟨j, hj, e⟩ := (cut_mem d a m (by omega)).1 ha
      have h1 := hs j (m - 1) (by omega) (by omega)
      have h2 := hs (m - 1) m (by omega) (by omega)
      have h3 : d[m]! ≠ d[m - 1]! := fun e => hk ⟨by omega, e⟩
      omega
theorem arr_get (l : List Int) (j : Nat) (h : j < l.length) : l.toArray[j]! = l.getD j 0 := by simp [List.getD_eq_getElem?_getD, h, getElem!_pos]
theorem sorted_getD {l : List Int} (h : l.Pairwise (· ≤ ·)) : ∀ i j, i ≤ j → j < l.length → l.getD i 0 ≤ l.getD j 0 := fun i j hij hj => by
  rw [List.getD_eq_getElem?_getD, List.getD_eq_getElem?_getD, List.getElem?_eq_getElem hj, List.getElem?_eq_getElem (by omega), Option.getD_some, Option.getD_some]
  by_cases e : i = j
  · subst e; exact Int.le_refl _
  · exact List.pairwise_iff_getElem.1 h i j (by omega) hj (by omega)
theorem setF_up (l : List Int) : Up (setF l) := by
  unfold setF
  refine cut_up _ (fun i j hij hj => ?_) _ (by simp)
  have hj' : j < (srt l).length := by simpa using hj
  rw [arr_get _ i (by omega), arr_get _ j hj']
  exact sorted_getD (srt_sorted l) i j hij hj'
theorem setF_mem (l : List Int) (x : Int) : x ∈ setF l ↔ x ∈ l := by
  unfold setF
  rw [cut_mem _ _ _ (by simp), ← srt_mem l x]
  constructor
  · rintro ⟨j, hj, rfl⟩; rw [arr_get _ j hj]; exact getD_mem hj
  · intro h
    obtain ⟨j, hj, e⟩ := List.getElem_of_mem h
    exact ⟨j, hj, by rw [arr_get _ j hj, List.getD_eq_getElem?_getD, List.getElem?_eq_getElem hj, Option.getD_some, e]⟩
theorem Up.rising {l : List Int} (h : Up l) : Rising l := fun i j hij hj => sorted_getD (h.imp fun h => by omega) i j hij hj
/-- Rising words, each once, are one list if they are the same words. -/
theorem Up.ext : ∀ {l m : List Int}, Up l → Up m → (∀ x, x ∈ l ↔ x ∈ m) → l = m
  | [], [], _, _, _ => rfl
  | [], b :: m, _, _, h => absurd ((h b).2 (by simp)) (by simp)
  | a :: l, [], _, _, h => absurd ((h a).1 (by simp)) (by simp)
  | a :: l, b :: m, h1, h2, h => by
    unfold Up at *
    rw [List.pairwise_cons] at h1 h2
    have hab : a = b := by
      have p1 := (h a).1 (by simp)
      have p2 := (h b).2 (by simp)
      rcases List.mem_cons.1 p1 with e | p1
      · exact e
      · rcases List.mem_cons.1 p2 with e | p2
        · exact e.symm
        · have := h1.1 _ p2; have := h2.1 _ p1; omega
    subst hab
    congr 1
    refine Up.ext h1.2 h2.2 fun x => ⟨fun hx => ?_, fun hx => ?_⟩
    · rcases List.mem_cons.1 ((h x).1 (by simp [hx])) with e | p
      · have := h1.1 _ hx; omega
      · exact p
    · rcases List.mem_cons.1 ((h x).2 (by simp [hx])) with e | p
      · have := h2.1 _ hx; omega
      · exact p
theorem setF_length (l : List Int) : (setF l).length ≤ l.length := by
  unfold setF
  exact Nat.le_trans (cut_length _ _) (Nat.le_of_eq (srt_length l))
theorem filter_up {l : List Int} (h : Up l) (p : Int → Bool) : Up (l.filter p) := h.filter p
theorem setF_up_eq {l : List Int} (h : Up l) : setF l = l := (setF_up l).ext h fun x => setF_mem l x
end Go.Proofs.YtkjfdaleamonaaaGreat
/- Plain laws: a word's parent, its size; the first fault of a list; groups by parents; the words of children. -/
namespace Go.Proofs.YtkjfdaleamonaaaGreat
open Go.RowKit Go.Lib Wd

/-- A word's parent, and the error; a word's size. -/
def parW (w : Nat) : Nat := if isW w = true ∧ rW w ≠ 0 then ofW ((rW w : Int) - 1) (upE (zW w)) else 0
def parE (w : Nat) : Int := if isW w = true then (if rW w = 0 then 3 else 0) else 5
def resW (w : Nat) : Int := if isW w = true then (rW w : Int) else -1
/-- The first fault of a list. -/
def chkF (r : Int) : List Int → Int
  | [] => 0
  | w :: l => if isW w.toNat = true then (if (rW w.toNat : Int) = r then chkF r l else 8) else 5
/-- Words by their parents: one step, all. -/
structure Gs where
  out : List (List Int)
  last : Int
  has : Bool
def gStep (s : Gs) (w : Int) : Gs :=
  if parE w.toNat = 5 then s
  else if parE w.toNat = 0 ∧ s.has = true ∧ (parW w.toNat : Int) = s.last then ⟨s.out.dropLast ++ [(s.out.getLast?.getD []) ++ [w]], s.last, s.has⟩
  else ⟨s.out ++ [[w]], parW w.toNat, decide (parE w.toNat = 0)⟩
def gAll (l : List Int) : Gs := l.foldl gStep ⟨[], 0, false⟩
def grpF (l : List Int) : List (List Int) := (gAll (setF l)).out
theorem gAll_snoc (l : List Int) (w : Int) : gAll (l ++ [w]) = gStep (gAll l) w := by unfold gAll; rw [List.foldl_append]; rfl
theorem snoc_ind {α : Type} {P : List α → Prop} (h0 : P []) (h1 : ∀ l a, P l → P (l ++ [a])) : ∀ l, P l := by
  intro l
  have : ∀ r : List α, P r.reverse := by
    intro r
    induction r with
    | nil => exact h0
    | cons a r ih => rw [List.reverse_cons]; exact h1 _ _ ih
  have := this l.reverse
  rwa [List.reverse_reverse] at this
/-- Whatever has a parent told stands in a group. -/
theorem gAll_has (l : List Int) : (gAll l).has = true → (gAll l).out ≠ [] := by
  induction l using snoc_ind with
  | h0 => intro h; cases h
  | h1 l w ih =>
    rw [gAll_snoc]
    unfold gStep
    split
    · exact ih
    · split <;> (intro _; simp)
theorem up_ok {r : Nat} {z : E2} (h : okB (r + 1 : Nat) z = true) : okB r (upE z) = true := by
  obtain ⟨h1, h2⟩ := okB_parts h
  refine ok_of_base (by omega) ?_
  exact h2
theorem parW_lt (w : Nat) : parW w < 18446744073709551616 := by
  unfold parW
  split
  · next h =>
    unfold ofW
    split
    · next h2 =>
      obtain ⟨k, hk, hk2⟩ := okB_nat h2
      rw [hk] at h2
      have := (wordN_lt h2).1
      rw [hk, Int.toNat_natCast]
      omega
    · omega
  · omega
end Go.Proofs.YtkjfdaleamonaaaGreat
/- Contracts of cell.step, cell.Parent, ident.Parent, ident.Res. -/
namespace Go.Proofs.YtkjfdaleamonaaaGreat
open Go.RowKit Go.Lib Wd

/-- Two new blocks: a cell that is handed in, a cell that is to be told. -/
theorem two_new (w : World) (r : Int) (z : E2) :
    Hid (Tri ((w.alloc (.cells #[.int .i64 r, .int .i64 z.1, .int .i64 z.2] 32)).alloc (.cells #[.int .i64 0, .int .i64 0, .int .i64 0] 32)) w.heap.size r z) ∧ Hid (Tri ((w.alloc (.cells #[.int .i64 r, .int .i64 z.1, .int .i64 z.2] 32)).alloc (.cells #[.int .i64 0, .int .i64 0, .int .i64 0] 32)) (w.heap.size + 1) 0 (0, 0)) ∧ Hid (Below w.heap.size w ((w.alloc (.cells #[.int .i64 r, .int .i64 z.1, .int .i64 z.2] 32)).alloc (.cells #[.int .i64 0, .int .i64 0, .int .i64 0] 32))) := by
  refine ⟨?_, heap_new _ _ _ (by simp), ((Below.refl _ _).alloc (Nat.le_refl _) _).alloc (by simp) _⟩
  show _ = _
  rw [Below.heap_alloc _ _ _ (by simp)]
  exact heap_new _ _ _ rfl
theorem below3 {B : Nat} {w w1 : World} (h : Below B w w1) {g : Nat} (hg : B ≤ g) (a b c : Value) : Below B w (((w1.setCell ⟨g, 0, none⟩ a).setCell ⟨g, 1, none⟩ b).setCell ⟨g, 2, none⟩ c) :=
  ((h.setCell (p := ⟨g, 0, none⟩) hg _).setCell (p := ⟨g, 1, none⟩) hg _).setCell (p := ⟨g, 2, none⟩) hg _
set_option maxRecDepth 100000 in
set_option maxHeartbeats 4000000 in
theorem step_in (r : Int) (z : E2) (hz : Sm 1073741824 z) (hr : 0 ≤ r) (hr2 : r ≤ 12) (w : World) : Calls Tryz.prog 93 #[vC r z] w fun e w' => e = .returned (vC (r - 1) (upE z)) ∧ Below w.heap.size w w' := by
  have HS := Lib.hid (split_in z (hz.mono (by decide)))
  obtain ⟨T0, G0, B0⟩ := two_new w r z
  generalize upE z = p at *
  generalize leftE (digE z) = l at *
  simp only [vC, vE] at *
  clear hz
  go_enter Tryz.func93, Tryz.ntmps93
  go_upto_region 1 with (fail)
  generalize (w.alloc (.cells #[.int .i64 r, .int .i64 z.1, .int .i64 z.2] 32)).alloc (.cells #[.int .i64 0, .int .i64 0, .int .i64 0] 32) = w0 at *
  obtain ⟨t0, t1, t2, t3, t4, t5, t6⟩ := T0.out.cells
  go_wp2_with fail
  refine (HS.out _).mono ?_
  rintro e w1 ⟨rfl, hb1⟩
  have hal : Below w1.heap.size w1 ((w1.alloc (.cells #[.int .i64 p.1, .int .i64 p.2] 30)).alloc (.cells #[.int .i64 l.1, .int .i64 l.2] 30)) := ((Below.refl _ _).alloc (Nat.le_refl _) _).alloc (by simp) _
  have P0 : Two ((w1.alloc (.cells #[.int .i64 p.1, .int .i64 p.2] 30)).alloc (.cells #[.int .i64 l.1, .int .i64 l.2] 30)) w1.heap.size (.int .i64 p.1) (.int .i64 p.2) := Two.alloc (Two.of_row (t := 30) (f := _) (heap_new _ _ _ rfl)) (by simp) _
  have hb2 := hb1.trans (hal.mono hb1.size)
  have B1 := Lib.hid (B0.out.trans (hb2.mono B0.out.size))
  obtain ⟨p0, p1⟩ := P0
  have T1 := Lib.hid (T0.out.later hb2)
  have G1 := Lib.hid (G0.out.later hb2)
  clear hal hb1 hb2 t0 t1 t2 t3 t4 t5 t6 T0 G0 B0
  go_upto_region 2 with (fail)
  generalize (w1.alloc (.cells #[.int .i64 p.1, .int .i64 p.2] 30)).alloc (.cells #[.int .i64 l.1, .int .i64 l.2] 30) = w2 at *
  obtain ⟨t0, t1, t2, t3, t4, t5, t6⟩ := T1.out.cells
  obtain ⟨g0, g1, g2, g3, g4, g5, g6⟩ := G1.out.cells
  have q : IntKind.i64.wrap (r - 1) = r - 1 := wrap_in (by omega) (by omega)
  go_wp2
  exact bodyPost_ret (v := .agg #[.int .i64 (r - 1), .int .i64 p.1, .int .i64 p.2]) (by simp [results, Tryz.results93, go_sem, *]) rfl ⟨rfl, below3 B1.out (by omega) _ _ _⟩
/-- A cell's parent, as told. -/
def cpE (r : Int) (z : E2) : Int := if okB r z = true then (if r = 0 then 3 else 0) else 2
set_option maxRecDepth 100000 in
set_option maxHeartbeats 4000000 in
theorem cpar_any (r : Int) (z : E2) (w : World) : Calls Tryz.prog 61 #[vC r z] w fun e w' => e = .returned (.tuple #[vC (if cpE r z = 0 then r - 1 else 0) (if cpE r z = 0 then upE z else (0, 0)), .int .i64 (cpE r z)]) ∧ Below w.heap.size w w' := by
  have HOK := Lib.hid (ok_any r z)
  obtain ⟨T0, G0, B0⟩ := two_new w r z
  by_cases h : okB r z = true
  · obtain ⟨r0, r12, hsm⟩ := ok_parts h
    rw [h] at HOK
    by_cases hr : r = 0
    · have hE : cpE r z = 3 := by unfold cpE; rw [if_pos h, if_pos hr]
      rw [hE, if_neg (by decide), if_neg (by decide)]
      subst hr
      clear hE h hsm
      simp only [vC] at *
      go_enter Tryz.func61, Tryz.ntmps61
      go_upto_region 1 with (fail)
      generalize (w.alloc (.cells #[.int .i64 0, .int .i64 z.1, .int .i64 z.2] 32)).alloc (.cells #[.int .i64 0, .int .i64 0, .int .i64 0] 32) = w0 at *
      obtain ⟨t0, t1, t2, t3, t4, t5, t6⟩ := T0.out.cells
      go_wp2_with fail
      refine (HOK.out _).mono ?_
      rintro e w1 ⟨rfl, hb1⟩
      have B1 := Lib.hid (B0.out.trans (hb1.mono B0.out.size))
      have T1 := Lib.hid (T0.out.later hb1)
      have G1 := Lib.hid (G0.out.later hb1)
      clear hb1 t0 t1 t2 t3 t4 t5 t6 T0 G0 B0
      obtain ⟨t0, t1, t2, t3, t4, t5, t6⟩ := T1.out.cells
      obtain ⟨g0, g1, g2, g3, g4, g5, g6⟩ := G1.out.cells
      go_wp2
      exact bodyPost_ret (v := .tuple #[.agg #[.int .i64 0, .int .i64 0, .int .i64 0], .int .i64 3]) (by simp [results, Tryz.results61, go_sem, *]) rfl ⟨rfl, below3 B1.out (by omega) _ _ _⟩
    · have hE : cpE r z = 0 := by unfold cpE; rw [if_pos h, if_neg hr]
      rw [hE, if_pos rfl, if_pos rfl]
      have HST := Lib.hid (step_in r z hsm r0 r12)
      have q1 : (r == 0) = false := by simp [hr]
      generalize upE z = p at *
      clear hE h hsm hr
      simp only [vC] at *
      go_enter Tryz.func61, Tryz.ntmps61
      go_upto_region 1 with (fail)
      generalize (w.alloc (.cells #[.int .i64 r, .int .i64 z.1, .int .i64 z.2] 32)).alloc (.cells #[.int .i64 0, .int .i64 0, .int .i64 0] 32) = w0 at *
      obtain ⟨t0, t1, t2, t3, t4, t5, t6⟩ := T0.out.cells
      go_wp2_with fail
      refine (HOK.out _).mono ?_
      rintro e w1 ⟨rfl, hb1⟩
      have B1 := Lib.hid (B0.out.trans (hb1.mono B0.out.size))
      have T1 := Lib.hid (T0.out.later hb1)
      have G1 := Lib.hid (G0.out.later hb1)
      clear hb1 t0 t1 t2 t3 t4 t5 t6 T0 G0 B0
      obtain ⟨t0, t1, t2, t3, t4, t5, t6⟩ := T1.out.cells
      go_wp2_with fail
      refine (HST.out _).mono ?_
      rintro e w2 ⟨rfl, hb2⟩
      have B2 := Lib.hid (B1.out.trans (hb2.mono B1.out.size))
      obtain ⟨g0, g1, g2, g3, g4, g5, g6⟩ := (G1.out.later hb2).cells
      clear hb2 t0 t1 t2 t3 t4 t5 t6 T1 G1 B1
      go_wp2
      exact bodyPost_ret (v := .tuple #[.agg #[.int .i64 (r - 1), .int .i64 p.1, .int .i64 p.2], .int .i64 0]) (by simp [results, Tryz.results61, go_sem, *]) rfl ⟨rfl, below3 B2.out (by omega) _ _ _⟩
  · have hE : cpE r z = 2 := by unfold cpE; rw [if_neg h]
    rw [hE, if_neg (by decide), if_neg (by decide)]
    rw [Bool.eq_false_iff.2 h] at HOK
    clear hE h
    simp only [vC] at *
    go_enter Tryz.func61, Tryz.ntmps61
    go_upto_region 1 with (fail)
    generalize (w.alloc (.cells #[.int .i64 r, .int .i64 z.1, .int .i64 z.2] 32)).alloc (.cells #[.int .i64 0, .int .i64 0, .int .i64 0] 32) = w0 at *
    obtain ⟨t0, t1, t2, t3, t4, t5, t6⟩ := T0.out.cells
    go_wp2_with fail
    refine (HOK.out _).mono ?_
    rintro e w1 ⟨rfl, hb1⟩
    have B1 := Lib.hid (B0.out.trans (hb1.mono B0.out.size))
    have G1 := Lib.hid (G0.out.later hb1)
    clear hb1 t0 t1 t2 t3 t4 t5 t6 T0 G0 B0
    obtain ⟨g0, g1, g2, g3, g4, g5, g6⟩ := G1.out.cells
    go_wp2
    exact bodyPost_ret (v := .tuple #[.agg #[.int .i64 0, .int .i64 0, .int .i64 0], .int .i64 2]) (by simp [results, Tryz.results61, go_sem, *]) rfl ⟨rfl, below3 B1.out (by omega) _ _ _⟩
/-- What a word's cell and its parent are. -/
theorem par_cases (w0 : Nat) : (cvE w0 = 5 ∧ parE w0 = 5 ∧ parW w0 = 0) ∨ (cvE w0 = 0 ∧ cpE (cvR w0) (cvZ w0) = 3 ∧ parE w0 = 3 ∧ parW w0 = 0) ∨ (cvE w0 = 0 ∧ cpE (cvR w0) (cvZ w0) = 0 ∧ parE w0 = 0 ∧ ofW (cvR w0 - 1) (upE (cvZ w0)) = parW w0 ∧ ofE (cvR w0 - 1) (upE (cvZ w0)) = 0) := by
  unfold cvE cvR cvZ parE parW cpE
  by_cases h : isW w0 = true
  · right
    have ho := (cell_word h).1
    have hr := ((isW_iff w0).1 h).2.1
    rw [if_pos h, if_pos h, if_pos h, if_pos h, if_pos ho]
    by_cases h0 : rW w0 = 0
    · left
      rw [if_pos (by omega), if_pos h0, if_neg (by omega)]
      exact ⟨rfl, rfl, rfl, rfl⟩
    · right
      rw [if_neg (by omega), if_neg h0, if_pos ⟨h, h0⟩]
      refine ⟨rfl, rfl, rfl, rfl, ?_⟩
      obtain ⟨k, hk⟩ : ∃ k, rW w0 = k + 1 := ⟨rW w0 - 1, by omega⟩
      rw [hk] at ho ⊢
      rw [show ((k + 1 : Nat) : Int) - 1 = (k : Int) by omega]
      exact (ofW_ok (up_ok ho)).2.1
  · left
    rw [if_neg h, if_neg h, if_neg (fun h2 => h h2.1)]
    exact ⟨rfl, rfl, rfl⟩
set_option maxRecDepth 100000 in
set_option maxHeartbeats 4000000 in
theorem ipar_any (w0 : Nat) (hw : w0 < 18446744073709551616) (w : World) : Calls Tryz.prog 49 #[.int .u64 w0] w fun e w' => e = .returned (.tuple #[.int .u64 (parW w0 : Nat), .int .i64 (parE w0)]) ∧ Below w.heap.size w w' := by
  have HC := Lib.hid (cell_any w0 hw)
  have HP := Lib.hid (cpar_any (cvR w0) (cvZ w0))
  have HO := Lib.hid (of_any (cvR w0 - 1) (upE (cvZ w0)))
  rcases par_cases w0 with ⟨e1, e2, e3⟩ | ⟨e1, e2, e3, e4⟩ | ⟨e1, e2, e3, e4, e5⟩
  · rw [e2, e3]
    rw [e1] at HC
    generalize cvR w0 = r at *
    generalize cvZ w0 = z at *
    clear e1 e2 e3 HP HO
    simp only [vC] at *
    go_enter Tryz.func49, Tryz.ntmps49
    go_wp2_with fail
    refine (HC.out _).mono ?_
    rintro e w1 ⟨rfl, hb1⟩
    have B1 : Hid (Below w.heap.size w (w1.alloc (.cells #[.int .i64 r, .int .i64 z.1, .int .i64 z.2] 32))) := hb1.alloc hb1.size _
    clear hb1
    go_wp2
    go_ret2
    exact ⟨rfl, B1.out⟩
  · rw [e3, e4]
    rw [e1] at HC
    rw [e2, if_neg (by decide), if_neg (by decide)] at HP
    generalize cvR w0 = r at *
    generalize cvZ w0 = z at *
    clear e1 e2 e3 e4 HO
    simp only [vC] at *
    go_enter Tryz.func49, Tryz.ntmps49
    go_wp2_with fail
    refine (HC.out _).mono ?_
    rintro e w1 ⟨rfl, hb1⟩
    have B1 : Hid (Below w.heap.size w (w1.alloc (.cells #[.int .i64 r, .int .i64 z.1, .int .i64 z.2] 32))) := hb1.alloc hb1.size _
    have T1 : Hid (Tri (w1.alloc (.cells #[.int .i64 r, .int .i64 z.1, .int .i64 z.2] 32)) w1.heap.size r z) := heap_new _ _ _ rfl
    clear hb1
    go_upto_region 2 with (fail)
    generalize w1.alloc (.cells #[.int .i64 r, .int .i64 z.1, .int .i64 z.2] 32) = w2 at *
    obtain ⟨t0, t1, t2, t3, t4, t5, t6⟩ := T1.out.cells
    go_wp2_with fail
    refine (HP.out _).mono ?_
    rintro e w3 ⟨rfl, hb3⟩
    have B3 : Hid (Below w.heap.size w (w3.alloc (.cells #[.int .i64 0, .int .i64 0, .int .i64 0] 32))) := (B1.out.trans (hb3.mono B1.out.size)).alloc (Nat.le_trans B1.out.size hb3.size) _
    clear hb3 t0 t1 t2 t3 t4 t5 t6
    go_wp2
    go_ret2
    exact ⟨rfl, B3.out⟩
  · rw [e3]
    rw [e1] at HC
    rw [e2, if_pos rfl, if_pos rfl] at HP
    rw [e4, e5] at HO
    generalize parW w0 = v at *
    generalize cvR w0 = r at *
    generalize cvZ w0 = z at *
    generalize upE z = p at *
    clear e1 e2 e3 e4 e5
    simp only [vC] at *
    go_enter Tryz.func49, Tryz.ntmps49
    go_wp2_with fail
    refine (HC.out _).mono ?_
    rintro e w1 ⟨rfl, hb1⟩
    have B1 : Hid (Below w.heap.size w (w1.alloc (.cells #[.int .i64 r, .int .i64 z.1, .int .i64 z.2] 32))) := hb1.alloc hb1.size _
    have T1 : Hid (Tri (w1.alloc (.cells #[.int .i64 r, .int .i64 z.1, .int .i64 z.2] 32)) w1.heap.size r z) := heap_new _ _ _ rfl
    clear hb1
    go_upto_region 2 with (fail)
    generalize w1.alloc (.cells #[.int .i64 r, .int .i64 z.1, .int .i64 z.2] 32) = w2 at *
    obtain ⟨t0, t1, t2, t3, t4, t5, t6⟩ := T1.out.cells
    go_wp2_with fail
    refine (HP.out _).mono ?_
    rintro e w3 ⟨rfl, hb3⟩
    have B3 : Hid (Below w.heap.size w (w3.alloc (.cells #[.int .i64 (r - 1), .int .i64 p.1, .int .i64 p.2] 32))) := (B1.out.trans (hb3.mono B1.out.size)).alloc (Nat.le_trans B1.out.size hb3.size) _
    have T3 : Hid (Tri (w3.alloc (.cells #[.int .i64 (r - 1), .int .i64 p.1, .int .i64 p.2] 32)) w3.heap.size (r - 1) p) := heap_new _ _ _ rfl
    clear hb3 t0 t1 t2 t3 t4 t5 t6 T1 B1
    go_upto_region 5 with (fail)
    generalize w3.alloc (.cells #[.int .i64 (r - 1), .int .i64 p.1, .int .i64 p.2] 32) = w4 at *
    obtain ⟨t0, t1, t2, t3, t4, t5, t6⟩ := T3.out.cells
    go_wp2_with fail
    refine (HO.out _).mono ?_
    rintro e w5 ⟨rfl, hb5⟩
    have B5 := Lib.hid (B3.out.trans (hb5.mono B3.out.size))
    clear hb5
    go_wp2
    go_ret2
    exact ⟨rfl, B5.out⟩
set_option maxRecDepth 100000 in
set_option maxHeartbeats 4000000 in
theorem ires_any (w0 : Nat) (hw : w0 < 18446744073709551616) (w : World) : Calls Tryz.prog 48 #[.int .u64 w0] w fun e w' => e = .returned (.int .i64 (resW w0)) ∧ Below w.heap.size w w' := by
  have HC := Lib.hid (cell_any w0 hw)
  have HR : (cvE w0 = 0 ∧ resW w0 = cvR w0) ∨ (cvE w0 = 5 ∧ resW w0 = -1) := by
    unfold cvE resW cvR
    by_cases h : isW w0 = true
    · exact .inl ⟨by rw [if_pos h], by rw [if_pos h, if_pos h]⟩
    · exact .inr ⟨by rw [if_neg h], by rw [if_neg h]⟩
  rcases HR with ⟨e1, e2⟩ | ⟨e1, e2⟩
  all_goals
    rw [e2]
    rw [e1] at HC
    generalize cvR w0 = r at *
    generalize cvZ w0 = z at *
    clear e1 e2
    simp only [vC] at *
    go_enter Tryz.func48, Tryz.ntmps48
    go_wp2_with fail
    refine (HC.out _).mono ?_
    rintro e w1 ⟨rfl, hb1⟩
    have B1 : Hid (Below w.heap.size w (w1.alloc (.cells #[.int .i64 r, .int .i64 z.1, .int .i64 z.2] 32))) := hb1.alloc hb1.size _
    have T1 : Hid (Tri (w1.alloc (.cells #[.int .i64 r, .int .i64 z.1, .int .i64 z.2] 32)) w1.heap.size r z) := heap_new _ _ _ rfl
    clear hb1
    go_upto_region 2 with (fail)
    generalize w1.alloc (.cells #[.int .i64 r, .int .i64 z.1, .int .i64 z.2] 32) = w2 at *
    obtain ⟨t0, t1, t2, t3, t4, t5, t6⟩ := T1.out.cells
    go_wp2
    go_ret
    exact ⟨rfl, B1.out⟩
end Go.Proofs.YtkjfdaleamonaaaGreat
/- Plain laws: the words of a cell's children; all children of some cells, by their parents. -/
namespace Go.Proofs.YtkjfdaleamonaaaGreat
open Go.RowKit Go.Lib Wd

theorem hd_sevens {f : Nat → Nat} {r : Nat} (h : ∀ k, r < k → f k = 7) (j : Nat) : hd f (r + j) + 1 = 8 ^ j * (hd f r + 1) := by
  induction j with
  | zero => simp
  | succ j ih =>
    show hd f (r + j) * 8 + f (r + j + 1) + 1 = _
    rw [h _ (by omega), Nat.pow_succ, Nat.mul_comm (8 ^ j) 8, Nat.mul_assoc, ← ih]
    omega
theorem hd_one {f g : Nat → Nat} {m : Nat} (h : ∀ k, k ≠ m + 1 → f k = g k) (j : Nat) : hd f (m + 1 + j) + g (m + 1) * 8 ^ j = hd g (m + 1 + j) + f (m + 1) * 8 ^ j := by
  induction j with
  | zero =>
    show hd f m * 8 + f (m + 1) + g (m + 1) * 8 ^ 0 = hd g m * 8 + g (m + 1) + f (m + 1) * 8 ^ 0
    have : hd f m = hd g m := hd_congr fun k _ hk => h k (by omega)
    rw [this]
    omega
  | succ j ih =>
    show hd f (m + 1 + j) * 8 + f (m + 1 + j + 1) + g (m + 1) * 8 ^ (j + 1) = hd g (m + 1 + j) * 8 + g (m + 1 + j + 1) + f (m + 1) * 8 ^ (j + 1)
    rw [h (m + 1 + j + 1) (by omega), Nat.pow_succ, ← Nat.mul_assoc, ← Nat.mul_assoc]
    omega
/-- A child's word. -/
theorem word_kid {r : Nat} {z : E2} (hr : r + 1 ≤ 12) {d : Nat} (hd' : d < 7) : wordN (r + 1) (downE z d) + (7 - d) * 8 ^ (11 - r) = wordN r z + 72057594037927936 := by
  have hu : ∀ k, upN (k + 1) (downE z d) = upN k z := fun k => by
    show upN k (upE (downE z d)) = _
    rw [upE_down z hd']
  have h1 := hd_one (f := dgt (r + 1) (downE z d)) (g := dgt r z) (m := r) (fun k hk => by
    unfold dgt
    by_cases hkr : k ≤ r
    · rw [if_pos (by omega), if_pos hkr, show r + 1 - k = r - k + 1 by omega, hu]
    · rw [if_neg (by omega), if_neg hkr]) (11 - r)
  have e1 : dgt (r + 1) (downE z d) (r + 1) = d := by
    unfold dgt
    rw [if_pos (Nat.le_refl _), Nat.sub_self]
    exact digE_down z hd'
  have e2 : dgt r z (r + 1) = 7 := by
    unfold dgt
    rw [if_neg (by omega)]
  rw [e1, e2, show r + 1 + (11 - r) = 12 by omega] at h1
  unfold wordN topN
  rw [hu r]
  have e3 : (7 - d) * 8 ^ (11 - r) + d * 8 ^ (11 - r) = 7 * 8 ^ (11 - r) := by rw [← Nat.add_mul, show 7 - d + d = 7 by omega]
  omega
/-- A word and one is so many eighths. -/
theorem word_mul {r : Nat} (hr : r ≤ 12) (z : E2) : ∃ A, wordN r z + 1 = 8 ^ (12 - r) * A := by
  have h1 := hd_sevens (f := dgt r z) (r := r) (fun k hk => by unfold dgt; rw [if_neg (by omega)]) (12 - r)
  rw [show r + (12 - r) = 12 by omega] at h1
  refine ⟨8 ^ r * (16777216 + r * 1048576 + ((upN r z).1 + 512).toNat * 1024 + ((upN r z).2 + 512).toNat) + (hd (dgt r z) r + 1), ?_⟩
  unfold wordN topN
  rw [Nat.mul_add, ← h1, ← Nat.mul_assoc, ← Nat.pow_add, show 12 - r + r = 12 by omega, show (8 : Nat) ^ 12 = 68719476736 by decide]
  omega
/-- The words of a cell's children, from its word. -/
def kidsW (r : Nat) (W : Int) : List Int := (List.range 7).map fun d => W + 72057594037927936 - ((7 - d : Nat) : Int) * ((8 ^ (11 - r) : Nat) : Int)
/-- Words of cells of one size. -/
def Sized (r : Nat) (l : List Int) : Prop := ∀ W ∈ l, ∃ z, okB r z = true ∧ W = (wordN r z : Int)
theorem kidsW_get {r : Nat} {z : E2} (hr : r + 1 ≤ 12) {d : Nat} (hd : d < 7) : (kidsW r (wordN r z)).getD d 0 = (wordN (r + 1) (downE z d) : Int) := by
  have h := word_kid (z := z) hr hd
  unfold kidsW
  rw [List.getD_eq_getElem?_getD, List.getElem?_map, List.getElem?_range hd]
  show (wordN r z : Int) + 72057594037927936 - ((7 - d : Nat) : Int) * ((8 ^ (11 - r) : Nat) : Int) = _
  rw [← Int.natCast_mul]
  omega
theorem kidsW_mem {r : Nat} {z : E2} (hr : r + 1 ≤ 12) (v : Int) : v ∈ kidsW r (wordN r z) ↔ ∃ d, d < 7 ∧ v = (wordN (r + 1) (downE z d) : Int) := by
  unfold kidsW
  rw [List.mem_map]
  constructor
  · rintro ⟨d, hd, rfl⟩
    have hd := List.mem_range.1 hd
    have h := word_kid (z := z) hr hd
    refine ⟨d, hd, ?_⟩
    rw [← Int.natCast_mul]
    omega
  · rintro ⟨d, hd, rfl⟩
    have h := word_kid (z := z) hr hd
    refine ⟨d, List.mem_range.2 hd, ?_⟩
    rw [← Int.natCast_mul]
    omega
theorem kids_apart {r : Nat} (hr : r + 1 ≤ 12) {y z : E2} (h : wordN r y < wordN r z) {d e : Nat} (hd : d < 7) (he : e < 7) : wordN (r + 1) (downE y d) < wordN (r + 1) (downE z e) := by
  obtain ⟨A, hA⟩ := word_mul (show r ≤ 12 by omega) y
  obtain ⟨B, hB⟩ := word_mul (show r ≤ 12 by omega) z
  have h1 := word_kid (z := y) hr hd
  have h2 := word_kid (z := z) hr he
  have e8 : (8 : Nat) ^ (12 - r) = 8 ^ (11 - r) * 8 := by rw [← Nat.pow_succ, show (11 - r).succ = 12 - r by omega]
  have hu : 0 < (8 : Nat) ^ (11 - r) := Nat.pow_pos (by decide)
  rw [e8] at hA hB
  generalize (8 : Nat) ^ (11 - r) = u at *
  have hAB : A < B := by
    rcases Nat.lt_or_ge A B with h' | h'
    · exact h'
    · have := Nat.mul_le_mul_left (u * 8) h'; omega
  have h3 := Nat.mul_le_mul_left (u * 8) (show A + 1 ≤ B from hAB)
  rw [Nat.mul_add, Nat.mul_one] at h3
  have h4 : (7 - d) * u ≤ 7 * u := Nat.mul_le_mul_right u (by omega)
  have h5 : (7 - e) * u ≤ 7 * u := Nat.mul_le_mul_right u (by omega)
  omega
theorem kids_up {r : Nat} (_hr : r + 1 ≤ 12) (z : E2) : Up (kidsW r (wordN r z)) := by
  unfold kidsW
  refine List.pairwise_map.2 ((List.pairwise_lt_range (n := 7)).imp_of_mem fun {a b} ha hb hab => ?_)
  have ha := List.mem_range.1 ha
  have hb := List.mem_range.1 hb
  have hu : 0 < (8 : Nat) ^ (11 - r) := Nat.pow_pos (by decide)
  have : (7 - b) * 8 ^ (11 - r) + 8 ^ (11 - r) ≤ (7 - a) * 8 ^ (11 - r) := by
    rw [← Nat.succ_mul]; exact Nat.mul_le_mul_right _ (by omega)
  rw [← Int.natCast_mul, ← Int.natCast_mul]
  omega
theorem all_up {r : Nat} (hr : r + 1 ≤ 12) : ∀ {S : List Int}, Up S → Sized r S → Up (S.flatMap (kidsW r))
  | [], _, _ => List.Pairwise.nil
  | W :: S, h, hs => by
    obtain ⟨h1, h2⟩ := List.pairwise_cons.1 h
    obtain ⟨z, hz, rfl⟩ := hs W (List.mem_cons_self)
    rw [List.flatMap_cons]
    refine List.pairwise_append.2 ⟨kids_up hr z, all_up hr h2 fun V hV => hs V (List.mem_cons_of_mem _ hV), fun a ha b hb => ?_⟩
    obtain ⟨V, hV, hb⟩ := List.mem_flatMap.1 hb
    obtain ⟨y, hy, rfl⟩ := hs V (List.mem_cons_of_mem _ hV)
    obtain ⟨d, hd, rfl⟩ := (kidsW_mem hr a).1 ha
    obtain ⟨e, he, rfl⟩ := (kidsW_mem hr b).1 hb
    have := kids_apart hr (show wordN r z < wordN r y by have := h1 _ hV; omega) hd he
    omega
/-- All children, set. -/
theorem setF_kids {r : Nat} (hr : r + 1 ≤ 12) {l K : List Int} (hs : Sized r l) (hK : ∀ v, v ∈ K ↔ ∃ W ∈ l, v ∈ kidsW r W) : setF K = (setF l).flatMap (kidsW r) := by
  refine (setF_up K).ext (all_up hr (setF_up l) fun W hW => hs W ((setF_mem l W).1 hW)) fun v => ?_
  rw [setF_mem, hK, List.mem_flatMap]
  constructor
  · rintro ⟨W, h1, h2⟩; exact ⟨W, (setF_mem l W).2 h1, h2⟩
  · rintro ⟨W, h1, h2⟩; exact ⟨W, (setF_mem l W).1 h1, h2⟩
theorem par_kid {r : Nat} (hr : r + 1 ≤ 12) {z : E2} (hz : okB r z = true) {d : Nat} (hd : d < 7) : parE (wordN (r + 1) (downE z d)) = 0 ∧ parW (wordN (r + 1) (downE z d)) = wordN r z := by
  have hk := kid_ok hz hr hd
  obtain ⟨a1, a2, a3⟩ := word_cell hk
  refine ⟨by unfold parE; rw [if_pos a1, if_neg (by omega)], ?_⟩
  unfold parW
  rw [if_pos ⟨a1, by omega⟩, a2, a3, upE_down z hd, show ((r + 1 : Nat) : Int) - 1 = (r : Int) by omega, (ofW_ok hz).1]
/-- One cell's children more. -/
theorem gAll_kids {r : Nat} (hr : r + 1 ≤ 12) {z : E2} (hz : okB r z = true) {l : List Int} {o : List (List Int)} {p : Int} {b : Bool} (h : gAll l = ⟨o, p, b⟩) (hn : b = true → p ≠ (wordN r z : Int)) :
    gAll (l ++ kidsW r (wordN r z)) = ⟨o ++ [kidsW r (wordN r z)], (wordN r z : Int), true⟩ := by
  have step : ∀ n, n < 7 → gAll (l ++ (kidsW r (wordN r z)).take (n + 1)) = ⟨o ++ [(kidsW r (wordN r z)).take (n + 1)], (wordN r z : Int), true⟩ := by
    intro n
    have hL : (kidsW r (wordN r z)).length = 7 := by unfold kidsW; simp
    induction n with
    | zero =>
      intro _
      obtain ⟨e1, e2⟩ := par_kid hr hz (show 0 < 7 by omega)
      have e3 := kidsW_get (z := z) hr (show 0 < 7 by omega)
      rw [take_w _ (by omega), e3]
      show gAll (l ++ ([] ++ [_])) = ⟨o ++ [[] ++ [_]], _, _⟩
      rw [List.nil_append, gAll_snoc, h]
      unfold gStep
      rw [Int.toNat_natCast, e1, e2, if_neg (by decide), if_neg (fun h3 => hn h3.2.1 h3.2.2.symm)]
      rfl
    | succ n ih =>
      intro hn7
      obtain ⟨e1, e2⟩ := par_kid hr hz (show n + 1 < 7 by omega)
      have e3 := kidsW_get (z := z) hr (show n + 1 < 7 by omega)
      rw [take_w _ (by omega), e3, ← List.append_assoc, gAll_snoc, ih (by omega)]
      unfold gStep
      rw [Int.toNat_natCast, e1, e2, if_neg (by decide), if_pos ⟨rfl, rfl, rfl⟩]
      simp
  have := step 6 (by omega)
  rwa [List.take_of_length_le (by unfold kidsW; simp)] at this
theorem gAll_all {r : Nat} (hr : r + 1 ≤ 12) (S : List Int) (hu : S.Nodup) (hs : Sized r S) : (gAll (S.flatMap (kidsW r))).out = S.map (kidsW r) ∧ ((gAll (S.flatMap (kidsW r))).has = true → (gAll (S.flatMap (kidsW r))).last ∈ S) := by
  induction S using snoc_ind with
  | h0 => exact ⟨rfl, fun h => by cases h⟩
  | h1 S W ih =>
    obtain ⟨h1, h2⟩ := ih (List.nodup_append.1 hu).1 fun V hV => hs V (List.mem_append_left _ hV)
    obtain ⟨z, hz, rfl⟩ := hs W (List.mem_append_right _ (List.mem_singleton.2 rfl))
    have hW : (wordN r z : Int) ∉ S := fun h => (List.nodup_append.1 hu).2.2 _ h _ (List.mem_singleton.2 rfl) rfl
    rw [List.flatMap_append, show [(wordN r z : Int)].flatMap (kidsW r) = kidsW r (wordN r z) by simp]
    rw [gAll_kids hr hz (o := (gAll (S.flatMap (kidsW r))).out) (p := (gAll (S.flatMap (kidsW r))).last) (b := (gAll (S.flatMap (kidsW r))).has) rfl (fun h e => hW (by rw [← e]; exact h2 h)), h1]
    exact ⟨by simp, fun _ => by simp⟩
theorem grp_kids {r : Nat} (hr : r + 1 ≤ 12) {l K : List Int} (hs : Sized r l) (hK : ∀ v, v ∈ K ↔ ∃ W ∈ l, v ∈ kidsW r W) : grpF K = (setF l).map (kidsW r) := by
  unfold grpF
  rw [setF_kids hr hs hK]
  refine (gAll_all hr _ ?_ fun W hW => hs W ((setF_mem l W).1 hW)).1
  rw [List.nodup_iff_pairwise_ne]
  exact (setF_up l).imp fun h => by omega
end Go.Proofs.YtkjfdaleamonaaaGreat
