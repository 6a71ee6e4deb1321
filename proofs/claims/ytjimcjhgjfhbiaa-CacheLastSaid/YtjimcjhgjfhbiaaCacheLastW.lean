/- The walk of the law CacheLast. -/
import Derived.Test.YtjimcjhgjfhbiaaPackAD
namespace Go.Proofs.Ytjimcjhgjfhbiaa.cacheLast
open Go.RowKit Go.Lib

theorem mine_put_at {w W W1 : World} {r mst N n c : Nat} {A : List AE} {ao : Option Addr} (h : Mine w W r mst N A) (hb : Below W.heap.size W W1) (hN : N < 1000000000) (t : TL) (l : List Int) (hl : l.length = n) (hbig : n ≤ 1000000) (hby : BytesAt W1 ao l) (hz : ao = none → n = 0 ∧ c = 0) :
    Calls Try.prog 7 #[.pointer (some ⟨r, 0, none⟩), tlV t, .slice ao n c] W1 fun e w' => e = .returned (.bool (goodP mst t)) ∧ Mine w w' r mst (N + 1) (if goodP mst t then putA mst A t l else A) ∧ ∀ b, W.heap.size ≤ b → b < W1.heap.size → w'.heap[b]? = W1.heap[b]? := by
  obtain ⟨S, T, h1, h2, h3⟩ := h
  have hlt := h1.lt
  have h2' := h2.trans (hb.mono h2.size)
  refine (kput_any (h1.below hb) hN t l hl hbig hby hz).mono ?_
  rintro e w' ⟨rfl, S', T', p1, p2, p3⟩
  refine ⟨rfl, ⟨S', T', p1, mine_turn h2' p2 fun k hk => h3 k (.inl hk), fun k hk => ?_⟩, fun b hb1 hb2 => p2.2.2.2.2 b hb2 fun hs => by have := hlt b (.inl hs); omega⟩
  rcases Nat.lt_or_ge k W1.heap.size with h4 | h4
  · exact h3 k (p3 k h4 hk)
  · exact Nat.le_trans h2'.size h4
theorem mine_evict {w W : World} {r mst N : Nat} {A : List AE} (h : Mine w W r mst N A) (hN : N < 1000000000) (i : Int) :
    Calls Try.prog 10 #[.pointer (some ⟨r, 0, none⟩), .int .i64 i] W fun e w' => e = .returned (.bool (inE i A.length)) ∧ Mine w w' r mst N (if inE i A.length then A.eraseIdx i.toNat else A) := by
  obtain ⟨S, T, h1, h2, h3⟩ := h
  refine (kevict_any h1 (by omega) i).mono ?_
  rintro e w' ⟨rfl, S', T', p1, p2, p3⟩
  refine ⟨rfl, S', T', p1, mine_turn h2 p2 fun k hk => h3 k (.inl hk), fun k hk => ?_⟩
  rcases Nat.lt_or_ge k W.heap.size with h4 | h4
  · exact h3 k (p3 k h4 hk)
  · exact Nat.le_trans h2.size h4
def tI (i : Nat) : TL := (6, (i : Int), 0, 0)
def eI (i : Nat) : AE := (tI i, [(i : Int), 7])
/-- The last m of n. -/
def lastL (n m : Nat) : List AE := ((List.range n).drop (n - m)).map eI
theorem last_len (n m : Nat) : (lastL n m).length = min n m := by unfold lastL; rw [List.length_map, List.length_drop, List.length_range]; omega
theorem ok_all : (List.range 32).all (fun i => okT (tI i) == 0) = true := by kernel_rfl
theorem good_i {i m : Nat} (hi : i < 32) (hm : 0 < m) : goodP m (tI i) = true := by
  have := List.all_eq_true.1 ok_all i (List.mem_range.2 hi)
  have h2 : okT (tI i) = 0 := by simpa using this
  unfold goodP
  rw [h2, decide_eq_true hm]; rfl
theorem eI_inj {i j : Nat} (h : tI i = tI j) : i = j := by
  unfold tI at h
  have := congrArg (fun t : TL => t.2.1) h
  exact Int.ofNat_inj.1 this
theorem mem_last {n m : Nat} {a : AE} (h : a ∈ lastL n m) : ∃ i, i < n ∧ n - m ≤ i ∧ a = eI i := by
  unfold lastL at h
  obtain ⟨i, hi, rfl⟩ := List.mem_map.1 h
  obtain ⟨k, hk, rfl⟩ := List.getElem_of_mem hi
  rw [List.length_drop, List.length_range] at hk
  rw [List.getElem_drop, List.getElem_range]
  exact ⟨_, by omega, by omega, rfl⟩
theorem last_mem {n m i : Nat} (h1 : i < n) (h2 : n - m ≤ i) : eI i ∈ lastL n m := by
  unfold lastL
  refine List.mem_map_of_mem ?_
  rw [List.mem_iff_getElem]
  refine ⟨i - (n - m), by rw [List.length_drop, List.length_range]; omega, ?_⟩
  rw [List.getElem_drop, List.getElem_range]; omega
theorem at_none {A : List AE} {t : TL} (h : ∀ a ∈ A, a.1 ≠ t) : atA A t = A.length := by
  unfold atA
  exact List.findIdx_eq_length_of_false fun a ha => decide_eq_false (h a ha)
theorem at_last {A : List AE} {t : TL} {l : List Int} (h : ∀ a ∈ A, a.1 ≠ t) : atA (A ++ [(t, l)]) t = A.length := by
  unfold atA
  rw [List.findIdx_append, List.findIdx_eq_length_of_false (xs := A) (fun a ha => decide_eq_false (h a ha)), if_neg (Nat.lt_irrefl _)]
  simp
theorem erase_last {α : Type} (A : List α) (x : α) : (A ++ [x]).eraseIdx A.length = A := by
  rw [List.eraseIdx_append_of_length_le (Nat.le_refl _), Nat.sub_self]; simp
/-- Both Puts of one round. -/
theorem put_two {n m : Nat} (hm : 0 < m) (l : List Int) : ∃ B, putA m (lastL n m) (tI n) l = B ++ [(tI n, l)] ∧ (∀ a ∈ B, a.1 ≠ tI n) ∧ B ++ [eI n] = lastL (n + 1) m := by
  have hno : ∀ a ∈ lastL n m, a.1 ≠ tI n := fun a ha e => by
    obtain ⟨i, hi, _, rfl⟩ := mem_last ha
    have := eI_inj e
    omega
  have h0 := at_none hno
  have hs : lastL (n + 1) m = ((List.range n).drop (n + 1 - m)).map eI ++ [eI n] := by
    unfold lastL
    rw [List.range_succ, List.drop_append_of_le_length (by rw [List.length_range]; omega), List.map_append]; rfl
  unfold putA
  rw [h0, if_neg (Nat.lt_irrefl _), last_len]
  by_cases h1 : m < min n m + 1
  · rw [if_pos h1]
    refine ⟨(lastL n m).drop 1, ?_, fun a ha => hno a ((List.drop_sublist 1 _).subset ha), ?_⟩
    · rw [List.drop_append_of_le_length (by rw [last_len]; omega)]
    · rw [hs]
      congr 1
      unfold lastL
      rw [← List.map_drop, List.drop_drop]
      congr 2
      omega
  · rw [if_neg h1]
    refine ⟨lastL n m, rfl, hno, ?_⟩
    rw [hs]
    congr 1
    unfold lastL
    congr 2
    omega
theorem put_again {m : Nat} {B : List AE} {t : TL} {l l' : List Int} (h : ∀ a ∈ B, a.1 ≠ t) : putA m (B ++ [(t, l)]) t l' = B ++ [(t, l')] := by
  unfold putA
  rw [at_last h, if_pos (by simp), erase_last]
theorem get_none {A : List AE} {n m i : Nat} (hp : A.Perm (lastL n m)) (hi : i < n - m) : atA A (tI i) = A.length := at_none fun a ha e => by
  obtain ⟨j, _, hj, rfl⟩ := mem_last (hp.mem_iff.1 ha)
  have := eI_inj e
  omega
theorem get_some {A : List AE} {n m i : Nat} (hp : A.Perm (lastL n m)) (h1 : i < n) (h2 : n - m ≤ i) : atA A (tI i) ≠ A.length := fun e => by
  have := List.findIdx_eq_length.1 e (eI i) (hp.mem_iff.2 (last_mem h1 h2))
  simp [eI] at this
theorem get_one {A : List AE} {n m i : Nat} (hp : A.Perm (lastL n m)) {a : AE} {k : Nat} (ha : A[k]? = some a) (ht : a.1 = tI i) : a = eI i := by
  obtain ⟨j, _, _, rfl⟩ := mem_last (hp.mem_iff.1 (List.mem_of_getElem? ha))
  rw [eI_inj ht]
theorem moved_perm {A : List AE} {k : Nat} {a : AE} (ha : A[k]? = some a) : (A.eraseIdx k ++ [a]).Perm A := by
  obtain ⟨hk, rfl⟩ := List.getElem?_eq_some_iff.1 ha
  exact List.perm_append_comm.trans (cons_perm hk).symm
set_option maxRecDepth 100000 in
set_option maxHeartbeats 2000000 in
theorem walk {w : World} (a0 : Int) (_w0 : (Lit.int .i64 a0).wf = true) (a1 : Int) (_w1 : (Lit.int .i64 a1).wf = true) (a2 : Int) (_w2 : (Lit.int .i64 a2).wf = true) :
    Calls Try.prog 4 #[.int .i64 a0, .int .i64 a1, .int .i64 a2] w fun e w' => e = .returned (.bool true) ∧ Below w.heap.size w w' := by
  have e0 : bits BinOp.and IntKind.i64 a0 31 = a0 % 32 := i64_and_mask a0 5 (by omega) 31 rfl
  have e1 : bits BinOp.and IntKind.i64 a1 15 = a1 % 16 := i64_and_mask a1 4 (by omega) 15 rfl
  obtain ⟨n, hn⟩ : ∃ n : Nat, a0 % 32 + 1 = (n : Int) := ⟨(a0 % 32 + 1).toNat, by omega⟩
  obtain ⟨m, hm⟩ : ∃ m : Nat, a1 % 16 + 1 = (m : Int) := ⟨(a1 % 16 + 1).toNat, by omega⟩
  have hn1 : 0 < n ∧ n ≤ 32 := by omega
  have hm1 : 0 < m ∧ m ≤ 16 := by omega
  have q0 : IntKind.i64.wrap (a0 % 32 + 1) = (n : Int) := by rw [hn]; exact wrap_in (by omega) (by omega)
  have q1 : IntKind.i64.wrap (a1 % 16 + 1) = (m : Int) := by rw [hm]; exact wrap_in (by omega) (by omega)
  have hnw := mine_new (m : Int) (Below.refl w.heap.size w)
  rw [show (min (max (m : Int) 0) 1000).toNat = m by omega] at hnw
  have HN := Lib.hid hnw
  clear hn hm hnw
  go_enter Try.func4, Try.ntmps4
  go_wp2_with fail
  refine HN.out.mono ?_
  rintro e w1 ⟨r, rfl, hm, -⟩
  have HM1 := Lib.hid hm
  have hn32 := hn1.2
  have hm0 := hm1.1
  clear hm HN hn1
  go_upto_region 6 with (fail)
  go_loopw [8] (fun iv wr => ∃ k : Nat, k ≤ n ∧ iv = .int .i64 k ∧ Hid (Mine w wr r m (2 * k) (lastL k m))) (fun iv _ => n - (intOf iv).toNat)
  case atStart => exact ⟨0, Nat.zero_le _, rfl, by show Mine w w1 r m (2 * 0) (lastL 0 m); rw [show lastL 0 m = [] by simp [lastL]]; exact HM1.out⟩
  case round =>
    obtain ⟨k, hk, rfl, HI⟩ := hrel
    by_cases hlt : k < n
    · obtain ⟨B, hB1, hB2, hB3⟩ := put_two (n := k) (m := m) hm0 [(k : Int)]
      have hg := good_i (i := k) (m := m) (by omega) hm0
      have hki : (k : Int) < (n : Int) := by omega
      have h8 : (k : Int) % 256 = (k : Int) := by omega
      have h8w : IntKind.u8.wrap (k : Int) = (k : Int) := by rw [IntKind.wrap_u8]; omega
      obtain ⟨⟨y0, y1, y2, y3⟩, hbt, hst⟩ := boxed_tile wr (tI k)
      have HYT := Lib.hid (show TileAt (wr.alloc (.cells #[.int .i64 6, .int .i64 k, .int .i64 0, .int .i64 0] 28)) wr.heap.size (tI k) from ⟨y0, y1, y2, y3⟩)
      have hbl := bytes_lit (wr.alloc (.cells #[.int .i64 6, .int .i64 k, .int .i64 0, .int .i64 0] 28)) [(k : Int)] (0, 0)
      have hbb : Below wr.heap.size wr ((wr.alloc (.cells #[.int .i64 6, .int .i64 k, .int .i64 0, .int .i64 0] 28)).alloc (.cells #[.int .u8 k] 5)) := hbt.trans (hbl.2.mono hbt.size)
      have hp := mine_put_at (n := 1) HI.out hbb (by omega) (tI k) [(k : Int)] rfl (by decide) hbl.1 (c := 1) (fun h => by cases h)
      rw [hg] at hp
      simp only [if_true] at hp
      rw [hB1] at hp
      rw [show (wr.alloc (.cells #[.int .i64 6, .int .i64 k, .int .i64 0, .int .i64 0] 28)).heap.size = wr.heap.size + 1 from World.size_alloc _ _] at hp
      have hp2 : Calls Try.prog 7 #[.pointer (some ⟨r, 0, none⟩), .agg #[.int .i64 6, .int .i64 k, .int .i64 0, .int .i64 0], .slice (some ⟨wr.heap.size + 1, 0, none⟩) 1 1] ((wr.alloc (.cells #[.int .i64 6, .int .i64 k, .int .i64 0, .int .i64 0] 28)).alloc (.cells #[.int .u8 k] 5)) fun e w' => e = .returned (.bool true) ∧ Mine w w' r m (2 * k + 1) (B ++ [(tI k, [(k : Int)])]) ∧ ∀ b, wr.heap.size ≤ b → b < ((wr.alloc (.cells #[.int .i64 6, .int .i64 k, .int .i64 0, .int .i64 0] 28)).alloc (.cells #[.int .u8 k] 5)).heap.size → w'.heap[b]? = ((wr.alloc (.cells #[.int .i64 6, .int .i64 k, .int .i64 0, .int .i64 0] 28)).alloc (.cells #[.int .u8 k] 5)).heap[b]? := hp
      have HP := Lib.hid hp2
      clear hp hp2 hbl hbb hbt y0 y1 y2 y3
      obtain ⟨x0, x1, x2, x3⟩ := HYT.out
      unfold tI at x0 x1 x2 x3
      dsimp only at x0 x1 x2 x3
      have HE0 : Hid (((wr.alloc (.cells #[.int .i64 6, .int .i64 k, .int .i64 0, .int .i64 0] 28)).alloc (.cells #[.int .u8 k] 5)).heap[wr.heap.size]? = some (.cells #[.int .i64 6, .int .i64 k, .int .i64 0, .int .i64 0] 28 (0, 0)) ∧ wr.heap.size < ((wr.alloc (.cells #[.int .i64 6, .int .i64 k, .int .i64 0, .int .i64 0] 28)).alloc (.cells #[.int .u8 k] 5)).heap.size) :=
        ⟨(Below.heap_alloc _ _ _ hst).trans (heap_new _ _ _ rfl), by rw [World.size_alloc, World.size_alloc]; omega⟩
      have HB := Lib.hid (And.intro hB2 hB3)
      have HG := Lib.hid hg
      clear hB1 hB2 hB3 hg HI
      go_wp2_with fail
      refine HP.out.mono ?_
      rintro e w2 ⟨rfl, hm2, hkeep⟩
      have hblk := (hkeep wr.heap.size (Nat.le_refl _) HE0.out.2).trans HE0.out.1
      have hs2 : wr.heap.size < w2.heap.size := (Array.getElem?_eq_some_iff.1 hblk).1
      have z0 := cell_of_row w2 _ 0 _ _ _ hblk
      have z1 := cell_of_row w2 _ 1 _ _ _ hblk
      have z2 := cell_of_row w2 _ 2 _ _ _ hblk
      have z3 := cell_of_row w2 _ 3 _ _ _ hblk
      have hbl : BytesAt (w2.alloc (.cells #[.int .u8 k, .int .u8 7] 5)) (some ⟨w2.heap.size, 0, none⟩) [(k : Int), 7] ∧ Below w2.heap.size w2 (w2.alloc (.cells #[.int .u8 k, .int .u8 7] 5)) := bytes_lit w2 [(k : Int), 7] (0, 0)
      have hp := mine_put (n := 2) (hm2.below hbl.2) (by omega) (tI k) [(k : Int), 7] rfl (by decide) hbl.1 (c := 2) (fun h => by cases h)
      rw [HG.out] at hp
      simp only [if_true] at hp
      rw [put_again HB.out.1] at hp
      have hp' : Calls Try.prog 7 #[.pointer (some ⟨r, 0, none⟩), .agg #[.int .i64 6, .int .i64 k, .int .i64 0, .int .i64 0], .slice (some ⟨w2.heap.size, 0, none⟩) 2 2] (w2.alloc (.cells #[.int .u8 k, .int .u8 7] 5)) fun e w' => e = .returned (.bool true) ∧ Mine w w' r m (2 * k + 1 + 1) (lastL (k + 1) m) := by
        rw [← HB.out.2]; exact hp
      have HP2 := Lib.hid hp'
      clear hp hp' hbl hm2 hkeep hblk x0 x1 x2 x3 HP HE0 HYT hst
      go_wp2_with fail
      refine HP2.out.mono ?_
      rintro e w3 ⟨rfl, hm3⟩
      have HM3 : Hid (Mine w w3 r m (2 * (k + 1)) (lastL (k + 1) m)) := hm3
      clear hm3 HP2 z0 z1 z2 z3
      go_wp2
      go_roundw
      case rel => exact ⟨k + 1, by omega, by go_num, HM3.out⟩
      case measure => simp [intOf]; omega
    · have hkn : n = k := by omega
      subst hkn
      have hki : ¬ (n : Int) < (n : Int) := by omega
      have hw : IntKind.i64.wrap ((n : Int) - (m : Int)) = (n : Int) - (m : Int) := wrap_in (by omega) (by omega)
      have HP0 : Hid ((lastL n m).length = min n m) := last_len n m
      go_upto_region 12 with (fail)
      go_loopw [10] (fun iv wy => ∃ j : Nat, j ≤ n ∧ iv = .int .i64 j ∧ Hid (∃ A, Mine w wy r m (2 * n + j) A ∧ A.Perm (lastL n m))) (fun iv _ => n - (intOf iv).toNat)
      case atStart => exact ⟨0, Nat.zero_le _, rfl, _, HI.out, List.Perm.refl _⟩
      case round =>
        obtain ⟨j, hj, rfl, HJ⟩ := hrel
        by_cases hjn : j < n
        · obtain ⟨A, hm, hp⟩ := HJ.out
          have hji : (j : Int) < (n : Int) := by omega
          have h8 : (j : Int) % 256 = (j : Int) := by omega
          have h8w : IntKind.u8.wrap (j : Int) = (j : Int) := by rw [IntKind.wrap_u8]; omega
          have hg2 : Calls Try.prog 8 #[.pointer (some ⟨r, 0, none⟩), .agg #[.int .i64 6, .int .i64 j, .int .i64 0, .int .i64 0]] wr (MGot w wr r m (2 * n + j) A (tI j)) := mine_get hm (by omega) (tI j)
          have HG := Lib.hid hg2
          have HPA := Lib.hid hp
          clear hm hp hg2 HJ
          go_wp2_with fail
          refine HG.out.mono ?_
          rintro e w3 (⟨p1, rfl, p3, _⟩ | ⟨a, ao, c, p1, p2, rfl, p4, p5, p6⟩)
          · have hlo : j < n - m := by
              rcases Nat.lt_or_ge j (n - m) with h | h
              · exact h
              · exact absurd p1 (get_some HPA.out hjn h)
            have hd : decide ((n : Int) - (m : Int) ≤ (j : Int)) = false := decide_eq_false (by omega)
            have HR : Hid (∃ A, Mine w w3 r m (2 * n + (j + 1)) A ∧ A.Perm (lastL n m)) := ⟨A, p3, HPA.out⟩
            clear p1 p3 HG HPA hlo
            go_wp2
            go_roundw
            case rel => exact ⟨j + 1, by omega, by go_num, HR.out⟩
            case measure => simp [intOf]; omega
          · have hlo : n - m ≤ j := by
              rcases Nat.lt_or_ge j (n - m) with h | h
              · rw [get_none HPA.out h] at p1
                simp at p1
              · exact h
            have ea := get_one HPA.out p1 p2
            subst ea
            have hd : decide ((n : Int) - (m : Int) ≤ (j : Int)) = true := decide_eq_true (by omega)
            have HR : Hid (∃ A, Mine w w3 r m (2 * n + (j + 1)) A ∧ A.Perm (lastL n m)) := ⟨_, p6, (moved_perm p1).trans HPA.out⟩
            have p5' : w3.ownsRow wr.heap.size 5 1 (.slice ao 2 c) 2 (byV [(j : Int), 7]) := p5
            have hc1 := str_at (bytesAt_own p5' rfl) (n := 2) (c := c) rfl
            have hbl : BytesAt (w3.alloc (.cells #[.int .u8 j, .int .u8 7] 5)) (some ⟨w3.heap.size, 0, none⟩) [(j : Int), 7] ∧ Below w3.heap.size w3 (w3.alloc (.cells #[.int .u8 j, .int .u8 7] 5)) := bytes_lit w3 [(j : Int), 7] (0, 0)
            have hc2 := str_at hbl.1 (n := 2) (c := 2) rfl
            have HR2 : Hid (∃ A, Mine w (w3.alloc (.cells #[.int .u8 j, .int .u8 7] 5)) r m (2 * n + (j + 1)) A ∧ A.Perm (lastL n m)) := by
              obtain ⟨A, h1, h2⟩ := HR.out
              exact ⟨A, h1.below hbl.2, h2⟩
            clear hbl p1 p2 p4 p5 p5' p6 HG HPA hlo HR
            have e2 : (eI j).2.length = 2 := rfl
            simp only [e2]
            go_wp2
            go_roundw
            case rel => exact ⟨j + 1, by omega, by go_num, HR2.out⟩
            case measure => simp [intOf]; omega
        · have hjk : n = j := by omega
          subst hjk
          have hji : ¬ (n : Int) < (n : Int) := by omega
          obtain ⟨A, hm, hp⟩ := HJ.out
          have hlen : A.length = min n m := by rw [hp.length_eq, HP0.out]
          have hl1 := mine_len hm
          have he1 := mine_evict hm (by omega) (-1)
          rw [show inE (-1) A.length = false by unfold inE; rfl] at he1
          have HL1 := Lib.hid hl1
          have HE1 := Lib.hid he1
          have HAL := Lib.hid hlen
          have HB := Lib.hid hm.pre
          have hqe : ((A.length : Int) == min (n : Int) (m : Int)) = true := by rw [beq_iff_eq, hlen]; omega
          clear hm hp HJ hl1 he1 hlen
          obtain ⟨q, hq⟩ : ∃ q, A.length = q := ⟨_, rfl⟩
          rw [hq] at HL1 hqe
          have HQ := Lib.hid hq
          clear hq
          go_wp2_with fail
          refine HL1.out.mono ?_
          rintro e w3 ⟨rfl, rfl⟩
          go_wp2_with fail
          refine HE1.out.mono ?_
          rintro e w4 ⟨rfl, hm4⟩
          have hm5 : Mine w w4 r m (2 * n + n) A := hm4
          have hl2 := mine_len hm5
          have he2 := mine_evict hm5 (by omega) (q : Int)
          rw [show inE (q : Int) A.length = false by unfold inE; rw [HQ.out]; simp] at he2
          rw [HQ.out] at hl2
          have HL2 := Lib.hid hl2
          have HE2 := Lib.hid he2
          clear hm4 hm5 hl2 he2 HL1 HE1
          go_wp2_with fail
          refine HL2.out.mono ?_
          rintro e w5 ⟨rfl, rfl⟩
          go_wp2_with fail
          refine HE2.out.mono ?_
          rintro e w6 ⟨rfl, hm6⟩
          have HB6 : Hid (Below w.heap.size w w6) := hm6.pre
          have HAW := Lib.hid (awake24_any w6)
          clear hm6 HL2 HE2
          go_wp2_with fail
          refine HAW.out.mono ?_
          rintro e w7 ⟨rfl, hb7⟩
          have HB7 : Hid (Below w.heap.size w w7) := HB6.out.trans (hb7.mono HB6.out.size)
          clear hb7
          go_wp2
          go_ret
          exact ⟨rfl, HB7.out⟩
end Go.Proofs.Ytjimcjhgjfhbiaa.cacheLast
