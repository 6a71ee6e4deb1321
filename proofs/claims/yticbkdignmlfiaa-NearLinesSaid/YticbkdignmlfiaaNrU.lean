/- Lists of words in memory; the plain set; apiaryref1's Has, Same, Set. (Put together by gen_nr.py out of my texts on package cells.) -/
import Derived.Test.YticbkdignmlfiaaKit2
import Derived.Test.YticbkdignmlfiaaSortD
import Derived.Lib.Walk
import Derived.Lib.SliceRun
import Derived.Lib.SlicesCompact
import Derived.Deep.LoopGhost
import Derived.Deep.Draws
import Derived.Laws.CopyOwn
import Derived.Lib.OwnBridge
import Derived.OwnWalk
import Derived.Deep.RegionLaw
namespace Go.Proofs.Yticbkdignmlfiaa
open Go.RowKit Go.Lib Go.Sort

theorem info_u : (Try.prog.info? 25).map (fun i => (i.zero, i.size, i.bytes)) = some (some (.int .u64 0), 1, 8) := by kernel_rfl
def uV (l : List Int) : List Value := l.map (Value.int .u64)
theorem uV_len (l : List Int) : (uV l).length = l.length := by simp [uV]
theorem uV_cell (l : List Int) : ∀ u ∈ uV l, u.oneCell' = true := fun u hu => by
  obtain ⟨x, _, rfl⟩ := List.mem_map.1 hu; rfl
theorem uV_get (l : List Int) (j : Nat) (h : j < l.length) : (uV l)[j]? = some (.int .u64 (l.getD j 0)) := by simp [uV, List.getD_eq_getElem?_getD, h]
/-- In w, below block B, a slice's address leads to words. -/
def WordsAt (w : World) (B : Nat) (ao : Option Addr) (l : List Int) : Prop :=
  0 < l.length → ∃ b off, ao = some ⟨b, off, none⟩ ∧ b < B ∧ ∀ i, i < l.length → w.cell? ⟨b, off + i, none⟩ = some (.int .u64 (l.getD i 0))
theorem WordsAt.below {w w' : World} {B : Nat} {ao : Option Addr} {l : List Int} (h : WordsAt w B ao l) {C : Nat} (hb : Below C w w') (hC : B ≤ C) : WordsAt w' B ao l := fun h0 => by
  obtain ⟨b, off, e, hlt, hc⟩ := h h0
  exact ⟨b, off, e, hlt, fun i hi => by rw [hb.cell (p := ⟨b, _, none⟩) (show b < C by omega)]; exact hc i hi⟩
theorem WordsAt.wider {w : World} {B C : Nat} {ao : Option Addr} {l : List Int} (h : WordsAt w B ao l) (hC : B ≤ C) : WordsAt w C ao l := fun h0 => by
  obtain ⟨b, off, e, hlt, hc⟩ := h h0
  exact ⟨b, off, e, by omega, hc⟩
def srt (l : List Int) : List Int := l.mergeSort fun x y => decide (x ≤ y)
def setF (l : List Int) : List Int := compactUpTo (srt l).toArray (srt l).length
theorem srt_length (l : List Int) : (srt l).length = l.length := List.length_mergeSort l
theorem cut_length (d : Array Int) (m : Nat) : (compactUpTo d m).length ≤ m := by
  induction m with
  | zero => simp [compactUpTo]
  | succ m ih => rw [compactUpTo_succ, List.length_append]; split <;> simp <;> omega
theorem setF_nil : setF [] = [] := by simp [setF, srt, compactUpTo]
theorem below_growU {B : Nat} {w0 w : World} {os : Array Obj} (h : Below B w0 w) (hB : B ≤ w.heap.size) : Below B w0 (grow w os) :=
  ⟨h.os, h.tape, h.output, by have := h.size; simp [grow]; omega, fun k hk => by rw [← h.block k hk]; exact heap_grow_old w os (show k < w.heap.size by omega)⟩
theorem holds_own {w : World} {base n c : Nat} {ao : Option Addr} {l : List Int} (hn : 0 < n) (h : w.ownsRow base 25 1 (.slice ao n c) n (uV l)) :
    ∃ g, ao = some ⟨g, 0, none⟩ ∧ base ≤ g ∧ g < w.heap.size ∧ n ≤ c ∧ Holds encU w g 0 l.toArray := by
  obtain ⟨ao', c', e, hnc, hh⟩ := own_form h
  cases e
  obtain ⟨g, rfl, hb, hg, hc⟩ := hh hn
  refine ⟨g, rfl, hb, hg, hnc, fun j hj => ?_⟩
  have hj' : j < l.length := by simpa using hj
  refine ⟨?_, h.frozenAt _⟩
  rw [hc (0 + j) _ (by rw [Nat.zero_add]; exact uV_get l j hj')]
  congr 2
  simp [List.getD_eq_getElem?_getD, hj', getElem!_pos]
theorem words_of_holds {w : World} {g : Nat} {l : List Int} (hg : g < w.heap.size) (h : Holds encU w g 0 l.toArray) (k : Nat) (hk : k ≤ l.length) : WordsAt w w.heap.size (some ⟨g, 0, none⟩) (l.take k) := fun _ => by
  refine ⟨g, 0, rfl, hg, fun i hi => ?_⟩
  have hi' : i < k ∧ i < l.length := by simp at hi; omega
  rw [(h i (by simpa using hi'.2)).1]
  congr 2
  simp [List.getD_eq_getElem?_getD, hi'.1, hi'.2, getElem!_pos]
def hasF (l : List Int) (x : Int) : Bool := l.contains x
theorem hasF_yes {l : List Int} {x : Int} {j : Nat} (hj : j < l.length) (h : l.getD j 0 = x) : hasF l x = true := by
  unfold hasF
  rw [List.contains_iff_mem]
  rw [← h, List.getD_eq_getElem?_getD, List.getElem?_eq_getElem hj, Option.getD_some]
  exact List.getElem_mem _
theorem hasF_no {l : List Int} {x : Int} (h : ∀ j, j < l.length → l.getD j 0 ≠ x) : hasF l x = false := by
  unfold hasF
  rw [Bool.eq_false_iff, ne_eq, List.contains_iff_mem]
  intro hm
  obtain ⟨j, hj, e⟩ := List.getElem_of_mem hm
  exact h j hj (by rw [List.getD_eq_getElem?_getD, List.getElem?_eq_getElem hj, Option.getD_some, e])
/-- Words, rising (each once or not). -/
def Rising (l : List Int) : Prop := ∀ i j, i ≤ j → j < l.length → l.getD i 0 ≤ l.getD j 0
set_option maxRecDepth 100000 in
set_option maxHeartbeats 2000000 in
theorem rhas_any (ao : Option Addr) (c : Nat) (l : List Int) (x : Int) (w : World) (B : Nat) (h : WordsAt w B ao l) (hn : l.length ≤ 1000000000) (hr : Rising l) :
    Calls Try.prog 18 #[.slice ao l.length c, .int .u64 x] w fun e w' => e = .returned (.bool (hasF l x)) ∧ w = w' := by
  obtain ⟨n, hnn⟩ : ∃ n, l.length = n := ⟨_, rfl⟩
  have HN := Lib.hid hnn
  have HW := Lib.hid h
  have HR := Lib.hid hr
  rw [hnn] at hn ⊢
  clear hnn h hr
  go_enter Try.func18, Try.ntmps18
  go_wp2
  go_loop [5, 6] (fun i j => ∃ lo hi : Nat, lo ≤ hi ∧ hi ≤ n ∧ i = .int .i64 lo ∧ j = .int .i64 hi ∧ Hid ((∀ k, k < lo → l.getD k 0 < x) ∧ ∀ k, hi ≤ k → k < n → x ≤ l.getD k 0)) (fun i j => (intOf j).toNat - (intOf i).toNat)
  case atStart => exact ⟨0, n, Nat.zero_le _, Nat.le_refl _, rfl, rfl, fun k hk => by omega, fun k h1 h2 => by omega⟩
  case round =>
    obtain ⟨lo, hi, h1, h2, rfl, rfl, HA⟩ := hrel
    by_cases hlt : lo < hi
    · obtain ⟨b, off, rfl, hb, hc⟩ := HW.out (by rw [HN.out]; omega)
      obtain ⟨m, hm⟩ : ∃ m, (lo + hi) / 2 = m := ⟨_, rfl⟩
      have hm1 : lo ≤ m := by omega
      have hm2 : m < hi := by omega
      have hmI : ((lo : Int) + (hi : Int)) / 2 = (m : Int) := by omega
      have c0 := hc m (by rw [HN.out]; omega)
      have HL1 : Hid (l.getD m 0 < x → ∀ k, k < m + 1 → l.getD k 0 < x) := fun e k hk => by
        have := HR.out k m (by omega) (by rw [HN.out]; omega)
        omega
      have HL2 : Hid (¬ l.getD m 0 < x → ∀ k, m ≤ k → k < n → x ≤ l.getD k 0) := fun e k h3 h4 => by
        have := HR.out m k h3 (by rw [HN.out]; exact h4)
        omega
      generalize l.getD m 0 = y at c0 HL1 HL2
      clear hc hm
      by_cases hyx : y < x
      · have HLL := Lib.hid (HL1.out hyx)
        clear HL1 HL2
        go_wp2
        go_round
        case rel => exact ⟨m + 1, hi, by omega, h2, by go_num, rfl, HLL.out, HA.out.2⟩
        case measure => simp [intOf]; omega
      · have HLL := Lib.hid (HL2.out hyx)
        clear HL1 HL2
        go_wp2
        go_round
        case rel => exact ⟨lo, m, by omega, by omega, rfl, by go_num, HA.out.1, HLL.out⟩
        case measure => simp [intOf]; omega
    · obtain rfl : lo = hi := by omega
      by_cases hln : lo < n
      · obtain ⟨b, off, rfl, hb, hc⟩ := HW.out (by rw [HN.out]; omega)
        have c0 := hc lo (by rw [HN.out]; exact hln)
        have HF : Hid ((l.getD lo 0 == x) = hasF l x) := by
          show _ = _
          by_cases e : l.getD lo 0 = x
          · rw [hasF_yes (by rw [HN.out]; exact hln) e]; simpa using e
          · rw [hasF_no fun j hj => by
              rw [HN.out] at hj
              by_cases hjl : j < lo
              · have := HA.out.1 j hjl; omega
              · have h3 := HA.out.2 lo (Nat.le_refl _) hln
                have h4 := HR.out lo j (by omega) (by rw [HN.out]; exact hj)
                omega]
            simpa using e
        generalize l.getD lo 0 = y at c0 HF
        clear hc
        have q0 : decide ((lo : Int) < (n : Int)) = true := by simp; omega
        go_wp2
        go_ret
        exact ⟨ret_bool HF.out, rfl⟩
      · obtain rfl : lo = n := by omega
        have HF : Hid (hasF l x = false) := hasF_no fun j hj => by
          rw [HN.out] at hj
          have := HA.out.1 j hj
          omega
        have q0 : decide ((lo : Int) < (lo : Int)) = false := by simp
        go_wp2
        go_ret
        exact ⟨ret_bool HF.out.symm, rfl⟩
def Up (l : List Int) : Prop := l.Pairwise (· < ·)
theorem getD_mem {l : List Int} {j : Nat} (h : j < l.length) : l.getD j 0 ∈ l := by
  rw [List.getD_eq_getElem?_getD, List.getElem?_eq_getElem h, Option.getD_some]; exact List.getElem_mem h
theorem hasF_iff (l : List Int) (x : Int) : hasF l x = true ↔ x ∈ l := by unfold hasF; exact List.contains_iff_mem
theorem srt_mem (l : List Int) (x : Int) : x ∈ srt l ↔ x ∈ l := List.mem_mergeSort
theorem srt_sorted (l : List Int) : (srt l).Pairwise (· ≤ ·) := by
  have := List.pairwise_mergeSort (le := fun x y : Int => decide (x ≤ y)) (fun a b c h1 h2 => by simp at *; omega) (fun a b => by simp; omega) l
  exact this.imp fun h => by simpa using h
theorem cut_mem (d : Array Int) (x : Int) : ∀ m, m ≤ d.size → (x ∈ compactUpTo d m ↔ ∃ j, j < m ∧ d[j]! = x)
  | 0, _ => by simp [compactUpTo]
  | m + 1, h => by
    rw [compactUpTo_succ, List.mem_append, cut_mem d x m (by omega)]
    by_cases hk : 0 < m ∧ d[m]! = d[m - 1]!
    · rw [keeps_neg hk.1 hk.2]
      simp only [Bool.false_eq_true, if_false, List.not_mem_nil, or_false]
      constructor
      · rintro ⟨j, hj, e⟩; exact ⟨j, by omega, e⟩
      · rintro ⟨j, hj, e⟩
        by_cases ej : j = m
        · subst ej; exact ⟨j - 1, by omega, by rw [← hk.2]; exact e⟩
        · exact ⟨j, by omega, e⟩
    · have hkk : keeps d m = true := by
        by_cases h0 : m = 0
        · exact keeps_lt_one d m (by omega)
        · exact keeps_pos fun e => hk ⟨by omega, e⟩
      rw [hkk]
      simp only [if_true, List.mem_singleton]
      constructor
      · rintro (⟨j, hj, e⟩ | e)
        · exact ⟨j, by omega, e⟩
        · exact ⟨m, by omega, e.symm⟩
      · rintro ⟨j, hj, e⟩
        by_cases ej : j = m
        · subst ej; exact .inr e.symm
        · exact .inl ⟨j, by omega, e⟩
theorem cut_up (d : Array Int) (hs : ∀ i j, i ≤ j → j < d.size → d[i]! ≤ d[j]!) : ∀ m, m ≤ d.size → Up (compactUpTo d m)
  | 0, _ => by simp [compactUpTo, Up]
  | m + 1, h => by
    rw [compactUpTo_succ]
    have ih := cut_up d hs m (by omega)
    by_cases hk : 0 < m ∧ d[m]! = d[m - 1]!
    · rw [keeps_neg hk.1 hk.2]; simpa using ih
    · have hkk : keeps d m = true := by
        by_cases h0 : m = 0
        · exact keeps_lt_one d m (by omega)
        · exact keeps_pos fun e => hk ⟨by omega, e⟩
      rw [hkk]
      simp only [if_true]
      unfold Up at *
      rw [List.pairwise_append]
      refine ⟨ih, by simp, fun a ha b hb => ?_⟩
      obtain rfl : b = d[m]! := by simpa using hb
      obtain ⟨j, hj, e⟩ := (cut_mem d a m (by omega)).1 ha
      have h1 := hs j (m - 1) (by omega) (by omega)
      have h2 := hs (m - 1) m (by omega) (by omega)
      have h3 : d[m]! ≠ d[m - 1]! := fun e => hk ⟨by omega, e⟩
      omega
theorem arr_get (l : List Int) (j : Nat) (h : j < l.length) : l.toArray[j]! = l.getD j 0 := by simp [List.getD_eq_getElem?_getD, h, getElem!_pos]
theorem sorted_getD {l : List Int} (h : l.Pairwise (· ≤ ·)) : ∀ i j, i ≤ j → j < l.length → l.getD i 0 ≤ l.getD j 0 := fun i j hij hj => by
  rw [List.getD_eq_getElem?_getD, List.getD_eq_getElem?_getD, List.getElem?_eq_getElem hj, List.getElem?_eq_getElem (by omega), Option.getD_some, Option.getD_some]
  by_cases e : i = j
  · subst e; exact Int.le_refl _
  · exact List.pairwise_iff_getElem.1 h i j (by omega) hj (by omega)
theorem setF_up (l : List Int) : Up (setF l) := by
  unfold setF
  refine cut_up _ (fun i j hij hj => ?_) _ (by simp)
  have hj' : j < (srt l).length := by simpa using hj
  rw [arr_get _ i (by omega), arr_get _ j hj']
  exact sorted_getD (srt_sorted l) i j hij hj'
theorem setF_mem (l : List Int) (x : Int) : x ∈ setF l ↔ x ∈ l := by
  unfold setF
  rw [cut_mem _ _ _ (by simp), ← srt_mem l x]
  constructor
  · rintro ⟨j, hj, rfl⟩; rw [arr_get _ j hj]; exact getD_mem hj
  · intro h
    obtain ⟨j, hj, e⟩ := List.getElem_of_mem h
    exact ⟨j, hj, by rw [arr_get _ j hj, List.getD_eq_getElem?_getD, List.getElem?_eq_getElem hj, Option.getD_some, e]⟩
theorem Up.rising {l : List Int} (h : Up l) : Rising l := fun i j hij hj => sorted_getD (h.imp fun h => by omega) i j hij hj
/-- Rising words, each once, are one list if they are the same words. -/
theorem Up.ext : ∀ {l m : List Int}, Up l → Up m → (∀ x, x ∈ l ↔ x ∈ m) → l = m
  | [], [], _, _, _ => rfl
  | [], b :: m, _, _, h => absurd ((h b).2 (by simp)) (by simp)
  | a :: l, [], _, _, h => absurd ((h a).1 (by simp)) (by simp)
  | a :: l, b :: m, h1, h2, h => by
    unfold Up at *
    rw [List.pairwise_cons] at h1 h2
    have hab : a = b := by
      have p1 := (h a).1 (by simp)
      have p2 := (h b).2 (by simp)
      rcases List.mem_cons.1 p1 with e | p1
      · exact e
      · rcases List.mem_cons.1 p2 with e | p2
        · exact e.symm
        · have := h1.1 _ p2; have := h2.1 _ p1; omega
    subst hab
    congr 1
    refine Up.ext h1.2 h2.2 fun x => ⟨fun hx => ?_, fun hx => ?_⟩
    · rcases List.mem_cons.1 ((h x).1 (by simp [hx])) with e | p
      · have := h1.1 _ hx; omega
      · exact p
    · rcases List.mem_cons.1 ((h x).2 (by simp [hx])) with e | p
      · have := h2.1 _ hx; omega
      · exact p
theorem setF_length (l : List Int) : (setF l).length ≤ l.length := by
  unfold setF
  exact Nat.le_trans (cut_length _ _) (Nat.le_of_eq (srt_length l))
theorem filter_up {l : List Int} (h : Up l) (p : Int → Bool) : Up (l.filter p) := h.filter p
theorem setF_up_eq {l : List Int} (h : Up l) : setF l = l := (setF_up l).ext h fun x => setF_mem l x
theorem uV_snoc (l : List Int) (x : Int) : uV (l ++ [x]) = uV l ++ [.int .u64 x] := by simp [uV]
/-- A nil row of a call's own has no room. -/
theorem own_nil {w : World} {base n c size : Nat} {e : TypeId} {ao : Option Addr} {xs : List Value} (h : w.ownsRow base e size (.slice ao n c) n xs) : ao = none → c = 0 := fun h0 => by
  subst h0
  rcases h.2 with ⟨h1, _⟩ | ⟨g, cap, cur, hv, _⟩
  · cases h1; rfl
  · cases hv
theorem words_own {w : World} {base n c : Nat} {ao : Option Addr} {l : List Int} (hn : n = l.length) (h : w.ownsRow base 25 1 (.slice ao n c) n (uV l)) : WordsAt w w.heap.size ao l := fun h0 => by
  subst hn
  obtain ⟨ao', c', e, _, hh⟩ := own_form h
  cases e
  obtain ⟨g, rfl, _, hg, hc⟩ := hh h0
  exact ⟨g, 0, rfl, hg, fun i hi => by rw [hc (0 + i) _ (by rw [Nat.zero_add]; exact uV_get l i hi)]⟩
set_option maxRecDepth 100000 in
set_option maxHeartbeats 2000000 in
theorem same_any (ao bo : Option Addr) (c d : Nat) (a b : List Int) (w : World) (B C : Nat) (ha : WordsAt w B ao a) (hb : WordsAt w C bo b) (hna : a.length ≤ 1000000000) :
    Calls Try.prog 25 #[.slice ao a.length c, .slice bo b.length d] w fun e w' => e = .returned (.bool (decide (a = b))) ∧ Below w.heap.size w w' := by
  obtain ⟨r, hr⟩ : ∃ r : Bool, decide (a = b) = r := ⟨_, rfl⟩
  rw [hr]
  by_cases hl : a.length = b.length
  · obtain ⟨n, hn⟩ : ∃ n, a.length = n := ⟨_, rfl⟩
    rw [← hl, hn]
    rw [hn] at hna
    have HA := Lib.hid ha
    have HB := Lib.hid hb
    have HN := Lib.hid hn
    have HL : Hid (b.length = n) := by show _ = _; rw [← hl, hn]
    have HR := Lib.hid hr
    have q0 : ((n : Int) != (n : Int)) = false := by simp
    clear ha hb hl hn hr
    go_enter Try.func25, Try.ntmps25
    go_wp2
    go_loopw [5] (fun i wr => ∃ k : Nat, k ≤ n ∧ i = .int .i64 k ∧ Hid (∀ j, j < k → a.getD j 0 = b.getD j 0) ∧ Below w.heap.size w wr ∧ Hid (∀ x, wr.cell? x = w.cell? x)) (fun i _ => n - (intOf i).toNat)
    case atStart => exact ⟨0, Nat.zero_le _, rfl, fun j hj => by omega, Below.refl _ _, fun x => rfl⟩
    case round =>
      obtain ⟨k, hk, rfl, HE, hnx, HCA⟩ := hrel
      by_cases hlt : k < n
      · obtain ⟨g, off, rfl, hg, hc⟩ := HA.out (by rw [HN.out]; omega)
        obtain ⟨g2, off2, rfl, hg2, hc2⟩ := HB.out (by rw [HL.out]; omega)
        have c0 := (HCA.out _).trans (hc k (by rw [HN.out]; exact hlt))
        have c1 := (HCA.out _).trans (hc2 k (by rw [HL.out]; exact hlt))
        have hg' := World.block_lt_of_cell? wr _ c0
        have hg2' := World.block_lt_of_cell? wr _ c1
        have HNO : Hid (a.getD k 0 ≠ b.getD k 0 → r = false) := fun h => by rw [← HR.out]; simp; intro e; exact h (by rw [e])
        have HYES : Hid (a.getD k 0 = b.getD k 0 → ∀ j, j < k + 1 → a.getD j 0 = b.getD j 0) := fun h j hj => by
          by_cases e : j = k
          · rw [e]; exact h
          · exact HE.out j (by omega)
        generalize a.getD k 0 = x at c0 HNO HYES
        generalize b.getD k 0 = y at c1 HNO HYES
        clear hc hc2
        dsimp only at hg' hg2'
        by_cases hxy : x = y
        · have hq : (x != y) = false := by simpa using hxy
          have HY := Lib.hid (HYES.out hxy)
          clear hxy HNO HYES
          go_wp2
          go_quiet (fail)
          go_wp2
          go_roundw
          case rel => exact ⟨k + 1, by omega, by go_num, HY.out, below_drewN hnx _, fun x => HCA.out x⟩
          case measure => simp [intOf]; omega
        · have hq : (x != y) = true := by simpa using hxy
          have HY := Lib.hid (HNO.out hxy)
          clear hxy HNO HYES
          go_wp2
          go_quiet (fail)
          go_wp2
          go_ret
          exact ⟨ret_bool HY.out.symm, below_drewN hnx _⟩
      · obtain rfl : k = n := by omega
        have HT : Hid (r = true) := by
          show _ = _
          rw [← HR.out]
          simp only [decide_eq_true_eq]
          refine List.ext_getElem (by rw [HN.out, HL.out]) fun i h1 h2 => ?_
          have := HE.out i (by rw [HN.out] at h1; exact h1)
          rwa [List.getD_eq_getElem?_getD, List.getD_eq_getElem?_getD, List.getElem?_eq_getElem h1, List.getElem?_eq_getElem h2, Option.getD_some, Option.getD_some] at this
        go_wp2
        go_ret
        exact ⟨ret_bool HT.out.symm, hnx⟩
  · have HF : Hid (r = false) := by show _ = _; rw [← hr]; simp; intro e; exact hl (by rw [e])
    have q0 : ((a.length : Int) != (b.length : Int)) = true := by simp; omega
    clear hr ha hb
    go_enter Try.func25, Try.ntmps25
    go_wp2
    go_ret
    exact ⟨ret_bool HF.out.symm, Below.refl _ _⟩
/-- Two lists, one behind the other. -/
def Joined (w : World) (l : List Int) (e : Ending) (w' : World) : Prop :=
  ∃ ao c, e = .returned (.slice ao l.length c) ∧ WordsAt w' w'.heap.size ao l ∧ Below w.heap.size w w' ∧ (ao = none → c = 0)
theorem take_one {l : List Int} {k : Nat} (h : k < l.length) : l.take (k + 1) = l.take k ++ [l.getD k 0] := by
  rw [List.take_succ_eq_append_getElem h, List.getD_eq_getElem?_getD, List.getElem?_eq_getElem h, Option.getD_some]
theorem setF_old {l : List Int} {k : Nat} (h : k < l.length) (hm : l.getD k 0 ∈ setF (l.take k)) : setF (l.take (k + 1)) = setF (l.take k) := by
  refine (setF_up _).ext (setF_up _) fun x => ?_
  rw [setF_mem, setF_mem, take_one h, List.mem_append, List.mem_singleton]
  rw [setF_mem] at hm
  constructor
  · rintro (h1 | rfl)
    · exact h1
    · exact hm
  · exact Or.inl
theorem setF_put {l s : List Int} {k lo : Nat} (h : k < l.length) (hs : setF (l.take k) = s) (h1 : ∀ j, j < lo → s.getD j 0 < l.getD k 0) (h2 : ∀ j, lo ≤ j → j < s.length → l.getD k 0 < s.getD j 0) :
    setF (l.take (k + 1)) = s.take lo ++ l.getD k 0 :: s.drop lo := by
  have hu : Up s := by rw [← hs]; exact setF_up _
  refine (setF_up _).ext ?_ fun x => ?_
  · refine List.pairwise_append.2 ⟨hu.take, List.pairwise_cons.2 ⟨fun y hy => ?_, hu.drop⟩, fun y hy z hz => ?_⟩
    · obtain ⟨j, hj, rfl⟩ := List.getElem_of_mem hy
      have hj' : lo + j < s.length := by simp at hj; omega
      have := h2 (lo + j) (by omega) hj'
      rw [List.getElem_drop]
      rwa [List.getD_eq_getElem?_getD (l := s), List.getElem?_eq_getElem hj', Option.getD_some] at this
    · have hy2 : y < l.getD k 0 := by
        obtain ⟨j, hj, rfl⟩ := List.getElem_of_mem hy
        have hj' : j < lo ∧ j < s.length := by simp at hj; omega
        have := h1 j hj'.1
        rw [List.getElem_take]
        rwa [List.getD_eq_getElem?_getD (l := s), List.getElem?_eq_getElem hj'.2, Option.getD_some] at this
      rcases List.mem_cons.1 hz with rfl | hz
      · exact hy2
      · obtain ⟨j, hj, rfl⟩ := List.getElem_of_mem hz
        have hj' : lo + j < s.length := by simp at hj; omega
        have := h2 (lo + j) (by omega) hj'
        rw [List.getElem_drop]
        rw [List.getD_eq_getElem?_getD (l := s), List.getElem?_eq_getElem hj', Option.getD_some] at this
        omega
  · rw [setF_mem, take_one h, List.mem_append, List.mem_singleton, List.mem_append, List.mem_cons, ← setF_mem (l.take k), hs]
    conv => lhs; rw [← List.take_append_drop lo s]
    rw [List.mem_append]
    constructor
    · rintro ((h | h) | h)
      · exact .inl h
      · exact .inr (.inr h)
      · exact .inr (.inl h)
    · rintro (h | h | h)
      · exact .inl (.inl h)
      · exact .inr h
      · exact .inl (.inr h)
/-- A row of a call's own, behind the cells from lo on moved by one and one put there. -/
theorem own_put {w : World} {base g cap m lo : Nat} {s : List Int} {x : Int} {cur : List Value} (hb : base ≤ g) (hl : s.length = m) (hlo : lo ≤ m) (hm : m + 1 ≤ cap) (hc : cap ≤ maxLen) (hcur : cur.length = cap) (htk : cur.take (m + 1) = uV s ++ [.int .u64 0])
    (h : w.heap[g]? = some (.cells (splice cur (lo + 1) (uV (s.drop lo))).toArray 25 (0, 0))) :
    (w.setCell ⟨g, lo, none⟩ (.int .u64 x)).ownsRow base 25 1 (.slice (some ⟨g, 0, none⟩) (m + 1) cap) (m + 1) (uV (s.take lo ++ x :: s.drop lo)) := by
  have hsz : (splice cur (lo + 1) (uV (s.drop lo))).length = cap := by rw [length_splice _ _ _ (by rw [uV_len, List.length_drop]; omega)]; exact hcur
  have hh : (w.setCell ⟨g, lo, none⟩ (.int .u64 x)).heap[g]? = some (.cells ((splice cur (lo + 1) (uV (s.drop lo))).toArray.setIfInBounds lo (.int .u64 x)) 25 (0, 0)) := by
    rw [setCell_eq]
    simp [mapBlock, Array.getElem?_modify, h, onCells]
  refine ⟨by rw [uV_len, List.length_append, List.length_cons, List.length_take, List.length_drop]; omega, .inr ⟨g, cap, _, rfl, hb, hh, hm, hc, by simpa using hsz, ?_⟩⟩
  have hs0 : cur.take lo = uV (s.take lo) := by
    have : (cur.take (m + 1)).take lo = (uV s ++ [Value.int .u64 0]).take lo := by rw [htk]
    rw [List.take_take, Nat.min_eq_left (by omega), List.take_append_of_le_length (by rw [uV_len]; omega)] at this
    rw [this]; simp [uV, List.map_take]
  apply List.ext_getElem?
  intro j
  rw [Nat.mul_one]
  by_cases hj : j < m + 1
  · rw [List.getElem?_take_of_lt hj, Array.getElem?_toList, Array.getElem?_setIfInBounds]
    by_cases e : lo = j
    · subst e
      rw [if_pos rfl, if_pos (by rw [List.size_toArray, hsz]; omega)]
      simp [uV, hl, hlo]
    · rw [if_neg e, List.getElem?_toArray]
      unfold splice
      have huv : uV (s.take lo ++ x :: s.drop lo) = uV (s.take lo) ++ .int .u64 x :: uV (s.drop lo) := by simp [uV]
      rw [huv]
      have h2 : (uV (s.take lo)).length = lo := by rw [uV_len, List.length_take]; omega
      rcases Nat.lt_or_gt_of_ne e with h3 | h3
      · have hA : (cur.take (lo + 1)).length = lo + 1 := by rw [List.length_take]; omega
        rw [List.getElem?_append_right (l₁ := cur.take (lo + 1)) (by rw [hA]; omega), hA, List.getElem?_append_right (l₁ := uV (s.take lo)) (by rw [h2]; omega), h2, List.getElem?_append_left (by rw [uV_len, List.length_drop]; omega)]
        obtain ⟨i, hi⟩ : ∃ i, j - lo = i + 1 := ⟨j - lo - 1, by omega⟩
        rw [hi, List.getElem?_cons_succ]
        congr 1
        omega
      · rw [List.getElem?_append_left (by rw [List.length_take]; omega), List.getElem?_append_left (by omega), List.getElem?_take_of_lt (by omega), ← hs0, List.getElem?_take_of_lt h3]
  · rw [List.getElem?_take_eq_none (by omega), List.getElem?_eq_none (by rw [uV_len, List.length_append, List.length_cons, List.length_take, List.length_drop]; omega)]
theorem cell_heap {X w : World} (h : X.heap = w.heap) (a : Addr) : X.cell? a = w.cell? a := World.cell?_of_block (by rw [h])
theorem words_heap {X w : World} (h : X.heap = w.heap) {B : Nat} {ao : Option Addr} {l : List Int} (hw : WordsAt w B ao l) : WordsAt X B ao l := fun h0 => by
  obtain ⟨b, off, e, hlt, hc⟩ := hw h0
  exact ⟨b, off, e, hlt, fun i hi => by rw [cell_heap h]; exact hc i hi⟩
theorem own_heap {X w : World} (h : X.heap = w.heap) {base n size : Nat} {e : TypeId} {v : Value} {xs : List Value} (ho : w.ownsRow base e size v n xs) : X.ownsRow base e size v n xs := by
  unfold World.ownsRow; rw [h]; exact ho
set_option maxRecDepth 100000 in
set_option maxHeartbeats 4000000 in
theorem rset_any (ao : Option Addr) (c : Nat) (l : List Int) (w : World) (h : WordsAt w w.heap.size ao l) (hn : l.length ≤ 1000000000) :
    Calls Try.prog 55 #[.slice ao l.length c] w (Joined w (setF l)) := by
  obtain ⟨i0, hi, hz0, hz1, hz2⟩ := info_parts info_u
  have hsz1 : (Try.prog.info? 25).map (·.size) = some 1 := by kernel_rfl
  obtain ⟨n, hnn⟩ : ∃ n, l.length = n := ⟨_, rfl⟩
  have HN := Lib.hid hnn
  have HW := Lib.hid h
  rw [hnn] at hn ⊢
  clear hnn h
  go_enter Try.func55, Try.ntmps55
  go_wp2
  go_loopw [3, 4] (fun v i wr => ∃ (k m : Nat), k ≤ n ∧ m ≤ k ∧ i = .int .i64 k ∧ Hid ((setF (l.take k)).length = m) ∧ wr.ownsRow w.heap.size 25 1 v m (uV (setF (l.take k))) ∧ Below w.heap.size w wr) (fun _ i _ => n - (intOf i).toNat)
  case atStart => exact ⟨0, 0, Nat.zero_le _, Nat.le_refl _, rfl, by show _ = _; rw [List.take_zero, setF_nil]; rfl, by rw [List.take_zero, setF_nil]; exact World.ownsRow_nil _ _ _ _, Below.refl _ _⟩
  case round =>
    obtain ⟨k, m, hk, hm, rfl, HM0, hown, hnx⟩ := hrel
    have hsz := hnx.size
    obtain ⟨s, hs⟩ : ∃ s, setF (l.take k) = s := ⟨_, rfl⟩
    have HM : Hid (s.length = m) := by show _ = _; rw [← hs]; exact HM0.out
    rw [hs] at hown
    have HUP : Hid (Rising s) := by show Rising s; rw [← hs]; exact (setF_up _).rising
    have HS := Lib.hid hs
    clear hs HM0
    obtain ⟨vo, vc, rfl, _, _⟩ := own_form hown
    have HWD := Lib.hid (words_own HM.out.symm hown)
    have HOWN := Lib.hid hown
    have HNX := Lib.hid hnx
    by_cases hlt : k < n
    · obtain ⟨b, off, rfl, hb, hc⟩ := (HW.out.below hnx (Nat.le_refl _)) (by rw [HN.out]; omega)
      have c0 := hc k (by rw [HN.out]; exact hlt)
      obtain ⟨x, hx⟩ : ∃ x, l.getD k 0 = x := ⟨_, rfl⟩
      rw [hx] at c0
      have HX := Lib.hid hx
      have hbw : b < wr.heap.size := by omega
      have KEEP : Hid (∀ X : World, X.heap = wr.heap → X.cell? ⟨b, off + k, none⟩ = some (.int .u64 x) ∧ b < X.heap.size ∧ WordsAt X X.heap.size vo s ∧ X.ownsRow w.heap.size 25 1 (.slice vo m vc) m (uV s)) := fun X hX => by
        refine ⟨?_, by rw [hX]; exact hbw, ?_, own_heap hX HOWN.out⟩
        · rw [cell_heap hX]; exact c0
        · have := words_heap hX HWD.out
          rwa [← hX] at this
      clear hc hx hown hnx c0 hbw HWD hsz
      obtain ⟨wo, hwo⟩ : ∃ wo : World, wo = wr := ⟨_, rfl⟩
      subst hwo
      go_wp2
      go_loopw [5, 6] (fun i j wr => ∃ lo hi : Nat, lo ≤ hi ∧ hi ≤ m ∧ i = .int .i64 lo ∧ j = .int .i64 hi ∧ Hid ((∀ k, k < lo → s.getD k 0 < x) ∧ ∀ k, hi ≤ k → k < m → x ≤ s.getD k 0) ∧ Hid (wr.heap = wo.heap) ∧ Below w.heap.size w wr) (fun i j _ => (intOf j).toNat - (intOf i).toNat)
      case atStart => exact ⟨0, m, Nat.zero_le _, Nat.le_refl _, rfl, rfl, ⟨fun k hk => by omega, fun k h1 h2 => by omega⟩, rfl, HNX.out⟩
      case round =>
        obtain ⟨lo, hi', h1, h2, rfl, rfl, HA, HH, hbx⟩ := hrel
        obtain ⟨c0, hbw, hwd, hown⟩ := KEEP.out wr HH.out
        have HWD := Lib.hid hwd
        have HOWN := Lib.hid hown
        have HBX := Lib.hid hbx
        have hsz := hbx.size
        clear hwd hown hbx
        by_cases hlt2 : lo < hi'
        · obtain ⟨g1, off1, rfl, hg1, hc1⟩ := HWD.out (by rw [HM.out]; omega)
          obtain ⟨t, ht⟩ : ∃ t, (lo + hi') / 2 = t := ⟨_, rfl⟩
          have hm1 : lo ≤ t := by omega
          have hm2 : t < hi' := by omega
          have hmI : ((lo : Int) + (hi' : Int)) / 2 = (t : Int) := by omega
          have c1 := hc1 t (by rw [HM.out]; omega)
          have HL1 : Hid (s.getD t 0 < x → ∀ k, k < t + 1 → s.getD k 0 < x) := fun e k hk => by
            have := HUP.out k t (by omega) (by rw [HM.out]; omega)
            omega
          have HL2 : Hid (¬ s.getD t 0 < x → ∀ k, t ≤ k → k < m → x ≤ s.getD k 0) := fun e k h3 h4 => by
            have := HUP.out t k h3 (by rw [HM.out]; exact h4)
            omega
          generalize s.getD t 0 = y at c1 HL1 HL2
          clear hc1 ht
          by_cases hyx : y < x
          · have HLL := Lib.hid (HL1.out hyx)
            clear HL1 HL2
            go_wp2_with (first | (with_reducible refine wp_region_lex (by kernel_rfl) (by kernel_rfl) ?_) | (with_reducible refine OnlyG.intro (by kernel_rfl) ?_))
            go_roundw
            case rel => exact ⟨t + 1, hi', by omega, h2, by go_num, rfl, ⟨HLL.out, HA.out.2⟩, HH.out, HBX.out.drew⟩
            case measure => simp [intOf]; omega
          · have HLL := Lib.hid (HL2.out hyx)
            clear HL1 HL2
            go_wp2_with (first | (with_reducible refine wp_region_lex (by kernel_rfl) (by kernel_rfl) ?_) | (with_reducible refine OnlyG.intro (by kernel_rfl) ?_))
            go_roundw
            case rel => exact ⟨lo, t, by omega, by omega, rfl, by go_num, ⟨HA.out.1, HLL.out⟩, HH.out, HBX.out.drew⟩
            case measure => simp [intOf]; omega
        · obtain rfl : lo = hi' := by omega
          by_cases hin : lo < m ∧ s.getD lo 0 = x
          · obtain ⟨g1, off1, rfl, hg1, hc1⟩ := HWD.out (by rw [HM.out]; omega)
            have c1 := hc1 lo (by rw [HM.out]; exact hin.1)
            obtain ⟨y, hy⟩ : ∃ y, s.getD lo 0 = y := ⟨_, rfl⟩
            have q1 : (y == x) = true := by rw [← hy]; simpa using hin.2
            rw [hy] at c1
            have HOLD : Hid (setF (l.take (k + 1)) = s) := by
              show _ = _
              rw [setF_old (by rw [HN.out]; exact hlt) (by rw [HS.out, HX.out, ← hin.2]; exact getD_mem (by rw [HM.out]; exact hin.1)), HS.out]
            have q0 : decide (lo < m) = true := by simpa using hin.1
            have hlm := hin.1
            clear hc1 hin hy
            go_wp2_with (first | (with_reducible refine wp_region_lex (by kernel_rfl) (by kernel_rfl) ?_) | (with_reducible refine OnlyG.intro (by kernel_rfl) ?_))
            go_roundw
            case rel => exact ⟨k + 1, m, by omega, by omega, by go_num, by show _ = _; rw [HOLD.out]; exact HM.out, by rw [HOLD.out]; exact HOWN.out, HBX.out.drew⟩
            case measure => simp [intOf]; omega
          · have HPUT : Hid (setF (l.take (k + 1)) = s.take lo ++ x :: s.drop lo) := by
              show _ = _
              rw [setF_put (by rw [HN.out]; exact hlt) HS.out (lo := lo) (by rw [HX.out]; exact HA.out.1) (by
                rw [HX.out]
                intro j h3 h4
                rw [HM.out] at h4
                have e1 := HA.out.2 j h3 h4
                have e2 := HUP.out lo j h3 (by rw [HM.out]; exact h4)
                have e3 := HA.out.2 lo (Nat.le_refl _) (by omega)
                by_cases e4 : s.getD lo 0 = x
                · exact absurd ⟨by omega, e4⟩ hin
                · omega), HX.out]
            have key : decide (lo < m) = false ∨ (lo < m ∧ decide (lo < m) = true ∧ ∃ g1 off1 y, vo = some ⟨g1, off1, none⟩ ∧ g1 < wr.heap.size ∧ wr.cell? ⟨g1, off1 + lo, none⟩ = some (.int .u64 y) ∧ (y == x) = false) := by
              by_cases e : lo < m
              · refine .inr ⟨e, by simpa using e, ?_⟩
                obtain ⟨g1, off1, rfl, hg1, hc1⟩ := HWD.out (by rw [HM.out]; omega)
                exact ⟨g1, off1, _, rfl, hg1, hc1 lo (by rw [HM.out]; exact e), by simpa using fun h => hin ⟨e, h⟩⟩
              · exact .inl (by simpa using e)
            clear hin hlt2
            rcases key with q0 | ⟨hlm, q0, g1, off1, y, rfl, hg1, c1, q1⟩
            all_goals
              have hown := HOWN.out
              go_upto_region 13 with (first | (with_reducible refine wp_region_lex (by kernel_rfl) (by kernel_rfl) ?_) | (with_reducible refine OnlyG.intro (by kernel_rfl) ?_) | (at_builtin; refine wpList_append_own _ rfl (.tmp 50) (.tmp 51) 30 rfl w.heap.size 25 i0 (.int .u64 0) 1 8 Try.underlying30 hi hz0 hz1 hz2 rfl (by decide) _ _ _ rfl (hown.alloc _) ⟨wr.heap.size, 0, none⟩ 1 1 [.int .u64 0] rfl rfl (cells_new _ _ _ _ rfl) (by simp [Value.oneCell']) (by unfold maxLen; omega) (by omega) (by simp; omega) ?_; intro v' w3 hown1 hgrow _))
              have hbel : Below w.heap.size w w3 := below_append (HBX.out.drew.alloc hsz _) (hown.alloc _) (by simp; omega) hgrow
              rcases hown1.2 with ⟨_, h0⟩ | ⟨g, cap, ⟨cur⟩, rfl, hbg, hheap, hcap, hmax, hcsz, htake⟩
              · omega
              obtain ⟨e, he⟩ : ∃ e, s.drop lo = e := ⟨_, rfl⟩
              have hdl : (uV e).length = m - lo := by rw [uV_len, ← he, List.length_drop, HM.out]
              have hmin : (uV e).length = Nat.min (m + 1 - lo) (m - lo) := by rw [hdl]; show _ = min _ _; omega
              have hfit : lo + 1 + (uV e).length ≤ cur.length := by rw [hdl]; have : cur.length = cap := by simpa using hcsz
                                                                    omega
              have HPOS : Hid (0 < (uV e).length → (if cap = lo + 1 then some (⟨g, 0, none⟩ : Addr) else some ⟨g, lo + 1, none⟩) = some ⟨g, lo + 1, none⟩ ∧ ∃ ad, some (⟨g, lo, none⟩ : Addr) = some ad ∧ ∀ j v, (uV e)[j]? = some v → w3.drew.cell? (ad.add j) = some v) := fun h0 => by
                refine ⟨by rw [if_neg (by omega)], _, rfl, fun j v hj => ?_⟩
                have hj' : j < (uV e).length := (List.getElem?_eq_some_iff.1 hj).1
                have hadd : (⟨g, lo, none⟩ : Addr).add j = ⟨g, lo + j, none⟩ := by unfold Addr.add; split <;> simp_all
                rw [hadd, cell_heap (X := w3.drew) (w := w3) rfl, hown1.cellAt (lo + j) (by omega), List.getElem?_append_left (by rw [uV_len, HM.out]; omega), ← hj, ← he]
                simp [uV]
              have HTK : Hid (cur.take (m + 1) = uV s ++ [.int .u64 0]) := by show _ = _; rw [← htake, Nat.mul_one]
              have HCL : Hid (cur.length = cap) := by show _ = _; simpa using hcsz
              have HDE := Lib.hid he
              have hheap' : w3.drew.heap[g]? = some (.cells cur.toArray 25 (0, 0)) := hheap
              have hbel' := hbel.drew
              have hw1 : IntKind.i64.wrap ((lo : Int) + 1) = (lo : Int) + 1 := IntWalk.i64_in _ (by omega)
              have hb1 : (lo : Int) + 1 ≤ (m : Int) + 1 := by omega
              have hb2 : (lo : Int) ≤ (m : Int) + 1 := by omega
              have hb0 : (0 : Int) ≤ (lo : Int) + 1 := by omega
              have hne : ¬ cap = lo := by omega
              clear htake hcsz hown1 hgrow hown he hdl
              go_region_law (refine step_copy_splice rfl (.tmp 56) (.tmp 59) 30 30 rfl 25 Try.underlying30 hsz1 (if cap = lo + 1 then some (⟨g, 0, none⟩ : Addr) else some ⟨g, lo + 1, none⟩) (some ⟨g, lo, none⟩) (m - lo) (cap - (lo + 1)) (m + 1 - lo) (cap - lo) (by simp [Act.eval, Act.put]) (by simp [Act.eval, Act.put]) g (lo + 1) cur 25 hheap' (uV e) hmin HPOS.out hfit (uV_cell _) w.heap.size w hbel' hbg ?_; intro w4 HG4 hb4)
              have hput := HG4.out
              have c4 : w4.cell? ⟨b, off + k, none⟩ = some (.int .u64 x) := (hb4.cell (p := ⟨b, off + k, none⟩) hb).trans ((HBX.out.cell (p := ⟨b, off + k, none⟩) hb).symm.trans c0)
              have hbw4 : b < w4.heap.size := by have := hb4.size; omega
              have hg4 : g < w4.heap.size := (Array.getElem?_eq_some_iff.1 hput).1
              have hsl : lo < (splice cur (lo + 1) (uV e)).length := by rw [length_splice _ _ _ hfit, HCL.out]; omega
              have c5 : w4.cell? ⟨g, lo, none⟩ = some (splice cur (lo + 1) (uV e))[lo] := by
                rw [cell_of_row _ _ _ _ _ _ hput, List.getElem?_toArray, List.getElem?_eq_getElem hsl]
              have hf5 : w4.frozen? ⟨g, lo, none⟩ = false := by simp [World.frozen?, hput]
              have HG5 := Lib.hid (hput)
              generalize (splice cur (lo + 1) (uV e))[lo] = y5 at c5
              have HB5 : Hid (Below w.heap.size w (w4.setCell ⟨g, lo, none⟩ (.int .u64 x))) := hb4.setCell hbg _
              have HOWN5 : Hid ((w4.setCell ⟨g, lo, none⟩ (.int .u64 x)).ownsRow w.heap.size 25 1 (.slice (some ⟨g, 0, none⟩) (m + 1) cap) (m + 1) (uV (setF (l.take (k + 1))))) := by
                have hh : w4.heap[g]? = some (.cells (splice cur (lo + 1) (uV (s.drop lo))).toArray 25 (0, 0)) := by rw [HDE.out]; exact hput
                have := own_put (x := x) hbg HM.out h2 hcap hmax HCL.out HTK.out hh
                rw [← HPUT.out] at this
                exact this
              have HLEN : Hid ((setF (l.take (k + 1))).length = m + 1) := by
                show _ = _
                rw [HPUT.out, List.length_append, List.length_cons, List.length_take, List.length_drop, HM.out]
                omega
              clear hput hb4 hsl hheap hheap' hbel hbel' hfit hmin
              go_wp2_with (first | (with_reducible refine wp_region_lex (by kernel_rfl) (by kernel_rfl) ?_) | (with_reducible refine OnlyG.intro (by kernel_rfl) ?_))
              go_roundw
              case rel => exact ⟨k + 1, m + 1, by omega, by omega, by go_num, HLEN.out, HOWN5.out, HB5.out⟩
              case measure => simp [intOf]; omega
    · obtain rfl : k = n := by omega
      have HT : Hid (s = setF l) := by show _ = _; rw [← HS.out, ← HN.out, List.take_length]
      have hwd := words_own HM.out.symm hown
      have hJ : Hid (Joined w (setF l) (.returned (.slice vo m vc)) wr) := ⟨vo, vc, by rw [← HT.out, HM.out], by rw [← HT.out]; exact hwd, hnx, own_nil hown⟩
      clear hwd hown hnx
      go_wp2
      go_ret
      exact hJ.out
end Go.Proofs.Yticbkdignmlfiaa
