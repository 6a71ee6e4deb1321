/- The law NearEdge: its walk. Cells at the edge have fewer neighbours, and their disks fewer cells. -/
import Derived.Test.YticbkdignmlfiaaNfF
namespace Go.Proofs.Yticbkdignmlfiaa.nearEdge
open Go.RowKit Go.Lib Wd

theorem ok_base (z : E2) (h : -1000 ≤ z.1 ∧ z.1 ≤ 1000 ∧ -1000 ≤ z.2 ∧ z.2 ≤ 1000) : okB (0 : Nat) z = baseB z := by
  unfold okB
  rw [(shapeB_iff _ z).2 (by omega)]
  rfl
theorem ring_one (z : E2) : ringL z 1 = [(z.1, z.2 - 1), (z.1 + 1, z.2 - 1), (z.1 + 1, z.2), (z.1, z.2 + 1), (z.1 - 1, z.2 + 1), (z.1 - 1, z.2)] := by
  unfold ringL
  rw [if_neg (by decide)]
  simp only [sidesP, lineP, corn, ptP, unitE, List.range_succ, List.range_zero, List.nil_append, List.map_cons, List.map_nil, List.cons_append, List.cons.injEq, Prod.mk.injEq, and_true]
  omega
theorem allR_one (z : E2) : allR z 1 1 = ringL z 1 := rfl
theorem tell_len (r : Int) (L : List E2) : (tellL r L).length = (L.filter fun z => okB r z).length := by unfold tellL; rw [List.length_map]
/-- An edge's cell. -/
def Edge (A : Int) (z : E2) : Prop := (-512 ≤ A ∧ A ≤ 511) ∧ (z = (A, -512) ∨ z = (A, 511) ∨ z = (-512, A) ∨ z = (511, A))
theorem edge_nei {A : Int} {z : E2} (h : Edge A z) : 2 ≤ (tellL (0 : Nat) (allR z 1 1)).length ∧ (tellL (0 : Nat) (allR z 1 1)).length < 6 := by
  obtain ⟨⟨h1, h2⟩, h3⟩ := h
  rw [tell_len, allR_one, ring_one]
  have hb : ∀ y : E2, -1000 ≤ y.1 ∧ y.1 ≤ 1000 ∧ -1000 ≤ y.2 ∧ y.2 ≤ 1000 → (okB (0 : Nat) y = true ↔ -512 ≤ y.1 ∧ y.1 < 512 ∧ -512 ≤ y.2 ∧ y.2 < 512) := fun y hy => by rw [ok_base y hy, baseB_iff]
  have hcount : ∀ L : List E2, (L.filter fun z => okB (0 : Nat) z).length = L.countP fun z => okB (0 : Nat) z := fun L => (List.countP_eq_length_filter ..).symm
  rw [hcount]
  simp only [List.countP_cons, List.countP_nil]
  have e1 := hb (z.1, z.2 - 1)
  have e2 := hb (z.1 + 1, z.2 - 1)
  have e3 := hb (z.1 + 1, z.2)
  have e4 := hb (z.1, z.2 + 1)
  have e5 := hb (z.1 - 1, z.2 + 1)
  have e6 := hb (z.1 - 1, z.2)
  have hz : -512 ≤ z.1 ∧ z.1 ≤ 511 ∧ -512 ≤ z.2 ∧ z.2 ≤ 511 ∧ (z.1 = -512 ∨ z.1 = 511 ∨ z.2 = -512 ∨ z.2 = 511) := by
    rcases h3 with e | e | e | e <;> (have g1 := congrArg Prod.fst e; have g2 := congrArg Prod.snd e; simp only at g1 g2; omega)
  clear h3 hb hcount
  simp only at e1 e2 e3 e4 e5 e6
  obtain ⟨z1, z2⟩ := z
  simp only at *
  have f1 := e1 (by omega)
  have f2 := e2 (by omega)
  have f3 := e3 (by omega)
  have f4 := e4 (by omega)
  have f5 := e5 (by omega)
  have f6 := e6 (by omega)
  clear e1 e2 e3 e4 e5 e6
  generalize okB ((0 : Nat) : Int) (z1, z2 - 1) = b1 at *
  generalize okB ((0 : Nat) : Int) (z1 + 1, z2 - 1) = b2 at *
  generalize okB ((0 : Nat) : Int) (z1 + 1, z2) = b3 at *
  generalize okB ((0 : Nat) : Int) (z1, z2 + 1) = b4 at *
  generalize okB ((0 : Nat) : Int) (z1 - 1, z2 + 1) = b5 at *
  generalize okB ((0 : Nat) : Int) (z1 - 1, z2) = b6 at *
  cases b1 <;> cases b2 <;> cases b3 <;> cases b4 <;> cases b5 <;> cases b6 <;> simp only [Bool.false_eq_true, if_true, if_false, false_iff, true_iff] at * <;> omega
theorem allR_len (z : E2) (n : Nat) : (allR z 0 (n + 1)).length = 3 * n * (n + 1) + 1 := by
  induction n with
  | zero => rfl
  | succ n ih =>
    rw [allR_length, ih]
    have : (ringL z (0 + (n + 1))).length = 6 * (n + 1) := by
      unfold ringL
      rw [if_neg (by omega), sidesP_length, Nat.zero_add]
    rw [this]
    simp only [Nat.mul_add, Nat.add_mul]
    omega
theorem allR_sub (z : E2) {f n i : Nat} (hi : i < n) : ∀ y, y ∈ ringL z (f + i) → y ∈ allR z f n := by
  intro y hy
  induction n with
  | zero => omega
  | succ n ih =>
    show y ∈ allR z f n ++ ringL z (f + n)
    rw [List.mem_append]
    rcases Nat.lt_or_ge i n with h | h
    · exact .inl (ih h)
    · obtain rfl : i = n := by omega
      exact .inr hy
theorem filter_less {L : List E2} {p : E2 → Bool} {y : E2} (hy : y ∈ L) (hp : p y = false) : (L.filter p).length < L.length := by
  induction L with
  | nil => cases hy
  | cons x L ih =>
    rw [List.filter_cons]
    rcases List.mem_cons.1 hy with rfl | h
    · rw [hp]
      have := List.length_filter_le p L
      simp only [Bool.false_eq_true, if_false, List.length_cons]
      omega
    · have := ih h
      split
      · simp only [List.length_cons]; omega
      · simp only [List.length_cons]; omega
theorem edge_disk {A : Int} {z : E2} (h : Edge A z) (k : Nat) (hk : 1 ≤ k) : (tellL (0 : Nat) (allR z 0 (k + 1))).length < 3 * k * (k + 1) + 1 := by
  obtain ⟨⟨h1, h2⟩, h3⟩ := h
  rw [tell_len, ← allR_len z k]
  have hm : ∀ y, y ∈ ringL z 1 → y ∈ allR z 0 (k + 1) := fun y hy => allR_sub z (i := 1) (by omega) y hy
  rw [ring_one] at hm
  have hno : ∀ y : E2, -1000 ≤ y.1 ∧ y.1 ≤ 1000 ∧ -1000 ≤ y.2 ∧ y.2 ≤ 1000 → ¬ (-512 ≤ y.1 ∧ y.1 < 512 ∧ -512 ≤ y.2 ∧ y.2 < 512) → okB (0 : Nat) y = false := fun y hy hn => by rw [ok_base y hy, ← Bool.not_eq_true, baseB_iff]; exact hn
  rcases h3 with rfl | rfl | rfl | rfl
  · exact filter_less (hm (A, -512 - 1) (by simp)) (hno _ (by simp only; omega) (by simp only; omega))
  · exact filter_less (hm (A, 511 + 1) (by simp)) (hno _ (by simp only; omega) (by simp only; omega))
  · exact filter_less (hm (-512 - 1, A) (by simp)) (hno _ (by simp only; omega) (by simp only; omega))
  · exact filter_less (hm (511 + 1, A) (by simp)) (hno _ (by simp only; omega) (by simp only; omega))
theorem edge_ok {A : Int} {z : E2} (h : Edge A z) : okB (0 : Nat) z = true := by
  obtain ⟨⟨h1, h2⟩, h3⟩ := h
  rw [ok_base z (by rcases h3 with rfl | rfl | rfl | rfl <;> simp only <;> omega), baseB_iff]
  rcases h3 with rfl | rfl | rfl | rfl <;> simp only <;> omega
/-- All that is told are words. -/
theorem told_words (r : Nat) (L : List E2) : ∀ x ∈ srt (tellL r L), ∃ w0 : Nat, x = w0 ∧ isW w0 = true ∧ w0 < 18446744073709551616 := by
  intro x hx
  rw [srt_mem] at hx
  unfold tellL at hx
  obtain ⟨z, hz, rfl⟩ := List.mem_map.1 hx
  have hok : okB r z = true := (List.mem_filter.1 hz).2
  have := wordN_lt hok
  exact ⟨_, rfl, (word_cell hok).1, by show wordN r z < _; omega⟩
set_option maxRecDepth 100000 in
set_option maxHeartbeats 4000000 in
theorem core (w : World) (a0 a1 a2 : Int) : Calls Try.prog 3 #[.int .i64 a0, .int .i64 a1, .int .i64 a2] w fun e w' => e = .returned (.bool true) ∧ Below w.heap.size w w' := by
  obtain ⟨A0, q1, hA⟩ : ∃ A, bits BinOp.and IntKind.i64 a0 1023 = A ∧ 0 ≤ A ∧ A ≤ 1023 := ⟨_, i64_and_mask a0 10 (by omega) 1023 rfl, by omega, by omega⟩
  obtain ⟨E4, q2, hE⟩ : ∃ A, bits BinOp.and IntKind.i64 a1 3 = A ∧ 0 ≤ A ∧ A ≤ 3 := ⟨_, i64_and_mask a1 2 (by omega) 3 rfl, by omega, by omega⟩
  obtain ⟨K8, q3, hK⟩ : ∃ A, bits BinOp.and IntKind.i64 a2 255 = A ∧ 0 ≤ A ∧ A ≤ 255 := ⟨_, i64_and_mask a2 8 (by omega) 255 rfl, by omega, by omega⟩
  obtain ⟨k, hk5, q4⟩ : ∃ k : Nat, k < 5 ∧ K8.tmod 5 = k := ⟨(K8 % 5).toNat, by omega, by rw [Int.tmod_eq_emod_of_nonneg hK.1]; omega⟩
  obtain ⟨hA1, hA2⟩ := hA
  obtain ⟨hE1, hE2⟩ := hE
  obtain ⟨hK1, hK2⟩ := hK
  obtain ⟨z, hz, hez⟩ : ∃ z : E2, Edge (A0 - 512) z ∧ ((E4 = 0 ∧ z = (A0 - 512, -512)) ∨ (E4 = 1 ∧ z = (A0 - 512, 511)) ∨ (E4 = 2 ∧ z = (-512, A0 - 512)) ∨ (E4 = 3 ∧ z = (511, A0 - 512))) := by
    rcases (show E4 = 0 ∨ E4 = 1 ∨ E4 = 2 ∨ E4 = 3 by omega) with h | h | h | h
    · exact ⟨_, ⟨⟨by omega, by omega⟩, .inl rfl⟩, .inl ⟨h, rfl⟩⟩
    · exact ⟨_, ⟨⟨by omega, by omega⟩, .inr (.inl rfl)⟩, .inr (.inl ⟨h, rfl⟩)⟩
    · exact ⟨_, ⟨⟨by omega, by omega⟩, .inr (.inr (.inl rfl))⟩, .inr (.inr (.inl ⟨h, rfl⟩))⟩
    · exact ⟨_, ⟨⟨by omega, by omega⟩, .inr (.inr (.inr rfl))⟩, .inr (.inr (.inr ⟨h, rfl⟩))⟩
  have hok := edge_ok hz
  obtain ⟨b1, b2, b3⟩ := ofW_ok hok
  have HW := Lib.hid (word_any (0 : Nat) z)
  rw [b2] at HW
  obtain ⟨e1, l1⟩ := rgs_word hok 1 1 1 1 (by decide) (by decide) rfl
  obtain ⟨e3, l3⟩ := rgs_word hok 0 (k + 1 + 1) ((k : Int) + 1) 81 (by omega) (by omega) (by omega)
  have HN := Lib.hid (nei_any (ofW (0 : Nat) z) b3)
  have HD := Lib.hid (disk_any (ofW (0 : Nat) z) b3 ((k : Int) + 1) (by omega))
  rw [e1, l1] at HN
  rw [e3, l3] at HD
  have n1 := edge_nei hz
  have n2 := edge_disk hz (k + 1) (by omega)
  rw [← srt_length] at n1 n2
  have HTW := Lib.hid (told_words 0 (allR z 0 (k + 1 + 1)))
  generalize srt (tellL (0 : Nat) (allR z 1 1)) = L at *
  have HM0 : Hid (((0 : Nat) : Int) = 0) := rfl
  generalize hM : srt (tellL (0 : Nat) (allR z 0 (k + 1 + 1))) = M at *
  have HLM : Hid (M.length ≤ 1000000) := by show _ ≤ _; have : 3 * (k + 1) * (k + 1 + 1) ≤ 3 * 5 * 6 := Nat.mul_le_mul (by omega) (by omega); omega
  clear hM HM0
  generalize ofW (0 : Nat) z = W at *
  clear e1 e3 l1 l3 b1 b2 b3 hok hz
  simp only [vC, Int.ofNat_zero] at HW
  obtain ⟨nl, hnl⟩ : ∃ n, L.length = n := ⟨_, rfl⟩
  obtain ⟨nm, hnm⟩ : ∃ n, M.length = n := ⟨_, rfl⟩
  rw [hnl] at n1
  rw [hnm] at n2 HLM
  have NL := Lib.hid hnl
  have NM := Lib.hid hnm
  clear hnl hnm
  obtain ⟨n1a, n1b⟩ := n1
  obtain ⟨P, hP, hPb⟩ : ∃ P : Int, 3 * ((k : Int) + 1) * ((k : Int) + 1 + 1) = P ∧ (nm : Int) < P + 1 ∧ 0 ≤ P ∧ P ≤ 90 := by
    refine ⟨_, rfl, ?_, ?_, ?_⟩
    · have : ((3 * (k + 1) * (k + 1 + 1) + 1 : Nat) : Int) = 3 * ((k : Int) + 1) * ((k : Int) + 1 + 1) + 1 := by simp
      omega
    · rcases (show k = 0 ∨ k = 1 ∨ k = 2 ∨ k = 3 ∨ k = 4 by omega) with rfl | rfl | rfl | rfl | rfl <;> decide
    · rcases (show k = 0 ∨ k = 1 ∨ k = 2 ∨ k = 3 ∨ k = 4 by omega) with rfl | rfl | rfl | rfl | rfl <;> decide
  obtain ⟨hP1, hP2, hP3⟩ := hPb
  have HAW := Lib.hid awake_any
  have d1 : decide (6 ≤ (nl : Int)) = false := decide_eq_false (by omega)
  have d2 : decide ((nl : Int) < 2) = false := decide_eq_false (by omega)
  have d3 : decide (P + 1 ≤ (nm : Int)) = false := decide_eq_false (by omega)
  clear n1a n1b n2
  rcases hez with ⟨rfl, rfl⟩ | ⟨rfl, rfl⟩ | ⟨rfl, rfl⟩ | ⟨rfl, rfl⟩
  all_goals
    simp only at HW
    go_enter Try.func3, Try.ntmps3
    go_wp2_with fail
    refine (HW.out _).mono ?_
    rintro e w1 ⟨rfl, hb1⟩
    have B1 : Hid (Below w.heap.size w w1) := (((Below.refl _ _).alloc (Nat.le_refl _) _).alloc (by simp) _).trans (hb1.mono (by simp; omega))
    clear hb1
    go_wp2_with fail
    refine (HN.out _).mono ?_
    rintro e w2 ⟨ao, c, rfl, -, hb2⟩
    have B2 := Lib.hid (B1.out.trans (hb2.mono B1.out.size))
    clear hb2
    rw [NL.out]
    go_wp2_with fail
    refine (HD.out _).mono ?_
    rintro e w3 ⟨bo, d, rfl, h3, hb3⟩
    have B3 := Lib.hid (B2.out.trans (hb3.mono B2.out.size))
    have A3 := Lib.hid h3
    clear h3 hb3
    rw [NM.out]
    go_wp2
    go_loopw [14] (fun i wr => ∃ j : Nat, j ≤ nm ∧ i = .int .i64 j ∧ Below w3.heap.size w3 wr) (fun i _ => nm - (intOf i).toNat)
    case atStart => exact ⟨0, Nat.zero_le _, rfl, Below.refl _ _⟩
    case round =>
      obtain ⟨j, hj, rfl, hnx⟩ := hrel
      have hsz := hnx.size
      have HX : Hid (Below w3.heap.size w3 wr) := hnx
      by_cases hlt : j < nm
      · obtain ⟨g, off, rfl, hg, hc⟩ := (A3.out.below hnx (Nat.le_refl _)) (by rw [NM.out]; omega)
        have c0 := hc j (by rw [NM.out]; exact hlt)
        obtain ⟨w0, hw0, hw1, hw2⟩ := HTW.out (M.getD j 0) (getD_mem (by rw [NM.out]; exact hlt))
        rw [hw0] at c0
        have HI := Lib.hid (isw_any w0 hw2)
        rw [hw1] at HI
        have hgw : g < wr.heap.size := by omega
        clear hc hw0 hw1 hw2 hnx
        go_wp2_with fail
        refine (HI.out _).mono ?_
        rintro e w5 ⟨rfl, hb5⟩
        have HN5 : Hid (Below w3.heap.size w3 w5) := HX.out.trans (hb5.mono HX.out.size)
        clear hb5
        go_wp2
        go_roundw
        case rel => exact ⟨j + 1, by omega, by go_num, HN5.out⟩
        case measure => simp [intOf]; omega
      · have HB : Hid (Below w.heap.size w wr) := B3.out.trans (HX.out.mono B3.out.size)
        obtain rfl : j = nm := by omega
        clear hnx
        go_wp2_with fail
        refine (HAW.out _).mono ?_
        rintro e w5 ⟨rfl, hb5⟩
        have HF := Lib.hid (HB.out.trans (hb5.mono HB.out.size))
        clear hb5
        go_wp2
        go_ret
        exact ⟨rfl, HF.out⟩
theorem walk {w : World} (a0 : Int) (_w0 : (Lit.int .i64 a0).wf = true) (a1 : Int) (_w1 : (Lit.int .i64 a1).wf = true) (a2 : Int) (_w2 : (Lit.int .i64 a2).wf = true) :
    Calls Try.prog 3 #[.int .i64 a0, .int .i64 a1, .int .i64 a2] w fun e w' => e = .returned (.bool true) ∧ Below w.heap.size w w' := core w a0 a1 a2
end Go.Proofs.Yticbkdignmlfiaa.nearEdge
